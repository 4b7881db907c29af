/- The seat: functions by name, the types that are used. No condition. -/
import Derived.Test.YtkhnjmbgkakngaaDoorFpK
import Derived.Test.YtkhnjmbgkakngaaDoorProg
import Derived.KernelRfl
set_option linter.unusedSimpArgs false
set_option linter.unusedVariables false
namespace Go.Proofs.YtkhnjmbgkakngaaDoor
open Go Fp

abbrev n_main_main : Nat := 0
abbrev n_fuguelaw12_EntailCut : Nat := 3
abbrev n_fuguelaw12_EntailGrows : Nat := 4
abbrev n_fuguelaw12_EntailOnce : Nat := 5
abbrev n_fuguelaw12_EntailUp : Nat := 6
abbrev n_classes_New : Nat := 7
abbrev n_fugueref12_World : Nat := 8
abbrev n_fuguelaw12_whole : Nat := 9
abbrev n_fuguelaw12_lives : Nat := 10
abbrev n_fugueref12_Preds : Nat := 11
abbrev n_entail_By : Nat := 12
abbrev n_classes_Env_Above : Nat := 13
abbrev n_fugueref04_Name : Nat := 14
abbrev n_fugueref12_Type : Nat := 15
abbrev n_types_Subst : Nat := 16
abbrev n_entail_Check : Nat := 17
abbrev n_fuguelaw12_made : Nat := 18
abbrev n_fugueref01_Ints : Nat := 19
abbrev n_fuguelaw12_insts : Nat := 20
abbrev n_fuguelaw12_turned : Nat := 21
abbrev n_fugueref12_Equal : Nat := 22
abbrev n_fugueref11_Names : Nat := 23
abbrev n_fugueref01_Around : Nat := 24
abbrev n_types_Spine : Nat := 25
abbrev n_classes_Env_Path : Nat := 26
abbrev n_fugueref01_Has : Nat := 27
abbrev n_slices_Clone_apiInstapiInst : Nat := 28
abbrev n_slices_Backward_apiClassapiClass : Nat := 29
abbrev n_slices_Backward_apiSigapiSig : Nat := 30
abbrev n_classes_Env_refusals : Nat := 31
abbrev n_fugueref11_Made : Nat := 32
abbrev n_fugueref12_pick : Nat := 33
abbrev n_fugueref12_Vars : Nat := 34
abbrev n_fugueref11_Above : Nat := 35
abbrev n_fugueref11_Inst : Nat := 36
abbrev n_classes_Env_Len : Nat := 37
abbrev n_classes_Env_At : Nat := 38
abbrev n_types_Con : Nat := 39
abbrev n_types_App : Nat := 40
abbrev n_types_Var : Nat := 41
abbrev n_classes_Env_Class : Nat := 42
abbrev n_entail_Print : Nat := 43
abbrev n_fugueref12_typ : Nat := 44
abbrev n_types_Same : Nat := 45
abbrev n_entail_inst : Nat := 46
abbrev n_classes_Env_Above_1 : Nat := 47
abbrev n_slices_Contains_stringstring : Nat := 48
abbrev n_slices_Index_stringstring : Nat := 49
abbrev n_types_own : Nat := 50
abbrev n_types_apply : Nat := 51
abbrev n_types_under : Nat := 52
abbrev n_entail_told : Nat := 53
abbrev n_entail_class : Nat := 54
abbrev n_entail_needs : Nat := 55
abbrev n_slices_Reverse_apiTypeapiType : Nat := 56
abbrev n_classes_Env_climb : Nat := 57
abbrev n_classes_Env_Path_1 : Nat := 58
abbrev n_slices_Backward_fugue_api_Class_fugue_api_Class_1 : Nat := 59
abbrev n_slices_Backward_fugue_api_Sig_fugue_api_Sig_1 : Nat := 60
abbrev n_classes_Env_above : Nat := 61
abbrev n_classes_Env_Inst : Nat := 62
abbrev n_classes_Env_refusals_1 : Nat := 63
abbrev n_slices_ContainsFunc_stringstring : Nat := 64
abbrev n_fugueref11_pick : Nat := 65
abbrev n_fugueref11_Whole : Nat := 66
abbrev n_fugueref11_above : Nat := 67
abbrev n_slices_Clone_stringstring : Nat := 68
abbrev n_slices_Clone_apiSigapiSig : Nat := 69
abbrev n_strconv_Itoa : Nat := 70
abbrev n_strings_Join : Nat := 71
abbrev n_types_same : Nat := 72
abbrev n_types_Free : Nat := 73
abbrev n_types_letter : Nat := 74
abbrev n_types_All : Nat := 75
abbrev n_entail_put : Nat := 76
abbrev n_classes_queue_fugue_classes_way_put : Nat := 77
abbrev n_classes_queue_fugue_classes_way_next : Nat := 78
abbrev n_slices_Clone_intint : Nat := 79
abbrev n_classes_Env_above_1 : Nat := 80
abbrev n_slices_IndexFunc_apiInstapiInst : Nat := 81
abbrev n_classes_Env_Inst_1 : Nat := 82
abbrev n_slices_IndexFunc_stringstring : Nat := 83
abbrev n_fugueref11_Class : Nat := 84
abbrev n_fugueref11_In : Nat := 85
abbrev n_internal_strconv_Itoa : Nat := 86
abbrev n_types_place : Nat := 90
abbrev n_chars_Letters : Nat := 91
abbrev n_internal_strconv_FormatInt : Nat := 92
abbrev n_internal_strconv_small : Nat := 95
abbrev n_internal_strconv_numDigits : Nat := 96
abbrev n_internal_strconv_formatBase10 : Nat := 97
abbrev n_internal_strconv_formatBits : Nat := 98
abbrev n_internal_abi_NoEscape : Nat := 99
abbrev n_internal_bytealg_MakeNoZero : Nat := 100
abbrev n_internal_strconv_log10Pow2 : Nat := 101
abbrev n_math_bits_Len64 : Nat := 102
abbrev n_internal_strconv_bool2_int : Nat := 103
abbrev n_internal_strconv_isPowerOfTwo : Nat := 104
abbrev n_math_bits_TrailingZeros : Nat := 105
abbrev n_math_bits_TrailingZeros32 : Nat := 106
abbrev n_math_bits_TrailingZeros64 : Nat := 107

def tt : TT := [(1, .sc (.lit .nilFunc)), (2, .sc (.lit (.int .i64 0))), (3, .sc (.lit (.int .i64 0))), (4, .sc (.lit (.bool false))), (5, .sc (.lit (.int .u8 0))), (9, .sc (.lit (.string .empty))), (21, .sc (.lit (.int .i32 0))), (22, .sl 3 1), (24, .sc (.lit (.pointer none))), (25, .sc (.lit (.int .i64 0))), (26, .st 2 [(0, 1), (1, 1)] [25, 3] [.lit (.int .i64 0), .lit (.int .i64 0)]), (27, .st 2 [(0, 1), (1, 1)] [25, 3] [.lit (.int .i64 0), .lit (.int .i64 0)]), (29, .sc (.lit .nilFunc)), (30, .sl 208 5), (31, .sl 92 6), (32, .sl 81 6), (33, .sl 214 33), (34, .st 4 [(0, 1), (1, 1), (2, 1), (3, 1)] [30, 31, 32, 33] [.nil, .nil, .nil, .nil]), (35, .st 4 [(0, 1), (1, 1), (2, 1), (3, 1)] [30, 31, 32, 33] [.nil, .nil, .nil, .nil]), (36, .sc (.lit .nilFunc)), (37, .sc (.lit .nilFunc)), (38, .sc (.lit .nilFunc)), (39, .sl 50 5), (40, .sc (.lit .nilFunc)), (41, .sl 43 3), (42, .st 3 [(0, 1), (1, 1), (2, 1)] [3, 3, 41] [.lit (.int .i64 0), .lit (.int .i64 0), .nil]), (43, .st 3 [(0, 1), (1, 1), (2, 1)] [3, 3, 41] [.lit (.int .i64 0), .lit (.int .i64 0), .nil]), (45, .sc (.lit .nilFunc)), (46, .sl 48 4), (47, .st 4 [(0, 1), (1, 1), (2, 1), (3, 1)] [3, 3, 9, 46] [.lit (.int .i64 0), .lit (.int .i64 0), .lit (.string .empty), .nil]), (48, .st 4 [(0, 1), (1, 1), (2, 1), (3, 1)] [3, 3, 9, 46] [.lit (.int .i64 0), .lit (.int .i64 0), .lit (.string .empty), .nil]), (49, .st 5 [(0, 1), (1, 4)] [9, 48] [.lit (.string .empty), .lit (.int .i64 0), .lit (.int .i64 0), .lit (.string .empty), .nil]), (50, .st 5 [(0, 1), (1, 4)] [9, 48] [.lit (.string .empty), .lit (.int .i64 0), .lit (.int .i64 0), .lit (.string .empty), .nil]), (51, .sl 9 1), (52, .sc (.lit .nilFunc)), (53, .sc (.lit .nilFunc)), (55, .sc (.lit .nilFunc)), (56, .sc (.lit .nilFunc)), (57, .sc (.lit .nilFunc)), (58, .sc (.lit .nilFunc)), (59, .sc (.lit .nilFunc)), (61, .sc (.lit .nilFunc)), (62, .sc (.lit .nilFunc)), (63, .sc (.lit .nilFunc)), (65, .sc (.lit .nilFunc)), (66, .sc (.lit .nilFunc)), (67, .sc (.lit .nilFunc)), (69, .sc (.lit .nilFunc)), (70, .sc (.lit .nilFunc)), (72, .sc (.lit .nilFunc)), (74, .sc (.lit .nilFunc)), (75, .sc (.lit .nilFunc)), (76, .sc (.lit .nilFunc)), (77, .mp 9 92), (78, .mp 9 101), (79, .sc (.lit .nilFunc)), (80, .st 6 [(0, 1), (1, 1), (2, 1), (3, 1), (4, 1), (5, 1)] [9, 3, 9, 51, 39, 33] [.lit (.string .empty), .lit (.int .i64 0), .lit (.string .empty), .nil, .nil, .nil]), (81, .st 6 [(0, 1), (1, 1), (2, 1), (3, 1), (4, 1), (5, 1)] [9, 3, 9, 51, 39, 33] [.lit (.string .empty), .lit (.int .i64 0), .lit (.string .empty), .nil, .nil, .nil]), (82, .st 3 [(0, 1), (1, 1), (2, 1)] [77, 78, 32] [.lit (.map none), .lit (.map none), .nil]), (83, .st 3 [(0, 1), (1, 1), (2, 1)] [77, 78, 32] [.lit (.map none), .lit (.map none), .nil]), (84, .sc (.lit .nilFunc)), (86, .sc (.lit .nilFunc)), (87, .sl 89 1), (88, .st 1 [(0, 1)] [87] [.nil]), (89, .st 1 [(0, 1)] [87] [.nil]), (90, .sl 99 9), (91, .st 6 [(0, 1), (1, 1), (2, 1), (3, 1), (4, 1), (5, 1)] [9, 3, 9, 89, 51, 90] [.lit (.string .empty), .lit (.int .i64 0), .lit (.string .empty), .nil, .nil, .nil]), (92, .st 6 [(0, 1), (1, 1), (2, 1), (3, 1), (4, 1), (5, 1)] [9, 3, 9, 89, 51, 90] [.lit (.string .empty), .lit (.int .i64 0), .lit (.string .empty), .nil, .nil, .nil]), (93, .sc (.lit .nilFunc)), (95, .sc (.lit .nilFunc)), (96, .st 7 [(0, 1), (1, 1), (2, 1), (3, 4)] [51, 87, 39, 48] [.nil, .nil, .nil, .lit (.int .i64 0), .lit (.int .i64 0), .lit (.string .empty), .nil]), (97, .st 7 [(0, 1), (1, 1), (2, 1), (3, 4)] [51, 87, 39, 48] [.nil, .nil, .nil, .lit (.int .i64 0), .lit (.int .i64 0), .lit (.string .empty), .nil]), (98, .st 9 [(0, 1), (1, 1), (2, 7)] [9, 3, 97] [.lit (.string .empty), .lit (.int .i64 0), .nil, .nil, .nil, .lit (.int .i64 0), .lit (.int .i64 0), .lit (.string .empty), .nil]), (99, .st 9 [(0, 1), (1, 1), (2, 7)] [9, 3, 97] [.lit (.string .empty), .lit (.int .i64 0), .nil, .nil, .nil, .lit (.int .i64 0), .lit (.int .i64 0), .lit (.string .empty), .nil]), (100, .st 2 [(0, 1), (1, 1)] [9, 3] [.lit (.string .empty), .lit (.int .i64 0)]), (101, .st 2 [(0, 1), (1, 1)] [9, 3] [.lit (.string .empty), .lit (.int .i64 0)]), (102, .sl 27 2), (103, .sc (.lit .nilFunc)), (104, .sc (.lit .nilFunc)), (105, .sc (.lit .nilFunc)), (107, .sc (.lit .nilFunc)), (108, .sc (.lit .nilFunc)), (109, .sc (.lit .nilFunc)), (110, .sc (.lit .nilFunc)), (111, .sc (.lit .nilFunc)), (113, .sc (.lit .nilFunc)), (114, .sc (.lit .nilFunc)), (116, .sc (.lit .nilFunc)), (117, .sc (.lit .nilFunc)), (119, .sc (.lit .nilFunc)), (120, .sc (.lit .nilFunc)), (121, .sc (.lit .nilFunc)), (122, .sc (.lit .nilFunc)), (123, .sc (.lit .nilFunc)), (124, .sc (.lit .nilFunc)), (125, .sc (.lit .nilFunc)), (127, .sc (.lit .nilFunc)), (128, .sc (.lit .nilFunc)), (129, .sc (.lit .nilFunc)), (130, .st 2 [(0, 1), (1, 1)] [9, 22] [.lit (.string .empty), .nil]), (131, .st 2 [(0, 1), (1, 1)] [9, 22] [.lit (.string .empty), .nil]), (132, .sc (.lit .nilFunc)), (133, .sc (.lit .nilFunc)), (134, .sc (.lit .nilFunc)), (135, .sc (.lit .nilFunc)), (136, .sc (.lit .nilFunc)), (137, .sc (.lit .nilFunc)), (138, .sc (.lit .nilFunc)), (139, .sc (.lit .nilFunc)), (140, .sc (.lit .nilFunc)), (141, .sc (.lit .nilFunc)), (142, .sc (.lit .nilFunc)), (143, .sc (.lit .nilFunc)), (144, .sc (.lit .nilFunc)), (145, .sc (.lit .nilFunc)), (146, .sc (.lit .nilFunc)), (147, .sc (.lit .nilFunc)), (148, .sc (.lit .nilFunc)), (149, .mp 9 4), (150, .sl 131 2), (151, .st 1 [(0, 1)] [150] [.nil]), (152, .st 1 [(0, 1)] [150] [.nil]), (153, .sc (.lit .nilFunc)), (155, .sc (.lit .nilFunc)), (156, .sc (.lit .nilFunc)), (157, .sc (.lit .nilFunc)), (158, .sc (.lit .nilFunc)), (159, .sc (.lit .nilFunc)), (160, .sc (.lit .nilFunc)), (161, .sc (.lit (.pointer none))), (162, .sl 5 1), (163, .st 2 [(0, 1), (1, 1)] [161, 162] [.lit (.pointer none), .nil]), (165, .sc (.lit .nilFunc)), (169, .sc (.lit .nilFunc)), (170, .sc (.lit .nilFunc)), (171, .sc (.lit (.pointer none))), (172, .sc (.lit .nilFunc)), (173, .sc (.lit (.pointer none))), (175, .sc (.lit (.int .u64 0))), (176, .sc (.lit .nilFunc)), (177, .sc (.lit .nilFunc)), (179, .sc (.lit .nilFunc)), (182, .sc (.lit .nilFunc)), (183, .sc (.lit .nilFunc)), (184, .sc (.lit .nilFunc)), (186, .sc (.lit (.int .u32 0))), (188, .sc (.lit .nilFunc)), (189, .sc (.lit (.int .u64 0))), (190, .sc (.lit .nilFunc)), (191, .sc (.lit .nilFunc)), (206, .sl 216 3), (207, .st 5 [(0, 1), (1, 1), (2, 1), (3, 1), (4, 1)] [9, 3, 51, 87, 206] [.lit (.string .empty), .lit (.int .i64 0), .nil, .nil, .nil]), (208, .st 5 [(0, 1), (1, 1), (2, 1), (3, 1), (4, 1)] [9, 3, 51, 87, 206] [.lit (.string .empty), .lit (.int .i64 0), .nil, .nil, .nil]), (209, .sl 212 15), (210, .sl 218 10), (211, .st 15 [(0, 1), (1, 1), (2, 1), (3, 1), (4, 1), (5, 1), (6, 1), (7, 7), (14, 1)] [3, 3, 3, 9, 209, 210, 33, 97, 46] [.lit (.int .i64 0), .lit (.int .i64 0), .lit (.int .i64 0), .lit (.string .empty), .nil, .nil, .nil, .nil, .nil, .nil, .lit (.int .i64 0), .lit (.int .i64 0), .lit (.string .empty), .nil, .nil]), (212, .st 15 [(0, 1), (1, 1), (2, 1), (3, 1), (4, 1), (5, 1), (6, 1), (7, 7), (14, 1)] [3, 3, 3, 9, 209, 210, 33, 97, 46] [.lit (.int .i64 0), .lit (.int .i64 0), .lit (.int .i64 0), .lit (.string .empty), .nil, .nil, .nil, .nil, .nil, .nil, .lit (.int .i64 0), .lit (.int .i64 0), .lit (.string .empty), .nil, .nil]), (213, .st 33 [(0, 1), (1, 1), (2, 1), (3, 7), (10, 15), (25, 7), (32, 1)] [9, 3, 4, 97, 212, 97, 3] [.lit (.string .empty), .lit (.int .i64 0), .lit (.bool false), .nil, .nil, .nil, .lit (.int .i64 0), .lit (.int .i64 0), .lit (.string .empty), .nil, .lit (.int .i64 0), .lit (.int .i64 0), .lit (.int .i64 0), .lit (.string .empty), .nil, .nil, .nil, .nil, .nil, .nil, .lit (.int .i64 0), .lit (.int .i64 0), .lit (.string .empty), .nil, .nil, .nil, .nil, .nil, .lit (.int .i64 0), .lit (.int .i64 0), .lit (.string .empty), .nil, .lit (.int .i64 0)]), (214, .st 33 [(0, 1), (1, 1), (2, 1), (3, 7), (10, 15), (25, 7), (32, 1)] [9, 3, 4, 97, 212, 97, 3] [.lit (.string .empty), .lit (.int .i64 0), .lit (.bool false), .nil, .nil, .nil, .lit (.int .i64 0), .lit (.int .i64 0), .lit (.string .empty), .nil, .lit (.int .i64 0), .lit (.int .i64 0), .lit (.int .i64 0), .lit (.string .empty), .nil, .nil, .nil, .nil, .nil, .nil, .lit (.int .i64 0), .lit (.int .i64 0), .lit (.string .empty), .nil, .nil, .nil, .nil, .nil, .lit (.int .i64 0), .lit (.int .i64 0), .lit (.string .empty), .nil, .lit (.int .i64 0)]), (215, .st 3 [(0, 1), (1, 1), (2, 1)] [9, 3, 46] [.lit (.string .empty), .lit (.int .i64 0), .nil]), (216, .st 3 [(0, 1), (1, 1), (2, 1)] [9, 3, 46] [.lit (.string .empty), .lit (.int .i64 0), .nil]), (217, .st 10 [(0, 1), (1, 1), (2, 1), (3, 1), (4, 1), (5, 4), (9, 1)] [3, 3, 3, 9, 210, 48, 46] [.lit (.int .i64 0), .lit (.int .i64 0), .lit (.int .i64 0), .lit (.string .empty), .nil, .lit (.int .i64 0), .lit (.int .i64 0), .lit (.string .empty), .nil, .nil]), (218, .st 10 [(0, 1), (1, 1), (2, 1), (3, 1), (4, 1), (5, 4), (9, 1)] [3, 3, 3, 9, 210, 48, 46] [.lit (.int .i64 0), .lit (.int .i64 0), .lit (.int .i64 0), .lit (.string .empty), .nil, .lit (.int .i64 0), .lit (.int .i64 0), .lit (.string .empty), .nil, .nil])]
set_option maxRecDepth 100000 in
theorem ttok : TTok Tryd.prog tt :=
  ⟨⟨_, _, rfl, rfl, rfl, rfl, rfl, rfl⟩,
   ⟨_, _, rfl, rfl, rfl, rfl, rfl, rfl⟩,
   ⟨_, _, rfl, rfl, rfl, rfl, rfl, rfl⟩,
   ⟨_, _, rfl, rfl, rfl, rfl, rfl, rfl⟩,
   ⟨_, _, rfl, rfl, rfl, rfl, rfl, rfl⟩,
   ⟨_, _, rfl, rfl, rfl, rfl, rfl, rfl⟩,
   ⟨_, _, rfl, rfl, rfl, rfl, rfl, rfl⟩,
   ⟨_, _, _, rfl, rfl, rfl, rfl, rfl, rfl, rfl, rfl, by simp [Value.cells, Value.oneCell'], by decide, by decide, by decide⟩,
   ⟨_, _, rfl, rfl, rfl, rfl, rfl, rfl⟩,
   ⟨_, _, rfl, rfl, rfl, rfl, rfl, rfl⟩,
   ⟨_, _, rfl, rfl, rfl, rfl, rfl, rfl, rfl, rfl, rfl⟩,
   ⟨_, _, rfl, rfl, rfl, rfl, rfl, rfl, rfl, rfl, rfl⟩,
   ⟨_, _, rfl, rfl, rfl, rfl, rfl, rfl⟩,
   ⟨_, _, _, rfl, rfl, rfl, rfl, rfl, rfl, rfl, rfl, by simp [Value.cells, Value.oneCell'], by decide, by decide, by decide⟩,
   ⟨_, _, _, rfl, rfl, rfl, rfl, rfl, rfl, rfl, rfl, by simp [Value.cells, Value.oneCell'], by decide, by decide, by decide⟩,
   ⟨_, _, _, rfl, rfl, rfl, rfl, rfl, rfl, rfl, rfl, by simp [Value.cells, Value.oneCell'], by decide, by decide, by decide⟩,
   ⟨_, _, _, rfl, rfl, rfl, rfl, rfl, rfl, rfl, rfl, by simp [Value.cells, Value.oneCell'], by decide, by decide, by decide⟩,
   ⟨_, _, rfl, rfl, rfl, rfl, rfl, rfl, rfl, rfl, rfl⟩,
   ⟨_, _, rfl, rfl, rfl, rfl, rfl, rfl, rfl, rfl, rfl⟩,
   ⟨_, _, rfl, rfl, rfl, rfl, rfl, rfl⟩,
   ⟨_, _, rfl, rfl, rfl, rfl, rfl, rfl⟩,
   ⟨_, _, rfl, rfl, rfl, rfl, rfl, rfl⟩,
   ⟨_, _, _, rfl, rfl, rfl, rfl, rfl, rfl, rfl, rfl, by simp [Value.cells, Value.oneCell'], by decide, by decide, by decide⟩,
   ⟨_, _, rfl, rfl, rfl, rfl, rfl, rfl⟩,
   ⟨_, _, _, rfl, rfl, rfl, rfl, rfl, rfl, rfl, rfl, by simp [Value.cells, Value.oneCell'], by decide, by decide, by decide⟩,
   ⟨_, _, rfl, rfl, rfl, rfl, rfl, rfl, rfl, rfl, rfl⟩,
   ⟨_, _, rfl, rfl, rfl, rfl, rfl, rfl, rfl, rfl, rfl⟩,
   ⟨_, _, rfl, rfl, rfl, rfl, rfl, rfl⟩,
   ⟨_, _, _, rfl, rfl, rfl, rfl, rfl, rfl, rfl, rfl, by simp [Value.cells, Value.oneCell'], by decide, by decide, by decide⟩,
   ⟨_, _, rfl, rfl, rfl, rfl, rfl, rfl, rfl, rfl, rfl⟩,
   ⟨_, _, rfl, rfl, rfl, rfl, rfl, rfl, rfl, rfl, rfl⟩,
   ⟨_, _, rfl, rfl, rfl, rfl, rfl, rfl, rfl, rfl, rfl⟩,
   ⟨_, _, rfl, rfl, rfl, rfl, rfl, rfl, rfl, rfl, rfl⟩,
   ⟨_, _, _, rfl, rfl, rfl, rfl, rfl, rfl, rfl, rfl, by simp [Value.cells, Value.oneCell'], by decide, by decide, by decide⟩,
   ⟨_, _, rfl, rfl, rfl, rfl, rfl, rfl⟩,
   ⟨_, _, rfl, rfl, rfl, rfl, rfl, rfl⟩,
   ⟨_, _, rfl, rfl, rfl, rfl, rfl, rfl⟩,
   ⟨_, _, rfl, rfl, rfl, rfl, rfl, rfl⟩,
   ⟨_, _, rfl, rfl, rfl, rfl, rfl, rfl⟩,
   ⟨_, _, rfl, rfl, rfl, rfl, rfl, rfl⟩,
   ⟨_, _, rfl, rfl, rfl, rfl, rfl, rfl⟩,
   ⟨_, _, rfl, rfl, rfl, rfl, rfl, rfl⟩,
   ⟨_, _, rfl, rfl, rfl, rfl, rfl, rfl⟩,
   ⟨_, _, rfl, rfl, rfl, rfl, rfl, rfl⟩,
   ⟨_, _, rfl, rfl, rfl, rfl, rfl, rfl⟩,
   ⟨_, _, rfl, rfl, rfl, rfl, rfl, rfl⟩,
   ⟨_, _, rfl, rfl, rfl, rfl, rfl, rfl⟩,
   ⟨_, _, rfl, rfl, rfl, rfl, rfl, rfl⟩,
   ⟨_, _, rfl, rfl, rfl, rfl, rfl, rfl⟩,
   ⟨_, _, rfl, rfl, rfl, rfl, rfl, rfl⟩,
   ⟨_, _, rfl, rfl, rfl, rfl, rfl, rfl⟩,
   ⟨_, _, rfl, rfl, rfl, rfl, rfl, rfl⟩,
   ⟨_, _, rfl, rfl, rfl, rfl, rfl, rfl⟩,
   ⟨rfl, _, rfl, rfl, rfl⟩,
   ⟨rfl, _, rfl, rfl, rfl⟩,
   ⟨_, _, rfl, rfl, rfl, rfl, rfl, rfl⟩,
   ⟨_, _, rfl, rfl, rfl, rfl, rfl, rfl, rfl, rfl, rfl⟩,
   ⟨_, _, rfl, rfl, rfl, rfl, rfl, rfl, rfl, rfl, rfl⟩,
   ⟨_, _, rfl, rfl, rfl, rfl, rfl, rfl, rfl, rfl, rfl⟩,
   ⟨_, _, rfl, rfl, rfl, rfl, rfl, rfl, rfl, rfl, rfl⟩,
   ⟨_, _, rfl, rfl, rfl, rfl, rfl, rfl⟩,
   ⟨_, _, rfl, rfl, rfl, rfl, rfl, rfl⟩,
   ⟨_, _, _, rfl, rfl, rfl, rfl, rfl, rfl, rfl, rfl, by simp [Value.cells, Value.oneCell'], by decide, by decide, by decide⟩,
   ⟨_, _, rfl, rfl, rfl, rfl, rfl, rfl, rfl, rfl, rfl⟩,
   ⟨_, _, rfl, rfl, rfl, rfl, rfl, rfl, rfl, rfl, rfl⟩,
   ⟨_, _, _, rfl, rfl, rfl, rfl, rfl, rfl, rfl, rfl, by simp [Value.cells, Value.oneCell'], by decide, by decide, by decide⟩,
   ⟨_, _, rfl, rfl, rfl, rfl, rfl, rfl, rfl, rfl, rfl⟩,
   ⟨_, _, rfl, rfl, rfl, rfl, rfl, rfl, rfl, rfl, rfl⟩,
   ⟨_, _, rfl, rfl, rfl, rfl, rfl, rfl⟩,
   ⟨_, _, rfl, rfl, rfl, rfl, rfl, rfl⟩,
   ⟨_, _, rfl, rfl, rfl, rfl, rfl, rfl, rfl, rfl, rfl⟩,
   ⟨_, _, rfl, rfl, rfl, rfl, rfl, rfl, rfl, rfl, rfl⟩,
   ⟨_, _, rfl, rfl, rfl, rfl, rfl, rfl, rfl, rfl, rfl⟩,
   ⟨_, _, rfl, rfl, rfl, rfl, rfl, rfl, rfl, rfl, rfl⟩,
   ⟨_, _, rfl, rfl, rfl, rfl, rfl, rfl, rfl, rfl, rfl⟩,
   ⟨_, _, rfl, rfl, rfl, rfl, rfl, rfl, rfl, rfl, rfl⟩,
   ⟨_, _, _, rfl, rfl, rfl, rfl, rfl, rfl, rfl, rfl, by simp [Value.cells, Value.oneCell'], by decide, by decide, by decide⟩,
   ⟨_, _, rfl, rfl, rfl, rfl, rfl, rfl⟩,
   ⟨_, _, rfl, rfl, rfl, rfl, rfl, rfl⟩,
   ⟨_, _, rfl, rfl, rfl, rfl, rfl, rfl⟩,
   ⟨_, _, rfl, rfl, rfl, rfl, rfl, rfl⟩,
   ⟨_, _, rfl, rfl, rfl, rfl, rfl, rfl⟩,
   ⟨_, _, rfl, rfl, rfl, rfl, rfl, rfl⟩,
   ⟨_, _, rfl, rfl, rfl, rfl, rfl, rfl⟩,
   ⟨_, _, rfl, rfl, rfl, rfl, rfl, rfl⟩,
   ⟨_, _, rfl, rfl, rfl, rfl, rfl, rfl⟩,
   ⟨_, _, rfl, rfl, rfl, rfl, rfl, rfl⟩,
   ⟨_, _, rfl, rfl, rfl, rfl, rfl, rfl⟩,
   ⟨_, _, rfl, rfl, rfl, rfl, rfl, rfl⟩,
   ⟨_, _, rfl, rfl, rfl, rfl, rfl, rfl⟩,
   ⟨_, _, rfl, rfl, rfl, rfl, rfl, rfl⟩,
   ⟨_, _, rfl, rfl, rfl, rfl, rfl, rfl⟩,
   ⟨_, _, rfl, rfl, rfl, rfl, rfl, rfl⟩,
   ⟨_, _, rfl, rfl, rfl, rfl, rfl, rfl⟩,
   ⟨_, _, rfl, rfl, rfl, rfl, rfl, rfl⟩,
   ⟨_, _, rfl, rfl, rfl, rfl, rfl, rfl⟩,
   ⟨_, _, rfl, rfl, rfl, rfl, rfl, rfl⟩,
   ⟨_, _, rfl, rfl, rfl, rfl, rfl, rfl⟩,
   ⟨_, _, rfl, rfl, rfl, rfl, rfl, rfl⟩,
   ⟨_, _, rfl, rfl, rfl, rfl, rfl, rfl, rfl, rfl, rfl⟩,
   ⟨_, _, rfl, rfl, rfl, rfl, rfl, rfl, rfl, rfl, rfl⟩,
   ⟨_, _, rfl, rfl, rfl, rfl, rfl, rfl⟩,
   ⟨_, _, rfl, rfl, rfl, rfl, rfl, rfl⟩,
   ⟨_, _, rfl, rfl, rfl, rfl, rfl, rfl⟩,
   ⟨_, _, rfl, rfl, rfl, rfl, rfl, rfl⟩,
   ⟨_, _, rfl, rfl, rfl, rfl, rfl, rfl⟩,
   ⟨_, _, rfl, rfl, rfl, rfl, rfl, rfl⟩,
   ⟨_, _, rfl, rfl, rfl, rfl, rfl, rfl⟩,
   ⟨_, _, rfl, rfl, rfl, rfl, rfl, rfl⟩,
   ⟨_, _, rfl, rfl, rfl, rfl, rfl, rfl⟩,
   ⟨_, _, rfl, rfl, rfl, rfl, rfl, rfl⟩,
   ⟨_, _, rfl, rfl, rfl, rfl, rfl, rfl⟩,
   ⟨_, _, rfl, rfl, rfl, rfl, rfl, rfl⟩,
   ⟨_, _, rfl, rfl, rfl, rfl, rfl, rfl⟩,
   ⟨_, _, rfl, rfl, rfl, rfl, rfl, rfl⟩,
   ⟨_, _, rfl, rfl, rfl, rfl, rfl, rfl⟩,
   ⟨_, _, rfl, rfl, rfl, rfl, rfl, rfl⟩,
   ⟨_, _, rfl, rfl, rfl, rfl, rfl, rfl⟩,
   ⟨rfl, _, rfl, rfl, rfl⟩,
   ⟨_, _, _, rfl, rfl, rfl, rfl, rfl, rfl, rfl, rfl, by simp [Value.cells, Value.oneCell'], by decide, by decide, by decide⟩,
   ⟨_, _, rfl, rfl, rfl, rfl, rfl, rfl, rfl, rfl, rfl⟩,
   ⟨_, _, rfl, rfl, rfl, rfl, rfl, rfl, rfl, rfl, rfl⟩,
   ⟨_, _, rfl, rfl, rfl, rfl, rfl, rfl⟩,
   ⟨_, _, rfl, rfl, rfl, rfl, rfl, rfl⟩,
   ⟨_, _, rfl, rfl, rfl, rfl, rfl, rfl⟩,
   ⟨_, _, rfl, rfl, rfl, rfl, rfl, rfl⟩,
   ⟨_, _, rfl, rfl, rfl, rfl, rfl, rfl⟩,
   ⟨_, _, rfl, rfl, rfl, rfl, rfl, rfl⟩,
   ⟨_, _, rfl, rfl, rfl, rfl, rfl, rfl⟩,
   ⟨_, _, rfl, rfl, rfl, rfl, rfl, rfl⟩,
   ⟨_, _, _, rfl, rfl, rfl, rfl, rfl, rfl, rfl, rfl, by simp [Value.cells, Value.oneCell'], by decide, by decide, by decide⟩,
   ⟨_, _, rfl, rfl, rfl, rfl, rfl, rfl, rfl, rfl, rfl⟩,
   ⟨_, _, rfl, rfl, rfl, rfl, rfl, rfl⟩,
   ⟨_, _, rfl, rfl, rfl, rfl, rfl, rfl⟩,
   ⟨_, _, rfl, rfl, rfl, rfl, rfl, rfl⟩,
   ⟨_, _, rfl, rfl, rfl, rfl, rfl, rfl⟩,
   ⟨_, _, rfl, rfl, rfl, rfl, rfl, rfl⟩,
   ⟨_, _, rfl, rfl, rfl, rfl, rfl, rfl⟩,
   ⟨_, _, rfl, rfl, rfl, rfl, rfl, rfl⟩,
   ⟨_, _, rfl, rfl, rfl, rfl, rfl, rfl⟩,
   ⟨_, _, rfl, rfl, rfl, rfl, rfl, rfl⟩,
   ⟨_, _, rfl, rfl, rfl, rfl, rfl, rfl⟩,
   ⟨_, _, rfl, rfl, rfl, rfl, rfl, rfl⟩,
   ⟨_, _, rfl, rfl, rfl, rfl, rfl, rfl⟩,
   ⟨_, _, rfl, rfl, rfl, rfl, rfl, rfl⟩,
   ⟨_, _, rfl, rfl, rfl, rfl, rfl, rfl⟩,
   ⟨_, _, rfl, rfl, rfl, rfl, rfl, rfl⟩,
   ⟨_, _, rfl, rfl, rfl, rfl, rfl, rfl⟩,
   ⟨_, _, rfl, rfl, rfl, rfl, rfl, rfl⟩,
   ⟨_, _, rfl, rfl, rfl, rfl, rfl, rfl⟩,
   ⟨_, _, _, rfl, rfl, rfl, rfl, rfl, rfl, rfl, rfl, by simp [Value.cells, Value.oneCell'], by decide, by decide, by decide⟩,
   ⟨_, _, rfl, rfl, rfl, rfl, rfl, rfl, rfl, rfl, rfl⟩,
   ⟨_, _, rfl, rfl, rfl, rfl, rfl, rfl, rfl, rfl, rfl⟩,
   ⟨_, _, _, rfl, rfl, rfl, rfl, rfl, rfl, rfl, rfl, by simp [Value.cells, Value.oneCell'], by decide, by decide, by decide⟩,
   ⟨_, _, _, rfl, rfl, rfl, rfl, rfl, rfl, rfl, rfl, by simp [Value.cells, Value.oneCell'], by decide, by decide, by decide⟩,
   ⟨_, _, rfl, rfl, rfl, rfl, rfl, rfl, rfl, rfl, rfl⟩,
   ⟨_, _, rfl, rfl, rfl, rfl, rfl, rfl, rfl, rfl, rfl⟩,
   ⟨_, _, rfl, rfl, rfl, rfl, rfl, rfl, rfl, rfl, rfl⟩,
   ⟨_, _, rfl, rfl, rfl, rfl, rfl, rfl, rfl, rfl, rfl⟩,
   ⟨_, _, rfl, rfl, rfl, rfl, rfl, rfl, rfl, rfl, rfl⟩,
   ⟨_, _, rfl, rfl, rfl, rfl, rfl, rfl, rfl, rfl, rfl⟩,
   ⟨_, _, rfl, rfl, rfl, rfl, rfl, rfl, rfl, rfl, rfl⟩,
   ⟨_, _, rfl, rfl, rfl, rfl, rfl, rfl, rfl, rfl, rfl⟩, trivial⟩
theorem mixed : Tryd.prog.follows .mixedOrders = true := by kernel_rfl
end Go.Proofs.YtkhnjmbgkakngaaDoor
