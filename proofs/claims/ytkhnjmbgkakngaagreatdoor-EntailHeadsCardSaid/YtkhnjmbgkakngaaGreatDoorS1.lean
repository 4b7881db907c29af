/- The seat: functions by name, the types that are used. No condition. -/
import Derived.Test.YtkhnjmbgkakngaaGreatDoorFpK
import Derived.Test.YtkhnjmbgkakngaaGreatDoorProg
import Derived.KernelRfl
set_option linter.unusedSimpArgs false
set_option linter.unusedVariables false
namespace Go.Proofs.YtkhnjmbgkakngaaGreatDoor
open Go Fp

abbrev n_main_main : Nat := 0
abbrev n_fuguelaw12_EntailTells : Nat := 3
abbrev n_fuguelaw12_EntailHeads : Nat := 4
abbrev n_fugueref12_World : Nat := 5
abbrev n_classes_New : Nat := 6
abbrev n_fuguelaw12_lives : Nat := 7
abbrev n_fugueref12_Preds : Nat := 8
abbrev n_entail_By : Nat := 9
abbrev n_fugueref12_By : Nat := 10
abbrev n_fugueref12_Equal : Nat := 11
abbrev n_entail_Print : Nat := 12
abbrev n_fugueref12_Print : Nat := 13
abbrev n_entail_Head : Nat := 14
abbrev n_fugueref12_Head : Nat := 15
abbrev n_entail_Simple : Nat := 16
abbrev n_fugueref12_Simple : Nat := 17
abbrev n_fugueref12_Same : Nat := 18
abbrev n_fugueref11_Names : Nat := 19
abbrev n_fugueref11_Made : Nat := 20
abbrev n_fugueref01_Ints : Nat := 21
abbrev n_fugueref12_pick : Nat := 22
abbrev n_fugueref12_Vars : Nat := 23
abbrev n_fugueref11_Above : Nat := 24
abbrev n_fugueref11_Inst : Nat := 25
abbrev n_slices_Clone_apiInstapiInst : Nat := 26
abbrev n_slices_Backward_apiClassapiClass : Nat := 27
abbrev n_slices_Backward_apiSigapiSig : Nat := 28
abbrev n_classes_Env_refusals : Nat := 29
abbrev n_types_Var : Nat := 30
abbrev n_types_App : Nat := 31
abbrev n_types_Con : Nat := 32
abbrev n_fugueref12_typ : Nat := 33
abbrev n_classes_Env_Path : Nat := 34
abbrev n_types_Same : Nat := 35
abbrev n_entail_inst : Nat := 36
abbrev n_fugueref11_Path : Nat := 37
abbrev n_fugueref04_Equal : Nat := 38
abbrev n_fugueref12_needs : Nat := 39
abbrev n_strconv_Itoa : Nat := 40
abbrev n_strings_Join : Nat := 41
abbrev n_fugueref01_Decimal : Nat := 42
abbrev n_entail_put : Nat := 43
abbrev n_types_Spine : Nat := 44
abbrev n_slices_ContainsFunc_apiPredapiPred : Nat := 45
abbrev n_entail_Head_1 : Nat := 46
abbrev n_entail_one : Nat := 47
abbrev n_fugueref12_heads : Nat := 48
abbrev n_fugueref12_same : Nat := 49
abbrev n_entail_Simple_1 : Nat := 50
abbrev n_slices_Delete_apiPredapiPred : Nat := 51
abbrev n_slices_Clone_apiPredapiPred : Nat := 52
abbrev n_fugueref11_pick : Nat := 53
abbrev n_fugueref11_Whole : Nat := 54
abbrev n_fugueref01_Around : Nat := 55
abbrev n_fugueref11_above : Nat := 56
abbrev n_slices_Backward_fugue_api_Class_fugue_api_Class_1 : Nat := 57
abbrev n_slices_Backward_fugue_api_Sig_fugue_api_Sig_1 : Nat := 58
abbrev n_classes_Env_above : Nat := 59
abbrev n_classes_Env_Inst : Nat := 60
abbrev n_classes_Env_refusals_1 : Nat := 61
abbrev n_slices_ContainsFunc_stringstring : Nat := 62
abbrev n_types_own : Nat := 63
abbrev n_types_apply : Nat := 64
abbrev n_fugueref04_Name : Nat := 65
abbrev n_classes_Env_climb : Nat := 66
abbrev n_classes_Env_Path_1 : Nat := 67
abbrev n_types_same : Nat := 68
abbrev n_entail_needs : Nat := 69
abbrev n_classes_Env_At : Nat := 70
abbrev n_fugueref11_path : Nat := 71
abbrev n_fugueref12_spine : Nat := 72
abbrev n_fugueref04_Subst : Nat := 73
abbrev n_internal_strconv_Itoa : Nat := 74
abbrev n_types_Subst : Nat := 78
abbrev n_slices_Reverse_apiTypeapiType : Nat := 79
abbrev n_slices_IndexFunc_apiPredapiPred : Nat := 80
abbrev n_fugueref11_Class : Nat := 81
abbrev n_fugueref11_In : Nat := 82
abbrev n_classes_Env_above_1 : Nat := 83
abbrev n_slices_IndexFunc_apiInstapiInst : Nat := 84
abbrev n_classes_Env_Inst_1 : Nat := 85
abbrev n_slices_IndexFunc_stringstring : Nat := 86
abbrev n_classes_queue_fugue_classes_way_put : Nat := 87
abbrev n_classes_queue_fugue_classes_way_next : Nat := 88
abbrev n_slices_Clone_intint : Nat := 89
abbrev n_types_place : Nat := 90
abbrev n_fugueref04_at : Nat := 91
abbrev n_fugueref04_app : Nat := 92
abbrev n_fugueref04_Free : Nat := 93
abbrev n_fugueref01_Has : Nat := 94
abbrev n_fugueref01_Letters : Nat := 95
abbrev n_internal_strconv_FormatInt : Nat := 96
abbrev n_slices_Index_stringstring : Nat := 99
abbrev n_types_under : Nat := 100
abbrev n_fugueref04_free : Nat := 101
abbrev n_internal_strconv_small : Nat := 102
abbrev n_internal_strconv_numDigits : Nat := 103
abbrev n_internal_strconv_formatBase10 : Nat := 104
abbrev n_internal_strconv_formatBits : Nat := 105
abbrev n_internal_abi_NoEscape : Nat := 106
abbrev n_internal_bytealg_MakeNoZero : Nat := 107
abbrev n_types_Free : Nat := 108
abbrev n_slices_Contains_stringstring : Nat := 109
abbrev n_types_letter : Nat := 110
abbrev n_types_All : Nat := 111
abbrev n_internal_strconv_log10Pow2 : Nat := 112
abbrev n_math_bits_Len64 : Nat := 113
abbrev n_internal_strconv_bool2_int : Nat := 114
abbrev n_internal_strconv_isPowerOfTwo : Nat := 115
abbrev n_math_bits_TrailingZeros : Nat := 116
abbrev n_chars_Letters : Nat := 117
abbrev n_math_bits_TrailingZeros32 : Nat := 118
abbrev n_math_bits_TrailingZeros64 : Nat := 119
abbrev n_classes_Env_Len : Nat := 135

def tt : TT := [(1, .sc (.lit .nilFunc)), (2, .sc (.lit (.int .i64 0))), (3, .sc (.lit (.int .i64 0))), (4, .sc (.lit (.bool false))), (5, .sc (.lit (.int .u8 0))), (9, .sc (.lit (.string .empty))), (21, .sc (.lit (.int .i32 0))), (22, .sl 3 1), (23, .sl 207 5), (24, .sl 82 6), (25, .sl 64 6), (26, .sl 213 33), (27, .st 4 [(0, 1), (1, 1), (2, 1), (3, 1)] [23, 24, 25, 26] [.nil, .nil, .nil, .nil]), (28, .st 4 [(0, 1), (1, 1), (2, 1), (3, 1)] [23, 24, 25, 26] [.nil, .nil, .nil, .nil]), (29, .sc (.lit .nilFunc)), (30, .sc (.lit (.pointer none))), (31, .sc (.lit (.int .i64 0))), (32, .st 2 [(0, 1), (1, 1)] [31, 3] [.lit (.int .i64 0), .lit (.int .i64 0)]), (33, .st 2 [(0, 1), (1, 1)] [31, 3] [.lit (.int .i64 0), .lit (.int .i64 0)]), (35, .sc (.lit .nilFunc)), (36, .sc (.lit .nilFunc)), (37, .sl 48 5), (38, .sc (.lit .nilFunc)), (39, .sl 41 3), (40, .st 3 [(0, 1), (1, 1), (2, 1)] [3, 3, 39] [.lit (.int .i64 0), .lit (.int .i64 0), .nil]), (41, .st 3 [(0, 1), (1, 1), (2, 1)] [3, 3, 39] [.lit (.int .i64 0), .lit (.int .i64 0), .nil]), (43, .sc (.lit .nilFunc)), (44, .sl 46 4), (45, .st 4 [(0, 1), (1, 1), (2, 1), (3, 1)] [3, 3, 9, 44] [.lit (.int .i64 0), .lit (.int .i64 0), .lit (.string .empty), .nil]), (46, .st 4 [(0, 1), (1, 1), (2, 1), (3, 1)] [3, 3, 9, 44] [.lit (.int .i64 0), .lit (.int .i64 0), .lit (.string .empty), .nil]), (47, .st 5 [(0, 1), (1, 4)] [9, 46] [.lit (.string .empty), .lit (.int .i64 0), .lit (.int .i64 0), .lit (.string .empty), .nil]), (48, .st 5 [(0, 1), (1, 4)] [9, 46] [.lit (.string .empty), .lit (.int .i64 0), .lit (.int .i64 0), .lit (.string .empty), .nil]), (49, .sc (.lit .nilFunc)), (50, .sc (.lit .nilFunc)), (51, .sc (.lit .nilFunc)), (52, .sc (.lit .nilFunc)), (54, .sc (.lit .nilFunc)), (55, .sc (.lit .nilFunc)), (56, .sc (.lit .nilFunc)), (57, .sc (.lit .nilFunc)), (58, .sl 9 1), (60, .sc (.lit .nilFunc)), (61, .sc (.lit .nilFunc)), (62, .sc (.lit .nilFunc)), (63, .st 6 [(0, 1), (1, 1), (2, 1), (3, 1), (4, 1), (5, 1)] [9, 3, 9, 58, 37, 26] [.lit (.string .empty), .lit (.int .i64 0), .lit (.string .empty), .nil, .nil, .nil]), (64, .st 6 [(0, 1), (1, 1), (2, 1), (3, 1), (4, 1), (5, 1)] [9, 3, 9, 58, 37, 26] [.lit (.string .empty), .lit (.int .i64 0), .lit (.string .empty), .nil, .nil, .nil]), (65, .sc (.lit .nilFunc)), (66, .sc (.lit .nilFunc)), (68, .sc (.lit .nilFunc)), (69, .mp 9 82), (70, .mp 9 91), (71, .sc (.lit .nilFunc)), (72, .st 3 [(0, 1), (1, 1), (2, 1)] [69, 70, 25] [.lit (.map none), .lit (.map none), .nil]), (73, .st 3 [(0, 1), (1, 1), (2, 1)] [69, 70, 25] [.lit (.map none), .lit (.map none), .nil]), (74, .sc (.lit .nilFunc)), (76, .sc (.lit .nilFunc)), (77, .sl 79 1), (78, .st 1 [(0, 1)] [77] [.nil]), (79, .st 1 [(0, 1)] [77] [.nil]), (80, .sl 89 9), (81, .st 6 [(0, 1), (1, 1), (2, 1), (3, 1), (4, 1), (5, 1)] [9, 3, 9, 79, 58, 80] [.lit (.string .empty), .lit (.int .i64 0), .lit (.string .empty), .nil, .nil, .nil]), (82, .st 6 [(0, 1), (1, 1), (2, 1), (3, 1), (4, 1), (5, 1)] [9, 3, 9, 79, 58, 80] [.lit (.string .empty), .lit (.int .i64 0), .lit (.string .empty), .nil, .nil, .nil]), (83, .sc (.lit .nilFunc)), (85, .sc (.lit .nilFunc)), (86, .st 7 [(0, 1), (1, 1), (2, 1), (3, 4)] [58, 77, 37, 46] [.nil, .nil, .nil, .lit (.int .i64 0), .lit (.int .i64 0), .lit (.string .empty), .nil]), (87, .st 7 [(0, 1), (1, 1), (2, 1), (3, 4)] [58, 77, 37, 46] [.nil, .nil, .nil, .lit (.int .i64 0), .lit (.int .i64 0), .lit (.string .empty), .nil]), (88, .st 9 [(0, 1), (1, 1), (2, 7)] [9, 3, 87] [.lit (.string .empty), .lit (.int .i64 0), .nil, .nil, .nil, .lit (.int .i64 0), .lit (.int .i64 0), .lit (.string .empty), .nil]), (89, .st 9 [(0, 1), (1, 1), (2, 7)] [9, 3, 87] [.lit (.string .empty), .lit (.int .i64 0), .nil, .nil, .nil, .lit (.int .i64 0), .lit (.int .i64 0), .lit (.string .empty), .nil]), (90, .st 2 [(0, 1), (1, 1)] [9, 3] [.lit (.string .empty), .lit (.int .i64 0)]), (91, .st 2 [(0, 1), (1, 1)] [9, 3] [.lit (.string .empty), .lit (.int .i64 0)]), (92, .sl 33 2), (93, .sc (.lit .nilFunc)), (94, .sc (.lit .nilFunc)), (95, .sc (.lit .nilFunc)), (97, .sc (.lit .nilFunc)), (99, .sc (.lit .nilFunc)), (100, .sc (.lit .nilFunc)), (102, .sc (.lit .nilFunc)), (103, .sc (.lit .nilFunc)), (104, .sc (.lit .nilFunc)), (105, .sc (.lit .nilFunc)), (106, .sc (.lit .nilFunc)), (107, .sc (.lit .nilFunc)), (109, .sc (.lit .nilFunc)), (110, .sc (.lit .nilFunc)), (111, .sc (.lit .nilFunc)), (112, .sc (.lit .nilFunc)), (113, .sc (.lit .nilFunc)), (114, .sc (.lit .nilFunc)), (115, .sc (.lit .nilFunc)), (116, .sc (.lit .nilFunc)), (117, .sc (.lit .nilFunc)), (118, .sc (.lit .nilFunc)), (119, .sc (.lit .nilFunc)), (120, .sc (.lit .nilFunc)), (121, .sc (.lit .nilFunc)), (122, .sc (.lit .nilFunc)), (123, .sc (.lit .nilFunc)), (124, .sc (.lit .nilFunc)), (125, .sc (.lit .nilFunc)), (126, .sc (.lit .nilFunc)), (127, .sc (.lit .nilFunc)), (129, .sc (.lit .nilFunc)), (130, .st 2 [(0, 1), (1, 1)] [9, 22] [.lit (.string .empty), .nil]), (131, .st 2 [(0, 1), (1, 1)] [9, 22] [.lit (.string .empty), .nil]), (132, .sc (.lit .nilFunc)), (133, .sc (.lit .nilFunc)), (135, .sc (.lit .nilFunc)), (136, .sc (.lit .nilFunc)), (137, .sc (.lit .nilFunc)), (138, .sc (.lit .nilFunc)), (139, .sc (.lit (.pointer none))), (140, .sl 5 1), (141, .st 2 [(0, 1), (1, 1)] [139, 140] [.lit (.pointer none), .nil]), (143, .sc (.lit .nilFunc)), (147, .sc (.lit .nilFunc)), (148, .sc (.lit .nilFunc)), (149, .sc (.lit .nilFunc)), (150, .sc (.lit .nilFunc)), (151, .sc (.lit .nilFunc)), (152, .sc (.lit .nilFunc)), (153, .sc (.lit .nilFunc)), (154, .sc (.lit .nilFunc)), (155, .sc (.lit .nilFunc)), (156, .mp 9 4), (157, .sl 131 2), (158, .st 1 [(0, 1)] [157] [.nil]), (159, .st 1 [(0, 1)] [157] [.nil]), (160, .sc (.lit .nilFunc)), (162, .sc (.lit .nilFunc)), (163, .sc (.lit .nilFunc)), (164, .sc (.lit .nilFunc)), (165, .sc (.lit .nilFunc)), (166, .sc (.lit .nilFunc)), (167, .sc (.lit (.pointer none))), (168, .sc (.lit (.pointer none))), (169, .sc (.lit .nilFunc)), (171, .sc (.lit (.int .u64 0))), (172, .sc (.lit .nilFunc)), (173, .sc (.lit .nilFunc)), (175, .sc (.lit .nilFunc)), (178, .sc (.lit .nilFunc)), (179, .sc (.lit .nilFunc)), (180, .sc (.lit .nilFunc)), (181, .sc (.lit .nilFunc)), (182, .sc (.lit .nilFunc)), (184, .sc (.lit (.int .u32 0))), (186, .sc (.lit .nilFunc)), (187, .sc (.lit (.int .u64 0))), (188, .sc (.lit .nilFunc)), (189, .sc (.lit .nilFunc)), (197, .sc (.lit .nilFunc)), (205, .sl 215 3), (206, .st 5 [(0, 1), (1, 1), (2, 1), (3, 1), (4, 1)] [9, 3, 58, 77, 205] [.lit (.string .empty), .lit (.int .i64 0), .nil, .nil, .nil]), (207, .st 5 [(0, 1), (1, 1), (2, 1), (3, 1), (4, 1)] [9, 3, 58, 77, 205] [.lit (.string .empty), .lit (.int .i64 0), .nil, .nil, .nil]), (208, .sl 211 15), (209, .sl 217 10), (210, .st 15 [(0, 1), (1, 1), (2, 1), (3, 1), (4, 1), (5, 1), (6, 1), (7, 7), (14, 1)] [3, 3, 3, 9, 208, 209, 26, 87, 44] [.lit (.int .i64 0), .lit (.int .i64 0), .lit (.int .i64 0), .lit (.string .empty), .nil, .nil, .nil, .nil, .nil, .nil, .lit (.int .i64 0), .lit (.int .i64 0), .lit (.string .empty), .nil, .nil]), (211, .st 15 [(0, 1), (1, 1), (2, 1), (3, 1), (4, 1), (5, 1), (6, 1), (7, 7), (14, 1)] [3, 3, 3, 9, 208, 209, 26, 87, 44] [.lit (.int .i64 0), .lit (.int .i64 0), .lit (.int .i64 0), .lit (.string .empty), .nil, .nil, .nil, .nil, .nil, .nil, .lit (.int .i64 0), .lit (.int .i64 0), .lit (.string .empty), .nil, .nil]), (212, .st 33 [(0, 1), (1, 1), (2, 1), (3, 7), (10, 15), (25, 7), (32, 1)] [9, 3, 4, 87, 211, 87, 3] [.lit (.string .empty), .lit (.int .i64 0), .lit (.bool false), .nil, .nil, .nil, .lit (.int .i64 0), .lit (.int .i64 0), .lit (.string .empty), .nil, .lit (.int .i64 0), .lit (.int .i64 0), .lit (.int .i64 0), .lit (.string .empty), .nil, .nil, .nil, .nil, .nil, .nil, .lit (.int .i64 0), .lit (.int .i64 0), .lit (.string .empty), .nil, .nil, .nil, .nil, .nil, .lit (.int .i64 0), .lit (.int .i64 0), .lit (.string .empty), .nil, .lit (.int .i64 0)]), (213, .st 33 [(0, 1), (1, 1), (2, 1), (3, 7), (10, 15), (25, 7), (32, 1)] [9, 3, 4, 87, 211, 87, 3] [.lit (.string .empty), .lit (.int .i64 0), .lit (.bool false), .nil, .nil, .nil, .lit (.int .i64 0), .lit (.int .i64 0), .lit (.string .empty), .nil, .lit (.int .i64 0), .lit (.int .i64 0), .lit (.int .i64 0), .lit (.string .empty), .nil, .nil, .nil, .nil, .nil, .nil, .lit (.int .i64 0), .lit (.int .i64 0), .lit (.string .empty), .nil, .nil, .nil, .nil, .nil, .lit (.int .i64 0), .lit (.int .i64 0), .lit (.string .empty), .nil, .lit (.int .i64 0)]), (214, .st 3 [(0, 1), (1, 1), (2, 1)] [9, 3, 44] [.lit (.string .empty), .lit (.int .i64 0), .nil]), (215, .st 3 [(0, 1), (1, 1), (2, 1)] [9, 3, 44] [.lit (.string .empty), .lit (.int .i64 0), .nil]), (216, .st 10 [(0, 1), (1, 1), (2, 1), (3, 1), (4, 1), (5, 4), (9, 1)] [3, 3, 3, 9, 209, 46, 44] [.lit (.int .i64 0), .lit (.int .i64 0), .lit (.int .i64 0), .lit (.string .empty), .nil, .lit (.int .i64 0), .lit (.int .i64 0), .lit (.string .empty), .nil, .nil]), (217, .st 10 [(0, 1), (1, 1), (2, 1), (3, 1), (4, 1), (5, 4), (9, 1)] [3, 3, 3, 9, 209, 46, 44] [.lit (.int .i64 0), .lit (.int .i64 0), .lit (.int .i64 0), .lit (.string .empty), .nil, .lit (.int .i64 0), .lit (.int .i64 0), .lit (.string .empty), .nil, .nil])]
set_option maxRecDepth 100000 in
theorem ttok : TTok Tryz.prog tt :=
  ⟨⟨_, _, rfl, rfl, rfl, rfl, rfl, rfl⟩,
   ⟨_, _, rfl, rfl, rfl, rfl, rfl, rfl⟩,
   ⟨_, _, rfl, rfl, rfl, rfl, rfl, rfl⟩,
   ⟨_, _, rfl, rfl, rfl, rfl, rfl, rfl⟩,
   ⟨_, _, rfl, rfl, rfl, rfl, rfl, rfl⟩,
   ⟨_, _, rfl, rfl, rfl, rfl, rfl, rfl⟩,
   ⟨_, _, rfl, rfl, rfl, rfl, rfl, rfl⟩,
   ⟨_, _, _, rfl, rfl, rfl, rfl, rfl, rfl, rfl, rfl, by simp [Value.cells, Value.oneCell'], by decide, by decide, by decide⟩,
   ⟨_, _, _, rfl, rfl, rfl, rfl, rfl, rfl, rfl, rfl, by simp [Value.cells, Value.oneCell'], by decide, by decide, by decide⟩,
   ⟨_, _, _, rfl, rfl, rfl, rfl, rfl, rfl, rfl, rfl, by simp [Value.cells, Value.oneCell'], by decide, by decide, by decide⟩,
   ⟨_, _, _, rfl, rfl, rfl, rfl, rfl, rfl, rfl, rfl, by simp [Value.cells, Value.oneCell'], by decide, by decide, by decide⟩,
   ⟨_, _, _, rfl, rfl, rfl, rfl, rfl, rfl, rfl, rfl, by simp [Value.cells, Value.oneCell'], by decide, by decide, by decide⟩,
   ⟨_, _, rfl, rfl, rfl, rfl, rfl, rfl, rfl, rfl, rfl⟩,
   ⟨_, _, rfl, rfl, rfl, rfl, rfl, rfl, rfl, rfl, rfl⟩,
   ⟨_, _, rfl, rfl, rfl, rfl, rfl, rfl⟩,
   ⟨_, _, rfl, rfl, rfl, rfl, rfl, rfl⟩,
   ⟨_, _, rfl, rfl, rfl, rfl, rfl, rfl⟩,
   ⟨_, _, rfl, rfl, rfl, rfl, rfl, rfl, rfl, rfl, rfl⟩,
   ⟨_, _, rfl, rfl, rfl, rfl, rfl, rfl, rfl, rfl, rfl⟩,
   ⟨_, _, rfl, rfl, rfl, rfl, rfl, rfl⟩,
   ⟨_, _, rfl, rfl, rfl, rfl, rfl, rfl⟩,
   ⟨_, _, _, rfl, rfl, rfl, rfl, rfl, rfl, rfl, rfl, by simp [Value.cells, Value.oneCell'], by decide, by decide, by decide⟩,
   ⟨_, _, rfl, rfl, rfl, rfl, rfl, rfl⟩,
   ⟨_, _, _, rfl, rfl, rfl, rfl, rfl, rfl, rfl, rfl, by simp [Value.cells, Value.oneCell'], by decide, by decide, by decide⟩,
   ⟨_, _, rfl, rfl, rfl, rfl, rfl, rfl, rfl, rfl, rfl⟩,
   ⟨_, _, rfl, rfl, rfl, rfl, rfl, rfl, rfl, rfl, rfl⟩,
   ⟨_, _, rfl, rfl, rfl, rfl, rfl, rfl⟩,
   ⟨_, _, _, rfl, rfl, rfl, rfl, rfl, rfl, rfl, rfl, by simp [Value.cells, Value.oneCell'], by decide, by decide, by decide⟩,
   ⟨_, _, rfl, rfl, rfl, rfl, rfl, rfl, rfl, rfl, rfl⟩,
   ⟨_, _, rfl, rfl, rfl, rfl, rfl, rfl, rfl, rfl, rfl⟩,
   ⟨_, _, rfl, rfl, rfl, rfl, rfl, rfl, rfl, rfl, rfl⟩,
   ⟨_, _, rfl, rfl, rfl, rfl, rfl, rfl, rfl, rfl, rfl⟩,
   ⟨_, _, rfl, rfl, rfl, rfl, rfl, rfl⟩,
   ⟨_, _, rfl, rfl, rfl, rfl, rfl, rfl⟩,
   ⟨_, _, rfl, rfl, rfl, rfl, rfl, rfl⟩,
   ⟨_, _, rfl, rfl, rfl, rfl, rfl, rfl⟩,
   ⟨_, _, rfl, rfl, rfl, rfl, rfl, rfl⟩,
   ⟨_, _, rfl, rfl, rfl, rfl, rfl, rfl⟩,
   ⟨_, _, rfl, rfl, rfl, rfl, rfl, rfl⟩,
   ⟨_, _, rfl, rfl, rfl, rfl, rfl, rfl⟩,
   ⟨_, _, _, rfl, rfl, rfl, rfl, rfl, rfl, rfl, rfl, by simp [Value.cells, Value.oneCell'], by decide, by decide, by decide⟩,
   ⟨_, _, rfl, rfl, rfl, rfl, rfl, rfl⟩,
   ⟨_, _, rfl, rfl, rfl, rfl, rfl, rfl⟩,
   ⟨_, _, rfl, rfl, rfl, rfl, rfl, rfl⟩,
   ⟨_, _, rfl, rfl, rfl, rfl, rfl, rfl, rfl, rfl, rfl⟩,
   ⟨_, _, rfl, rfl, rfl, rfl, rfl, rfl, rfl, rfl, rfl⟩,
   ⟨_, _, rfl, rfl, rfl, rfl, rfl, rfl⟩,
   ⟨_, _, rfl, rfl, rfl, rfl, rfl, rfl⟩,
   ⟨_, _, rfl, rfl, rfl, rfl, rfl, rfl⟩,
   ⟨rfl, _, rfl, rfl, rfl⟩,
   ⟨rfl, _, rfl, rfl, rfl⟩,
   ⟨_, _, rfl, rfl, rfl, rfl, rfl, rfl⟩,
   ⟨_, _, rfl, rfl, rfl, rfl, rfl, rfl, rfl, rfl, rfl⟩,
   ⟨_, _, rfl, rfl, rfl, rfl, rfl, rfl, rfl, rfl, rfl⟩,
   ⟨_, _, rfl, rfl, rfl, rfl, rfl, rfl⟩,
   ⟨_, _, rfl, rfl, rfl, rfl, rfl, rfl⟩,
   ⟨_, _, _, rfl, rfl, rfl, rfl, rfl, rfl, rfl, rfl, by simp [Value.cells, Value.oneCell'], by decide, by decide, by decide⟩,
   ⟨_, _, rfl, rfl, rfl, rfl, rfl, rfl, rfl, rfl, rfl⟩,
   ⟨_, _, rfl, rfl, rfl, rfl, rfl, rfl, rfl, rfl, rfl⟩,
   ⟨_, _, _, rfl, rfl, rfl, rfl, rfl, rfl, rfl, rfl, by simp [Value.cells, Value.oneCell'], by decide, by decide, by decide⟩,
   ⟨_, _, rfl, rfl, rfl, rfl, rfl, rfl, rfl, rfl, rfl⟩,
   ⟨_, _, rfl, rfl, rfl, rfl, rfl, rfl, rfl, rfl, rfl⟩,
   ⟨_, _, rfl, rfl, rfl, rfl, rfl, rfl⟩,
   ⟨_, _, rfl, rfl, rfl, rfl, rfl, rfl⟩,
   ⟨_, _, rfl, rfl, rfl, rfl, rfl, rfl, rfl, rfl, rfl⟩,
   ⟨_, _, rfl, rfl, rfl, rfl, rfl, rfl, rfl, rfl, rfl⟩,
   ⟨_, _, rfl, rfl, rfl, rfl, rfl, rfl, rfl, rfl, rfl⟩,
   ⟨_, _, rfl, rfl, rfl, rfl, rfl, rfl, rfl, rfl, rfl⟩,
   ⟨_, _, rfl, rfl, rfl, rfl, rfl, rfl, rfl, rfl, rfl⟩,
   ⟨_, _, rfl, rfl, rfl, rfl, rfl, rfl, rfl, rfl, rfl⟩,
   ⟨_, _, _, rfl, rfl, rfl, rfl, rfl, rfl, rfl, rfl, by simp [Value.cells, Value.oneCell'], by decide, by decide, by decide⟩,
   ⟨_, _, rfl, rfl, rfl, rfl, rfl, rfl⟩,
   ⟨_, _, rfl, rfl, rfl, rfl, rfl, rfl⟩,
   ⟨_, _, rfl, rfl, rfl, rfl, rfl, rfl⟩,
   ⟨_, _, rfl, rfl, rfl, rfl, rfl, rfl⟩,
   ⟨_, _, rfl, rfl, rfl, rfl, rfl, rfl⟩,
   ⟨_, _, rfl, rfl, rfl, rfl, rfl, rfl⟩,
   ⟨_, _, rfl, rfl, rfl, rfl, rfl, rfl⟩,
   ⟨_, _, rfl, rfl, rfl, rfl, rfl, rfl⟩,
   ⟨_, _, rfl, rfl, rfl, rfl, rfl, rfl⟩,
   ⟨_, _, rfl, rfl, rfl, rfl, rfl, rfl⟩,
   ⟨_, _, rfl, rfl, rfl, rfl, rfl, rfl⟩,
   ⟨_, _, rfl, rfl, rfl, rfl, rfl, rfl⟩,
   ⟨_, _, rfl, rfl, rfl, rfl, rfl, rfl⟩,
   ⟨_, _, rfl, rfl, rfl, rfl, rfl, rfl⟩,
   ⟨_, _, rfl, rfl, rfl, rfl, rfl, rfl⟩,
   ⟨_, _, rfl, rfl, rfl, rfl, rfl, rfl⟩,
   ⟨_, _, rfl, rfl, rfl, rfl, rfl, rfl⟩,
   ⟨_, _, rfl, rfl, rfl, rfl, rfl, rfl⟩,
   ⟨_, _, rfl, rfl, rfl, rfl, rfl, rfl⟩,
   ⟨_, _, rfl, rfl, rfl, rfl, rfl, rfl⟩,
   ⟨_, _, rfl, rfl, rfl, rfl, rfl, rfl⟩,
   ⟨_, _, rfl, rfl, rfl, rfl, rfl, rfl⟩,
   ⟨_, _, rfl, rfl, rfl, rfl, rfl, rfl⟩,
   ⟨_, _, rfl, rfl, rfl, rfl, rfl, rfl⟩,
   ⟨_, _, rfl, rfl, rfl, rfl, rfl, rfl⟩,
   ⟨_, _, rfl, rfl, rfl, rfl, rfl, rfl⟩,
   ⟨_, _, rfl, rfl, rfl, rfl, rfl, rfl⟩,
   ⟨_, _, rfl, rfl, rfl, rfl, rfl, rfl⟩,
   ⟨_, _, rfl, rfl, rfl, rfl, rfl, rfl⟩,
   ⟨_, _, rfl, rfl, rfl, rfl, rfl, rfl⟩,
   ⟨_, _, rfl, rfl, rfl, rfl, rfl, rfl⟩,
   ⟨_, _, rfl, rfl, rfl, rfl, rfl, rfl⟩,
   ⟨_, _, rfl, rfl, rfl, rfl, rfl, rfl, rfl, rfl, rfl⟩,
   ⟨_, _, rfl, rfl, rfl, rfl, rfl, rfl, rfl, rfl, rfl⟩,
   ⟨_, _, rfl, rfl, rfl, rfl, rfl, rfl⟩,
   ⟨_, _, rfl, rfl, rfl, rfl, rfl, rfl⟩,
   ⟨_, _, rfl, rfl, rfl, rfl, rfl, rfl⟩,
   ⟨_, _, rfl, rfl, rfl, rfl, rfl, rfl⟩,
   ⟨_, _, rfl, rfl, rfl, rfl, rfl, rfl⟩,
   ⟨_, _, rfl, rfl, rfl, rfl, rfl, rfl⟩,
   ⟨_, _, rfl, rfl, rfl, rfl, rfl, rfl⟩,
   ⟨_, _, _, rfl, rfl, rfl, rfl, rfl, rfl, rfl, rfl, by simp [Value.cells, Value.oneCell'], by decide, by decide, by decide⟩,
   ⟨_, _, rfl, rfl, rfl, rfl, rfl, rfl, rfl, rfl, rfl⟩,
   ⟨_, _, rfl, rfl, rfl, rfl, rfl, rfl⟩,
   ⟨_, _, rfl, rfl, rfl, rfl, rfl, rfl⟩,
   ⟨_, _, rfl, rfl, rfl, rfl, rfl, rfl⟩,
   ⟨_, _, rfl, rfl, rfl, rfl, rfl, rfl⟩,
   ⟨_, _, rfl, rfl, rfl, rfl, rfl, rfl⟩,
   ⟨_, _, rfl, rfl, rfl, rfl, rfl, rfl⟩,
   ⟨_, _, rfl, rfl, rfl, rfl, rfl, rfl⟩,
   ⟨_, _, rfl, rfl, rfl, rfl, rfl, rfl⟩,
   ⟨_, _, rfl, rfl, rfl, rfl, rfl, rfl⟩,
   ⟨_, _, rfl, rfl, rfl, rfl, rfl, rfl⟩,
   ⟨rfl, _, rfl, rfl, rfl⟩,
   ⟨_, _, _, rfl, rfl, rfl, rfl, rfl, rfl, rfl, rfl, by simp [Value.cells, Value.oneCell'], by decide, by decide, by decide⟩,
   ⟨_, _, rfl, rfl, rfl, rfl, rfl, rfl, rfl, rfl, rfl⟩,
   ⟨_, _, rfl, rfl, rfl, rfl, rfl, rfl, rfl, rfl, rfl⟩,
   ⟨_, _, rfl, rfl, rfl, rfl, rfl, rfl⟩,
   ⟨_, _, rfl, rfl, rfl, rfl, rfl, rfl⟩,
   ⟨_, _, rfl, rfl, rfl, rfl, rfl, rfl⟩,
   ⟨_, _, rfl, rfl, rfl, rfl, rfl, rfl⟩,
   ⟨_, _, rfl, rfl, rfl, rfl, rfl, rfl⟩,
   ⟨_, _, rfl, rfl, rfl, rfl, rfl, rfl⟩,
   ⟨_, _, rfl, rfl, rfl, rfl, rfl, rfl⟩,
   ⟨_, _, rfl, rfl, rfl, rfl, rfl, rfl⟩,
   ⟨_, _, rfl, rfl, rfl, rfl, rfl, rfl⟩,
   ⟨_, _, rfl, rfl, rfl, rfl, rfl, rfl⟩,
   ⟨_, _, rfl, rfl, rfl, rfl, rfl, rfl⟩,
   ⟨_, _, rfl, rfl, rfl, rfl, rfl, rfl⟩,
   ⟨_, _, rfl, rfl, rfl, rfl, rfl, rfl⟩,
   ⟨_, _, rfl, rfl, rfl, rfl, rfl, rfl⟩,
   ⟨_, _, rfl, rfl, rfl, rfl, rfl, rfl⟩,
   ⟨_, _, rfl, rfl, rfl, rfl, rfl, rfl⟩,
   ⟨_, _, rfl, rfl, rfl, rfl, rfl, rfl⟩,
   ⟨_, _, rfl, rfl, rfl, rfl, rfl, rfl⟩,
   ⟨_, _, rfl, rfl, rfl, rfl, rfl, rfl⟩,
   ⟨_, _, rfl, rfl, rfl, rfl, rfl, rfl⟩,
   ⟨_, _, rfl, rfl, rfl, rfl, rfl, rfl⟩,
   ⟨_, _, rfl, rfl, rfl, rfl, rfl, rfl⟩,
   ⟨_, _, rfl, rfl, rfl, rfl, rfl, rfl⟩,
   ⟨_, _, rfl, rfl, rfl, rfl, rfl, rfl⟩,
   ⟨_, _, _, rfl, rfl, rfl, rfl, rfl, rfl, rfl, rfl, by simp [Value.cells, Value.oneCell'], by decide, by decide, by decide⟩,
   ⟨_, _, rfl, rfl, rfl, rfl, rfl, rfl, rfl, rfl, rfl⟩,
   ⟨_, _, rfl, rfl, rfl, rfl, rfl, rfl, rfl, rfl, rfl⟩,
   ⟨_, _, _, rfl, rfl, rfl, rfl, rfl, rfl, rfl, rfl, by simp [Value.cells, Value.oneCell'], by decide, by decide, by decide⟩,
   ⟨_, _, _, rfl, rfl, rfl, rfl, rfl, rfl, rfl, rfl, by simp [Value.cells, Value.oneCell'], by decide, by decide, by decide⟩,
   ⟨_, _, rfl, rfl, rfl, rfl, rfl, rfl, rfl, rfl, rfl⟩,
   ⟨_, _, rfl, rfl, rfl, rfl, rfl, rfl, rfl, rfl, rfl⟩,
   ⟨_, _, rfl, rfl, rfl, rfl, rfl, rfl, rfl, rfl, rfl⟩,
   ⟨_, _, rfl, rfl, rfl, rfl, rfl, rfl, rfl, rfl, rfl⟩,
   ⟨_, _, rfl, rfl, rfl, rfl, rfl, rfl, rfl, rfl, rfl⟩,
   ⟨_, _, rfl, rfl, rfl, rfl, rfl, rfl, rfl, rfl, rfl⟩,
   ⟨_, _, rfl, rfl, rfl, rfl, rfl, rfl, rfl, rfl, rfl⟩,
   ⟨_, _, rfl, rfl, rfl, rfl, rfl, rfl, rfl, rfl, rfl⟩, trivial⟩
theorem mixed : Tryz.prog.follows .mixedOrders = true := by kernel_rfl
end Go.Proofs.YtkhnjmbgkakngaaGreatDoor
