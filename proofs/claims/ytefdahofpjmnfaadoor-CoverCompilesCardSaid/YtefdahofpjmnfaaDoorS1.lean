/- The seat: functions by name, the types that are used. No condition. -/
import Derived.Test.YtefdahofpjmnfaaDoorFpH
import Derived.Test.YtefdahofpjmnfaaDoorProg
import Derived.KernelRfl
set_option linter.unusedSimpArgs false
set_option linter.unusedVariables false
namespace Go.Proofs.YtefdahofpjmnfaaDoor
open Go Fp

abbrev n_main_main : Nat := 0
abbrev n_fuguelaw20_CoverCompiles : Nat := 3
abbrev n_fuguelaw20_CoverRuns : Nat := 4
abbrev n_fuguelaw20_CoverThin : Nat := 5
abbrev n_fugueref20_Pats : Nat := 6
abbrev n_fugueref20_Bodies : Nat := 7
abbrev n_cover_Compile : Nat := 8
abbrev n_pats_New : Nat := 9
abbrev n_fugueref20_Program : Nat := 10
abbrev n_fugueref20_Type : Nat := 11
abbrev n_fugueref20_Compile : Nat := 12
abbrev n_fugueref20_Datas : Nat := 13
abbrev n_fugueref18_Print : Nat := 14
abbrev n_fuguelaw20_lives : Nat := 15
abbrev n_fugueref20_Val : Nat := 16
abbrev n_fugueref20_Runs : Nat := 17
abbrev n_cover_First : Nat := 18
abbrev n_fugueref20_Bound : Nat := 19
abbrev n_fugueref01_SameValue : Nat := 20
abbrev n_fugueref20_Look : Nat := 21
abbrev n_cover_Useless : Nat := 22
abbrev n_fugueref20_pick : Nat := 23
abbrev n_fugueref14_Pattern : Nat := 24
abbrev n_cover_rows : Nat := 25
abbrev n_cover_Compile_1 : Nat := 26
abbrev n_slices_IndexFunc_apiPatapiPat : Nat := 27
abbrev n_cover_Compile_1_1 : Nat := 28
abbrev n_cover_open : Nat := 29
abbrev n_slices_Clone_apiCBindapiCBind : Nat := 30
abbrev n_core_Var : Nat := 31
abbrev n_cover_Compile_1_2 : Nat := 32
abbrev n_slices_Concat_stringstring : Nat := 33
abbrev n_cover_cons : Nat := 34
abbrev n_strconv_Itoa : Nat := 35
abbrev n_cover_forms : Nat := 36
abbrev n_cover_ofCon : Nat := 37
abbrev n_cover_ints : Nat := 38
abbrev n_cover_ofInt : Nat := 39
abbrev n_cover_ofNone : Nat := 40
abbrev n_slices_Concat_apiDataapiData : Nat := 41
abbrev n_kindof_Prelude : Nat := 42
abbrev n_fugueref14_World : Nat := 43
abbrev n_fugueref14_WorldType : Nat := 44
abbrev n_fugueref20_made : Nat := 45
abbrev n_fugueref20_Rows : Nat := 46
abbrev n_fugueref18_Few : Nat := 47
abbrev n_fugueref01_Decimal : Nat := 48
abbrev n_fugueref18_first : Nat := 49
abbrev n_fugueref18_second : Nat := 50
abbrev n_fugueref04_Print : Nat := 51
abbrev n_fugueref18_braced : Nat := 52
abbrev n_fugueref18_takes : Nat := 53
abbrev n_cover_Missing : Nat := 54
abbrev n_fugueref14_WorldFields : Nat := 55
abbrev n_fugueref20_look : Nat := 56
abbrev n_cover_First_1 : Nat := 57
abbrev n_cover_Takes : Nat := 58
abbrev n_cover_useful : Nat := 59
abbrev n_fugueref14_pick : Nat := 60
abbrev n_fugueref14_digit : Nat := 61
abbrev n_slices_Grow_stringstring : Nat := 62
abbrev n_pats_Cons_Con : Nat := 63
abbrev n_internal_strconv_Itoa : Nat := 64
abbrev n_cover_some_coverrowcoverrow : Nat := 65
abbrev n_cover_forms_1 : Nat := 66
abbrev n_cover_wilds : Nat := 67
abbrev n_slices_Concat_apiPatapiPat : Nat := 68
abbrev n_cover_ofCon_1 : Nat := 69
abbrev n_slices_Contains_intint : Nat := 70
abbrev n_cover_ofInt_1 : Nat := 71
abbrev n_slices_Grow_apiDataapiData : Nat := 72
abbrev n_kinds_Star : Nat := 73
abbrev n_fugueref14_given : Nat := 74
abbrev n_fugueref20_open : Nat := 75
abbrev n_fugueref20_let : Nat := 76
abbrev n_fugueref20_Cons : Nat := 77
abbrev n_fugueref20_digit : Nat := 78
abbrev n_fugueref20_Apart : Nat := 79
abbrev n_fugueref20_put : Nat := 80
abbrev n_fugueref20_Ints : Nat := 81
abbrev n_fugueref18_bracket : Nat := 82
abbrev n_fugueref04_Function : Nat := 83
abbrev n_fugueref04_bracket : Nat := 84
abbrev n_fugueref18_joined : Nat := 85
abbrev n_cover_missing : Nat := 86
abbrev n_slices_EqualFunc_apiPatapiValueapiPatapiValue : Nat := 87
abbrev n_cover_useful_1 : Nat := 88
abbrev n_slices_ContainsFunc_apiConapiCon : Nat := 89
abbrev n_cover_useful_2 : Nat := 90
abbrev n_slices_ContainsFunc_intint : Nat := 91
abbrev n_cover_useful_3 : Nat := 92
abbrev n_internal_strconv_FormatInt : Nat := 93
abbrev n_slices_Repeat_apiPatapiPat : Nat := 94
abbrev n_slices_Grow_apiPatapiPat : Nat := 95
abbrev n_slices_Index_intint : Nat := 96
abbrev n_fugueref20_apart : Nat := 97
abbrev n_cover_missing_1 : Nat := 98
abbrev n_slices_Max_intint : Nat := 99
abbrev n_slices_IndexFunc_apiConapiCon : Nat := 100
abbrev n_slices_IndexFunc_intint : Nat := 101
abbrev n_internal_strconv_small : Nat := 102
abbrev n_internal_strconv_numDigits : Nat := 103
abbrev n_internal_strconv_formatBase10 : Nat := 104
abbrev n_internal_strconv_formatBits : Nat := 105
abbrev n_math_bits_Mul : Nat := 106
abbrev n_internal_strconv_log10Pow2 : Nat := 107
abbrev n_math_bits_Len64 : Nat := 108
abbrev n_internal_strconv_bool2_int : Nat := 109
abbrev n_internal_strconv_isPowerOfTwo : Nat := 110
abbrev n_math_bits_TrailingZeros : Nat := 111
abbrev n_math_bits_Mul32 : Nat := 112
abbrev n_math_bits_Mul64 : Nat := 113
abbrev n_math_bits_TrailingZeros32 : Nat := 114
abbrev n_math_bits_TrailingZeros64 : Nat := 115
abbrev n_pats_Cons_Fields : Nat := 131

def tt : TT := [(1, .sc (.lit .nilFunc)), (2, .sc (.lit (.int .i64 0))), (3, .sc (.lit (.int .i64 0))), (4, .sc (.lit (.bool false))), (5, .sc (.lit (.int .u8 0))), (9, .sc (.lit (.string .empty))), (21, .sc (.lit (.int .i32 0))), (22, .sl 3 1), (23, .sl 64 10), (25, .sc (.lit .nilFunc)), (26, .sl 34 10), (27, .sc (.lit .nilFunc)), (28, .sl 30 4), (29, .st 4 [(0, 1), (1, 1), (2, 1), (3, 1)] [3, 3, 9, 28] [.lit (.int .i64 0), .lit (.int .i64 0), .lit (.string .empty), .nil]), (30, .st 4 [(0, 1), (1, 1), (2, 1), (3, 1)] [3, 3, 9, 28] [.lit (.int .i64 0), .lit (.int .i64 0), .lit (.string .empty), .nil]), (31, .sl 82 15), (32, .sl 95 14), (33, .st 10 [(0, 1), (1, 1), (2, 1), (3, 4), (7, 1), (8, 1), (9, 1)] [3, 3, 9, 30, 26, 31, 32] [.lit (.int .i64 0), .lit (.int .i64 0), .lit (.string .empty), .lit (.int .i64 0), .lit (.int .i64 0), .lit (.string .empty), .nil, .nil, .nil, .nil]), (34, .st 10 [(0, 1), (1, 1), (2, 1), (3, 4), (7, 1), (8, 1), (9, 1)] [3, 3, 9, 30, 26, 31, 32] [.lit (.int .i64 0), .lit (.int .i64 0), .lit (.string .empty), .lit (.int .i64 0), .lit (.int .i64 0), .lit (.string .empty), .nil, .nil, .nil, .nil]), (35, .sc (.lit .nilFunc)), (36, .sc (.lit (.pointer none))), (37, .sc (.lit .nilFunc)), (38, .sl 101 5), (39, .sl 210 6), (40, .sl 213 6), (41, .sl 220 33), (42, .st 4 [(0, 1), (1, 1), (2, 1), (3, 1)] [38, 39, 40, 41] [.nil, .nil, .nil, .nil]), (43, .st 4 [(0, 1), (1, 1), (2, 1), (3, 1)] [38, 39, 40, 41] [.nil, .nil, .nil, .nil]), (44, .sc (.lit .nilFunc)), (45, .sc (.lit .nilFunc)), (46, .sc (.lit .nilFunc)), (47, .sc (.lit .nilFunc)), (48, .sc (.lit .nilFunc)), (49, .sc (.lit .nilFunc)), (50, .sc (.lit .nilFunc)), (51, .sl 53 4), (52, .st 4 [(0, 1), (1, 1), (2, 1), (3, 1)] [3, 3, 9, 51] [.lit (.int .i64 0), .lit (.int .i64 0), .lit (.string .empty), .nil]), (53, .st 4 [(0, 1), (1, 1), (2, 1), (3, 1)] [3, 3, 9, 51] [.lit (.int .i64 0), .lit (.int .i64 0), .lit (.string .empty), .nil]), (55, .sc (.lit .nilFunc)), (56, .sl 60 5), (58, .sc (.lit .nilFunc)), (59, .st 5 [(0, 1), (1, 4)] [9, 53] [.lit (.string .empty), .lit (.int .i64 0), .lit (.int .i64 0), .lit (.string .empty), .nil]), (60, .st 5 [(0, 1), (1, 4)] [9, 53] [.lit (.string .empty), .lit (.int .i64 0), .lit (.int .i64 0), .lit (.string .empty), .nil]), (61, .sc (.lit .nilFunc)), (62, .sc (.lit .nilFunc)), (63, .st 10 [(0, 1), (1, 1), (2, 1), (3, 1), (4, 1), (5, 4), (9, 1)] [3, 3, 3, 9, 23, 30, 28] [.lit (.int .i64 0), .lit (.int .i64 0), .lit (.int .i64 0), .lit (.string .empty), .nil, .lit (.int .i64 0), .lit (.int .i64 0), .lit (.string .empty), .nil, .nil]), (64, .st 10 [(0, 1), (1, 1), (2, 1), (3, 1), (4, 1), (5, 4), (9, 1)] [3, 3, 3, 9, 23, 30, 28] [.lit (.int .i64 0), .lit (.int .i64 0), .lit (.int .i64 0), .lit (.string .empty), .nil, .lit (.int .i64 0), .lit (.int .i64 0), .lit (.string .empty), .nil, .nil]), (65, .sc (.lit .nilFunc)), (66, .sc (.lit .nilFunc)), (67, .sc (.lit .nilFunc)), (68, .sc (.lit .nilFunc)), (69, .sc (.lit .nilFunc)), (71, .sc (.lit .nilFunc)), (72, .sl 75 12), (73, .sc (.lit .nilFunc)), (74, .st 12 [(0, 1), (1, 1), (2, 10)] [23, 31, 34] [.nil, .nil, .lit (.int .i64 0), .lit (.int .i64 0), .lit (.string .empty), .lit (.int .i64 0), .lit (.int .i64 0), .lit (.string .empty), .nil, .nil, .nil, .nil]), (75, .st 12 [(0, 1), (1, 1), (2, 10)] [23, 31, 34] [.nil, .nil, .lit (.int .i64 0), .lit (.int .i64 0), .lit (.string .empty), .lit (.int .i64 0), .lit (.int .i64 0), .lit (.string .empty), .nil, .nil, .nil, .nil]), (76, .sc (.lit .nilFunc)), (77, .sl 9 1), (78, .sc (.lit .nilFunc)), (79, .sc (.lit .nilFunc)), (80, .sc (.lit .nilFunc)), (81, .st 15 [(0, 1), (1, 4), (5, 10)] [9, 30, 34] [.lit (.string .empty), .lit (.int .i64 0), .lit (.int .i64 0), .lit (.string .empty), .nil, .lit (.int .i64 0), .lit (.int .i64 0), .lit (.string .empty), .lit (.int .i64 0), .lit (.int .i64 0), .lit (.string .empty), .nil, .nil, .nil, .nil]), (82, .st 15 [(0, 1), (1, 4), (5, 10)] [9, 30, 34] [.lit (.string .empty), .lit (.int .i64 0), .lit (.int .i64 0), .lit (.string .empty), .nil, .lit (.int .i64 0), .lit (.int .i64 0), .lit (.string .empty), .lit (.int .i64 0), .lit (.int .i64 0), .lit (.string .empty), .nil, .nil, .nil, .nil]), (83, .sc (.lit .nilFunc)), (84, .sc (.lit .nilFunc)), (85, .sc (.lit .nilFunc)), (86, .sl 89 3), (87, .sc (.lit .nilFunc)), (88, .st 3 [(0, 1), (1, 1), (2, 1)] [9, 3, 28] [.lit (.string .empty), .lit (.int .i64 0), .nil]), (89, .st 3 [(0, 1), (1, 1), (2, 1)] [9, 3, 28] [.lit (.string .empty), .lit (.int .i64 0), .nil]), (90, .sc (.lit .nilFunc)), (91, .sc (.lit .nilFunc)), (92, .sc (.lit .nilFunc)), (93, .sc (.lit .nilFunc)), (94, .st 14 [(0, 1), (1, 1), (2, 1), (3, 1), (4, 10)] [3, 3, 9, 77, 34] [.lit (.int .i64 0), .lit (.int .i64 0), .lit (.string .empty), .nil, .lit (.int .i64 0), .lit (.int .i64 0), .lit (.string .empty), .lit (.int .i64 0), .lit (.int .i64 0), .lit (.string .empty), .nil, .nil, .nil, .nil]), (95, .st 14 [(0, 1), (1, 1), (2, 1), (3, 1), (4, 10)] [3, 3, 9, 77, 34] [.lit (.int .i64 0), .lit (.int .i64 0), .lit (.string .empty), .nil, .lit (.int .i64 0), .lit (.int .i64 0), .lit (.string .empty), .lit (.int .i64 0), .lit (.int .i64 0), .lit (.string .empty), .nil, .nil, .nil, .nil]), (96, .sc (.lit .nilFunc)), (97, .sc (.lit .nilFunc)), (98, .sc (.lit .nilFunc)), (99, .sl 134 1), (100, .st 5 [(0, 1), (1, 1), (2, 1), (3, 1), (4, 1)] [9, 3, 77, 99, 86] [.lit (.string .empty), .lit (.int .i64 0), .nil, .nil, .nil]), (101, .st 5 [(0, 1), (1, 1), (2, 1), (3, 1), (4, 1)] [9, 3, 77, 99, 86] [.lit (.string .empty), .lit (.int .i64 0), .nil, .nil, .nil]), (102, .mp 9 106), (103, .st 2 [(0, 1), (1, 1)] [38, 102] [.nil, .lit (.map none)]), (104, .st 2 [(0, 1), (1, 1)] [38, 102] [.nil, .lit (.map none)]), (105, .st 2 [(0, 1), (1, 1)] [3, 3] [.lit (.int .i64 0), .lit (.int .i64 0)]), (106, .st 2 [(0, 1), (1, 1)] [3, 3] [.lit (.int .i64 0), .lit (.int .i64 0)]), (107, .sc (.lit .nilFunc)), (108, .sl 139 3), (109, .sc (.lit .nilFunc)), (110, .sc (.lit .nilFunc)), (111, .sc (.lit .nilFunc)), (112, .sc (.lit .nilFunc)), (113, .sc (.lit .nilFunc)), (115, .sc (.lit .nilFunc)), (116, .sl 22 1), (118, .sc (.lit .nilFunc)), (119, .sc (.lit .nilFunc)), (120, .sc (.lit .nilFunc)), (121, .sl 77 1), (122, .sc (.lit .nilFunc)), (124, .sc (.lit .nilFunc)), (125, .sc (.lit .nilFunc)), (127, .sc (.lit .nilFunc)), (128, .sc (.lit .nilFunc)), (129, .sc (.lit .nilFunc)), (130, .sc (.lit .nilFunc)), (131, .sl 38 1), (132, .sc (.lit .nilFunc)), (133, .st 1 [(0, 1)] [99] [.nil]), (134, .st 1 [(0, 1)] [99] [.nil]), (135, .sc (.lit .nilFunc)), (136, .sc (.lit .nilFunc)), (137, .sl 163 6), (138, .st 3 [(0, 1), (1, 1), (2, 1)] [23, 137, 3] [.nil, .nil, .lit (.int .i64 0)]), (139, .st 3 [(0, 1), (1, 1), (2, 1)] [23, 137, 3] [.nil, .nil, .lit (.int .i64 0)]), (140, .sc (.lit .nilFunc)), (142, .sc (.lit .nilFunc)), (143, .sc (.lit .nilFunc)), (144, .sc (.lit .nilFunc)), (145, .sc (.lit .nilFunc)), (146, .sl 5 1), (147, .sc (.lit .nilFunc)), (148, .sc (.lit .nilFunc)), (149, .sc (.lit .nilFunc)), (150, .sc (.lit .nilFunc)), (151, .sc (.lit .nilFunc)), (152, .sc (.lit .nilFunc)), (153, .sc (.lit .nilFunc)), (154, .sc (.lit .nilFunc)), (155, .sc (.lit .nilFunc)), (156, .sc (.lit .nilFunc)), (158, .sc (.lit .nilFunc)), (160, .sc (.lit .nilFunc)), (161, .sl 23 1), (162, .st 6 [(0, 1), (1, 4), (5, 1)] [9, 30, 9] [.lit (.string .empty), .lit (.int .i64 0), .lit (.int .i64 0), .lit (.string .empty), .nil, .lit (.string .empty)]), (163, .st 6 [(0, 1), (1, 4), (5, 1)] [9, 30, 9] [.lit (.string .empty), .lit (.int .i64 0), .lit (.int .i64 0), .lit (.string .empty), .nil, .lit (.string .empty)]), (165, .sc (.lit .nilFunc)), (166, .sc (.lit .nilFunc)), (167, .sc (.lit .nilFunc)), (168, .sc (.lit .nilFunc)), (169, .sc (.lit .nilFunc)), (171, .sc (.lit (.int .u64 0))), (172, .sc (.lit .nilFunc)), (173, .sc (.lit .nilFunc)), (175, .sc (.lit .nilFunc)), (176, .sc (.lit (.int .u64 0))), (178, .sc (.lit .nilFunc)), (179, .sc (.lit .nilFunc)), (180, .sc (.lit .nilFunc)), (182, .sc (.lit (.int .u32 0))), (184, .sc (.lit .nilFunc)), (186, .sc (.lit .nilFunc)), (188, .sc (.lit .nilFunc)), (189, .sc (.lit .nilFunc)), (192, .sc (.lit .nilFunc)), (198, .sc (.lit .nilFunc)), (202, .sc (.lit (.pointer none))), (207, .sc (.lit .nilFunc)), (208, .sl 224 9), (209, .st 6 [(0, 1), (1, 1), (2, 1), (3, 1), (4, 1), (5, 1)] [9, 3, 9, 134, 77, 208] [.lit (.string .empty), .lit (.int .i64 0), .lit (.string .empty), .nil, .nil, .nil]), (210, .st 6 [(0, 1), (1, 1), (2, 1), (3, 1), (4, 1), (5, 1)] [9, 3, 9, 134, 77, 208] [.lit (.string .empty), .lit (.int .i64 0), .lit (.string .empty), .nil, .nil, .nil]), (211, .sl 226 5), (212, .st 6 [(0, 1), (1, 1), (2, 1), (3, 1), (4, 1), (5, 1)] [9, 3, 9, 77, 211, 41] [.lit (.string .empty), .lit (.int .i64 0), .lit (.string .empty), .nil, .nil, .nil]), (213, .st 6 [(0, 1), (1, 1), (2, 1), (3, 1), (4, 1), (5, 1)] [9, 3, 9, 77, 211, 41] [.lit (.string .empty), .lit (.int .i64 0), .lit (.string .empty), .nil, .nil, .nil]), (214, .st 7 [(0, 1), (1, 1), (2, 1), (3, 4)] [77, 99, 211, 30] [.nil, .nil, .nil, .lit (.int .i64 0), .lit (.int .i64 0), .lit (.string .empty), .nil]), (215, .st 7 [(0, 1), (1, 1), (2, 1), (3, 4)] [77, 99, 211, 30] [.nil, .nil, .nil, .lit (.int .i64 0), .lit (.int .i64 0), .lit (.string .empty), .nil]), (216, .sl 218 15), (217, .st 15 [(0, 1), (1, 1), (2, 1), (3, 1), (4, 1), (5, 1), (6, 1), (7, 7), (14, 1)] [3, 3, 3, 9, 216, 23, 41, 215, 28] [.lit (.int .i64 0), .lit (.int .i64 0), .lit (.int .i64 0), .lit (.string .empty), .nil, .nil, .nil, .nil, .nil, .nil, .lit (.int .i64 0), .lit (.int .i64 0), .lit (.string .empty), .nil, .nil]), (218, .st 15 [(0, 1), (1, 1), (2, 1), (3, 1), (4, 1), (5, 1), (6, 1), (7, 7), (14, 1)] [3, 3, 3, 9, 216, 23, 41, 215, 28] [.lit (.int .i64 0), .lit (.int .i64 0), .lit (.int .i64 0), .lit (.string .empty), .nil, .nil, .nil, .nil, .nil, .nil, .lit (.int .i64 0), .lit (.int .i64 0), .lit (.string .empty), .nil, .nil]), (219, .st 33 [(0, 1), (1, 1), (2, 1), (3, 7), (10, 15), (25, 7), (32, 1)] [9, 3, 4, 215, 218, 215, 3] [.lit (.string .empty), .lit (.int .i64 0), .lit (.bool false), .nil, .nil, .nil, .lit (.int .i64 0), .lit (.int .i64 0), .lit (.string .empty), .nil, .lit (.int .i64 0), .lit (.int .i64 0), .lit (.int .i64 0), .lit (.string .empty), .nil, .nil, .nil, .nil, .nil, .nil, .lit (.int .i64 0), .lit (.int .i64 0), .lit (.string .empty), .nil, .nil, .nil, .nil, .nil, .lit (.int .i64 0), .lit (.int .i64 0), .lit (.string .empty), .nil, .lit (.int .i64 0)]), (220, .st 33 [(0, 1), (1, 1), (2, 1), (3, 7), (10, 15), (25, 7), (32, 1)] [9, 3, 4, 215, 218, 215, 3] [.lit (.string .empty), .lit (.int .i64 0), .lit (.bool false), .nil, .nil, .nil, .lit (.int .i64 0), .lit (.int .i64 0), .lit (.string .empty), .nil, .lit (.int .i64 0), .lit (.int .i64 0), .lit (.int .i64 0), .lit (.string .empty), .nil, .nil, .nil, .nil, .nil, .nil, .lit (.int .i64 0), .lit (.int .i64 0), .lit (.string .empty), .nil, .nil, .nil, .nil, .nil, .lit (.int .i64 0), .lit (.int .i64 0), .lit (.string .empty), .nil, .lit (.int .i64 0)]), (222, .sl 228 8), (223, .st 9 [(0, 1), (1, 1), (2, 7)] [9, 3, 215] [.lit (.string .empty), .lit (.int .i64 0), .nil, .nil, .nil, .lit (.int .i64 0), .lit (.int .i64 0), .lit (.string .empty), .nil]), (224, .st 9 [(0, 1), (1, 1), (2, 7)] [9, 3, 215] [.lit (.string .empty), .lit (.int .i64 0), .nil, .nil, .nil, .lit (.int .i64 0), .lit (.int .i64 0), .lit (.string .empty), .nil]), (225, .st 5 [(0, 1), (1, 4)] [9, 30] [.lit (.string .empty), .lit (.int .i64 0), .lit (.int .i64 0), .lit (.string .empty), .nil]), (226, .st 5 [(0, 1), (1, 4)] [9, 30] [.lit (.string .empty), .lit (.int .i64 0), .lit (.int .i64 0), .lit (.string .empty), .nil]), (227, .st 8 [(0, 1), (1, 1), (2, 1), (3, 1), (4, 4)] [9, 3, 3, 3, 30] [.lit (.string .empty), .lit (.int .i64 0), .lit (.int .i64 0), .lit (.int .i64 0), .lit (.int .i64 0), .lit (.int .i64 0), .lit (.string .empty), .nil]), (228, .st 8 [(0, 1), (1, 1), (2, 1), (3, 1), (4, 4)] [9, 3, 3, 3, 30] [.lit (.string .empty), .lit (.int .i64 0), .lit (.int .i64 0), .lit (.int .i64 0), .lit (.int .i64 0), .lit (.int .i64 0), .lit (.string .empty), .nil])]
set_option maxRecDepth 100000 in
theorem ttok : TTok Tryd.prog tt :=
  ⟨⟨_, _, rfl, rfl, rfl, rfl, rfl, rfl⟩,
   ⟨_, _, rfl, rfl, rfl, rfl, rfl, rfl⟩,
   ⟨_, _, rfl, rfl, rfl, rfl, rfl, rfl⟩,
   ⟨_, _, rfl, rfl, rfl, rfl, rfl, rfl⟩,
   ⟨_, _, rfl, rfl, rfl, rfl, rfl, rfl⟩,
   ⟨_, _, rfl, rfl, rfl, rfl, rfl, rfl⟩,
   ⟨_, _, rfl, rfl, rfl, rfl, rfl, rfl⟩,
   ⟨_, _, _, rfl, rfl, rfl, rfl, rfl, rfl, rfl, rfl, by simp [Value.cells, Value.oneCell'], by decide, by decide, by decide⟩,
   ⟨_, _, _, rfl, rfl, rfl, rfl, rfl, rfl, rfl, rfl, by simp [Value.cells, Value.oneCell'], by decide, by decide, by decide⟩,
   ⟨_, _, rfl, rfl, rfl, rfl, rfl, rfl⟩,
   ⟨_, _, _, rfl, rfl, rfl, rfl, rfl, rfl, rfl, rfl, by simp [Value.cells, Value.oneCell'], by decide, by decide, by decide⟩,
   ⟨_, _, rfl, rfl, rfl, rfl, rfl, rfl⟩,
   ⟨_, _, _, rfl, rfl, rfl, rfl, rfl, rfl, rfl, rfl, by simp [Value.cells, Value.oneCell'], by decide, by decide, by decide⟩,
   ⟨_, _, rfl, rfl, rfl, rfl, rfl, rfl, rfl, rfl, rfl⟩,
   ⟨_, _, rfl, rfl, rfl, rfl, rfl, rfl, rfl, rfl, rfl⟩,
   ⟨_, _, _, rfl, rfl, rfl, rfl, rfl, rfl, rfl, rfl, by simp [Value.cells, Value.oneCell'], by decide, by decide, by decide⟩,
   ⟨_, _, _, rfl, rfl, rfl, rfl, rfl, rfl, rfl, rfl, by simp [Value.cells, Value.oneCell'], by decide, by decide, by decide⟩,
   ⟨_, _, rfl, rfl, rfl, rfl, rfl, rfl, rfl, rfl, rfl⟩,
   ⟨_, _, rfl, rfl, rfl, rfl, rfl, rfl, rfl, rfl, rfl⟩,
   ⟨_, _, rfl, rfl, rfl, rfl, rfl, rfl⟩,
   ⟨_, _, rfl, rfl, rfl, rfl, rfl, rfl⟩,
   ⟨_, _, rfl, rfl, rfl, rfl, rfl, rfl⟩,
   ⟨_, _, _, rfl, rfl, rfl, rfl, rfl, rfl, rfl, rfl, by simp [Value.cells, Value.oneCell'], by decide, by decide, by decide⟩,
   ⟨_, _, _, rfl, rfl, rfl, rfl, rfl, rfl, rfl, rfl, by simp [Value.cells, Value.oneCell'], by decide, by decide, by decide⟩,
   ⟨_, _, _, rfl, rfl, rfl, rfl, rfl, rfl, rfl, rfl, by simp [Value.cells, Value.oneCell'], by decide, by decide, by decide⟩,
   ⟨_, _, _, rfl, rfl, rfl, rfl, rfl, rfl, rfl, rfl, by simp [Value.cells, Value.oneCell'], by decide, by decide, by decide⟩,
   ⟨_, _, rfl, rfl, rfl, rfl, rfl, rfl, rfl, rfl, rfl⟩,
   ⟨_, _, rfl, rfl, rfl, rfl, rfl, rfl, rfl, rfl, rfl⟩,
   ⟨_, _, rfl, rfl, rfl, rfl, rfl, rfl⟩,
   ⟨_, _, rfl, rfl, rfl, rfl, rfl, rfl⟩,
   ⟨_, _, rfl, rfl, rfl, rfl, rfl, rfl⟩,
   ⟨_, _, rfl, rfl, rfl, rfl, rfl, rfl⟩,
   ⟨_, _, rfl, rfl, rfl, rfl, rfl, rfl⟩,
   ⟨_, _, rfl, rfl, rfl, rfl, rfl, rfl⟩,
   ⟨_, _, rfl, rfl, rfl, rfl, rfl, rfl⟩,
   ⟨_, _, _, rfl, rfl, rfl, rfl, rfl, rfl, rfl, rfl, by simp [Value.cells, Value.oneCell'], by decide, by decide, by decide⟩,
   ⟨_, _, rfl, rfl, rfl, rfl, rfl, rfl, rfl, rfl, rfl⟩,
   ⟨_, _, rfl, rfl, rfl, rfl, rfl, rfl, rfl, rfl, rfl⟩,
   ⟨_, _, rfl, rfl, rfl, rfl, rfl, rfl⟩,
   ⟨_, _, _, rfl, rfl, rfl, rfl, rfl, rfl, rfl, rfl, by simp [Value.cells, Value.oneCell'], by decide, by decide, by decide⟩,
   ⟨_, _, rfl, rfl, rfl, rfl, rfl, rfl⟩,
   ⟨_, _, rfl, rfl, rfl, rfl, rfl, rfl, rfl, rfl, rfl⟩,
   ⟨_, _, rfl, rfl, rfl, rfl, rfl, rfl, rfl, rfl, rfl⟩,
   ⟨_, _, rfl, rfl, rfl, rfl, rfl, rfl⟩,
   ⟨_, _, rfl, rfl, rfl, rfl, rfl, rfl⟩,
   ⟨_, _, rfl, rfl, rfl, rfl, rfl, rfl, rfl, rfl, rfl⟩,
   ⟨_, _, rfl, rfl, rfl, rfl, rfl, rfl, rfl, rfl, rfl⟩,
   ⟨_, _, rfl, rfl, rfl, rfl, rfl, rfl⟩,
   ⟨_, _, rfl, rfl, rfl, rfl, rfl, rfl⟩,
   ⟨_, _, rfl, rfl, rfl, rfl, rfl, rfl⟩,
   ⟨_, _, rfl, rfl, rfl, rfl, rfl, rfl⟩,
   ⟨_, _, rfl, rfl, rfl, rfl, rfl, rfl⟩,
   ⟨_, _, rfl, rfl, rfl, rfl, rfl, rfl⟩,
   ⟨_, _, _, rfl, rfl, rfl, rfl, rfl, rfl, rfl, rfl, by simp [Value.cells, Value.oneCell'], by decide, by decide, by decide⟩,
   ⟨_, _, rfl, rfl, rfl, rfl, rfl, rfl⟩,
   ⟨_, _, rfl, rfl, rfl, rfl, rfl, rfl, rfl, rfl, rfl⟩,
   ⟨_, _, rfl, rfl, rfl, rfl, rfl, rfl, rfl, rfl, rfl⟩,
   ⟨_, _, rfl, rfl, rfl, rfl, rfl, rfl⟩,
   ⟨_, _, _, rfl, rfl, rfl, rfl, rfl, rfl, rfl, rfl, by simp [Value.cells, Value.oneCell'], by decide, by decide, by decide⟩,
   ⟨_, _, rfl, rfl, rfl, rfl, rfl, rfl⟩,
   ⟨_, _, rfl, rfl, rfl, rfl, rfl, rfl⟩,
   ⟨_, _, rfl, rfl, rfl, rfl, rfl, rfl⟩,
   ⟨_, _, rfl, rfl, rfl, rfl, rfl, rfl, rfl, rfl, rfl⟩,
   ⟨_, _, rfl, rfl, rfl, rfl, rfl, rfl, rfl, rfl, rfl⟩,
   ⟨_, _, rfl, rfl, rfl, rfl, rfl, rfl⟩,
   ⟨_, _, rfl, rfl, rfl, rfl, rfl, rfl⟩,
   ⟨_, _, rfl, rfl, rfl, rfl, rfl, rfl⟩,
   ⟨_, _, _, rfl, rfl, rfl, rfl, rfl, rfl, rfl, rfl, by simp [Value.cells, Value.oneCell'], by decide, by decide, by decide⟩,
   ⟨_, _, rfl, rfl, rfl, rfl, rfl, rfl⟩,
   ⟨_, _, rfl, rfl, rfl, rfl, rfl, rfl, rfl, rfl, rfl⟩,
   ⟨_, _, rfl, rfl, rfl, rfl, rfl, rfl, rfl, rfl, rfl⟩,
   ⟨_, _, rfl, rfl, rfl, rfl, rfl, rfl⟩,
   ⟨_, _, rfl, rfl, rfl, rfl, rfl, rfl⟩,
   ⟨_, _, rfl, rfl, rfl, rfl, rfl, rfl⟩,
   ⟨_, _, rfl, rfl, rfl, rfl, rfl, rfl⟩,
   ⟨_, _, rfl, rfl, rfl, rfl, rfl, rfl, rfl, rfl, rfl⟩,
   ⟨_, _, rfl, rfl, rfl, rfl, rfl, rfl, rfl, rfl, rfl⟩,
   ⟨_, _, rfl, rfl, rfl, rfl, rfl, rfl⟩,
   ⟨_, _, rfl, rfl, rfl, rfl, rfl, rfl⟩,
   ⟨_, _, rfl, rfl, rfl, rfl, rfl, rfl⟩,
   ⟨_, _, _, rfl, rfl, rfl, rfl, rfl, rfl, rfl, rfl, by simp [Value.cells, Value.oneCell'], by decide, by decide, by decide⟩,
   ⟨_, _, rfl, rfl, rfl, rfl, rfl, rfl, rfl, rfl, rfl⟩,
   ⟨_, _, rfl, rfl, rfl, rfl, rfl, rfl, rfl, rfl, rfl⟩,
   ⟨rfl, _, rfl, rfl, rfl⟩,
   ⟨_, _, rfl, rfl, rfl, rfl, rfl, rfl, rfl, rfl, rfl⟩,
   ⟨_, _, rfl, rfl, rfl, rfl, rfl, rfl, rfl, rfl, rfl⟩,
   ⟨_, _, rfl, rfl, rfl, rfl, rfl, rfl, rfl, rfl, rfl⟩,
   ⟨_, _, rfl, rfl, rfl, rfl, rfl, rfl, rfl, rfl, rfl⟩,
   ⟨_, _, rfl, rfl, rfl, rfl, rfl, rfl⟩,
   ⟨_, _, _, rfl, rfl, rfl, rfl, rfl, rfl, rfl, rfl, by simp [Value.cells, Value.oneCell'], by decide, by decide, by decide⟩,
   ⟨_, _, rfl, rfl, rfl, rfl, rfl, rfl⟩,
   ⟨_, _, rfl, rfl, rfl, rfl, rfl, rfl⟩,
   ⟨_, _, rfl, rfl, rfl, rfl, rfl, rfl⟩,
   ⟨_, _, rfl, rfl, rfl, rfl, rfl, rfl⟩,
   ⟨_, _, rfl, rfl, rfl, rfl, rfl, rfl⟩,
   ⟨_, _, rfl, rfl, rfl, rfl, rfl, rfl⟩,
   ⟨_, _, _, rfl, rfl, rfl, rfl, rfl, rfl, rfl, rfl, by simp [Value.cells, Value.oneCell'], by decide, by decide, by decide⟩,
   ⟨_, _, rfl, rfl, rfl, rfl, rfl, rfl⟩,
   ⟨_, _, rfl, rfl, rfl, rfl, rfl, rfl⟩,
   ⟨_, _, rfl, rfl, rfl, rfl, rfl, rfl⟩,
   ⟨_, _, _, rfl, rfl, rfl, rfl, rfl, rfl, rfl, rfl, by simp [Value.cells, Value.oneCell'], by decide, by decide, by decide⟩,
   ⟨_, _, rfl, rfl, rfl, rfl, rfl, rfl⟩,
   ⟨_, _, rfl, rfl, rfl, rfl, rfl, rfl⟩,
   ⟨_, _, rfl, rfl, rfl, rfl, rfl, rfl⟩,
   ⟨_, _, rfl, rfl, rfl, rfl, rfl, rfl⟩,
   ⟨_, _, rfl, rfl, rfl, rfl, rfl, rfl⟩,
   ⟨_, _, rfl, rfl, rfl, rfl, rfl, rfl⟩,
   ⟨_, _, rfl, rfl, rfl, rfl, rfl, rfl⟩,
   ⟨_, _, _, rfl, rfl, rfl, rfl, rfl, rfl, rfl, rfl, by simp [Value.cells, Value.oneCell'], by decide, by decide, by decide⟩,
   ⟨_, _, rfl, rfl, rfl, rfl, rfl, rfl⟩,
   ⟨_, _, rfl, rfl, rfl, rfl, rfl, rfl, rfl, rfl, rfl⟩,
   ⟨_, _, rfl, rfl, rfl, rfl, rfl, rfl, rfl, rfl, rfl⟩,
   ⟨_, _, rfl, rfl, rfl, rfl, rfl, rfl⟩,
   ⟨_, _, rfl, rfl, rfl, rfl, rfl, rfl⟩,
   ⟨_, _, _, rfl, rfl, rfl, rfl, rfl, rfl, rfl, rfl, by simp [Value.cells, Value.oneCell'], by decide, by decide, by decide⟩,
   ⟨_, _, rfl, rfl, rfl, rfl, rfl, rfl, rfl, rfl, rfl⟩,
   ⟨_, _, rfl, rfl, rfl, rfl, rfl, rfl, rfl, rfl, rfl⟩,
   ⟨_, _, rfl, rfl, rfl, rfl, rfl, rfl⟩,
   ⟨_, _, rfl, rfl, rfl, rfl, rfl, rfl⟩,
   ⟨_, _, rfl, rfl, rfl, rfl, rfl, rfl⟩,
   ⟨_, _, rfl, rfl, rfl, rfl, rfl, rfl⟩,
   ⟨_, _, rfl, rfl, rfl, rfl, rfl, rfl⟩,
   ⟨_, _, _, rfl, rfl, rfl, rfl, rfl, rfl, rfl, rfl, by simp [Value.cells, Value.oneCell'], by decide, by decide, by decide⟩,
   ⟨_, _, rfl, rfl, rfl, rfl, rfl, rfl⟩,
   ⟨_, _, rfl, rfl, rfl, rfl, rfl, rfl⟩,
   ⟨_, _, rfl, rfl, rfl, rfl, rfl, rfl⟩,
   ⟨_, _, rfl, rfl, rfl, rfl, rfl, rfl⟩,
   ⟨_, _, rfl, rfl, rfl, rfl, rfl, rfl⟩,
   ⟨_, _, rfl, rfl, rfl, rfl, rfl, rfl⟩,
   ⟨_, _, rfl, rfl, rfl, rfl, rfl, rfl⟩,
   ⟨_, _, rfl, rfl, rfl, rfl, rfl, rfl⟩,
   ⟨_, _, rfl, rfl, rfl, rfl, rfl, rfl⟩,
   ⟨_, _, rfl, rfl, rfl, rfl, rfl, rfl⟩,
   ⟨_, _, rfl, rfl, rfl, rfl, rfl, rfl⟩,
   ⟨_, _, rfl, rfl, rfl, rfl, rfl, rfl⟩,
   ⟨_, _, _, rfl, rfl, rfl, rfl, rfl, rfl, rfl, rfl, by simp [Value.cells, Value.oneCell'], by decide, by decide, by decide⟩,
   ⟨_, _, rfl, rfl, rfl, rfl, rfl, rfl, rfl, rfl, rfl⟩,
   ⟨_, _, rfl, rfl, rfl, rfl, rfl, rfl, rfl, rfl, rfl⟩,
   ⟨_, _, rfl, rfl, rfl, rfl, rfl, rfl⟩,
   ⟨_, _, rfl, rfl, rfl, rfl, rfl, rfl⟩,
   ⟨_, _, rfl, rfl, rfl, rfl, rfl, rfl⟩,
   ⟨_, _, rfl, rfl, rfl, rfl, rfl, rfl⟩,
   ⟨_, _, rfl, rfl, rfl, rfl, rfl, rfl⟩,
   ⟨_, _, rfl, rfl, rfl, rfl, rfl, rfl⟩,
   ⟨_, _, rfl, rfl, rfl, rfl, rfl, rfl⟩,
   ⟨_, _, rfl, rfl, rfl, rfl, rfl, rfl⟩,
   ⟨_, _, rfl, rfl, rfl, rfl, rfl, rfl⟩,
   ⟨_, _, rfl, rfl, rfl, rfl, rfl, rfl⟩,
   ⟨_, _, rfl, rfl, rfl, rfl, rfl, rfl⟩,
   ⟨_, _, rfl, rfl, rfl, rfl, rfl, rfl⟩,
   ⟨_, _, rfl, rfl, rfl, rfl, rfl, rfl⟩,
   ⟨_, _, rfl, rfl, rfl, rfl, rfl, rfl⟩,
   ⟨_, _, rfl, rfl, rfl, rfl, rfl, rfl⟩,
   ⟨_, _, rfl, rfl, rfl, rfl, rfl, rfl⟩,
   ⟨_, _, rfl, rfl, rfl, rfl, rfl, rfl⟩,
   ⟨_, _, rfl, rfl, rfl, rfl, rfl, rfl⟩,
   ⟨_, _, rfl, rfl, rfl, rfl, rfl, rfl⟩,
   ⟨_, _, rfl, rfl, rfl, rfl, rfl, rfl⟩,
   ⟨_, _, rfl, rfl, rfl, rfl, rfl, rfl⟩,
   ⟨_, _, rfl, rfl, rfl, rfl, rfl, rfl⟩,
   ⟨_, _, _, rfl, rfl, rfl, rfl, rfl, rfl, rfl, rfl, by simp [Value.cells, Value.oneCell'], by decide, by decide, by decide⟩,
   ⟨_, _, rfl, rfl, rfl, rfl, rfl, rfl, rfl, rfl, rfl⟩,
   ⟨_, _, rfl, rfl, rfl, rfl, rfl, rfl, rfl, rfl, rfl⟩,
   ⟨_, _, _, rfl, rfl, rfl, rfl, rfl, rfl, rfl, rfl, by simp [Value.cells, Value.oneCell'], by decide, by decide, by decide⟩,
   ⟨_, _, rfl, rfl, rfl, rfl, rfl, rfl, rfl, rfl, rfl⟩,
   ⟨_, _, rfl, rfl, rfl, rfl, rfl, rfl, rfl, rfl, rfl⟩,
   ⟨_, _, rfl, rfl, rfl, rfl, rfl, rfl, rfl, rfl, rfl⟩,
   ⟨_, _, rfl, rfl, rfl, rfl, rfl, rfl, rfl, rfl, rfl⟩,
   ⟨_, _, _, rfl, rfl, rfl, rfl, rfl, rfl, rfl, rfl, by simp [Value.cells, Value.oneCell'], by decide, by decide, by decide⟩,
   ⟨_, _, rfl, rfl, rfl, rfl, rfl, rfl, rfl, rfl, rfl⟩,
   ⟨_, _, rfl, rfl, rfl, rfl, rfl, rfl, rfl, rfl, rfl⟩,
   ⟨_, _, rfl, rfl, rfl, rfl, rfl, rfl, rfl, rfl, rfl⟩,
   ⟨_, _, rfl, rfl, rfl, rfl, rfl, rfl, rfl, rfl, rfl⟩,
   ⟨_, _, _, rfl, rfl, rfl, rfl, rfl, rfl, rfl, rfl, by simp [Value.cells, Value.oneCell'], by decide, by decide, by decide⟩,
   ⟨_, _, rfl, rfl, rfl, rfl, rfl, rfl, rfl, rfl, rfl⟩,
   ⟨_, _, rfl, rfl, rfl, rfl, rfl, rfl, rfl, rfl, rfl⟩,
   ⟨_, _, rfl, rfl, rfl, rfl, rfl, rfl, rfl, rfl, rfl⟩,
   ⟨_, _, rfl, rfl, rfl, rfl, rfl, rfl, rfl, rfl, rfl⟩,
   ⟨_, _, rfl, rfl, rfl, rfl, rfl, rfl, rfl, rfl, rfl⟩,
   ⟨_, _, rfl, rfl, rfl, rfl, rfl, rfl, rfl, rfl, rfl⟩, trivial⟩
theorem mixed : Tryd.prog.follows .mixedOrders = true := by kernel_rfl
end Go.Proofs.YtefdahofpjmnfaaDoor
