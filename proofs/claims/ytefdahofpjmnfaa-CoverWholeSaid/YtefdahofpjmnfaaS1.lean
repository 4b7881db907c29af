/- The seat: functions by name, the types that are used. No condition. -/
import Derived.Test.YtefdahofpjmnfaaFpH
import Derived.Test.YtefdahofpjmnfaaProg
import Derived.KernelRfl
set_option linter.unusedSimpArgs false
set_option linter.unusedVariables false
namespace Go.Proofs.Ytefdahofpjmnfaa
open Go Fp

abbrev n_main_main : Nat := 0
abbrev n_fuguelaw20_CoverMissing : Nat := 3
abbrev n_fuguelaw20_CoverUseless : Nat := 4
abbrev n_fuguelaw20_CoverFull : Nat := 5
abbrev n_fuguelaw20_CoverWhole : Nat := 6
abbrev n_fugueref20_Pats : Nat := 7
abbrev n_cover_Missing : Nat := 8
abbrev n_pats_New : Nat := 9
abbrev n_fugueref20_Program : Nat := 10
abbrev n_fugueref20_Missing : Nat := 11
abbrev n_fugueref20_Datas : Nat := 12
abbrev n_fugueref14_SamePat : Nat := 13
abbrev n_fuguelaw20_lives : Nat := 14
abbrev n_fugueref20_SameInts : Nat := 15
abbrev n_cover_Useless : Nat := 16
abbrev n_fugueref20_Useless : Nat := 17
abbrev n_fugueref14_Pattern : Nat := 18
abbrev n_fugueref20_Val : Nat := 19
abbrev n_cover_First : Nat := 20
abbrev n_fugueref20_Fill : Nat := 21
abbrev n_fugueref20_pick : Nat := 22
abbrev n_cover_missing : Nat := 23
abbrev n_cover_rows : Nat := 24
abbrev n_slices_Concat_apiDataapiData : Nat := 25
abbrev n_kindof_Prelude : Nat := 26
abbrev n_fugueref14_World : Nat := 27
abbrev n_fugueref20_missing : Nat := 28
abbrev n_fugueref20_Rows : Nat := 29
abbrev n_fugueref20_Type : Nat := 30
abbrev n_cover_useful : Nat := 31
abbrev n_fugueref20_New : Nat := 32
abbrev n_fugueref14_pick : Nat := 33
abbrev n_fugueref14_WorldType : Nat := 34
abbrev n_fugueref14_digit : Nat := 35
abbrev n_fugueref14_WorldFields : Nat := 36
abbrev n_slices_IndexFunc_apiPatapiPat : Nat := 37
abbrev n_cover_First_1 : Nat := 38
abbrev n_cover_Takes : Nat := 39
abbrev n_cover_missing_1 : Nat := 40
abbrev n_cover_forms : Nat := 41
abbrev n_cover_ofNone : Nat := 42
abbrev n_cover_cons : Nat := 43
abbrev n_cover_ofCon : Nat := 44
abbrev n_cover_ints : Nat := 45
abbrev n_slices_Max_intint : Nat := 46
abbrev n_cover_ofInt : Nat := 47
abbrev n_slices_Grow_apiDataapiData : Nat := 48
abbrev n_kinds_Star : Nat := 49
abbrev n_fugueref14_given : Nat := 50
abbrev n_fugueref20_Cons : Nat := 51
abbrev n_fugueref20_Apart : Nat := 52
abbrev n_fugueref20_Ints : Nat := 53
abbrev n_cover_useful_1 : Nat := 54
abbrev n_slices_ContainsFunc_apiConapiCon : Nat := 55
abbrev n_cover_useful_2 : Nat := 56
abbrev n_slices_ContainsFunc_intint : Nat := 57
abbrev n_cover_useful_3 : Nat := 58
abbrev n_fugueref20_within : Nat := 59
abbrev n_slices_EqualFunc_apiPatapiValueapiPatapiValue : Nat := 60
abbrev n_cover_some_coverrowcoverrow : Nat := 61
abbrev n_cover_forms_1 : Nat := 62
abbrev n_cover_open : Nat := 63
abbrev n_cover_wilds : Nat := 64
abbrev n_slices_Concat_apiPatapiPat : Nat := 65
abbrev n_core_Var : Nat := 66
abbrev n_pats_Cons_Con : Nat := 67
abbrev n_cover_ofCon_1 : Nat := 68
abbrev n_slices_Contains_intint : Nat := 69
abbrev n_cover_ofInt_1 : Nat := 70
abbrev n_fugueref20_apart : Nat := 71
abbrev n_slices_IndexFunc_apiConapiCon : Nat := 72
abbrev n_slices_IndexFunc_intint : Nat := 73
abbrev n_slices_Repeat_apiPatapiPat : Nat := 74
abbrev n_slices_Grow_apiPatapiPat : Nat := 75
abbrev n_slices_Index_intint : Nat := 76
abbrev n_fugueref20_open : Nat := 77
abbrev n_math_bits_Mul : Nat := 78
abbrev n_math_bits_Mul32 : Nat := 79
abbrev n_math_bits_Mul64 : Nat := 80
abbrev n_pats_Cons_Fields : Nat := 96

def tt : TT := [(1, .sc (.lit .nilFunc)), (2, .sc (.lit (.int .i64 0))), (3, .sc (.lit (.int .i64 0))), (4, .sc (.lit (.bool false))), (5, .sc (.lit (.int .u8 0))), (9, .sc (.lit (.string .empty))), (21, .sc (.lit (.int .i32 0))), (22, .sl 3 1), (23, .sl 30 10), (25, .sc (.lit .nilFunc)), (26, .sl 28 4), (27, .st 4 [(0, 1), (1, 1), (2, 1), (3, 1)] [3, 3, 9, 26] [.lit (.int .i64 0), .lit (.int .i64 0), .lit (.string .empty), .nil]), (28, .st 4 [(0, 1), (1, 1), (2, 1), (3, 1)] [3, 3, 9, 26] [.lit (.int .i64 0), .lit (.int .i64 0), .lit (.string .empty), .nil]), (29, .st 10 [(0, 1), (1, 1), (2, 1), (3, 1), (4, 1), (5, 4), (9, 1)] [3, 3, 3, 9, 23, 28, 26] [.lit (.int .i64 0), .lit (.int .i64 0), .lit (.int .i64 0), .lit (.string .empty), .nil, .lit (.int .i64 0), .lit (.int .i64 0), .lit (.string .empty), .nil, .nil]), (30, .st 10 [(0, 1), (1, 1), (2, 1), (3, 1), (4, 1), (5, 4), (9, 1)] [3, 3, 3, 9, 23, 28, 26] [.lit (.int .i64 0), .lit (.int .i64 0), .lit (.int .i64 0), .lit (.string .empty), .nil, .lit (.int .i64 0), .lit (.int .i64 0), .lit (.string .empty), .nil, .nil]), (32, .sc (.lit .nilFunc)), (33, .sc (.lit (.pointer none))), (34, .sc (.lit .nilFunc)), (35, .sl 69 5), (39, .st 4 [(0, 1), (1, 1), (2, 1), (3, 1)] [35, 36, 37, 38] [.nil, .nil, .nil, .nil]), (40, .st 4 [(0, 1), (1, 1), (2, 1), (3, 1)] [35, 36, 37, 38] [.nil, .nil, .nil, .nil]), (41, .sc (.lit .nilFunc)), (42, .sc (.lit .nilFunc)), (43, .sc (.lit .nilFunc)), (44, .sc (.lit .nilFunc)), (45, .sc (.lit .nilFunc)), (46, .sc (.lit .nilFunc)), (47, .sc (.lit .nilFunc)), (48, .sc (.lit .nilFunc)), (49, .sc (.lit .nilFunc)), (51, .sc (.lit .nilFunc)), (52, .sl 54 4), (53, .st 4 [(0, 1), (1, 1), (2, 1), (3, 1)] [3, 3, 9, 52] [.lit (.int .i64 0), .lit (.int .i64 0), .lit (.string .empty), .nil]), (54, .st 4 [(0, 1), (1, 1), (2, 1), (3, 1)] [3, 3, 9, 52] [.lit (.int .i64 0), .lit (.int .i64 0), .lit (.string .empty), .nil]), (56, .sc (.lit .nilFunc)), (57, .sc (.lit .nilFunc)), (58, .sc (.lit .nilFunc)), (59, .sc (.lit .nilFunc)), (61, .sc (.lit .nilFunc)), (62, .sl 87 12), (63, .sc (.lit .nilFunc)), (64, .sc (.lit .nilFunc)), (65, .sl 9 1), (66, .sl 111 1), (67, .sl 74 3), (68, .st 5 [(0, 1), (1, 1), (2, 1), (3, 1), (4, 1)] [9, 3, 65, 66, 67] [.lit (.string .empty), .lit (.int .i64 0), .nil, .nil, .nil]), (69, .st 5 [(0, 1), (1, 1), (2, 1), (3, 1), (4, 1)] [9, 3, 65, 66, 67] [.lit (.string .empty), .lit (.int .i64 0), .nil, .nil, .nil]), (70, .mp 9 76), (71, .st 2 [(0, 1), (1, 1)] [35, 70] [.nil, .lit (.map none)]), (72, .st 2 [(0, 1), (1, 1)] [35, 70] [.nil, .lit (.map none)]), (73, .st 3 [(0, 1), (1, 1), (2, 1)] [9, 3, 26] [.lit (.string .empty), .lit (.int .i64 0), .nil]), (74, .st 3 [(0, 1), (1, 1), (2, 1)] [9, 3, 26] [.lit (.string .empty), .lit (.int .i64 0), .nil]), (75, .st 2 [(0, 1), (1, 1)] [3, 3] [.lit (.int .i64 0), .lit (.int .i64 0)]), (76, .st 2 [(0, 1), (1, 1)] [3, 3] [.lit (.int .i64 0), .lit (.int .i64 0)]), (77, .sc (.lit .nilFunc)), (78, .sl 92 3), (79, .sc (.lit .nilFunc)), (80, .sc (.lit .nilFunc)), (81, .sl 131 15), (82, .sl 85 10), (83, .sl 185 14), (84, .st 10 [(0, 1), (1, 1), (2, 1), (3, 4), (7, 1), (8, 1), (9, 1)] [3, 3, 9, 28, 82, 81, 83] [.lit (.int .i64 0), .lit (.int .i64 0), .lit (.string .empty), .lit (.int .i64 0), .lit (.int .i64 0), .lit (.string .empty), .nil, .nil, .nil, .nil]), (85, .st 10 [(0, 1), (1, 1), (2, 1), (3, 4), (7, 1), (8, 1), (9, 1)] [3, 3, 9, 28, 82, 81, 83] [.lit (.int .i64 0), .lit (.int .i64 0), .lit (.string .empty), .lit (.int .i64 0), .lit (.int .i64 0), .lit (.string .empty), .nil, .nil, .nil, .nil]), (86, .st 12 [(0, 1), (1, 1), (2, 10)] [23, 81, 85] [.nil, .nil, .lit (.int .i64 0), .lit (.int .i64 0), .lit (.string .empty), .lit (.int .i64 0), .lit (.int .i64 0), .lit (.string .empty), .nil, .nil, .nil, .nil]), (87, .st 12 [(0, 1), (1, 1), (2, 10)] [23, 81, 85] [.nil, .nil, .lit (.int .i64 0), .lit (.int .i64 0), .lit (.string .empty), .lit (.int .i64 0), .lit (.int .i64 0), .lit (.string .empty), .nil, .nil, .nil, .nil]), (88, .sc (.lit .nilFunc)), (89, .sc (.lit .nilFunc)), (90, .sl 145 6), (91, .st 3 [(0, 1), (1, 1), (2, 1)] [23, 90, 3] [.nil, .nil, .lit (.int .i64 0)]), (92, .st 3 [(0, 1), (1, 1), (2, 1)] [23, 90, 3] [.nil, .nil, .lit (.int .i64 0)]), (93, .sc (.lit .nilFunc)), (94, .sl 22 1), (96, .sc (.lit .nilFunc)), (97, .sc (.lit .nilFunc)), (98, .sc (.lit .nilFunc)), (99, .sc (.lit .nilFunc)), (100, .sc (.lit .nilFunc)), (101, .sc (.lit .nilFunc)), (102, .sc (.lit .nilFunc)), (103, .sc (.lit .nilFunc)), (104, .sc (.lit .nilFunc)), (105, .sc (.lit .nilFunc)), (106, .sc (.lit .nilFunc)), (107, .sc (.lit .nilFunc)), (108, .sl 35 1), (109, .sc (.lit .nilFunc)), (110, .st 1 [(0, 1)] [66] [.nil]), (111, .st 1 [(0, 1)] [66] [.nil]), (112, .sc (.lit .nilFunc)), (113, .sc (.lit .nilFunc)), (115, .sc (.lit .nilFunc)), (116, .sc (.lit .nilFunc)), (117, .sc (.lit .nilFunc)), (118, .sc (.lit .nilFunc)), (119, .sc (.lit .nilFunc)), (120, .sc (.lit .nilFunc)), (121, .sc (.lit .nilFunc)), (122, .sc (.lit .nilFunc)), (123, .sc (.lit .nilFunc)), (124, .sl 5 1), (125, .sc (.lit .nilFunc)), (126, .sc (.lit .nilFunc)), (127, .sc (.lit .nilFunc)), (128, .sc (.lit .nilFunc)), (129, .sc (.lit .nilFunc)), (130, .st 15 [(0, 1), (1, 4), (5, 10)] [9, 28, 85] [.lit (.string .empty), .lit (.int .i64 0), .lit (.int .i64 0), .lit (.string .empty), .nil, .lit (.int .i64 0), .lit (.int .i64 0), .lit (.string .empty), .lit (.int .i64 0), .lit (.int .i64 0), .lit (.string .empty), .nil, .nil, .nil, .nil]), (131, .st 15 [(0, 1), (1, 4), (5, 10)] [9, 28, 85] [.lit (.string .empty), .lit (.int .i64 0), .lit (.int .i64 0), .lit (.string .empty), .nil, .lit (.int .i64 0), .lit (.int .i64 0), .lit (.string .empty), .lit (.int .i64 0), .lit (.int .i64 0), .lit (.string .empty), .nil, .nil, .nil, .nil]), (132, .sc (.lit .nilFunc)), (134, .sc (.lit .nilFunc)), (135, .sc (.lit .nilFunc)), (137, .sc (.lit .nilFunc)), (138, .sc (.lit .nilFunc)), (139, .sc (.lit .nilFunc)), (141, .sc (.lit .nilFunc)), (142, .sl 23 1), (144, .st 6 [(0, 1), (1, 4), (5, 1)] [9, 28, 9] [.lit (.string .empty), .lit (.int .i64 0), .lit (.int .i64 0), .lit (.string .empty), .nil, .lit (.string .empty)]), (145, .st 6 [(0, 1), (1, 4), (5, 1)] [9, 28, 9] [.lit (.string .empty), .lit (.int .i64 0), .lit (.int .i64 0), .lit (.string .empty), .nil, .lit (.string .empty)]), (146, .sc (.lit (.int .u64 0))), (148, .sc (.lit .nilFunc)), (149, .sc (.lit (.int .u32 0))), (151, .sc (.lit .nilFunc)), (152, .sc (.lit (.int .u64 0))), (154, .sc (.lit .nilFunc)), (155, .sc (.lit .nilFunc)), (161, .sc (.lit .nilFunc)), (165, .sc (.lit (.pointer none))), (170, .sc (.lit .nilFunc)), (172, .st 6 [(0, 1), (1, 1), (2, 1), (3, 1), (4, 1), (5, 1)] [9, 3, 9, 111, 65, 171] [.lit (.string .empty), .lit (.int .i64 0), .lit (.string .empty), .nil, .nil, .nil]), (175, .st 6 [(0, 1), (1, 1), (2, 1), (3, 1), (4, 1), (5, 1)] [9, 3, 9, 65, 174, 38] [.lit (.string .empty), .lit (.int .i64 0), .lit (.string .empty), .nil, .nil, .nil]), (177, .st 7 [(0, 1), (1, 1), (2, 1), (3, 4)] [65, 66, 174, 28] [.nil, .nil, .nil, .lit (.int .i64 0), .lit (.int .i64 0), .lit (.string .empty), .nil]), (184, .st 14 [(0, 1), (1, 1), (2, 1), (3, 1), (4, 10)] [3, 3, 9, 65, 85] [.lit (.int .i64 0), .lit (.int .i64 0), .lit (.string .empty), .nil, .lit (.int .i64 0), .lit (.int .i64 0), .lit (.string .empty), .lit (.int .i64 0), .lit (.int .i64 0), .lit (.string .empty), .nil, .nil, .nil, .nil]), (185, .st 14 [(0, 1), (1, 1), (2, 1), (3, 1), (4, 10)] [3, 3, 9, 65, 85] [.lit (.int .i64 0), .lit (.int .i64 0), .lit (.string .empty), .nil, .lit (.int .i64 0), .lit (.int .i64 0), .lit (.string .empty), .lit (.int .i64 0), .lit (.int .i64 0), .lit (.string .empty), .nil, .nil, .nil, .nil]), (190, .st 5 [(0, 1), (1, 4)] [9, 28] [.lit (.string .empty), .lit (.int .i64 0), .lit (.int .i64 0), .lit (.string .empty), .nil]), (192, .st 8 [(0, 1), (1, 1), (2, 1), (3, 1), (4, 4)] [9, 3, 3, 3, 28] [.lit (.string .empty), .lit (.int .i64 0), .lit (.int .i64 0), .lit (.int .i64 0), .lit (.int .i64 0), .lit (.int .i64 0), .lit (.string .empty), .nil])]
set_option maxRecDepth 100000 in
theorem ttok : TTok Try.prog tt :=
  ⟨⟨_, _, rfl, rfl, rfl, rfl, rfl, rfl⟩,
   ⟨_, _, rfl, rfl, rfl, rfl, rfl, rfl⟩,
   ⟨_, _, rfl, rfl, rfl, rfl, rfl, rfl⟩,
   ⟨_, _, rfl, rfl, rfl, rfl, rfl, rfl⟩,
   ⟨_, _, rfl, rfl, rfl, rfl, rfl, rfl⟩,
   ⟨_, _, rfl, rfl, rfl, rfl, rfl, rfl⟩,
   ⟨_, _, rfl, rfl, rfl, rfl, rfl, rfl⟩,
   ⟨_, _, _, rfl, rfl, rfl, rfl, rfl, rfl, rfl, rfl, by simp [Value.cells, Value.oneCell'], by decide, by decide, by decide⟩,
   ⟨_, _, _, rfl, rfl, rfl, rfl, rfl, rfl, rfl, rfl, by simp [Value.cells, Value.oneCell'], by decide, by decide, by decide⟩,
   ⟨_, _, rfl, rfl, rfl, rfl, rfl, rfl⟩,
   ⟨_, _, _, rfl, rfl, rfl, rfl, rfl, rfl, rfl, rfl, by simp [Value.cells, Value.oneCell'], by decide, by decide, by decide⟩,
   ⟨_, _, rfl, rfl, rfl, rfl, rfl, rfl, rfl, rfl, rfl⟩,
   ⟨_, _, rfl, rfl, rfl, rfl, rfl, rfl, rfl, rfl, rfl⟩,
   ⟨_, _, rfl, rfl, rfl, rfl, rfl, rfl, rfl, rfl, rfl⟩,
   ⟨_, _, rfl, rfl, rfl, rfl, rfl, rfl, rfl, rfl, rfl⟩,
   ⟨_, _, rfl, rfl, rfl, rfl, rfl, rfl⟩,
   ⟨_, _, rfl, rfl, rfl, rfl, rfl, rfl⟩,
   ⟨_, _, rfl, rfl, rfl, rfl, rfl, rfl⟩,
   ⟨_, _, _, rfl, rfl, rfl, rfl, rfl, rfl, rfl, rfl, by simp [Value.cells, Value.oneCell'], by decide, by decide, by decide⟩,
   ⟨_, _, rfl, rfl, rfl, rfl, rfl, rfl, rfl, rfl, rfl⟩,
   ⟨_, _, rfl, rfl, rfl, rfl, rfl, rfl, rfl, rfl, rfl⟩,
   ⟨_, _, rfl, rfl, rfl, rfl, rfl, rfl⟩,
   ⟨_, _, rfl, rfl, rfl, rfl, rfl, rfl⟩,
   ⟨_, _, rfl, rfl, rfl, rfl, rfl, rfl⟩,
   ⟨_, _, rfl, rfl, rfl, rfl, rfl, rfl⟩,
   ⟨_, _, rfl, rfl, rfl, rfl, rfl, rfl⟩,
   ⟨_, _, rfl, rfl, rfl, rfl, rfl, rfl⟩,
   ⟨_, _, rfl, rfl, rfl, rfl, rfl, rfl⟩,
   ⟨_, _, rfl, rfl, rfl, rfl, rfl, rfl⟩,
   ⟨_, _, rfl, rfl, rfl, rfl, rfl, rfl⟩,
   ⟨_, _, rfl, rfl, rfl, rfl, rfl, rfl⟩,
   ⟨_, _, _, rfl, rfl, rfl, rfl, rfl, rfl, rfl, rfl, by simp [Value.cells, Value.oneCell'], by decide, by decide, by decide⟩,
   ⟨_, _, rfl, rfl, rfl, rfl, rfl, rfl, rfl, rfl, rfl⟩,
   ⟨_, _, rfl, rfl, rfl, rfl, rfl, rfl, rfl, rfl, rfl⟩,
   ⟨_, _, rfl, rfl, rfl, rfl, rfl, rfl⟩,
   ⟨_, _, rfl, rfl, rfl, rfl, rfl, rfl⟩,
   ⟨_, _, rfl, rfl, rfl, rfl, rfl, rfl⟩,
   ⟨_, _, rfl, rfl, rfl, rfl, rfl, rfl⟩,
   ⟨_, _, rfl, rfl, rfl, rfl, rfl, rfl⟩,
   ⟨_, _, _, rfl, rfl, rfl, rfl, rfl, rfl, rfl, rfl, by simp [Value.cells, Value.oneCell'], by decide, by decide, by decide⟩,
   ⟨_, _, rfl, rfl, rfl, rfl, rfl, rfl⟩,
   ⟨_, _, rfl, rfl, rfl, rfl, rfl, rfl⟩,
   ⟨_, _, _, rfl, rfl, rfl, rfl, rfl, rfl, rfl, rfl, by simp [Value.cells, Value.oneCell'], by decide, by decide, by decide⟩,
   ⟨_, _, _, rfl, rfl, rfl, rfl, rfl, rfl, rfl, rfl, by simp [Value.cells, Value.oneCell'], by decide, by decide, by decide⟩,
   ⟨_, _, _, rfl, rfl, rfl, rfl, rfl, rfl, rfl, rfl, by simp [Value.cells, Value.oneCell'], by decide, by decide, by decide⟩,
   ⟨_, _, rfl, rfl, rfl, rfl, rfl, rfl, rfl, rfl, rfl⟩,
   ⟨_, _, rfl, rfl, rfl, rfl, rfl, rfl, rfl, rfl, rfl⟩,
   ⟨rfl, _, rfl, rfl, rfl⟩,
   ⟨_, _, rfl, rfl, rfl, rfl, rfl, rfl, rfl, rfl, rfl⟩,
   ⟨_, _, rfl, rfl, rfl, rfl, rfl, rfl, rfl, rfl, rfl⟩,
   ⟨_, _, rfl, rfl, rfl, rfl, rfl, rfl, rfl, rfl, rfl⟩,
   ⟨_, _, rfl, rfl, rfl, rfl, rfl, rfl, rfl, rfl, rfl⟩,
   ⟨_, _, rfl, rfl, rfl, rfl, rfl, rfl, rfl, rfl, rfl⟩,
   ⟨_, _, rfl, rfl, rfl, rfl, rfl, rfl, rfl, rfl, rfl⟩,
   ⟨_, _, rfl, rfl, rfl, rfl, rfl, rfl⟩,
   ⟨_, _, _, rfl, rfl, rfl, rfl, rfl, rfl, rfl, rfl, by simp [Value.cells, Value.oneCell'], by decide, by decide, by decide⟩,
   ⟨_, _, rfl, rfl, rfl, rfl, rfl, rfl⟩,
   ⟨_, _, rfl, rfl, rfl, rfl, rfl, rfl⟩,
   ⟨_, _, _, rfl, rfl, rfl, rfl, rfl, rfl, rfl, rfl, by simp [Value.cells, Value.oneCell'], by decide, by decide, by decide⟩,
   ⟨_, _, _, rfl, rfl, rfl, rfl, rfl, rfl, rfl, rfl, by simp [Value.cells, Value.oneCell'], by decide, by decide, by decide⟩,
   ⟨_, _, _, rfl, rfl, rfl, rfl, rfl, rfl, rfl, rfl, by simp [Value.cells, Value.oneCell'], by decide, by decide, by decide⟩,
   ⟨_, _, rfl, rfl, rfl, rfl, rfl, rfl, rfl, rfl, rfl⟩,
   ⟨_, _, rfl, rfl, rfl, rfl, rfl, rfl, rfl, rfl, rfl⟩,
   ⟨_, _, rfl, rfl, rfl, rfl, rfl, rfl, rfl, rfl, rfl⟩,
   ⟨_, _, rfl, rfl, rfl, rfl, rfl, rfl, rfl, rfl, rfl⟩,
   ⟨_, _, rfl, rfl, rfl, rfl, rfl, rfl⟩,
   ⟨_, _, rfl, rfl, rfl, rfl, rfl, rfl⟩,
   ⟨_, _, _, rfl, rfl, rfl, rfl, rfl, rfl, rfl, rfl, by simp [Value.cells, Value.oneCell'], by decide, by decide, by decide⟩,
   ⟨_, _, rfl, rfl, rfl, rfl, rfl, rfl, rfl, rfl, rfl⟩,
   ⟨_, _, rfl, rfl, rfl, rfl, rfl, rfl, rfl, rfl, rfl⟩,
   ⟨_, _, rfl, rfl, rfl, rfl, rfl, rfl⟩,
   ⟨_, _, _, rfl, rfl, rfl, rfl, rfl, rfl, rfl, rfl, by simp [Value.cells, Value.oneCell'], by decide, by decide, by decide⟩,
   ⟨_, _, rfl, rfl, rfl, rfl, rfl, rfl⟩,
   ⟨_, _, rfl, rfl, rfl, rfl, rfl, rfl⟩,
   ⟨_, _, rfl, rfl, rfl, rfl, rfl, rfl⟩,
   ⟨_, _, rfl, rfl, rfl, rfl, rfl, rfl⟩,
   ⟨_, _, rfl, rfl, rfl, rfl, rfl, rfl⟩,
   ⟨_, _, rfl, rfl, rfl, rfl, rfl, rfl⟩,
   ⟨_, _, rfl, rfl, rfl, rfl, rfl, rfl⟩,
   ⟨_, _, rfl, rfl, rfl, rfl, rfl, rfl⟩,
   ⟨_, _, rfl, rfl, rfl, rfl, rfl, rfl⟩,
   ⟨_, _, rfl, rfl, rfl, rfl, rfl, rfl⟩,
   ⟨_, _, rfl, rfl, rfl, rfl, rfl, rfl⟩,
   ⟨_, _, rfl, rfl, rfl, rfl, rfl, rfl⟩,
   ⟨_, _, _, rfl, rfl, rfl, rfl, rfl, rfl, rfl, rfl, by simp [Value.cells, Value.oneCell'], by decide, by decide, by decide⟩,
   ⟨_, _, rfl, rfl, rfl, rfl, rfl, rfl⟩,
   ⟨_, _, rfl, rfl, rfl, rfl, rfl, rfl, rfl, rfl, rfl⟩,
   ⟨_, _, rfl, rfl, rfl, rfl, rfl, rfl, rfl, rfl, rfl⟩,
   ⟨_, _, rfl, rfl, rfl, rfl, rfl, rfl⟩,
   ⟨_, _, rfl, rfl, rfl, rfl, rfl, rfl⟩,
   ⟨_, _, rfl, rfl, rfl, rfl, rfl, rfl⟩,
   ⟨_, _, rfl, rfl, rfl, rfl, rfl, rfl⟩,
   ⟨_, _, rfl, rfl, rfl, rfl, rfl, rfl⟩,
   ⟨_, _, rfl, rfl, rfl, rfl, rfl, rfl⟩,
   ⟨_, _, rfl, rfl, rfl, rfl, rfl, rfl⟩,
   ⟨_, _, rfl, rfl, rfl, rfl, rfl, rfl⟩,
   ⟨_, _, rfl, rfl, rfl, rfl, rfl, rfl⟩,
   ⟨_, _, rfl, rfl, rfl, rfl, rfl, rfl⟩,
   ⟨_, _, rfl, rfl, rfl, rfl, rfl, rfl⟩,
   ⟨_, _, _, rfl, rfl, rfl, rfl, rfl, rfl, rfl, rfl, by simp [Value.cells, Value.oneCell'], by decide, by decide, by decide⟩,
   ⟨_, _, rfl, rfl, rfl, rfl, rfl, rfl⟩,
   ⟨_, _, rfl, rfl, rfl, rfl, rfl, rfl⟩,
   ⟨_, _, rfl, rfl, rfl, rfl, rfl, rfl⟩,
   ⟨_, _, rfl, rfl, rfl, rfl, rfl, rfl⟩,
   ⟨_, _, rfl, rfl, rfl, rfl, rfl, rfl⟩,
   ⟨_, _, rfl, rfl, rfl, rfl, rfl, rfl, rfl, rfl, rfl⟩,
   ⟨_, _, rfl, rfl, rfl, rfl, rfl, rfl, rfl, rfl, rfl⟩,
   ⟨_, _, rfl, rfl, rfl, rfl, rfl, rfl⟩,
   ⟨_, _, rfl, rfl, rfl, rfl, rfl, rfl⟩,
   ⟨_, _, rfl, rfl, rfl, rfl, rfl, rfl⟩,
   ⟨_, _, rfl, rfl, rfl, rfl, rfl, rfl⟩,
   ⟨_, _, rfl, rfl, rfl, rfl, rfl, rfl⟩,
   ⟨_, _, rfl, rfl, rfl, rfl, rfl, rfl⟩,
   ⟨_, _, rfl, rfl, rfl, rfl, rfl, rfl⟩,
   ⟨_, _, _, rfl, rfl, rfl, rfl, rfl, rfl, rfl, rfl, by simp [Value.cells, Value.oneCell'], by decide, by decide, by decide⟩,
   ⟨_, _, rfl, rfl, rfl, rfl, rfl, rfl, rfl, rfl, rfl⟩,
   ⟨_, _, rfl, rfl, rfl, rfl, rfl, rfl, rfl, rfl, rfl⟩,
   ⟨_, _, rfl, rfl, rfl, rfl, rfl, rfl⟩,
   ⟨_, _, rfl, rfl, rfl, rfl, rfl, rfl⟩,
   ⟨_, _, rfl, rfl, rfl, rfl, rfl, rfl⟩,
   ⟨_, _, rfl, rfl, rfl, rfl, rfl, rfl⟩,
   ⟨_, _, rfl, rfl, rfl, rfl, rfl, rfl⟩,
   ⟨_, _, rfl, rfl, rfl, rfl, rfl, rfl⟩,
   ⟨_, _, rfl, rfl, rfl, rfl, rfl, rfl⟩,
   ⟨_, _, rfl, rfl, rfl, rfl, rfl, rfl⟩,
   ⟨_, _, rfl, rfl, rfl, rfl, rfl, rfl⟩,
   ⟨_, _, rfl, rfl, rfl, rfl, rfl, rfl⟩,
   ⟨_, _, rfl, rfl, rfl, rfl, rfl, rfl, rfl, rfl, rfl⟩,
   ⟨_, _, rfl, rfl, rfl, rfl, rfl, rfl, rfl, rfl, rfl⟩,
   ⟨_, _, rfl, rfl, rfl, rfl, rfl, rfl, rfl, rfl, rfl⟩,
   ⟨_, _, rfl, rfl, rfl, rfl, rfl, rfl, rfl, rfl, rfl⟩,
   ⟨_, _, rfl, rfl, rfl, rfl, rfl, rfl, rfl, rfl, rfl⟩,
   ⟨_, _, rfl, rfl, rfl, rfl, rfl, rfl, rfl, rfl, rfl⟩,
   ⟨_, _, rfl, rfl, rfl, rfl, rfl, rfl, rfl, rfl, rfl⟩, trivial⟩
theorem mixed : Try.prog.follows .mixedOrders = true := by kernel_rfl
end Go.Proofs.Ytefdahofpjmnfaa
