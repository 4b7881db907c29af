/- The seat: functions by name, the types that are used. No condition. -/
import Derived.Test.YtgonkhaebmfgiaaDoorFpM
import Derived.Test.YtgonkhaebmfgiaaDoorProg
import Derived.KernelRfl
set_option linter.unusedSimpArgs false
set_option linter.unusedVariables false
namespace Go.Proofs.YtgonkhaebmfgiaaDoor
open Go Fp

abbrev n_fugueref18_Made : Nat := 4
abbrev n_fugueref01_Ints : Nat := 5
abbrev n_core_Size : Nat := 7
abbrev n_core_Subst : Nat := 8
abbrev n_core_App : Nat := 9
abbrev n_core_Var : Nat := 10
abbrev n_fugueref01_Has : Nat := 11
abbrev n_core_Free : Nat := 12
abbrev n_fugueref04_Name : Nat := 13
abbrev n_core_SubstType : Nat := 14
abbrev n_fugueref04_Made : Nat := 15
abbrev n_fugueref01_Around : Nat := 18
abbrev n_core_groups : Nat := 19
abbrev n_core_own : Nat := 20
abbrev n_slices_Contains_stringstring : Nat := 21
abbrev n_core_clear : Nat := 22
abbrev n_core_Types : Nat := 23
abbrev n_slices_ContainsFunc_stringstring : Nat := 25
abbrev n_core_more : Nat := 27
abbrev n_types_Free : Nat := 28
abbrev n_core_SubstType_1 : Nat := 29
abbrev n_types_Subst : Nat := 30
abbrev n_fugueref04_build : Nat := 31
abbrev n_core_Lam : Nat := 32
abbrev n_types_Var : Nat := 33
abbrev n_core_Print : Nat := 34
abbrev n_core_Int : Nat := 35
abbrev n_core_typ : Nat := 42
abbrev n_slices_Index_stringstring : Nat := 47
abbrev n_core_fresh : Nat := 48
abbrev n_slices_IndexFunc_stringstring : Nat := 50
abbrev n_types_own : Nat := 51
abbrev n_types_apply : Nat := 52
abbrev n_types_under : Nat := 53
abbrev n_fugueref04_Con : Nat := 54
abbrev n_fugueref04_Fun : Nat := 55
abbrev n_fugueref04_app : Nat := 56
abbrev n_types_Print : Nat := 57
abbrev n_strconv_Itoa : Nat := 58
abbrev n_core_first : Nat := 59
abbrev n_core_second : Nat := 60
abbrev n_chars_Letters : Nat := 64
abbrev n_types_letter : Nat := 65
abbrev n_types_All : Nat := 66
abbrev n_types_print : Nat := 67
abbrev n_core_within : Nat := 69
abbrev n_types_parts : Nat := 75
abbrev n_types_boolean : Nat := 76
abbrev n_slices_Contains_intint : Nat := 78
abbrev n_internal_strconv_small : Nat := 82
abbrev n_slices_Index_intint : Nat := 86
def tt : TT := [(1, .sc (.lit .nilFunc)), (2, .sc (.lit (.int .i64 0))), (3, .sc (.lit (.int .i64 0))), (4, .sc (.lit (.bool false))), (5, .sc (.lit (.int .u8 0))), (9, .sc (.lit (.string .empty))), (21, .sc (.lit (.int .i32 0))), (22, .sl 3 1), (24, .sl 26 4), (25, .st 4 [(0, 1), (1, 1), (2, 1), (3, 1)] [3, 3, 9, 24] [.lit (.int .i64 0), .lit (.int .i64 0), .lit (.string .empty), .nil]), (26, .st 4 [(0, 1), (1, 1), (2, 1), (3, 1)] [3, 3, 9, 24] [.lit (.int .i64 0), .lit (.int .i64 0), .lit (.string .empty), .nil]), (27, .sl 31 10), (28, .sl 69 15), (29, .sl 79 14), (30, .st 10 [(0, 1), (1, 1), (2, 1), (3, 4), (7, 1), (8, 1), (9, 1)] [3, 3, 9, 26, 27, 28, 29] [.lit (.int .i64 0), .lit (.int .i64 0), .lit (.string .empty), .lit (.int .i64 0), .lit (.int .i64 0), .lit (.string .empty), .nil, .nil, .nil, .nil]), (31, .st 10 [(0, 1), (1, 1), (2, 1), (3, 4), (7, 1), (8, 1), (9, 1)] [3, 3, 9, 26, 27, 28, 29] [.lit (.int .i64 0), .lit (.int .i64 0), .lit (.string .empty), .lit (.int .i64 0), .lit (.int .i64 0), .lit (.string .empty), .nil, .nil, .nil, .nil]), (32, .sc (.lit .nilFunc)), (33, .sc (.lit .nilFunc)), (34, .sc (.lit .nilFunc)), (35, .sc (.lit .nilFunc)), (36, .sc (.lit .nilFunc)), (37, .sc (.lit .nilFunc)), (38, .sc (.lit .nilFunc)), (39, .sc (.lit .nilFunc)), (40, .sl 9 1), (41, .sc (.lit .nilFunc)), (42, .sc (.lit .nilFunc)), (43, .sc (.lit .nilFunc)), (44, .sc (.lit .nilFunc)), (45, .sc (.lit .nilFunc)), (46, .sc (.lit (.pointer none))), (47, .st 2 [(0, 1), (1, 1)] [22, 3] [.nil, .lit (.int .i64 0)]), (48, .st 2 [(0, 1), (1, 1)] [22, 3] [.nil, .lit (.int .i64 0)]), (49, .sc (.lit .nilFunc)), (50, .sc (.lit .nilFunc)), (51, .sl 57 2), (52, .sc (.lit .nilFunc)), (53, .sc (.lit (.pointer none))), (54, .sl 62 1), (55, .sl 53 1), (56, .st 2 [(0, 1), (1, 1)] [54, 55] [.nil, .nil]), (57, .st 2 [(0, 1), (1, 1)] [54, 55] [.nil, .nil]), (58, .sc (.lit .nilFunc)), (59, .sc (.lit .nilFunc)), (60, .sc (.lit .nilFunc)), (61, .sc (.lit .nilFunc)), (62, .sc (.lit (.pointer none))), (63, .sc (.lit .nilFunc)), (64, .sc (.lit .nilFunc)), (65, .sc (.lit .nilFunc)), (66, .sc (.lit .nilFunc)), (67, .sc (.lit .nilFunc)), (68, .st 15 [(0, 1), (1, 4), (5, 10)] [9, 26, 31] [.lit (.string .empty), .lit (.int .i64 0), .lit (.int .i64 0), .lit (.string .empty), .nil, .lit (.int .i64 0), .lit (.int .i64 0), .lit (.string .empty), .lit (.int .i64 0), .lit (.int .i64 0), .lit (.string .empty), .nil, .nil, .nil, .nil]), (69, .st 15 [(0, 1), (1, 4), (5, 10)] [9, 26, 31] [.lit (.string .empty), .lit (.int .i64 0), .lit (.int .i64 0), .lit (.string .empty), .nil, .lit (.int .i64 0), .lit (.int .i64 0), .lit (.string .empty), .lit (.int .i64 0), .lit (.int .i64 0), .lit (.string .empty), .nil, .nil, .nil, .nil]), (71, .sc (.lit .nilFunc)), (72, .sc (.lit .nilFunc)), (73, .sc (.lit .nilFunc)), (74, .sc (.lit .nilFunc)), (75, .sc (.lit .nilFunc)), (76, .sc (.lit .nilFunc)), (77, .sc (.lit .nilFunc)), (78, .st 14 [(0, 1), (1, 1), (2, 1), (3, 1), (4, 10)] [3, 3, 9, 40, 31] [.lit (.int .i64 0), .lit (.int .i64 0), .lit (.string .empty), .nil, .lit (.int .i64 0), .lit (.int .i64 0), .lit (.string .empty), .lit (.int .i64 0), .lit (.int .i64 0), .lit (.string .empty), .nil, .nil, .nil, .nil]), (79, .st 14 [(0, 1), (1, 1), (2, 1), (3, 1), (4, 10)] [3, 3, 9, 40, 31] [.lit (.int .i64 0), .lit (.int .i64 0), .lit (.string .empty), .nil, .lit (.int .i64 0), .lit (.int .i64 0), .lit (.string .empty), .lit (.int .i64 0), .lit (.int .i64 0), .lit (.string .empty), .nil, .nil, .nil, .nil]), (80, .sc (.lit (.pointer none))), (81, .sc (.lit (.pointer none))), (82, .sc (.lit .nilFunc)), (83, .sc (.lit .nilFunc)), (84, .sc (.lit .nilFunc)), (85, .sc (.lit .nilFunc)), (86, .sc (.lit .nilFunc)), (87, .sc (.lit .nilFunc)), (88, .sc (.lit .nilFunc)), (89, .sc (.lit .nilFunc)), (90, .sc (.lit .nilFunc)), (91, .sc (.lit .nilFunc)), (92, .sc (.lit .nilFunc)), (93, .sc (.lit .nilFunc)), (94, .sc (.lit .nilFunc)), (95, .sc (.lit .nilFunc)), (96, .sc (.lit (.pointer none))), (97, .sl 5 1), (98, .st 2 [(0, 1), (1, 1)] [96, 97] [.lit (.pointer none), .nil]), (100, .sc (.lit .nilFunc)), (104, .sc (.lit .nilFunc)), (105, .sc (.lit .nilFunc)), (106, .sc (.lit .nilFunc)), (107, .sc (.lit .nilFunc)), (109, .sc (.lit .nilFunc)), (110, .sc (.lit .nilFunc)), (111, .sc (.lit .nilFunc)), (112, .sc (.lit .nilFunc)), (113, .sc (.lit (.pointer none))), (115, .sc (.lit (.int .u64 0))), (116, .sc (.lit .nilFunc)), (117, .sc (.lit .nilFunc)), (119, .sc (.lit .nilFunc)), (120, .sc (.lit .nilFunc)), (123, .sc (.lit .nilFunc)), (124, .sc (.lit .nilFunc)), (125, .sc (.lit .nilFunc)), (127, .sc (.lit (.int .u32 0))), (129, .sc (.lit .nilFunc)), (130, .sc (.lit (.int .u64 0))), (131, .sc (.lit .nilFunc)), (132, .sc (.lit .nilFunc))]
set_option maxRecDepth 100000 in
theorem ttok : TTok Tryd.prog tt :=
  ⟨⟨_, _, rfl, rfl, rfl, rfl, rfl, rfl⟩,
   ⟨_, _, rfl, rfl, rfl, rfl, rfl, rfl⟩,
   ⟨_, _, rfl, rfl, rfl, rfl, rfl, rfl⟩,
   ⟨_, _, rfl, rfl, rfl, rfl, rfl, rfl⟩,
   ⟨_, _, rfl, rfl, rfl, rfl, rfl, rfl⟩,
   ⟨_, _, rfl, rfl, rfl, rfl, rfl, rfl⟩,
   ⟨_, _, rfl, rfl, rfl, rfl, rfl, rfl⟩,
   ⟨_, _, _, rfl, rfl, rfl, rfl, rfl, rfl, rfl, rfl, by simp [Value.cells, Value.oneCell'], by decide, by decide, by decide⟩,
   ⟨_, _, _, rfl, rfl, rfl, rfl, rfl, rfl, rfl, rfl, by simp [Value.cells, Value.oneCell'], by decide, by decide, by decide⟩,
   ⟨_, _, rfl, rfl, rfl, rfl, rfl, rfl, rfl, rfl, rfl⟩,
   ⟨_, _, rfl, rfl, rfl, rfl, rfl, rfl, rfl, rfl, rfl⟩,
   ⟨_, _, _, rfl, rfl, rfl, rfl, rfl, rfl, rfl, rfl, by simp [Value.cells, Value.oneCell'], by decide, by decide, by decide⟩,
   ⟨_, _, _, rfl, rfl, rfl, rfl, rfl, rfl, rfl, rfl, by simp [Value.cells, Value.oneCell'], by decide, by decide, by decide⟩,
   ⟨_, _, _, rfl, rfl, rfl, rfl, rfl, rfl, rfl, rfl, by simp [Value.cells, Value.oneCell'], by decide, by decide, by decide⟩,
   ⟨_, _, rfl, rfl, rfl, rfl, rfl, rfl, rfl, rfl, rfl⟩,
   ⟨_, _, rfl, rfl, rfl, rfl, rfl, rfl, rfl, rfl, rfl⟩,
   ⟨_, _, rfl, rfl, rfl, rfl, rfl, rfl⟩,
   ⟨_, _, rfl, rfl, rfl, rfl, rfl, rfl⟩,
   ⟨_, _, rfl, rfl, rfl, rfl, rfl, rfl⟩,
   ⟨_, _, rfl, rfl, rfl, rfl, rfl, rfl⟩,
   ⟨_, _, rfl, rfl, rfl, rfl, rfl, rfl⟩,
   ⟨_, _, rfl, rfl, rfl, rfl, rfl, rfl⟩,
   ⟨_, _, rfl, rfl, rfl, rfl, rfl, rfl⟩,
   ⟨_, _, rfl, rfl, rfl, rfl, rfl, rfl⟩,
   ⟨_, _, _, rfl, rfl, rfl, rfl, rfl, rfl, rfl, rfl, by simp [Value.cells, Value.oneCell'], by decide, by decide, by decide⟩,
   ⟨_, _, rfl, rfl, rfl, rfl, rfl, rfl⟩,
   ⟨_, _, rfl, rfl, rfl, rfl, rfl, rfl⟩,
   ⟨_, _, rfl, rfl, rfl, rfl, rfl, rfl⟩,
   ⟨_, _, rfl, rfl, rfl, rfl, rfl, rfl⟩,
   ⟨_, _, rfl, rfl, rfl, rfl, rfl, rfl⟩,
   ⟨_, _, rfl, rfl, rfl, rfl, rfl, rfl⟩,
   ⟨_, _, rfl, rfl, rfl, rfl, rfl, rfl, rfl, rfl, rfl⟩,
   ⟨_, _, rfl, rfl, rfl, rfl, rfl, rfl, rfl, rfl, rfl⟩,
   ⟨_, _, rfl, rfl, rfl, rfl, rfl, rfl⟩,
   ⟨_, _, rfl, rfl, rfl, rfl, rfl, rfl⟩,
   ⟨_, _, _, rfl, rfl, rfl, rfl, rfl, rfl, rfl, rfl, by simp [Value.cells, Value.oneCell'], by decide, by decide, by decide⟩,
   ⟨_, _, rfl, rfl, rfl, rfl, rfl, rfl⟩,
   ⟨_, _, rfl, rfl, rfl, rfl, rfl, rfl⟩,
   ⟨_, _, _, rfl, rfl, rfl, rfl, rfl, rfl, rfl, rfl, by simp [Value.cells, Value.oneCell'], by decide, by decide, by decide⟩,
   ⟨_, _, _, rfl, rfl, rfl, rfl, rfl, rfl, rfl, rfl, by simp [Value.cells, Value.oneCell'], by decide, by decide, by decide⟩,
   ⟨_, _, rfl, rfl, rfl, rfl, rfl, rfl, rfl, rfl, rfl⟩,
   ⟨_, _, rfl, rfl, rfl, rfl, rfl, rfl, rfl, rfl, rfl⟩,
   ⟨_, _, rfl, rfl, rfl, rfl, rfl, rfl⟩,
   ⟨_, _, rfl, rfl, rfl, rfl, rfl, rfl⟩,
   ⟨_, _, rfl, rfl, rfl, rfl, rfl, rfl⟩,
   ⟨_, _, rfl, rfl, rfl, rfl, rfl, rfl⟩,
   ⟨_, _, rfl, rfl, rfl, rfl, rfl, rfl⟩,
   ⟨_, _, rfl, rfl, rfl, rfl, rfl, rfl⟩,
   ⟨_, _, rfl, rfl, rfl, rfl, rfl, rfl⟩,
   ⟨_, _, rfl, rfl, rfl, rfl, rfl, rfl⟩,
   ⟨_, _, rfl, rfl, rfl, rfl, rfl, rfl⟩,
   ⟨_, _, rfl, rfl, rfl, rfl, rfl, rfl⟩,
   ⟨_, _, rfl, rfl, rfl, rfl, rfl, rfl, rfl, rfl, rfl⟩,
   ⟨_, _, rfl, rfl, rfl, rfl, rfl, rfl, rfl, rfl, rfl⟩,
   ⟨_, _, rfl, rfl, rfl, rfl, rfl, rfl⟩,
   ⟨_, _, rfl, rfl, rfl, rfl, rfl, rfl⟩,
   ⟨_, _, rfl, rfl, rfl, rfl, rfl, rfl⟩,
   ⟨_, _, rfl, rfl, rfl, rfl, rfl, rfl⟩,
   ⟨_, _, rfl, rfl, rfl, rfl, rfl, rfl⟩,
   ⟨_, _, rfl, rfl, rfl, rfl, rfl, rfl⟩,
   ⟨_, _, rfl, rfl, rfl, rfl, rfl, rfl⟩,
   ⟨_, _, rfl, rfl, rfl, rfl, rfl, rfl, rfl, rfl, rfl⟩,
   ⟨_, _, rfl, rfl, rfl, rfl, rfl, rfl, rfl, rfl, rfl⟩,
   ⟨_, _, rfl, rfl, rfl, rfl, rfl, rfl⟩,
   ⟨_, _, rfl, rfl, rfl, rfl, rfl, rfl⟩,
   ⟨_, _, rfl, rfl, rfl, rfl, rfl, rfl⟩,
   ⟨_, _, rfl, rfl, rfl, rfl, rfl, rfl⟩,
   ⟨_, _, rfl, rfl, rfl, rfl, rfl, rfl⟩,
   ⟨_, _, rfl, rfl, rfl, rfl, rfl, rfl⟩,
   ⟨_, _, rfl, rfl, rfl, rfl, rfl, rfl⟩,
   ⟨_, _, rfl, rfl, rfl, rfl, rfl, rfl⟩,
   ⟨_, _, rfl, rfl, rfl, rfl, rfl, rfl⟩,
   ⟨_, _, rfl, rfl, rfl, rfl, rfl, rfl⟩,
   ⟨_, _, rfl, rfl, rfl, rfl, rfl, rfl⟩,
   ⟨_, _, rfl, rfl, rfl, rfl, rfl, rfl⟩,
   ⟨_, _, rfl, rfl, rfl, rfl, rfl, rfl⟩,
   ⟨_, _, rfl, rfl, rfl, rfl, rfl, rfl⟩,
   ⟨_, _, rfl, rfl, rfl, rfl, rfl, rfl⟩,
   ⟨_, _, rfl, rfl, rfl, rfl, rfl, rfl⟩,
   ⟨_, _, rfl, rfl, rfl, rfl, rfl, rfl⟩,
   ⟨_, _, _, rfl, rfl, rfl, rfl, rfl, rfl, rfl, rfl, by simp [Value.cells, Value.oneCell'], by decide, by decide, by decide⟩,
   ⟨_, _, rfl, rfl, rfl, rfl, rfl, rfl, rfl, rfl, rfl⟩,
   ⟨_, _, rfl, rfl, rfl, rfl, rfl, rfl⟩,
   ⟨_, _, rfl, rfl, rfl, rfl, rfl, rfl⟩,
   ⟨_, _, rfl, rfl, rfl, rfl, rfl, rfl⟩,
   ⟨_, _, rfl, rfl, rfl, rfl, rfl, rfl⟩,
   ⟨_, _, rfl, rfl, rfl, rfl, rfl, rfl⟩,
   ⟨_, _, rfl, rfl, rfl, rfl, rfl, rfl⟩,
   ⟨_, _, rfl, rfl, rfl, rfl, rfl, rfl⟩,
   ⟨_, _, rfl, rfl, rfl, rfl, rfl, rfl⟩,
   ⟨_, _, rfl, rfl, rfl, rfl, rfl, rfl⟩,
   ⟨_, _, rfl, rfl, rfl, rfl, rfl, rfl⟩,
   ⟨_, _, rfl, rfl, rfl, rfl, rfl, rfl⟩,
   ⟨_, _, rfl, rfl, rfl, rfl, rfl, rfl⟩,
   ⟨_, _, rfl, rfl, rfl, rfl, rfl, rfl⟩,
   ⟨_, _, rfl, rfl, rfl, rfl, rfl, rfl⟩,
   ⟨_, _, rfl, rfl, rfl, rfl, rfl, rfl⟩,
   ⟨_, _, rfl, rfl, rfl, rfl, rfl, rfl⟩,
   ⟨_, _, rfl, rfl, rfl, rfl, rfl, rfl⟩,
   ⟨_, _, rfl, rfl, rfl, rfl, rfl, rfl⟩,
   ⟨_, _, rfl, rfl, rfl, rfl, rfl, rfl⟩,
   ⟨_, _, rfl, rfl, rfl, rfl, rfl, rfl⟩,
   ⟨_, _, rfl, rfl, rfl, rfl, rfl, rfl⟩,
   ⟨_, _, rfl, rfl, rfl, rfl, rfl, rfl⟩,
   ⟨_, _, rfl, rfl, rfl, rfl, rfl, rfl⟩, trivial⟩
theorem mixed : Tryd.prog.follows .mixedOrders = true := by kernel_rfl
end Go.Proofs.YtgonkhaebmfgiaaDoor
