/- The seat: functions by name, the types that are used. No condition. -/
import Derived.Test.YtigifkjcghkiiaaDoorFpE
import Derived.Test.YtigifkjcghkiiaaDoorProg
import Derived.KernelRfl
set_option linter.unusedSimpArgs false
set_option linter.unusedVariables false
namespace Go.Proofs.YtigifkjcghkiiaaDoor
open Go Fp

abbrev n_main_main : Nat := 0
abbrev n_fuguelaw09_UnifyEqual : Nat := 3
abbrev n_fuguelaw09_UnifyLeast : Nat := 4
abbrev n_fuguelaw09_UnifyRow : Nat := 5
abbrev n_fuguelaw09_UnifyMatches : Nat := 6
abbrev n_fuguelaw09_UnifyBoth : Nat := 7
abbrev n_fuguelaw09_UnifyOnes : Nat := 8
abbrev n_fuguelaw09_UnifyGreat : Nat := 9
abbrev n_fuguelaw09_UnifyTwice : Nat := 10
abbrev n_fuguelaw09_UnifyAlls : Nat := 11
abbrev n_unify_New : Nat := 12
abbrev n_fugueref09_Pair : Nat := 13
abbrev n_unify_Subst_Unify : Nat := 14
abbrev n_fugueref04_Same : Nat := 15
abbrev n_unify_Subst_Apply : Nat := 16
abbrev n_fuguelaw09_lives : Nat := 17
abbrev n_fugueref04_Plain : Nat := 18
abbrev n_fuguelaw09_ground : Nat := 19
abbrev n_fugueref09_Full : Nat := 20
abbrev n_fugueref04_Size : Nat := 21
abbrev n_fugueref04_Equal : Nat := 22
abbrev n_fugueref09_Names : Nat := 23
abbrev n_fugueref04_Subst : Nat := 24
abbrev n_unify_Match : Nat := 25
abbrev n_fugueref09_Match : Nat := 26
abbrev n_unify_Subst_Fresh : Nat := 27
abbrev n_types_Subst : Nat := 28
abbrev n_fugueref09_Unify : Nat := 29
abbrev n_fuguelaw09_same : Nat := 30
abbrev n_fugueref01_Around : Nat := 31
abbrev n_fugueref04_Fun : Nat := 32
abbrev n_fugueref01_SameInts : Nat := 33
abbrev n_unify_Subst_Known : Nat := 34
abbrev n_fugueref09_Known : Nat := 35
abbrev n_fugueref04_Made : Nat := 36
abbrev n_types_All : Nat := 37
abbrev n_fugueref04_Name : Nat := 38
abbrev n_fugueref04_Rest : Nat := 39
abbrev n_maps_Clone_mapintapiTypeintapiType : Nat := 40
abbrev n_unify_Subst_one : Nat := 41
abbrev n_fugueref04_Nameless : Nat := 42
abbrev n_unify_Subst_look : Nat := 43
abbrev n_unify_each : Nat := 44
abbrev n_types_Print : Nat := 45
abbrev n_fugueref04_build : Nat := 46
abbrev n_fugueref01_Ints : Nat := 47
abbrev n_fugueref04_at : Nat := 48
abbrev n_fugueref04_app : Nat := 49
abbrev n_fugueref04_Free : Nat := 50
abbrev n_fugueref01_Has : Nat := 51
abbrev n_fugueref01_Letters : Nat := 52
abbrev n_unify_match : Nat := 53
abbrev n_fugueref09_find : Nat := 54
abbrev n_types_Meta : Nat := 55
abbrev n_slices_Index_stringstring : Nat := 56
abbrev n_types_own : Nat := 57
abbrev n_types_apply : Nat := 58
abbrev n_types_under : Nat := 59
abbrev n_fugueref09_know : Nat := 60
abbrev n_slices_Sorted_int : Nat := 61
abbrev n_maps_Keys_mapintapiTypeintapiType : Nat := 62
abbrev n_maps_clone : Nat := 63
abbrev n_unify_Subst_bind : Nat := 64
abbrev n_types_Same : Nat := 65
abbrev n_fugueref01_Decimal : Nat := 66
abbrev n_types_print : Nat := 67
abbrev n_fugueref04_Con : Nat := 68
abbrev n_fugueref04_free : Nat := 69
abbrev n_types_App : Nat := 70
abbrev n_types_Free : Nat := 71
abbrev n_slices_Contains_stringstring : Nat := 72
abbrev n_types_letter : Nat := 73
abbrev n_types_Var : Nat := 74
abbrev n_fugueref09_in : Nat := 75
abbrev n_slices_Collect_int : Nat := 76
abbrev n_slices_Sort_intint : Nat := 77
abbrev n_maps_Keys_map_int_fugue_api_Type_int_fugue_api_Type_1 : Nat := 78
abbrev n_unify_Subst_within : Nat := 79
abbrev n_unify_Subst_great : Nat := 80
abbrev n_types_same : Nat := 81
abbrev n_types_parts : Nat := 82
abbrev n_types_boolean : Nat := 83
abbrev n_strconv_Itoa : Nat := 84
abbrev n_chars_Letters : Nat := 85
abbrev n_fugueref04_Metas : Nat := 86
abbrev n_slices_AppendSeq_intint : Nat := 87
abbrev n_slices_pdqsortOrdered_int : Nat := 88
abbrev n_math_bits_Len : Nat := 89
abbrev n_slices_ContainsFunc_apiTypeapiType : Nat := 90
abbrev n_unify_Subst_within_1 : Nat := 91
abbrev n_unify_Subst_size : Nat := 92
abbrev n_types_place : Nat := 93
abbrev n_internal_strconv_Itoa : Nat := 94
abbrev n_fugueref04_metas : Nat := 95
abbrev n_slices_insertionSortOrdered_int : Nat := 96
abbrev n_slices_heapSortOrdered_int : Nat := 97
abbrev n_slices_breakPatternsOrdered_int : Nat := 98
abbrev n_slices_choosePivotOrdered_int : Nat := 99
abbrev n_slices_reverseRangeOrdered_int : Nat := 100
abbrev n_slices_partialInsertionSortOrdered_int : Nat := 101
abbrev n_cmp_Less_int : Nat := 102
abbrev n_slices_partitionEqualOrdered_int : Nat := 103
abbrev n_slices_partitionOrdered_int : Nat := 104
abbrev n_math_bits_Len32 : Nat := 105
abbrev n_math_bits_Len64 : Nat := 106
abbrev n_slices_IndexFunc_apiTypeapiType : Nat := 107
abbrev n_internal_strconv_FormatInt : Nat := 108
abbrev n_slices_siftDownOrdered_int : Nat := 109
abbrev n_slices_nextPowerOfTwo : Nat := 110
abbrev n_slices_medianAdjacentOrdered_int : Nat := 112
abbrev n_slices_medianOrdered_int : Nat := 113
abbrev n_cmp_isNaN_int : Nat := 114
abbrev n_internal_strconv_small : Nat := 115
abbrev n_internal_strconv_numDigits : Nat := 116
abbrev n_internal_strconv_formatBase10 : Nat := 117
abbrev n_internal_strconv_formatBits : Nat := 118
abbrev n_slices_order2Ordered_int : Nat := 119
abbrev n_internal_strconv_log10Pow2 : Nat := 120
abbrev n_internal_strconv_bool2_int : Nat := 121
abbrev n_internal_strconv_isPowerOfTwo : Nat := 122
abbrev n_math_bits_TrailingZeros : Nat := 123
abbrev n_math_bits_TrailingZeros32 : Nat := 124
abbrev n_math_bits_TrailingZeros64 : Nat := 125

def tt : TT := [(2, .sc (.lit (.int .i64 0))), (3, .sc (.lit (.int .i64 0))), (4, .sc (.lit (.bool false))), (5, .sc (.lit (.int .u8 0))), (9, .sc (.lit (.string .empty))), (21, .sc (.lit (.int .i32 0))), (22, .sl 3 1), (23, .sc (.lit (.pointer none))), (25, .sl 27 4), (26, .st 4 [(0, 1), (1, 1), (2, 1), (3, 1)] [3, 3, 9, 25] [.lit (.int .i64 0), .lit (.int .i64 0), .lit (.string .empty), .nil]), (27, .st 4 [(0, 1), (1, 1), (2, 1), (3, 1)] [3, 3, 9, 25] [.lit (.int .i64 0), .lit (.int .i64 0), .lit (.string .empty), .nil]), (30, .sc (.lit (.int .i64 0))), (36, .sl 22 1), (38, .st 2 [(0, 1), (1, 1)] [22, 25] [.nil, .nil]), (39, .st 2 [(0, 1), (1, 1)] [22, 25] [.nil, .nil]), (44, .sl 9 1), (64, .sl 25 1), (66, .mp 3 27), (67, .st 2 [(0, 1), (1, 1)] [3, 66] [.lit (.int .i64 0), .lit (.map none)]), (68, .st 2 [(0, 1), (1, 1)] [3, 66] [.lit (.int .i64 0), .lit (.map none)]), (93, .sl 5 1), (108, .sc (.lit (.int .u64 0))), (111, .mp 3 3), (124, .sc (.lit (.int .u32 0))), (126, .sc (.lit (.int .u64 0))), (133, .sc (.lit (.pointer none))), (139, .sc (.lit (.pointer none))), (157, .sc (.lit (.pointer none)))]
set_option maxRecDepth 100000 in
theorem ttok : TTok Tryd.prog tt :=
  ⟨⟨_, _, rfl, rfl, rfl, rfl, rfl, rfl⟩,
   ⟨_, _, rfl, rfl, rfl, rfl, rfl, rfl⟩,
   ⟨_, _, rfl, rfl, rfl, rfl, rfl, rfl⟩,
   ⟨_, _, rfl, rfl, rfl, rfl, rfl, rfl⟩,
   ⟨_, _, rfl, rfl, rfl, rfl, rfl, rfl⟩,
   ⟨_, _, rfl, rfl, rfl, rfl, rfl, rfl⟩,
   ⟨_, _, _, rfl, rfl, rfl, rfl, rfl, rfl, rfl, rfl, by simp [Value.cells, Value.oneCell'], by decide, by decide, by decide⟩,
   ⟨_, _, rfl, rfl, rfl, rfl, rfl, rfl⟩,
   ⟨_, _, _, rfl, rfl, rfl, rfl, rfl, rfl, rfl, rfl, by simp [Value.cells, Value.oneCell'], by decide, by decide, by decide⟩,
   ⟨_, _, rfl, rfl, rfl, rfl, rfl, rfl, rfl, rfl, rfl⟩,
   ⟨_, _, rfl, rfl, rfl, rfl, rfl, rfl, rfl, rfl, rfl⟩,
   ⟨_, _, rfl, rfl, rfl, rfl, rfl, rfl⟩,
   ⟨_, _, _, rfl, rfl, rfl, rfl, rfl, rfl, rfl, rfl, by simp [Value.cells, Value.oneCell'], by decide, by decide, by decide⟩,
   ⟨_, _, rfl, rfl, rfl, rfl, rfl, rfl, rfl, rfl, rfl⟩,
   ⟨_, _, rfl, rfl, rfl, rfl, rfl, rfl, rfl, rfl, rfl⟩,
   ⟨_, _, _, rfl, rfl, rfl, rfl, rfl, rfl, rfl, rfl, by simp [Value.cells, Value.oneCell'], by decide, by decide, by decide⟩,
   ⟨_, _, _, rfl, rfl, rfl, rfl, rfl, rfl, rfl, rfl, by simp [Value.cells, Value.oneCell'], by decide, by decide, by decide⟩,
   ⟨rfl, _, rfl, rfl, rfl⟩,
   ⟨_, _, rfl, rfl, rfl, rfl, rfl, rfl, rfl, rfl, rfl⟩,
   ⟨_, _, rfl, rfl, rfl, rfl, rfl, rfl, rfl, rfl, rfl⟩,
   ⟨_, _, _, rfl, rfl, rfl, rfl, rfl, rfl, rfl, rfl, by simp [Value.cells, Value.oneCell'], by decide, by decide, by decide⟩,
   ⟨_, _, rfl, rfl, rfl, rfl, rfl, rfl⟩,
   ⟨rfl, _, rfl, rfl, rfl⟩,
   ⟨_, _, rfl, rfl, rfl, rfl, rfl, rfl⟩,
   ⟨_, _, rfl, rfl, rfl, rfl, rfl, rfl⟩,
   ⟨_, _, rfl, rfl, rfl, rfl, rfl, rfl⟩,
   ⟨_, _, rfl, rfl, rfl, rfl, rfl, rfl⟩,
   ⟨_, _, rfl, rfl, rfl, rfl, rfl, rfl⟩, trivial⟩
theorem mixed : Tryd.prog.follows .mixedOrders = true := by kernel_rfl
end Go.Proofs.YtigifkjcghkiiaaDoor
