/- The seat: functions by name, the types that are used. No condition. -/
import Derived.Test.YtocglbflmkadeaaDoorFpE
import Derived.Test.YtocglbflmkadeaaDoorProg
import Derived.KernelRfl
set_option linter.unusedSimpArgs false
set_option linter.unusedVariables false
namespace Go.Proofs.YtocglbflmkadeaaDoor
open Go Fp

abbrev n_main_main : Nat := 0
abbrev n_fuguelaw04_TypesSplits : Nat := 3
abbrev n_fuguelaw04_TypesMakes : Nat := 4
abbrev n_fuguelaw04_TypesPrints : Nat := 5
abbrev n_fuguelaw04_TypesSame : Nat := 6
abbrev n_fuguelaw04_TypesCounts : Nat := 7
abbrev n_fuguelaw04_TypesPuts : Nat := 8
abbrev n_fuguelaw04_TypesCatches : Nat := 9
abbrev n_fuguelaw04_TypesComposes : Nat := 10
abbrev n_fugueref04_Made : Nat := 11
abbrev n_types_Split : Nat := 12
abbrev n_fugueref04_Function : Nat := 13
abbrev n_fugueref04_Equal : Nat := 14
abbrev n_fugueref04_Fun : Nat := 15
abbrev n_fuguelaw04_lives : Nat := 16
abbrev n_fugueref04_Name : Nat := 17
abbrev n_types_Fun : Nat := 18
abbrev n_types_App : Nat := 19
abbrev n_types_Spine : Nat := 20
abbrev n_types_All : Nat := 21
abbrev n_types_Meta : Nat := 22
abbrev n_types_Var : Nat := 23
abbrev n_types_Print : Nat := 24
abbrev n_fugueref04_Print : Nat := 25
abbrev n_types_Same : Nat := 26
abbrev n_fugueref04_Subst : Nat := 27
abbrev n_fugueref04_Same : Nat := 28
abbrev n_fugueref01_SameTexts : Nat := 29
abbrev n_types_Free : Nat := 30
abbrev n_fugueref04_Free : Nat := 31
abbrev n_fugueref01_SameInts : Nat := 32
abbrev n_types_Metas : Nat := 33
abbrev n_fugueref04_Metas : Nat := 34
abbrev n_types_Size : Nat := 35
abbrev n_fugueref04_Size : Nat := 36
abbrev n_fuguelaw04_names : Nat := 37
abbrev n_types_Subst : Nat := 38
abbrev n_fugueref01_Has : Nat := 39
abbrev n_fugueref04_build : Nat := 40
abbrev n_fugueref01_Ints : Nat := 41
abbrev n_types_parts : Nat := 42
abbrev n_types_own : Nat := 43
abbrev n_fugueref04_app : Nat := 44
abbrev n_types_Con : Nat := 45
abbrev n_fugueref01_Around : Nat := 46
abbrev n_types_apply : Nat := 47
abbrev n_slices_Reverse_apiTypeapiType : Nat := 48
abbrev n_types_print : Nat := 49
abbrev n_fugueref04_bracket : Nat := 50
abbrev n_fugueref01_Decimal : Nat := 51
abbrev n_types_same : Nat := 52
abbrev n_fugueref04_at : Nat := 53
abbrev n_fugueref01_Letters : Nat := 54
abbrev n_fugueref04_Nameless : Nat := 55
abbrev n_slices_Contains_stringstring : Nat := 56
abbrev n_fugueref04_free : Nat := 57
abbrev n_slices_Contains_intint : Nat := 58
abbrev n_fugueref04_metas : Nat := 59
abbrev n_slices_Index_stringstring : Nat := 60
abbrev n_types_under : Nat := 61
abbrev n_fugueref04_Con : Nat := 62
abbrev n_types_boolean : Nat := 63
abbrev n_strconv_Itoa : Nat := 64
abbrev n_types_place : Nat := 65
abbrev n_slices_Index_intint : Nat := 66
abbrev n_types_letter : Nat := 67
abbrev n_internal_strconv_Itoa : Nat := 68
abbrev n_chars_Letters : Nat := 69
abbrev n_internal_strconv_FormatInt : Nat := 70
abbrev n_internal_strconv_small : Nat := 71
abbrev n_internal_strconv_numDigits : Nat := 72
abbrev n_internal_strconv_formatBase10 : Nat := 73
abbrev n_internal_strconv_formatBits : Nat := 74
abbrev n_internal_strconv_log10Pow2 : Nat := 75
abbrev n_math_bits_Len64 : Nat := 76
abbrev n_internal_strconv_bool2_int : Nat := 77
abbrev n_internal_strconv_isPowerOfTwo : Nat := 78
abbrev n_math_bits_TrailingZeros : Nat := 79
abbrev n_math_bits_TrailingZeros32 : Nat := 80
abbrev n_math_bits_TrailingZeros64 : Nat := 81

def tt : TT := [(2, .sc (.lit (.int .i64 0))), (3, .sc (.lit (.int .i64 0))), (4, .sc (.lit (.bool false))), (5, .sc (.lit (.int .u8 0))), (9, .sc (.lit (.string .empty))), (21, .sc (.lit (.int .i32 0))), (22, .sl 3 1), (23, .sl 25 4), (24, .st 4 [(0, 1), (1, 1), (2, 1), (3, 1)] [3, 3, 9, 23] [.lit (.int .i64 0), .lit (.int .i64 0), .lit (.string .empty), .nil]), (25, .st 4 [(0, 1), (1, 1), (2, 1), (3, 1)] [3, 3, 9, 23] [.lit (.int .i64 0), .lit (.int .i64 0), .lit (.string .empty), .nil]), (45, .sl 9 1), (51, .sl 22 1), (72, .sl 5 1), (77, .sc (.lit (.int .u64 0))), (84, .sc (.lit (.int .u32 0))), (87, .sc (.lit (.int .u64 0))), (102, .sc (.lit (.pointer none)))]
set_option maxRecDepth 100000 in
theorem ttok : TTok Tryd.prog tt :=
  ⟨⟨_, _, rfl, rfl, rfl, rfl, rfl, rfl⟩,
   ⟨_, _, rfl, rfl, rfl, rfl, rfl, rfl⟩,
   ⟨_, _, rfl, rfl, rfl, rfl, rfl, rfl⟩,
   ⟨_, _, rfl, rfl, rfl, rfl, rfl, rfl⟩,
   ⟨_, _, rfl, rfl, rfl, rfl, rfl, rfl⟩,
   ⟨_, _, rfl, rfl, rfl, rfl, rfl, rfl⟩,
   ⟨_, _, _, rfl, rfl, rfl, rfl, rfl, rfl, rfl, rfl, by simp [Value.cells, Value.oneCell'], by decide, by decide, by decide⟩,
   ⟨_, _, _, rfl, rfl, rfl, rfl, rfl, rfl, rfl, rfl, by simp [Value.cells, Value.oneCell'], by decide, by decide, by decide⟩,
   ⟨_, _, rfl, rfl, rfl, rfl, rfl, rfl, rfl, rfl, rfl⟩,
   ⟨_, _, rfl, rfl, rfl, rfl, rfl, rfl, rfl, rfl, rfl⟩,
   ⟨_, _, _, rfl, rfl, rfl, rfl, rfl, rfl, rfl, rfl, by simp [Value.cells, Value.oneCell'], by decide, by decide, by decide⟩,
   ⟨_, _, _, rfl, rfl, rfl, rfl, rfl, rfl, rfl, rfl, by simp [Value.cells, Value.oneCell'], by decide, by decide, by decide⟩,
   ⟨_, _, _, rfl, rfl, rfl, rfl, rfl, rfl, rfl, rfl, by simp [Value.cells, Value.oneCell'], by decide, by decide, by decide⟩,
   ⟨_, _, rfl, rfl, rfl, rfl, rfl, rfl⟩,
   ⟨_, _, rfl, rfl, rfl, rfl, rfl, rfl⟩,
   ⟨_, _, rfl, rfl, rfl, rfl, rfl, rfl⟩,
   ⟨_, _, rfl, rfl, rfl, rfl, rfl, rfl⟩, trivial⟩
theorem mixed : Tryd.prog.follows .mixedOrders = true := by kernel_rfl
end Go.Proofs.YtocglbflmkadeaaDoor
