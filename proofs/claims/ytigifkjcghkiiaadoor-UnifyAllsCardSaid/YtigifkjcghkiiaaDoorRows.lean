/-
  NARROWER THAN 'FOR EVERY INPUT', by the rows' own cells (each row's printed sentence says how): UnifyEqual: laid · UnifyLeast: laid · UnifyRow: laid · UnifyMatches: laid · UnifyBoth: laid · UnifyOnes: laid · UnifyGreat: laid · UnifyTwice: laid · UnifyAlls: laid.
  DERIVED. THE GIVEN ROWS OF THIS SEAT. 9 by the template 'for every input the law returns true; each argument reads behind the call as it read before'; 0 by the template 'total and deterministic' (their statements: YtigifkjcghkiiaaDoorTotals.lean).
  GIVEN WITH THE SEED: the statements are not yours to turn. If you find one false, say at which input.
  Laid BY PROGRAM, IN A SANDBOX (cutbox-rows.mjs): the forced cells as the released guide's own fill.sh prints them over the translation 837ede1ac8cf46cd… (all of the seat's roots in one cut). By AI agents, Wed Nov 11 2026. No macro, syntax, notation, axiom, sorry.
-/
import Derived.Test.YtigifkjcghkiiaaDoorChecked
import GoSem.Claim
import GoSem.ClaimJoined
import GoSem.ClaimMapViews
import Derived.JoinedTies
import Derived.KernelRfl
namespace Go.Proofs.YtigifkjcghkiiaaDoor
/- THE CELL 'sum', in the pinned program and in every row, IS THE sha256 OF THE DUMP (.gsa) THAT YtigifkjcghkiiaaDoorProg.lean LOADS. Nothing in Lean hashes anything: it is a label: what it is worth is what the hold of that sum in a sandbox is worth. -/
noncomputable def Tryd.pinned : Pinned := { name := "ytigifkjcghkiiaadoor", sum := "837ede1ac8cf46cd3d4ec3adce086660ae46b3569dcc05201fb104ebe638d89e", checked := Tryd.checked }
namespace Rows
def none {H : Type} : Left H := { results := [], args := [] }

/- WHAT THE LISTED PACKAGE-LEVEL VARIABLES READ AS WHEN THE CALL BEGINS. Each datum BY PROGRAM (the guide's laid-datum.mjs) off the statement by which the dump's own 'gosem.cut.vars' lays the variable. In a bare row this is a premise. The card (YtigifkjcghkiiaaDoorCards.lean) ties it to the program's text. -/
def laid_math_bits_deBruijn32tab {H : Type} : DataW H := .agg [.lit (.int .u8 0), .lit (.int .u8 1), .lit (.int .u8 28), .lit (.int .u8 2), .lit (.int .u8 29), .lit (.int .u8 14), .lit (.int .u8 24), .lit (.int .u8 3), .lit (.int .u8 30), .lit (.int .u8 22), .lit (.int .u8 20), .lit (.int .u8 15), .lit (.int .u8 25), .lit (.int .u8 17), .lit (.int .u8 4), .lit (.int .u8 8), .lit (.int .u8 31), .lit (.int .u8 27), .lit (.int .u8 13), .lit (.int .u8 23), .lit (.int .u8 21), .lit (.int .u8 19), .lit (.int .u8 16), .lit (.int .u8 7), .lit (.int .u8 26), .lit (.int .u8 12), .lit (.int .u8 18), .lit (.int .u8 6), .lit (.int .u8 11), .lit (.int .u8 5), .lit (.int .u8 10), .lit (.int .u8 9)]
def laid_math_bits_deBruijn64tab {H : Type} : DataW H := .agg [.lit (.int .u8 0), .lit (.int .u8 1), .lit (.int .u8 56), .lit (.int .u8 2), .lit (.int .u8 57), .lit (.int .u8 49), .lit (.int .u8 28), .lit (.int .u8 3), .lit (.int .u8 61), .lit (.int .u8 58), .lit (.int .u8 42), .lit (.int .u8 50), .lit (.int .u8 38), .lit (.int .u8 29), .lit (.int .u8 17), .lit (.int .u8 4), .lit (.int .u8 62), .lit (.int .u8 47), .lit (.int .u8 59), .lit (.int .u8 36), .lit (.int .u8 45), .lit (.int .u8 43), .lit (.int .u8 51), .lit (.int .u8 22), .lit (.int .u8 53), .lit (.int .u8 39), .lit (.int .u8 33), .lit (.int .u8 30), .lit (.int .u8 24), .lit (.int .u8 18), .lit (.int .u8 12), .lit (.int .u8 5), .lit (.int .u8 63), .lit (.int .u8 55), .lit (.int .u8 48), .lit (.int .u8 27), .lit (.int .u8 60), .lit (.int .u8 41), .lit (.int .u8 37), .lit (.int .u8 16), .lit (.int .u8 46), .lit (.int .u8 35), .lit (.int .u8 44), .lit (.int .u8 21), .lit (.int .u8 52), .lit (.int .u8 32), .lit (.int .u8 23), .lit (.int .u8 11), .lit (.int .u8 54), .lit (.int .u8 26), .lit (.int .u8 40), .lit (.int .u8 15), .lit (.int .u8 34), .lit (.int .u8 20), .lit (.int .u8 31), .lit (.int .u8 10), .lit (.int .u8 25), .lit (.int .u8 14), .lit (.int .u8 19), .lit (.int .u8 9), .lit (.int .u8 13), .lit (.int .u8 8), .lit (.int .u8 7), .lit (.int .u8 6)]
def laid_internal_strconv_uint64pow10 {H : Type} : DataW H := .agg [.lit (.int .u64 1), .lit (.int .u64 10), .lit (.int .u64 100), .lit (.int .u64 1000), .lit (.int .u64 10000), .lit (.int .u64 100000), .lit (.int .u64 1000000), .lit (.int .u64 10000000), .lit (.int .u64 100000000), .lit (.int .u64 1000000000), .lit (.int .u64 10000000000), .lit (.int .u64 100000000000), .lit (.int .u64 1000000000000), .lit (.int .u64 10000000000000), .lit (.int .u64 100000000000000), .lit (.int .u64 1000000000000000), .lit (.int .u64 10000000000000000), .lit (.int .u64 100000000000000000), .lit (.int .u64 1000000000000000000), .lit (.int .u64 10000000000000000000)]

/-- 'fuguelaw09.UnifyEqual': WHATEVER THE INPUT: true; the input reads as it did. -/
def unifyEqualSpec : ChangeSpec := { name := "unifyEqual", fn := fun _ => fun
  | [d1, d2] => { results := [.lit (.bool true)], args := [d1, d2] }
  | _ => none }
def unifyEqualRow : OpenClaim := { program := "ytigifkjcghkiiaadoor", sum := "837ede1ac8cf46cd3d4ec3adce086660ae46b3569dcc05201fb104ebe638d89e", func := "fugue/fuguelaw09.UnifyEqual", spec := "unifyEqual", inPlace := ["maps.clone"], unfollowed := true, recurses := true, named := ["internal/strconv.uint64pow10", "math/bits.deBruijn32tab", "math/bits.deBruijn64tab"], apart := false, laid := [("math/bits.deBruijn32tab", laid_math_bits_deBruijn32tab), ("math/bits.deBruijn64tab", laid_math_bits_deBruijn64tab), ("internal/strconv.uint64pow10", laid_internal_strconv_uint64pow10)] }
def UnifyEqualSaid : Prop := unifyEqualRow.holds Tryd.pinned (OpenSpec.ofChange unifyEqualSpec)

/-- ITS FALSE NEIGHBOUR: 'it returns false'. Refute it at one input. -/
def unifyEqualWrong : ChangeSpec := { name := "unifyEqual", fn := fun _ => fun
  | [d1, d2] => { results := [.lit (.bool false)], args := [d1, d2] }
  | _ => none }
def UnifyEqualWrongFalsely : Prop := unifyEqualRow.holds Tryd.pinned (OpenSpec.ofChange unifyEqualWrong)

/-- 'fuguelaw09.UnifyLeast': WHATEVER THE INPUT: true; the input reads as it did. -/
def unifyLeastSpec : ChangeSpec := { name := "unifyLeast", fn := fun _ => fun
  | [d1, d2] => { results := [.lit (.bool true)], args := [d1, d2] }
  | _ => none }
def unifyLeastRow : OpenClaim := { program := "ytigifkjcghkiiaadoor", sum := "837ede1ac8cf46cd3d4ec3adce086660ae46b3569dcc05201fb104ebe638d89e", func := "fugue/fuguelaw09.UnifyLeast", spec := "unifyLeast", inPlace := ["maps.clone"], unfollowed := true, recurses := true, named := ["internal/strconv.uint64pow10", "math/bits.deBruijn32tab", "math/bits.deBruijn64tab"], apart := false, laid := [("math/bits.deBruijn32tab", laid_math_bits_deBruijn32tab), ("math/bits.deBruijn64tab", laid_math_bits_deBruijn64tab), ("internal/strconv.uint64pow10", laid_internal_strconv_uint64pow10)] }
def UnifyLeastSaid : Prop := unifyLeastRow.holds Tryd.pinned (OpenSpec.ofChange unifyLeastSpec)

/-- ITS FALSE NEIGHBOUR: 'it returns false'. Refute it at one input. -/
def unifyLeastWrong : ChangeSpec := { name := "unifyLeast", fn := fun _ => fun
  | [d1, d2] => { results := [.lit (.bool false)], args := [d1, d2] }
  | _ => none }
def UnifyLeastWrongFalsely : Prop := unifyLeastRow.holds Tryd.pinned (OpenSpec.ofChange unifyLeastWrong)

/-- 'fuguelaw09.UnifyRow': WHATEVER THE INPUT: true; the input reads as it did. -/
def unifyRowSpec : ChangeSpec := { name := "unifyRow", fn := fun _ => fun
  | [d1, d2, d3] => { results := [.lit (.bool true)], args := [d1, d2, d3] }
  | _ => none }
def unifyRowRow : OpenClaim := { program := "ytigifkjcghkiiaadoor", sum := "837ede1ac8cf46cd3d4ec3adce086660ae46b3569dcc05201fb104ebe638d89e", func := "fugue/fuguelaw09.UnifyRow", spec := "unifyRow", inPlace := ["maps.clone"], unfollowed := true, recurses := true, named := ["internal/strconv.uint64pow10", "math/bits.deBruijn32tab", "math/bits.deBruijn64tab"], apart := false, laid := [("math/bits.deBruijn32tab", laid_math_bits_deBruijn32tab), ("math/bits.deBruijn64tab", laid_math_bits_deBruijn64tab), ("internal/strconv.uint64pow10", laid_internal_strconv_uint64pow10)] }
def UnifyRowSaid : Prop := unifyRowRow.holds Tryd.pinned (OpenSpec.ofChange unifyRowSpec)

/-- ITS FALSE NEIGHBOUR: 'it returns false'. Refute it at one input. -/
def unifyRowWrong : ChangeSpec := { name := "unifyRow", fn := fun _ => fun
  | [d1, d2, d3] => { results := [.lit (.bool false)], args := [d1, d2, d3] }
  | _ => none }
def UnifyRowWrongFalsely : Prop := unifyRowRow.holds Tryd.pinned (OpenSpec.ofChange unifyRowWrong)

/-- 'fuguelaw09.UnifyMatches': WHATEVER THE INPUT: true; the input reads as it did. -/
def unifyMatchesSpec : ChangeSpec := { name := "unifyMatches", fn := fun _ => fun
  | [d1, d2, d3, d4] => { results := [.lit (.bool true)], args := [d1, d2, d3, d4] }
  | _ => none }
def unifyMatchesRow : OpenClaim := { program := "ytigifkjcghkiiaadoor", sum := "837ede1ac8cf46cd3d4ec3adce086660ae46b3569dcc05201fb104ebe638d89e", func := "fugue/fuguelaw09.UnifyMatches", spec := "unifyMatches", inPlace := ["maps.clone"], unfollowed := true, recurses := true, named := ["internal/strconv.uint64pow10", "math/bits.deBruijn32tab", "math/bits.deBruijn64tab"], apart := false, laid := [("math/bits.deBruijn32tab", laid_math_bits_deBruijn32tab), ("math/bits.deBruijn64tab", laid_math_bits_deBruijn64tab), ("internal/strconv.uint64pow10", laid_internal_strconv_uint64pow10)] }
def UnifyMatchesSaid : Prop := unifyMatchesRow.holds Tryd.pinned (OpenSpec.ofChange unifyMatchesSpec)

/-- ITS FALSE NEIGHBOUR: 'it returns false'. Refute it at one input. -/
def unifyMatchesWrong : ChangeSpec := { name := "unifyMatches", fn := fun _ => fun
  | [d1, d2, d3, d4] => { results := [.lit (.bool false)], args := [d1, d2, d3, d4] }
  | _ => none }
def UnifyMatchesWrongFalsely : Prop := unifyMatchesRow.holds Tryd.pinned (OpenSpec.ofChange unifyMatchesWrong)

/-- 'fuguelaw09.UnifyBoth': WHATEVER THE INPUT: true; the input reads as it did. -/
def unifyBothSpec : ChangeSpec := { name := "unifyBoth", fn := fun _ => fun
  | [d1, d2, d3] => { results := [.lit (.bool true)], args := [d1, d2, d3] }
  | _ => none }
def unifyBothRow : OpenClaim := { program := "ytigifkjcghkiiaadoor", sum := "837ede1ac8cf46cd3d4ec3adce086660ae46b3569dcc05201fb104ebe638d89e", func := "fugue/fuguelaw09.UnifyBoth", spec := "unifyBoth", inPlace := ["maps.clone"], unfollowed := true, recurses := true, named := ["internal/strconv.uint64pow10", "math/bits.deBruijn32tab", "math/bits.deBruijn64tab"], apart := false, laid := [("math/bits.deBruijn32tab", laid_math_bits_deBruijn32tab), ("math/bits.deBruijn64tab", laid_math_bits_deBruijn64tab), ("internal/strconv.uint64pow10", laid_internal_strconv_uint64pow10)] }
def UnifyBothSaid : Prop := unifyBothRow.holds Tryd.pinned (OpenSpec.ofChange unifyBothSpec)

/-- ITS FALSE NEIGHBOUR: 'it returns false'. Refute it at one input. -/
def unifyBothWrong : ChangeSpec := { name := "unifyBoth", fn := fun _ => fun
  | [d1, d2, d3] => { results := [.lit (.bool false)], args := [d1, d2, d3] }
  | _ => none }
def UnifyBothWrongFalsely : Prop := unifyBothRow.holds Tryd.pinned (OpenSpec.ofChange unifyBothWrong)

/-- 'fuguelaw09.UnifyOnes': WHATEVER THE INPUT: true; the input reads as it did. -/
def unifyOnesSpec : ChangeSpec := { name := "unifyOnes", fn := fun _ => fun
  | [d] => { results := [.lit (.bool true)], args := [d] }
  | _ => none }
def unifyOnesRow : OpenClaim := { program := "ytigifkjcghkiiaadoor", sum := "837ede1ac8cf46cd3d4ec3adce086660ae46b3569dcc05201fb104ebe638d89e", func := "fugue/fuguelaw09.UnifyOnes", spec := "unifyOnes", inPlace := ["maps.clone"], unfollowed := true, recurses := true, named := ["internal/strconv.uint64pow10", "math/bits.deBruijn32tab", "math/bits.deBruijn64tab"], apart := false, laid := [("math/bits.deBruijn32tab", laid_math_bits_deBruijn32tab), ("math/bits.deBruijn64tab", laid_math_bits_deBruijn64tab), ("internal/strconv.uint64pow10", laid_internal_strconv_uint64pow10)] }
def UnifyOnesSaid : Prop := unifyOnesRow.holds Tryd.pinned (OpenSpec.ofChange unifyOnesSpec)

/-- ITS FALSE NEIGHBOUR: 'it returns false'. Refute it at one input. -/
def unifyOnesWrong : ChangeSpec := { name := "unifyOnes", fn := fun _ => fun
  | [d] => { results := [.lit (.bool false)], args := [d] }
  | _ => none }
def UnifyOnesWrongFalsely : Prop := unifyOnesRow.holds Tryd.pinned (OpenSpec.ofChange unifyOnesWrong)

/-- 'fuguelaw09.UnifyGreat': WHATEVER THE INPUT: true; the input reads as it did. -/
def unifyGreatSpec : ChangeSpec := { name := "unifyGreat", fn := fun _ => fun
  | [d1, d2] => { results := [.lit (.bool true)], args := [d1, d2] }
  | _ => none }
def unifyGreatRow : OpenClaim := { program := "ytigifkjcghkiiaadoor", sum := "837ede1ac8cf46cd3d4ec3adce086660ae46b3569dcc05201fb104ebe638d89e", func := "fugue/fuguelaw09.UnifyGreat", spec := "unifyGreat", inPlace := ["maps.clone"], unfollowed := true, recurses := true, named := ["internal/strconv.uint64pow10", "math/bits.deBruijn32tab", "math/bits.deBruijn64tab"], apart := false, laid := [("math/bits.deBruijn32tab", laid_math_bits_deBruijn32tab), ("math/bits.deBruijn64tab", laid_math_bits_deBruijn64tab), ("internal/strconv.uint64pow10", laid_internal_strconv_uint64pow10)] }
def UnifyGreatSaid : Prop := unifyGreatRow.holds Tryd.pinned (OpenSpec.ofChange unifyGreatSpec)

/-- ITS FALSE NEIGHBOUR: 'it returns false'. Refute it at one input. -/
def unifyGreatWrong : ChangeSpec := { name := "unifyGreat", fn := fun _ => fun
  | [d1, d2] => { results := [.lit (.bool false)], args := [d1, d2] }
  | _ => none }
def UnifyGreatWrongFalsely : Prop := unifyGreatRow.holds Tryd.pinned (OpenSpec.ofChange unifyGreatWrong)

/-- 'fuguelaw09.UnifyTwice': WHATEVER THE INPUT: true; the input reads as it did. -/
def unifyTwiceSpec : ChangeSpec := { name := "unifyTwice", fn := fun _ => fun
  | [d1, d2] => { results := [.lit (.bool true)], args := [d1, d2] }
  | _ => none }
def unifyTwiceRow : OpenClaim := { program := "ytigifkjcghkiiaadoor", sum := "837ede1ac8cf46cd3d4ec3adce086660ae46b3569dcc05201fb104ebe638d89e", func := "fugue/fuguelaw09.UnifyTwice", spec := "unifyTwice", inPlace := ["maps.clone"], unfollowed := true, recurses := true, named := ["internal/strconv.uint64pow10", "math/bits.deBruijn32tab", "math/bits.deBruijn64tab"], apart := false, laid := [("math/bits.deBruijn32tab", laid_math_bits_deBruijn32tab), ("math/bits.deBruijn64tab", laid_math_bits_deBruijn64tab), ("internal/strconv.uint64pow10", laid_internal_strconv_uint64pow10)] }
def UnifyTwiceSaid : Prop := unifyTwiceRow.holds Tryd.pinned (OpenSpec.ofChange unifyTwiceSpec)

/-- ITS FALSE NEIGHBOUR: 'it returns false'. Refute it at one input. -/
def unifyTwiceWrong : ChangeSpec := { name := "unifyTwice", fn := fun _ => fun
  | [d1, d2] => { results := [.lit (.bool false)], args := [d1, d2] }
  | _ => none }
def UnifyTwiceWrongFalsely : Prop := unifyTwiceRow.holds Tryd.pinned (OpenSpec.ofChange unifyTwiceWrong)

/-- 'fuguelaw09.UnifyAlls': WHATEVER THE INPUT: true; the input reads as it did. -/
def unifyAllsSpec : ChangeSpec := { name := "unifyAlls", fn := fun _ => fun
  | [d1, d2, d3] => { results := [.lit (.bool true)], args := [d1, d2, d3] }
  | _ => none }
def unifyAllsRow : OpenClaim := { program := "ytigifkjcghkiiaadoor", sum := "837ede1ac8cf46cd3d4ec3adce086660ae46b3569dcc05201fb104ebe638d89e", func := "fugue/fuguelaw09.UnifyAlls", spec := "unifyAlls", inPlace := ["maps.clone"], unfollowed := true, recurses := true, named := ["internal/strconv.uint64pow10", "math/bits.deBruijn32tab", "math/bits.deBruijn64tab"], apart := false, laid := [("math/bits.deBruijn32tab", laid_math_bits_deBruijn32tab), ("math/bits.deBruijn64tab", laid_math_bits_deBruijn64tab), ("internal/strconv.uint64pow10", laid_internal_strconv_uint64pow10)] }
def UnifyAllsSaid : Prop := unifyAllsRow.holds Tryd.pinned (OpenSpec.ofChange unifyAllsSpec)

/-- ITS FALSE NEIGHBOUR: 'it returns false'. Refute it at one input. -/
def unifyAllsWrong : ChangeSpec := { name := "unifyAlls", fn := fun _ => fun
  | [d1, d2, d3] => { results := [.lit (.bool false)], args := [d1, d2, d3] }
  | _ => none }
def UnifyAllsWrongFalsely : Prop := unifyAllsRow.holds Tryd.pinned (OpenSpec.ofChange unifyAllsWrong)

/- THE SECOND FORM. 'bulk': how many values and letters a reading holds, each counted each time it is reached (what is shared counts as often as it is met; a slice's spare places count too). A statement '..UptoSaid' is the law's where the arguments, and the package variables that the reading takes, are together of bulk at most 1048576: NARROWER than '..Said'. Prove '..Said' where nothing that the law and all that it calls make is longer than what came in: it says more and counts as full. Else prove '..UptoSaid'. A law counts once. -/
mutual
def uptoBulk {H : Type} : DataW H → Nat
  | .lit (.string bytes) => bytes.length + 1
  | .lit _ => 1
  | .nil => 1
  | .ptr d => uptoBulk d + 1
  | .slice elems spare => uptoBulkAll elems + uptoBulkAll spare + 1
  | .agg parts => uptoBulkAll parts + 1
  | .iface _ d => uptoBulk d + 1
  | .map entries => uptoBulkEntries entries + 1
  | .held _ => 1
def uptoBulkAll {H : Type} : List (DataW H) → Nat
  | [] => 0
  | d :: r => uptoBulk d + uptoBulkAll r
def uptoBulkEntries {H : Type} : List (Lit × DataW H) → Nat
  | [] => 0
  | x :: r => uptoBulkEntry x + uptoBulkEntries r
def uptoBulkEntry {H : Type} : Lit × DataW H → Nat
  | (.string bytes, d) => bytes.length + uptoBulk d + 1
  | (_, d) => uptoBulk d + 1
 end
def uptoSmall : (H : Type) → List (DataW H) → Bool := fun _ ds => decide (uptoBulkAll ds ≤ 1048576)
def OpenSpec.upto (s : _root_.Go.ChangeSpec) : _root_.Go.OpenSpec := { _root_.Go.OpenSpec.ofChange s with cond := some uptoSmall }

/-- 'fuguelaw09.UnifyEqual', WHERE WHAT IT READS IS OF BULK AT MOST 1048576: true; the input reads as it did. -/
def unifyEqualUptoRow : OpenClaim := { program := "ytigifkjcghkiiaadoor", sum := "837ede1ac8cf46cd3d4ec3adce086660ae46b3569dcc05201fb104ebe638d89e", func := "fugue/fuguelaw09.UnifyEqual", spec := "unifyEqual", inPlace := ["maps.clone"], unfollowed := true, recurses := true, named := ["internal/strconv.uint64pow10", "math/bits.deBruijn32tab", "math/bits.deBruijn64tab"], apart := false, laid := [("math/bits.deBruijn32tab", laid_math_bits_deBruijn32tab), ("math/bits.deBruijn64tab", laid_math_bits_deBruijn64tab), ("internal/strconv.uint64pow10", laid_internal_strconv_uint64pow10)], narrowed := true }
def UnifyEqualUptoSaid : Prop := unifyEqualUptoRow.holds Tryd.pinned (OpenSpec.upto unifyEqualSpec)

/-- 'fuguelaw09.UnifyLeast', WHERE WHAT IT READS IS OF BULK AT MOST 1048576: true; the input reads as it did. -/
def unifyLeastUptoRow : OpenClaim := { program := "ytigifkjcghkiiaadoor", sum := "837ede1ac8cf46cd3d4ec3adce086660ae46b3569dcc05201fb104ebe638d89e", func := "fugue/fuguelaw09.UnifyLeast", spec := "unifyLeast", inPlace := ["maps.clone"], unfollowed := true, recurses := true, named := ["internal/strconv.uint64pow10", "math/bits.deBruijn32tab", "math/bits.deBruijn64tab"], apart := false, laid := [("math/bits.deBruijn32tab", laid_math_bits_deBruijn32tab), ("math/bits.deBruijn64tab", laid_math_bits_deBruijn64tab), ("internal/strconv.uint64pow10", laid_internal_strconv_uint64pow10)], narrowed := true }
def UnifyLeastUptoSaid : Prop := unifyLeastUptoRow.holds Tryd.pinned (OpenSpec.upto unifyLeastSpec)

/-- 'fuguelaw09.UnifyRow', WHERE WHAT IT READS IS OF BULK AT MOST 1048576: true; the input reads as it did. -/
def unifyRowUptoRow : OpenClaim := { program := "ytigifkjcghkiiaadoor", sum := "837ede1ac8cf46cd3d4ec3adce086660ae46b3569dcc05201fb104ebe638d89e", func := "fugue/fuguelaw09.UnifyRow", spec := "unifyRow", inPlace := ["maps.clone"], unfollowed := true, recurses := true, named := ["internal/strconv.uint64pow10", "math/bits.deBruijn32tab", "math/bits.deBruijn64tab"], apart := false, laid := [("math/bits.deBruijn32tab", laid_math_bits_deBruijn32tab), ("math/bits.deBruijn64tab", laid_math_bits_deBruijn64tab), ("internal/strconv.uint64pow10", laid_internal_strconv_uint64pow10)], narrowed := true }
def UnifyRowUptoSaid : Prop := unifyRowUptoRow.holds Tryd.pinned (OpenSpec.upto unifyRowSpec)

/-- 'fuguelaw09.UnifyMatches', WHERE WHAT IT READS IS OF BULK AT MOST 1048576: true; the input reads as it did. -/
def unifyMatchesUptoRow : OpenClaim := { program := "ytigifkjcghkiiaadoor", sum := "837ede1ac8cf46cd3d4ec3adce086660ae46b3569dcc05201fb104ebe638d89e", func := "fugue/fuguelaw09.UnifyMatches", spec := "unifyMatches", inPlace := ["maps.clone"], unfollowed := true, recurses := true, named := ["internal/strconv.uint64pow10", "math/bits.deBruijn32tab", "math/bits.deBruijn64tab"], apart := false, laid := [("math/bits.deBruijn32tab", laid_math_bits_deBruijn32tab), ("math/bits.deBruijn64tab", laid_math_bits_deBruijn64tab), ("internal/strconv.uint64pow10", laid_internal_strconv_uint64pow10)], narrowed := true }
def UnifyMatchesUptoSaid : Prop := unifyMatchesUptoRow.holds Tryd.pinned (OpenSpec.upto unifyMatchesSpec)

/-- 'fuguelaw09.UnifyBoth', WHERE WHAT IT READS IS OF BULK AT MOST 1048576: true; the input reads as it did. -/
def unifyBothUptoRow : OpenClaim := { program := "ytigifkjcghkiiaadoor", sum := "837ede1ac8cf46cd3d4ec3adce086660ae46b3569dcc05201fb104ebe638d89e", func := "fugue/fuguelaw09.UnifyBoth", spec := "unifyBoth", inPlace := ["maps.clone"], unfollowed := true, recurses := true, named := ["internal/strconv.uint64pow10", "math/bits.deBruijn32tab", "math/bits.deBruijn64tab"], apart := false, laid := [("math/bits.deBruijn32tab", laid_math_bits_deBruijn32tab), ("math/bits.deBruijn64tab", laid_math_bits_deBruijn64tab), ("internal/strconv.uint64pow10", laid_internal_strconv_uint64pow10)], narrowed := true }
def UnifyBothUptoSaid : Prop := unifyBothUptoRow.holds Tryd.pinned (OpenSpec.upto unifyBothSpec)

/-- 'fuguelaw09.UnifyOnes', WHERE WHAT IT READS IS OF BULK AT MOST 1048576: true; the input reads as it did. -/
def unifyOnesUptoRow : OpenClaim := { program := "ytigifkjcghkiiaadoor", sum := "837ede1ac8cf46cd3d4ec3adce086660ae46b3569dcc05201fb104ebe638d89e", func := "fugue/fuguelaw09.UnifyOnes", spec := "unifyOnes", inPlace := ["maps.clone"], unfollowed := true, recurses := true, named := ["internal/strconv.uint64pow10", "math/bits.deBruijn32tab", "math/bits.deBruijn64tab"], apart := false, laid := [("math/bits.deBruijn32tab", laid_math_bits_deBruijn32tab), ("math/bits.deBruijn64tab", laid_math_bits_deBruijn64tab), ("internal/strconv.uint64pow10", laid_internal_strconv_uint64pow10)], narrowed := true }
def UnifyOnesUptoSaid : Prop := unifyOnesUptoRow.holds Tryd.pinned (OpenSpec.upto unifyOnesSpec)

/-- 'fuguelaw09.UnifyGreat', WHERE WHAT IT READS IS OF BULK AT MOST 1048576: true; the input reads as it did. -/
def unifyGreatUptoRow : OpenClaim := { program := "ytigifkjcghkiiaadoor", sum := "837ede1ac8cf46cd3d4ec3adce086660ae46b3569dcc05201fb104ebe638d89e", func := "fugue/fuguelaw09.UnifyGreat", spec := "unifyGreat", inPlace := ["maps.clone"], unfollowed := true, recurses := true, named := ["internal/strconv.uint64pow10", "math/bits.deBruijn32tab", "math/bits.deBruijn64tab"], apart := false, laid := [("math/bits.deBruijn32tab", laid_math_bits_deBruijn32tab), ("math/bits.deBruijn64tab", laid_math_bits_deBruijn64tab), ("internal/strconv.uint64pow10", laid_internal_strconv_uint64pow10)], narrowed := true }
def UnifyGreatUptoSaid : Prop := unifyGreatUptoRow.holds Tryd.pinned (OpenSpec.upto unifyGreatSpec)

/-- 'fuguelaw09.UnifyTwice', WHERE WHAT IT READS IS OF BULK AT MOST 1048576: true; the input reads as it did. -/
def unifyTwiceUptoRow : OpenClaim := { program := "ytigifkjcghkiiaadoor", sum := "837ede1ac8cf46cd3d4ec3adce086660ae46b3569dcc05201fb104ebe638d89e", func := "fugue/fuguelaw09.UnifyTwice", spec := "unifyTwice", inPlace := ["maps.clone"], unfollowed := true, recurses := true, named := ["internal/strconv.uint64pow10", "math/bits.deBruijn32tab", "math/bits.deBruijn64tab"], apart := false, laid := [("math/bits.deBruijn32tab", laid_math_bits_deBruijn32tab), ("math/bits.deBruijn64tab", laid_math_bits_deBruijn64tab), ("internal/strconv.uint64pow10", laid_internal_strconv_uint64pow10)], narrowed := true }
def UnifyTwiceUptoSaid : Prop := unifyTwiceUptoRow.holds Tryd.pinned (OpenSpec.upto unifyTwiceSpec)

/-- 'fuguelaw09.UnifyAlls', WHERE WHAT IT READS IS OF BULK AT MOST 1048576: true; the input reads as it did. -/
def unifyAllsUptoRow : OpenClaim := { program := "ytigifkjcghkiiaadoor", sum := "837ede1ac8cf46cd3d4ec3adce086660ae46b3569dcc05201fb104ebe638d89e", func := "fugue/fuguelaw09.UnifyAlls", spec := "unifyAlls", inPlace := ["maps.clone"], unfollowed := true, recurses := true, named := ["internal/strconv.uint64pow10", "math/bits.deBruijn32tab", "math/bits.deBruijn64tab"], apart := false, laid := [("math/bits.deBruijn32tab", laid_math_bits_deBruijn32tab), ("math/bits.deBruijn64tab", laid_math_bits_deBruijn64tab), ("internal/strconv.uint64pow10", laid_internal_strconv_uint64pow10)], narrowed := true }
def UnifyAllsUptoSaid : Prop := unifyAllsUptoRow.holds Tryd.pinned (OpenSpec.upto unifyAllsSpec)

end Rows
end Go.Proofs.YtigifkjcghkiiaaDoor
