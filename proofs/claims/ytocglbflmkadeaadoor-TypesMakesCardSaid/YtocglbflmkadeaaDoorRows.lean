/-
  NARROWER THAN 'FOR EVERY INPUT', by the rows' own cells (each row's printed sentence says how): TypesSplits: laid · TypesMakes: laid · TypesPrints: laid · TypesSame: laid · TypesCounts: laid · TypesPuts: laid · TypesCatches: laid · TypesComposes: laid.
  DERIVED. THE GIVEN ROWS OF THIS SEAT. 8 by the template 'for every input the law returns true; each argument reads behind the call as it read before'; 0 by the template 'total and deterministic' (their statements: YtocglbflmkadeaaDoorTotals.lean).
  GIVEN WITH THE SEED: the statements are not yours to turn. If you find one false, say at which input.
  Laid BY PROGRAM, IN A SANDBOX (cutbox-rows.mjs): the forced cells as the released guide's own fill.sh prints them over the translation 14b2f2f9daabfe74… (all of the seat's roots in one cut). By AI agents, Wed Nov 11 2026. No macro, syntax, notation, axiom, sorry.
-/
import Derived.Test.YtocglbflmkadeaaDoorChecked
import GoSem.Claim
import GoSem.ClaimJoined
import GoSem.ClaimMapViews
import Derived.JoinedTies
import Derived.KernelRfl
namespace Go.Proofs.YtocglbflmkadeaaDoor
/- THE CELL 'sum', in the pinned program and in every row, IS THE sha256 OF THE DUMP (.gsa) THAT YtocglbflmkadeaaDoorProg.lean LOADS. Nothing in Lean hashes anything: it is a label: what it is worth is what the hold of that sum in a sandbox is worth. -/
noncomputable def Tryd.pinned : Pinned := { name := "ytocglbflmkadeaadoor", sum := "14b2f2f9daabfe742e8ec38bd270ea7e60d315fe26a1b9726218500ac8ab62a8", checked := Tryd.checked }
namespace Rows
def none {H : Type} : Left H := { results := [], args := [] }

/- WHAT THE LISTED PACKAGE-LEVEL VARIABLES READ AS WHEN THE CALL BEGINS. Each datum BY PROGRAM (the guide's laid-datum.mjs) off the statement by which the dump's own 'gosem.cut.vars' lays the variable. In a bare row this is a premise. The card (YtocglbflmkadeaaDoorCards.lean) ties it to the program's text. -/
def laid_math_bits_deBruijn32tab {H : Type} : DataW H := .agg [.lit (.int .u8 0), .lit (.int .u8 1), .lit (.int .u8 28), .lit (.int .u8 2), .lit (.int .u8 29), .lit (.int .u8 14), .lit (.int .u8 24), .lit (.int .u8 3), .lit (.int .u8 30), .lit (.int .u8 22), .lit (.int .u8 20), .lit (.int .u8 15), .lit (.int .u8 25), .lit (.int .u8 17), .lit (.int .u8 4), .lit (.int .u8 8), .lit (.int .u8 31), .lit (.int .u8 27), .lit (.int .u8 13), .lit (.int .u8 23), .lit (.int .u8 21), .lit (.int .u8 19), .lit (.int .u8 16), .lit (.int .u8 7), .lit (.int .u8 26), .lit (.int .u8 12), .lit (.int .u8 18), .lit (.int .u8 6), .lit (.int .u8 11), .lit (.int .u8 5), .lit (.int .u8 10), .lit (.int .u8 9)]
def laid_math_bits_deBruijn64tab {H : Type} : DataW H := .agg [.lit (.int .u8 0), .lit (.int .u8 1), .lit (.int .u8 56), .lit (.int .u8 2), .lit (.int .u8 57), .lit (.int .u8 49), .lit (.int .u8 28), .lit (.int .u8 3), .lit (.int .u8 61), .lit (.int .u8 58), .lit (.int .u8 42), .lit (.int .u8 50), .lit (.int .u8 38), .lit (.int .u8 29), .lit (.int .u8 17), .lit (.int .u8 4), .lit (.int .u8 62), .lit (.int .u8 47), .lit (.int .u8 59), .lit (.int .u8 36), .lit (.int .u8 45), .lit (.int .u8 43), .lit (.int .u8 51), .lit (.int .u8 22), .lit (.int .u8 53), .lit (.int .u8 39), .lit (.int .u8 33), .lit (.int .u8 30), .lit (.int .u8 24), .lit (.int .u8 18), .lit (.int .u8 12), .lit (.int .u8 5), .lit (.int .u8 63), .lit (.int .u8 55), .lit (.int .u8 48), .lit (.int .u8 27), .lit (.int .u8 60), .lit (.int .u8 41), .lit (.int .u8 37), .lit (.int .u8 16), .lit (.int .u8 46), .lit (.int .u8 35), .lit (.int .u8 44), .lit (.int .u8 21), .lit (.int .u8 52), .lit (.int .u8 32), .lit (.int .u8 23), .lit (.int .u8 11), .lit (.int .u8 54), .lit (.int .u8 26), .lit (.int .u8 40), .lit (.int .u8 15), .lit (.int .u8 34), .lit (.int .u8 20), .lit (.int .u8 31), .lit (.int .u8 10), .lit (.int .u8 25), .lit (.int .u8 14), .lit (.int .u8 19), .lit (.int .u8 9), .lit (.int .u8 13), .lit (.int .u8 8), .lit (.int .u8 7), .lit (.int .u8 6)]
def laid_internal_strconv_uint64pow10 {H : Type} : DataW H := .agg [.lit (.int .u64 1), .lit (.int .u64 10), .lit (.int .u64 100), .lit (.int .u64 1000), .lit (.int .u64 10000), .lit (.int .u64 100000), .lit (.int .u64 1000000), .lit (.int .u64 10000000), .lit (.int .u64 100000000), .lit (.int .u64 1000000000), .lit (.int .u64 10000000000), .lit (.int .u64 100000000000), .lit (.int .u64 1000000000000), .lit (.int .u64 10000000000000), .lit (.int .u64 100000000000000), .lit (.int .u64 1000000000000000), .lit (.int .u64 10000000000000000), .lit (.int .u64 100000000000000000), .lit (.int .u64 1000000000000000000), .lit (.int .u64 10000000000000000000)]

/-- 'fuguelaw04.TypesSplits': WHATEVER THE INPUT: true; the input reads as it did. -/
def typesSplitsSpec : ChangeSpec := { name := "typesSplits", fn := fun _ => fun
  | [d] => { results := [.lit (.bool true)], args := [d] }
  | _ => none }
def typesSplitsRow : OpenClaim := { program := "ytocglbflmkadeaadoor", sum := "14b2f2f9daabfe742e8ec38bd270ea7e60d315fe26a1b9726218500ac8ab62a8", func := "fugue/fuguelaw04.TypesSplits", spec := "typesSplits", recurses := true, named := ["internal/strconv.uint64pow10", "math/bits.deBruijn32tab", "math/bits.deBruijn64tab"], apart := false, laid := [("math/bits.deBruijn32tab", laid_math_bits_deBruijn32tab), ("math/bits.deBruijn64tab", laid_math_bits_deBruijn64tab), ("internal/strconv.uint64pow10", laid_internal_strconv_uint64pow10)] }
def TypesSplitsSaid : Prop := typesSplitsRow.holds Tryd.pinned (OpenSpec.ofChange typesSplitsSpec)

/-- ITS FALSE NEIGHBOUR: 'it returns false'. Refute it at one input. -/
def typesSplitsWrong : ChangeSpec := { name := "typesSplits", fn := fun _ => fun
  | [d] => { results := [.lit (.bool false)], args := [d] }
  | _ => none }
def TypesSplitsWrongFalsely : Prop := typesSplitsRow.holds Tryd.pinned (OpenSpec.ofChange typesSplitsWrong)

/-- 'fuguelaw04.TypesMakes': WHATEVER THE INPUT: true; the input reads as it did. -/
def typesMakesSpec : ChangeSpec := { name := "typesMakes", fn := fun _ => fun
  | [d1, d2, d3] => { results := [.lit (.bool true)], args := [d1, d2, d3] }
  | _ => none }
def typesMakesRow : OpenClaim := { program := "ytocglbflmkadeaadoor", sum := "14b2f2f9daabfe742e8ec38bd270ea7e60d315fe26a1b9726218500ac8ab62a8", func := "fugue/fuguelaw04.TypesMakes", spec := "typesMakes", recurses := true, named := ["internal/strconv.uint64pow10", "math/bits.deBruijn32tab", "math/bits.deBruijn64tab"], apart := false, laid := [("math/bits.deBruijn32tab", laid_math_bits_deBruijn32tab), ("math/bits.deBruijn64tab", laid_math_bits_deBruijn64tab), ("internal/strconv.uint64pow10", laid_internal_strconv_uint64pow10)] }
def TypesMakesSaid : Prop := typesMakesRow.holds Tryd.pinned (OpenSpec.ofChange typesMakesSpec)

/-- ITS FALSE NEIGHBOUR: 'it returns false'. Refute it at one input. -/
def typesMakesWrong : ChangeSpec := { name := "typesMakes", fn := fun _ => fun
  | [d1, d2, d3] => { results := [.lit (.bool false)], args := [d1, d2, d3] }
  | _ => none }
def TypesMakesWrongFalsely : Prop := typesMakesRow.holds Tryd.pinned (OpenSpec.ofChange typesMakesWrong)

/-- 'fuguelaw04.TypesPrints': WHATEVER THE INPUT: true; the input reads as it did. -/
def typesPrintsSpec : ChangeSpec := { name := "typesPrints", fn := fun _ => fun
  | [d1, d2] => { results := [.lit (.bool true)], args := [d1, d2] }
  | _ => none }
def typesPrintsRow : OpenClaim := { program := "ytocglbflmkadeaadoor", sum := "14b2f2f9daabfe742e8ec38bd270ea7e60d315fe26a1b9726218500ac8ab62a8", func := "fugue/fuguelaw04.TypesPrints", spec := "typesPrints", recurses := true, named := ["internal/strconv.uint64pow10", "math/bits.deBruijn32tab", "math/bits.deBruijn64tab"], apart := false, laid := [("math/bits.deBruijn32tab", laid_math_bits_deBruijn32tab), ("math/bits.deBruijn64tab", laid_math_bits_deBruijn64tab), ("internal/strconv.uint64pow10", laid_internal_strconv_uint64pow10)] }
def TypesPrintsSaid : Prop := typesPrintsRow.holds Tryd.pinned (OpenSpec.ofChange typesPrintsSpec)

/-- ITS FALSE NEIGHBOUR: 'it returns false'. Refute it at one input. -/
def typesPrintsWrong : ChangeSpec := { name := "typesPrints", fn := fun _ => fun
  | [d1, d2] => { results := [.lit (.bool false)], args := [d1, d2] }
  | _ => none }
def TypesPrintsWrongFalsely : Prop := typesPrintsRow.holds Tryd.pinned (OpenSpec.ofChange typesPrintsWrong)

/-- 'fuguelaw04.TypesSame': WHATEVER THE INPUT: true; the input reads as it did. -/
def typesSameSpec : ChangeSpec := { name := "typesSame", fn := fun _ => fun
  | [d1, d2, d3, d4] => { results := [.lit (.bool true)], args := [d1, d2, d3, d4] }
  | _ => none }
def typesSameRow : OpenClaim := { program := "ytocglbflmkadeaadoor", sum := "14b2f2f9daabfe742e8ec38bd270ea7e60d315fe26a1b9726218500ac8ab62a8", func := "fugue/fuguelaw04.TypesSame", spec := "typesSame", recurses := true, named := ["internal/strconv.uint64pow10", "math/bits.deBruijn32tab", "math/bits.deBruijn64tab"], apart := false, laid := [("math/bits.deBruijn32tab", laid_math_bits_deBruijn32tab), ("math/bits.deBruijn64tab", laid_math_bits_deBruijn64tab), ("internal/strconv.uint64pow10", laid_internal_strconv_uint64pow10)] }
def TypesSameSaid : Prop := typesSameRow.holds Tryd.pinned (OpenSpec.ofChange typesSameSpec)

/-- ITS FALSE NEIGHBOUR: 'it returns false'. Refute it at one input. -/
def typesSameWrong : ChangeSpec := { name := "typesSame", fn := fun _ => fun
  | [d1, d2, d3, d4] => { results := [.lit (.bool false)], args := [d1, d2, d3, d4] }
  | _ => none }
def TypesSameWrongFalsely : Prop := typesSameRow.holds Tryd.pinned (OpenSpec.ofChange typesSameWrong)

/-- 'fuguelaw04.TypesCounts': WHATEVER THE INPUT: true; the input reads as it did. -/
def typesCountsSpec : ChangeSpec := { name := "typesCounts", fn := fun _ => fun
  | [d] => { results := [.lit (.bool true)], args := [d] }
  | _ => none }
def typesCountsRow : OpenClaim := { program := "ytocglbflmkadeaadoor", sum := "14b2f2f9daabfe742e8ec38bd270ea7e60d315fe26a1b9726218500ac8ab62a8", func := "fugue/fuguelaw04.TypesCounts", spec := "typesCounts", recurses := true, named := ["internal/strconv.uint64pow10", "math/bits.deBruijn32tab", "math/bits.deBruijn64tab"], apart := false, laid := [("math/bits.deBruijn32tab", laid_math_bits_deBruijn32tab), ("math/bits.deBruijn64tab", laid_math_bits_deBruijn64tab), ("internal/strconv.uint64pow10", laid_internal_strconv_uint64pow10)] }
def TypesCountsSaid : Prop := typesCountsRow.holds Tryd.pinned (OpenSpec.ofChange typesCountsSpec)

/-- ITS FALSE NEIGHBOUR: 'it returns false'. Refute it at one input. -/
def typesCountsWrong : ChangeSpec := { name := "typesCounts", fn := fun _ => fun
  | [d] => { results := [.lit (.bool false)], args := [d] }
  | _ => none }
def TypesCountsWrongFalsely : Prop := typesCountsRow.holds Tryd.pinned (OpenSpec.ofChange typesCountsWrong)

/-- 'fuguelaw04.TypesPuts': WHATEVER THE INPUT: true; the input reads as it did. -/
def typesPutsSpec : ChangeSpec := { name := "typesPuts", fn := fun _ => fun
  | [d1, d2, d3] => { results := [.lit (.bool true)], args := [d1, d2, d3] }
  | _ => none }
def typesPutsRow : OpenClaim := { program := "ytocglbflmkadeaadoor", sum := "14b2f2f9daabfe742e8ec38bd270ea7e60d315fe26a1b9726218500ac8ab62a8", func := "fugue/fuguelaw04.TypesPuts", spec := "typesPuts", recurses := true, named := ["internal/strconv.uint64pow10", "math/bits.deBruijn32tab", "math/bits.deBruijn64tab"], apart := false, laid := [("math/bits.deBruijn32tab", laid_math_bits_deBruijn32tab), ("math/bits.deBruijn64tab", laid_math_bits_deBruijn64tab), ("internal/strconv.uint64pow10", laid_internal_strconv_uint64pow10)] }
def TypesPutsSaid : Prop := typesPutsRow.holds Tryd.pinned (OpenSpec.ofChange typesPutsSpec)

/-- ITS FALSE NEIGHBOUR: 'it returns false'. Refute it at one input. -/
def typesPutsWrong : ChangeSpec := { name := "typesPuts", fn := fun _ => fun
  | [d1, d2, d3] => { results := [.lit (.bool false)], args := [d1, d2, d3] }
  | _ => none }
def TypesPutsWrongFalsely : Prop := typesPutsRow.holds Tryd.pinned (OpenSpec.ofChange typesPutsWrong)

/-- 'fuguelaw04.TypesCatches': WHATEVER THE INPUT: true; the input reads as it did. -/
def typesCatchesSpec : ChangeSpec := { name := "typesCatches", fn := fun _ => fun
  | [d1, d2, d3] => { results := [.lit (.bool true)], args := [d1, d2, d3] }
  | _ => none }
def typesCatchesRow : OpenClaim := { program := "ytocglbflmkadeaadoor", sum := "14b2f2f9daabfe742e8ec38bd270ea7e60d315fe26a1b9726218500ac8ab62a8", func := "fugue/fuguelaw04.TypesCatches", spec := "typesCatches", recurses := true, named := ["internal/strconv.uint64pow10", "math/bits.deBruijn32tab", "math/bits.deBruijn64tab"], apart := false, laid := [("math/bits.deBruijn32tab", laid_math_bits_deBruijn32tab), ("math/bits.deBruijn64tab", laid_math_bits_deBruijn64tab), ("internal/strconv.uint64pow10", laid_internal_strconv_uint64pow10)] }
def TypesCatchesSaid : Prop := typesCatchesRow.holds Tryd.pinned (OpenSpec.ofChange typesCatchesSpec)

/-- ITS FALSE NEIGHBOUR: 'it returns false'. Refute it at one input. -/
def typesCatchesWrong : ChangeSpec := { name := "typesCatches", fn := fun _ => fun
  | [d1, d2, d3] => { results := [.lit (.bool false)], args := [d1, d2, d3] }
  | _ => none }
def TypesCatchesWrongFalsely : Prop := typesCatchesRow.holds Tryd.pinned (OpenSpec.ofChange typesCatchesWrong)

/-- 'fuguelaw04.TypesComposes': WHATEVER THE INPUT: true; the input reads as it did. -/
def typesComposesSpec : ChangeSpec := { name := "typesComposes", fn := fun _ => fun
  | [d1, d2, d3] => { results := [.lit (.bool true)], args := [d1, d2, d3] }
  | _ => none }
def typesComposesRow : OpenClaim := { program := "ytocglbflmkadeaadoor", sum := "14b2f2f9daabfe742e8ec38bd270ea7e60d315fe26a1b9726218500ac8ab62a8", func := "fugue/fuguelaw04.TypesComposes", spec := "typesComposes", recurses := true, named := ["internal/strconv.uint64pow10", "math/bits.deBruijn32tab", "math/bits.deBruijn64tab"], apart := false, laid := [("math/bits.deBruijn32tab", laid_math_bits_deBruijn32tab), ("math/bits.deBruijn64tab", laid_math_bits_deBruijn64tab), ("internal/strconv.uint64pow10", laid_internal_strconv_uint64pow10)] }
def TypesComposesSaid : Prop := typesComposesRow.holds Tryd.pinned (OpenSpec.ofChange typesComposesSpec)

/-- ITS FALSE NEIGHBOUR: 'it returns false'. Refute it at one input. -/
def typesComposesWrong : ChangeSpec := { name := "typesComposes", fn := fun _ => fun
  | [d1, d2, d3] => { results := [.lit (.bool false)], args := [d1, d2, d3] }
  | _ => none }
def TypesComposesWrongFalsely : Prop := typesComposesRow.holds Tryd.pinned (OpenSpec.ofChange typesComposesWrong)

/- THE SECOND FORM. 'bulk': how many values and letters a reading holds, each counted each time it is reached (what is shared counts as often as it is met; a slice's spare places count too). A statement '..UptoSaid' is the law's where the arguments, and the package variables that the reading takes, are together of bulk at most 1048576: NARROWER than '..Said'. Prove '..Said' where nothing that the law and all that it calls make is longer than what came in: it says more and counts as full. Else prove '..UptoSaid'. A law counts once. -/
mutual
def uptoBulk {H : Type} : DataW H → Nat
  | .lit (.string bytes) => bytes.length + 1
  | .lit _ => 1
  | .nil => 1
  | .ptr d => uptoBulk d + 1
  | .slice elems spare => uptoBulkAll elems + uptoBulkAll spare + 1
  | .agg parts => uptoBulkAll parts + 1
  | .iface _ d => uptoBulk d + 1
  | .map entries => uptoBulkEntries entries + 1
  | .held _ => 1
def uptoBulkAll {H : Type} : List (DataW H) → Nat
  | [] => 0
  | d :: r => uptoBulk d + uptoBulkAll r
def uptoBulkEntries {H : Type} : List (Lit × DataW H) → Nat
  | [] => 0
  | x :: r => uptoBulkEntry x + uptoBulkEntries r
def uptoBulkEntry {H : Type} : Lit × DataW H → Nat
  | (.string bytes, d) => bytes.length + uptoBulk d + 1
  | (_, d) => uptoBulk d + 1
 end
def uptoSmall : (H : Type) → List (DataW H) → Bool := fun _ ds => decide (uptoBulkAll ds ≤ 1048576)
def OpenSpec.upto (s : _root_.Go.ChangeSpec) : _root_.Go.OpenSpec := { _root_.Go.OpenSpec.ofChange s with cond := some uptoSmall }

/-- 'fuguelaw04.TypesSplits', WHERE WHAT IT READS IS OF BULK AT MOST 1048576: true; the input reads as it did. -/
def typesSplitsUptoRow : OpenClaim := { program := "ytocglbflmkadeaadoor", sum := "14b2f2f9daabfe742e8ec38bd270ea7e60d315fe26a1b9726218500ac8ab62a8", func := "fugue/fuguelaw04.TypesSplits", spec := "typesSplits", recurses := true, named := ["internal/strconv.uint64pow10", "math/bits.deBruijn32tab", "math/bits.deBruijn64tab"], apart := false, laid := [("math/bits.deBruijn32tab", laid_math_bits_deBruijn32tab), ("math/bits.deBruijn64tab", laid_math_bits_deBruijn64tab), ("internal/strconv.uint64pow10", laid_internal_strconv_uint64pow10)], narrowed := true }
def TypesSplitsUptoSaid : Prop := typesSplitsUptoRow.holds Tryd.pinned (OpenSpec.upto typesSplitsSpec)

/-- 'fuguelaw04.TypesMakes', WHERE WHAT IT READS IS OF BULK AT MOST 1048576: true; the input reads as it did. -/
def typesMakesUptoRow : OpenClaim := { program := "ytocglbflmkadeaadoor", sum := "14b2f2f9daabfe742e8ec38bd270ea7e60d315fe26a1b9726218500ac8ab62a8", func := "fugue/fuguelaw04.TypesMakes", spec := "typesMakes", recurses := true, named := ["internal/strconv.uint64pow10", "math/bits.deBruijn32tab", "math/bits.deBruijn64tab"], apart := false, laid := [("math/bits.deBruijn32tab", laid_math_bits_deBruijn32tab), ("math/bits.deBruijn64tab", laid_math_bits_deBruijn64tab), ("internal/strconv.uint64pow10", laid_internal_strconv_uint64pow10)], narrowed := true }
def TypesMakesUptoSaid : Prop := typesMakesUptoRow.holds Tryd.pinned (OpenSpec.upto typesMakesSpec)

/-- 'fuguelaw04.TypesPrints', WHERE WHAT IT READS IS OF BULK AT MOST 1048576: true; the input reads as it did. -/
def typesPrintsUptoRow : OpenClaim := { program := "ytocglbflmkadeaadoor", sum := "14b2f2f9daabfe742e8ec38bd270ea7e60d315fe26a1b9726218500ac8ab62a8", func := "fugue/fuguelaw04.TypesPrints", spec := "typesPrints", recurses := true, named := ["internal/strconv.uint64pow10", "math/bits.deBruijn32tab", "math/bits.deBruijn64tab"], apart := false, laid := [("math/bits.deBruijn32tab", laid_math_bits_deBruijn32tab), ("math/bits.deBruijn64tab", laid_math_bits_deBruijn64tab), ("internal/strconv.uint64pow10", laid_internal_strconv_uint64pow10)], narrowed := true }
def TypesPrintsUptoSaid : Prop := typesPrintsUptoRow.holds Tryd.pinned (OpenSpec.upto typesPrintsSpec)

/-- 'fuguelaw04.TypesSame', WHERE WHAT IT READS IS OF BULK AT MOST 1048576: true; the input reads as it did. -/
def typesSameUptoRow : OpenClaim := { program := "ytocglbflmkadeaadoor", sum := "14b2f2f9daabfe742e8ec38bd270ea7e60d315fe26a1b9726218500ac8ab62a8", func := "fugue/fuguelaw04.TypesSame", spec := "typesSame", recurses := true, named := ["internal/strconv.uint64pow10", "math/bits.deBruijn32tab", "math/bits.deBruijn64tab"], apart := false, laid := [("math/bits.deBruijn32tab", laid_math_bits_deBruijn32tab), ("math/bits.deBruijn64tab", laid_math_bits_deBruijn64tab), ("internal/strconv.uint64pow10", laid_internal_strconv_uint64pow10)], narrowed := true }
def TypesSameUptoSaid : Prop := typesSameUptoRow.holds Tryd.pinned (OpenSpec.upto typesSameSpec)

/-- 'fuguelaw04.TypesCounts', WHERE WHAT IT READS IS OF BULK AT MOST 1048576: true; the input reads as it did. -/
def typesCountsUptoRow : OpenClaim := { program := "ytocglbflmkadeaadoor", sum := "14b2f2f9daabfe742e8ec38bd270ea7e60d315fe26a1b9726218500ac8ab62a8", func := "fugue/fuguelaw04.TypesCounts", spec := "typesCounts", recurses := true, named := ["internal/strconv.uint64pow10", "math/bits.deBruijn32tab", "math/bits.deBruijn64tab"], apart := false, laid := [("math/bits.deBruijn32tab", laid_math_bits_deBruijn32tab), ("math/bits.deBruijn64tab", laid_math_bits_deBruijn64tab), ("internal/strconv.uint64pow10", laid_internal_strconv_uint64pow10)], narrowed := true }
def TypesCountsUptoSaid : Prop := typesCountsUptoRow.holds Tryd.pinned (OpenSpec.upto typesCountsSpec)

/-- 'fuguelaw04.TypesPuts', WHERE WHAT IT READS IS OF BULK AT MOST 1048576: true; the input reads as it did. -/
def typesPutsUptoRow : OpenClaim := { program := "ytocglbflmkadeaadoor", sum := "14b2f2f9daabfe742e8ec38bd270ea7e60d315fe26a1b9726218500ac8ab62a8", func := "fugue/fuguelaw04.TypesPuts", spec := "typesPuts", recurses := true, named := ["internal/strconv.uint64pow10", "math/bits.deBruijn32tab", "math/bits.deBruijn64tab"], apart := false, laid := [("math/bits.deBruijn32tab", laid_math_bits_deBruijn32tab), ("math/bits.deBruijn64tab", laid_math_bits_deBruijn64tab), ("internal/strconv.uint64pow10", laid_internal_strconv_uint64pow10)], narrowed := true }
def TypesPutsUptoSaid : Prop := typesPutsUptoRow.holds Tryd.pinned (OpenSpec.upto typesPutsSpec)

/-- 'fuguelaw04.TypesCatches', WHERE WHAT IT READS IS OF BULK AT MOST 1048576: true; the input reads as it did. -/
def typesCatchesUptoRow : OpenClaim := { program := "ytocglbflmkadeaadoor", sum := "14b2f2f9daabfe742e8ec38bd270ea7e60d315fe26a1b9726218500ac8ab62a8", func := "fugue/fuguelaw04.TypesCatches", spec := "typesCatches", recurses := true, named := ["internal/strconv.uint64pow10", "math/bits.deBruijn32tab", "math/bits.deBruijn64tab"], apart := false, laid := [("math/bits.deBruijn32tab", laid_math_bits_deBruijn32tab), ("math/bits.deBruijn64tab", laid_math_bits_deBruijn64tab), ("internal/strconv.uint64pow10", laid_internal_strconv_uint64pow10)], narrowed := true }
def TypesCatchesUptoSaid : Prop := typesCatchesUptoRow.holds Tryd.pinned (OpenSpec.upto typesCatchesSpec)

/-- 'fuguelaw04.TypesComposes', WHERE WHAT IT READS IS OF BULK AT MOST 1048576: true; the input reads as it did. -/
def typesComposesUptoRow : OpenClaim := { program := "ytocglbflmkadeaadoor", sum := "14b2f2f9daabfe742e8ec38bd270ea7e60d315fe26a1b9726218500ac8ab62a8", func := "fugue/fuguelaw04.TypesComposes", spec := "typesComposes", recurses := true, named := ["internal/strconv.uint64pow10", "math/bits.deBruijn32tab", "math/bits.deBruijn64tab"], apart := false, laid := [("math/bits.deBruijn32tab", laid_math_bits_deBruijn32tab), ("math/bits.deBruijn64tab", laid_math_bits_deBruijn64tab), ("internal/strconv.uint64pow10", laid_internal_strconv_uint64pow10)], narrowed := true }
def TypesComposesUptoSaid : Prop := typesComposesUptoRow.holds Tryd.pinned (OpenSpec.upto typesComposesSpec)

end Rows
end Go.Proofs.YtocglbflmkadeaaDoor
