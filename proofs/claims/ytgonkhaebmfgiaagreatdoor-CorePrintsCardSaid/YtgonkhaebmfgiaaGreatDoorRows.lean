/-
  NARROWER THAN 'FOR EVERY INPUT', by the rows' own cells (each row's printed sentence says how): CoreSubsts: laid · CoreTypes: laid · CorePrints: laid · CoreMakes: laid · CoreTwice: laid · CoreFar: laid · CoreRenames: laid · CoreFrees: laid · CoreCatches: laid · CoreAlike: laid.
  DERIVED. THE GIVEN ROWS OF THIS SEAT. 10 by the template 'for every input the law returns true; each argument reads behind the call as it read before'; 0 by the template 'total and deterministic' (their statements: YtgonkhaebmfgiaaGreatDoorTotals.lean).
  GIVEN WITH THE SEED: the statements are not yours to turn. If you find one false, say at which input.
  Laid BY PROGRAM, IN A SANDBOX (cutbox-rows.mjs): the forced cells as the released guide's own fill.sh prints them over the translation c207e7c8c7510b5b… (all of the seat's roots in one cut). By AI agents, Wed Nov 11 2026. No macro, syntax, notation, axiom, sorry.
-/
import Derived.Test.YtgonkhaebmfgiaaGreatDoorChecked
import GoSem.Claim
import GoSem.ClaimJoined
import GoSem.ClaimMapViews
import Derived.JoinedTies
import Derived.KernelRfl
namespace Go.Proofs.YtgonkhaebmfgiaaGreatDoor
/- THE CELL 'sum', in the pinned program and in every row, IS THE sha256 OF THE DUMP (.gsa) THAT YtgonkhaebmfgiaaGreatDoorProg.lean LOADS. Nothing in Lean hashes anything: it is a label: what it is worth is what the hold of that sum in a sandbox is worth. -/
noncomputable def Tryz.pinned : Pinned := { name := "ytgonkhaebmfgiaagreatdoor", sum := "c207e7c8c7510b5bf4d867e484b6d1dbaac768b42c59c6520c16eab5bd64a99d", checked := Tryz.checked }
namespace Rows
def none {H : Type} : Left H := { results := [], args := [] }

/- WHAT THE LISTED PACKAGE-LEVEL VARIABLES READ AS WHEN THE CALL BEGINS. Each datum BY PROGRAM (the guide's laid-datum.mjs) off the statement by which the dump's own 'gosem.cut.vars' lays the variable. In a bare row this is a premise. The card (YtgonkhaebmfgiaaGreatDoorCards.lean) ties it to the program's text. -/
def laid_math_bits_deBruijn32tab {H : Type} : DataW H := .agg [.lit (.int .u8 0), .lit (.int .u8 1), .lit (.int .u8 28), .lit (.int .u8 2), .lit (.int .u8 29), .lit (.int .u8 14), .lit (.int .u8 24), .lit (.int .u8 3), .lit (.int .u8 30), .lit (.int .u8 22), .lit (.int .u8 20), .lit (.int .u8 15), .lit (.int .u8 25), .lit (.int .u8 17), .lit (.int .u8 4), .lit (.int .u8 8), .lit (.int .u8 31), .lit (.int .u8 27), .lit (.int .u8 13), .lit (.int .u8 23), .lit (.int .u8 21), .lit (.int .u8 19), .lit (.int .u8 16), .lit (.int .u8 7), .lit (.int .u8 26), .lit (.int .u8 12), .lit (.int .u8 18), .lit (.int .u8 6), .lit (.int .u8 11), .lit (.int .u8 5), .lit (.int .u8 10), .lit (.int .u8 9)]
def laid_math_bits_deBruijn64tab {H : Type} : DataW H := .agg [.lit (.int .u8 0), .lit (.int .u8 1), .lit (.int .u8 56), .lit (.int .u8 2), .lit (.int .u8 57), .lit (.int .u8 49), .lit (.int .u8 28), .lit (.int .u8 3), .lit (.int .u8 61), .lit (.int .u8 58), .lit (.int .u8 42), .lit (.int .u8 50), .lit (.int .u8 38), .lit (.int .u8 29), .lit (.int .u8 17), .lit (.int .u8 4), .lit (.int .u8 62), .lit (.int .u8 47), .lit (.int .u8 59), .lit (.int .u8 36), .lit (.int .u8 45), .lit (.int .u8 43), .lit (.int .u8 51), .lit (.int .u8 22), .lit (.int .u8 53), .lit (.int .u8 39), .lit (.int .u8 33), .lit (.int .u8 30), .lit (.int .u8 24), .lit (.int .u8 18), .lit (.int .u8 12), .lit (.int .u8 5), .lit (.int .u8 63), .lit (.int .u8 55), .lit (.int .u8 48), .lit (.int .u8 27), .lit (.int .u8 60), .lit (.int .u8 41), .lit (.int .u8 37), .lit (.int .u8 16), .lit (.int .u8 46), .lit (.int .u8 35), .lit (.int .u8 44), .lit (.int .u8 21), .lit (.int .u8 52), .lit (.int .u8 32), .lit (.int .u8 23), .lit (.int .u8 11), .lit (.int .u8 54), .lit (.int .u8 26), .lit (.int .u8 40), .lit (.int .u8 15), .lit (.int .u8 34), .lit (.int .u8 20), .lit (.int .u8 31), .lit (.int .u8 10), .lit (.int .u8 25), .lit (.int .u8 14), .lit (.int .u8 19), .lit (.int .u8 9), .lit (.int .u8 13), .lit (.int .u8 8), .lit (.int .u8 7), .lit (.int .u8 6)]
def laid_internal_strconv_uint64pow10 {H : Type} : DataW H := .agg [.lit (.int .u64 1), .lit (.int .u64 10), .lit (.int .u64 100), .lit (.int .u64 1000), .lit (.int .u64 10000), .lit (.int .u64 100000), .lit (.int .u64 1000000), .lit (.int .u64 10000000), .lit (.int .u64 100000000), .lit (.int .u64 1000000000), .lit (.int .u64 10000000000), .lit (.int .u64 100000000000), .lit (.int .u64 1000000000000), .lit (.int .u64 10000000000000), .lit (.int .u64 100000000000000), .lit (.int .u64 1000000000000000), .lit (.int .u64 10000000000000000), .lit (.int .u64 100000000000000000), .lit (.int .u64 1000000000000000000), .lit (.int .u64 10000000000000000000)]

/-- 'fuguelaw18.CoreSubsts': WHATEVER THE INPUT: true; the input reads as it did. -/
def coreSubstsSpec : ChangeSpec := { name := "coreSubsts", fn := fun _ => fun
  | [d1, d2, d3] => { results := [.lit (.bool true)], args := [d1, d2, d3] }
  | _ => none }
def coreSubstsRow : OpenClaim := { program := "ytgonkhaebmfgiaagreatdoor", sum := "c207e7c8c7510b5bf4d867e484b6d1dbaac768b42c59c6520c16eab5bd64a99d", func := "fugue/fuguelaw18.CoreSubsts", spec := "coreSubsts", inPlace := ["internal/abi.NoEscape", "internal/bytealg.MakeNoZero", "slices.overlaps[string]"], unfollowed := true, recurses := true, named := ["internal/strconv.uint64pow10", "math/bits.deBruijn32tab", "math/bits.deBruijn64tab"], apart := false, laid := [("math/bits.deBruijn32tab", laid_math_bits_deBruijn32tab), ("math/bits.deBruijn64tab", laid_math_bits_deBruijn64tab), ("internal/strconv.uint64pow10", laid_internal_strconv_uint64pow10)] }
def CoreSubstsSaid : Prop := coreSubstsRow.holds Tryz.pinned (OpenSpec.ofChange coreSubstsSpec)

/-- ITS FALSE NEIGHBOUR: 'it returns false'. Refute it at one input. -/
def coreSubstsWrong : ChangeSpec := { name := "coreSubsts", fn := fun _ => fun
  | [d1, d2, d3] => { results := [.lit (.bool false)], args := [d1, d2, d3] }
  | _ => none }
def CoreSubstsWrongFalsely : Prop := coreSubstsRow.holds Tryz.pinned (OpenSpec.ofChange coreSubstsWrong)

/-- 'fuguelaw18.CoreTypes': WHATEVER THE INPUT: true; the input reads as it did. -/
def coreTypesSpec : ChangeSpec := { name := "coreTypes", fn := fun _ => fun
  | [d1, d2, d3] => { results := [.lit (.bool true)], args := [d1, d2, d3] }
  | _ => none }
def coreTypesRow : OpenClaim := { program := "ytgonkhaebmfgiaagreatdoor", sum := "c207e7c8c7510b5bf4d867e484b6d1dbaac768b42c59c6520c16eab5bd64a99d", func := "fugue/fuguelaw18.CoreTypes", spec := "coreTypes", inPlace := ["internal/abi.NoEscape", "internal/bytealg.MakeNoZero", "slices.overlaps[string]"], unfollowed := true, recurses := true, named := ["internal/strconv.uint64pow10", "math/bits.deBruijn32tab", "math/bits.deBruijn64tab"], apart := false, laid := [("math/bits.deBruijn32tab", laid_math_bits_deBruijn32tab), ("math/bits.deBruijn64tab", laid_math_bits_deBruijn64tab), ("internal/strconv.uint64pow10", laid_internal_strconv_uint64pow10)] }
def CoreTypesSaid : Prop := coreTypesRow.holds Tryz.pinned (OpenSpec.ofChange coreTypesSpec)

/-- ITS FALSE NEIGHBOUR: 'it returns false'. Refute it at one input. -/
def coreTypesWrong : ChangeSpec := { name := "coreTypes", fn := fun _ => fun
  | [d1, d2, d3] => { results := [.lit (.bool false)], args := [d1, d2, d3] }
  | _ => none }
def CoreTypesWrongFalsely : Prop := coreTypesRow.holds Tryz.pinned (OpenSpec.ofChange coreTypesWrong)

/-- 'fuguelaw18.CorePrints': WHATEVER THE INPUT: true; the input reads as it did. -/
def corePrintsSpec : ChangeSpec := { name := "corePrints", fn := fun _ => fun
  | [d] => { results := [.lit (.bool true)], args := [d] }
  | _ => none }
def corePrintsRow : OpenClaim := { program := "ytgonkhaebmfgiaagreatdoor", sum := "c207e7c8c7510b5bf4d867e484b6d1dbaac768b42c59c6520c16eab5bd64a99d", func := "fugue/fuguelaw18.CorePrints", spec := "corePrints", inPlace := ["internal/abi.NoEscape", "internal/bytealg.MakeNoZero", "slices.overlaps[string]"], unfollowed := true, recurses := true, named := ["internal/strconv.uint64pow10", "math/bits.deBruijn32tab", "math/bits.deBruijn64tab"], apart := false, laid := [("math/bits.deBruijn32tab", laid_math_bits_deBruijn32tab), ("math/bits.deBruijn64tab", laid_math_bits_deBruijn64tab), ("internal/strconv.uint64pow10", laid_internal_strconv_uint64pow10)] }
def CorePrintsSaid : Prop := corePrintsRow.holds Tryz.pinned (OpenSpec.ofChange corePrintsSpec)

/-- ITS FALSE NEIGHBOUR: 'it returns false'. Refute it at one input. -/
def corePrintsWrong : ChangeSpec := { name := "corePrints", fn := fun _ => fun
  | [d] => { results := [.lit (.bool false)], args := [d] }
  | _ => none }
def CorePrintsWrongFalsely : Prop := corePrintsRow.holds Tryz.pinned (OpenSpec.ofChange corePrintsWrong)

/-- 'fuguelaw18.CoreMakes': WHATEVER THE INPUT: true; the input reads as it did. -/
def coreMakesSpec : ChangeSpec := { name := "coreMakes", fn := fun _ => fun
  | [d1, d2, d3] => { results := [.lit (.bool true)], args := [d1, d2, d3] }
  | _ => none }
def coreMakesRow : OpenClaim := { program := "ytgonkhaebmfgiaagreatdoor", sum := "c207e7c8c7510b5bf4d867e484b6d1dbaac768b42c59c6520c16eab5bd64a99d", func := "fugue/fuguelaw18.CoreMakes", spec := "coreMakes", inPlace := ["internal/abi.NoEscape", "internal/bytealg.MakeNoZero", "slices.overlaps[string]"], unfollowed := true, recurses := true, named := ["internal/strconv.uint64pow10", "math/bits.deBruijn32tab", "math/bits.deBruijn64tab"], apart := false, laid := [("math/bits.deBruijn32tab", laid_math_bits_deBruijn32tab), ("math/bits.deBruijn64tab", laid_math_bits_deBruijn64tab), ("internal/strconv.uint64pow10", laid_internal_strconv_uint64pow10)] }
def CoreMakesSaid : Prop := coreMakesRow.holds Tryz.pinned (OpenSpec.ofChange coreMakesSpec)

/-- ITS FALSE NEIGHBOUR: 'it returns false'. Refute it at one input. -/
def coreMakesWrong : ChangeSpec := { name := "coreMakes", fn := fun _ => fun
  | [d1, d2, d3] => { results := [.lit (.bool false)], args := [d1, d2, d3] }
  | _ => none }
def CoreMakesWrongFalsely : Prop := coreMakesRow.holds Tryz.pinned (OpenSpec.ofChange coreMakesWrong)

/-- 'fuguelaw18.CoreTwice': WHATEVER THE INPUT: true; the input reads as it did. -/
def coreTwiceSpec : ChangeSpec := { name := "coreTwice", fn := fun _ => fun
  | [d1, d2, d3] => { results := [.lit (.bool true)], args := [d1, d2, d3] }
  | _ => none }
def coreTwiceRow : OpenClaim := { program := "ytgonkhaebmfgiaagreatdoor", sum := "c207e7c8c7510b5bf4d867e484b6d1dbaac768b42c59c6520c16eab5bd64a99d", func := "fugue/fuguelaw18.CoreTwice", spec := "coreTwice", inPlace := ["internal/abi.NoEscape", "internal/bytealg.MakeNoZero", "slices.overlaps[string]"], unfollowed := true, recurses := true, named := ["internal/strconv.uint64pow10", "math/bits.deBruijn32tab", "math/bits.deBruijn64tab"], apart := false, laid := [("math/bits.deBruijn32tab", laid_math_bits_deBruijn32tab), ("math/bits.deBruijn64tab", laid_math_bits_deBruijn64tab), ("internal/strconv.uint64pow10", laid_internal_strconv_uint64pow10)] }
def CoreTwiceSaid : Prop := coreTwiceRow.holds Tryz.pinned (OpenSpec.ofChange coreTwiceSpec)

/-- ITS FALSE NEIGHBOUR: 'it returns false'. Refute it at one input. -/
def coreTwiceWrong : ChangeSpec := { name := "coreTwice", fn := fun _ => fun
  | [d1, d2, d3] => { results := [.lit (.bool false)], args := [d1, d2, d3] }
  | _ => none }
def CoreTwiceWrongFalsely : Prop := coreTwiceRow.holds Tryz.pinned (OpenSpec.ofChange coreTwiceWrong)

/-- 'fuguelaw18.CoreFar': WHATEVER THE INPUT: true; the input reads as it did. -/
def coreFarSpec : ChangeSpec := { name := "coreFar", fn := fun _ => fun
  | [d1, d2, d3] => { results := [.lit (.bool true)], args := [d1, d2, d3] }
  | _ => none }
def coreFarRow : OpenClaim := { program := "ytgonkhaebmfgiaagreatdoor", sum := "c207e7c8c7510b5bf4d867e484b6d1dbaac768b42c59c6520c16eab5bd64a99d", func := "fugue/fuguelaw18.CoreFar", spec := "coreFar", inPlace := ["internal/abi.NoEscape", "internal/bytealg.MakeNoZero", "slices.overlaps[string]"], unfollowed := true, recurses := true, named := ["internal/strconv.uint64pow10", "math/bits.deBruijn32tab", "math/bits.deBruijn64tab"], apart := false, laid := [("math/bits.deBruijn32tab", laid_math_bits_deBruijn32tab), ("math/bits.deBruijn64tab", laid_math_bits_deBruijn64tab), ("internal/strconv.uint64pow10", laid_internal_strconv_uint64pow10)] }
def CoreFarSaid : Prop := coreFarRow.holds Tryz.pinned (OpenSpec.ofChange coreFarSpec)

/-- ITS FALSE NEIGHBOUR: 'it returns false'. Refute it at one input. -/
def coreFarWrong : ChangeSpec := { name := "coreFar", fn := fun _ => fun
  | [d1, d2, d3] => { results := [.lit (.bool false)], args := [d1, d2, d3] }
  | _ => none }
def CoreFarWrongFalsely : Prop := coreFarRow.holds Tryz.pinned (OpenSpec.ofChange coreFarWrong)

/-- 'fuguelaw18.CoreRenames': WHATEVER THE INPUT: true; the input reads as it did. -/
def coreRenamesSpec : ChangeSpec := { name := "coreRenames", fn := fun _ => fun
  | [d1, d2, d3] => { results := [.lit (.bool true)], args := [d1, d2, d3] }
  | _ => none }
def coreRenamesRow : OpenClaim := { program := "ytgonkhaebmfgiaagreatdoor", sum := "c207e7c8c7510b5bf4d867e484b6d1dbaac768b42c59c6520c16eab5bd64a99d", func := "fugue/fuguelaw18.CoreRenames", spec := "coreRenames", inPlace := ["internal/abi.NoEscape", "internal/bytealg.MakeNoZero", "slices.overlaps[string]"], unfollowed := true, recurses := true, named := ["internal/strconv.uint64pow10", "math/bits.deBruijn32tab", "math/bits.deBruijn64tab"], apart := false, laid := [("math/bits.deBruijn32tab", laid_math_bits_deBruijn32tab), ("math/bits.deBruijn64tab", laid_math_bits_deBruijn64tab), ("internal/strconv.uint64pow10", laid_internal_strconv_uint64pow10)] }
def CoreRenamesSaid : Prop := coreRenamesRow.holds Tryz.pinned (OpenSpec.ofChange coreRenamesSpec)

/-- ITS FALSE NEIGHBOUR: 'it returns false'. Refute it at one input. -/
def coreRenamesWrong : ChangeSpec := { name := "coreRenames", fn := fun _ => fun
  | [d1, d2, d3] => { results := [.lit (.bool false)], args := [d1, d2, d3] }
  | _ => none }
def CoreRenamesWrongFalsely : Prop := coreRenamesRow.holds Tryz.pinned (OpenSpec.ofChange coreRenamesWrong)

/-- 'fuguelaw18.CoreFrees': WHATEVER THE INPUT: true; the input reads as it did. -/
def coreFreesSpec : ChangeSpec := { name := "coreFrees", fn := fun _ => fun
  | [d1, d2, d3] => { results := [.lit (.bool true)], args := [d1, d2, d3] }
  | _ => none }
def coreFreesRow : OpenClaim := { program := "ytgonkhaebmfgiaagreatdoor", sum := "c207e7c8c7510b5bf4d867e484b6d1dbaac768b42c59c6520c16eab5bd64a99d", func := "fugue/fuguelaw18.CoreFrees", spec := "coreFrees", inPlace := ["internal/abi.NoEscape", "internal/bytealg.MakeNoZero", "slices.overlaps[string]"], unfollowed := true, recurses := true, named := ["internal/strconv.uint64pow10", "math/bits.deBruijn32tab", "math/bits.deBruijn64tab"], apart := false, laid := [("math/bits.deBruijn32tab", laid_math_bits_deBruijn32tab), ("math/bits.deBruijn64tab", laid_math_bits_deBruijn64tab), ("internal/strconv.uint64pow10", laid_internal_strconv_uint64pow10)] }
def CoreFreesSaid : Prop := coreFreesRow.holds Tryz.pinned (OpenSpec.ofChange coreFreesSpec)

/-- ITS FALSE NEIGHBOUR: 'it returns false'. Refute it at one input. -/
def coreFreesWrong : ChangeSpec := { name := "coreFrees", fn := fun _ => fun
  | [d1, d2, d3] => { results := [.lit (.bool false)], args := [d1, d2, d3] }
  | _ => none }
def CoreFreesWrongFalsely : Prop := coreFreesRow.holds Tryz.pinned (OpenSpec.ofChange coreFreesWrong)

/-- 'fuguelaw18.CoreCatches': WHATEVER THE INPUT: true; the input reads as it did. -/
def coreCatchesSpec : ChangeSpec := { name := "coreCatches", fn := fun _ => fun
  | [d1, d2, d3] => { results := [.lit (.bool true)], args := [d1, d2, d3] }
  | _ => none }
def coreCatchesRow : OpenClaim := { program := "ytgonkhaebmfgiaagreatdoor", sum := "c207e7c8c7510b5bf4d867e484b6d1dbaac768b42c59c6520c16eab5bd64a99d", func := "fugue/fuguelaw18.CoreCatches", spec := "coreCatches", inPlace := ["internal/abi.NoEscape", "internal/bytealg.MakeNoZero", "slices.overlaps[string]"], unfollowed := true, recurses := true, named := ["internal/strconv.uint64pow10", "math/bits.deBruijn32tab", "math/bits.deBruijn64tab"], apart := false, laid := [("math/bits.deBruijn32tab", laid_math_bits_deBruijn32tab), ("math/bits.deBruijn64tab", laid_math_bits_deBruijn64tab), ("internal/strconv.uint64pow10", laid_internal_strconv_uint64pow10)] }
def CoreCatchesSaid : Prop := coreCatchesRow.holds Tryz.pinned (OpenSpec.ofChange coreCatchesSpec)

/-- ITS FALSE NEIGHBOUR: 'it returns false'. Refute it at one input. -/
def coreCatchesWrong : ChangeSpec := { name := "coreCatches", fn := fun _ => fun
  | [d1, d2, d3] => { results := [.lit (.bool false)], args := [d1, d2, d3] }
  | _ => none }
def CoreCatchesWrongFalsely : Prop := coreCatchesRow.holds Tryz.pinned (OpenSpec.ofChange coreCatchesWrong)

/-- 'fuguelaw18.CoreAlike': WHATEVER THE INPUT: true; the input reads as it did. -/
def coreAlikeSpec : ChangeSpec := { name := "coreAlike", fn := fun _ => fun
  | [d1, d2, d3] => { results := [.lit (.bool true)], args := [d1, d2, d3] }
  | _ => none }
def coreAlikeRow : OpenClaim := { program := "ytgonkhaebmfgiaagreatdoor", sum := "c207e7c8c7510b5bf4d867e484b6d1dbaac768b42c59c6520c16eab5bd64a99d", func := "fugue/fuguelaw18.CoreAlike", spec := "coreAlike", inPlace := ["internal/abi.NoEscape", "internal/bytealg.MakeNoZero", "slices.overlaps[string]"], unfollowed := true, recurses := true, named := ["internal/strconv.uint64pow10", "math/bits.deBruijn32tab", "math/bits.deBruijn64tab"], apart := false, laid := [("math/bits.deBruijn32tab", laid_math_bits_deBruijn32tab), ("math/bits.deBruijn64tab", laid_math_bits_deBruijn64tab), ("internal/strconv.uint64pow10", laid_internal_strconv_uint64pow10)] }
def CoreAlikeSaid : Prop := coreAlikeRow.holds Tryz.pinned (OpenSpec.ofChange coreAlikeSpec)

/-- ITS FALSE NEIGHBOUR: 'it returns false'. Refute it at one input. -/
def coreAlikeWrong : ChangeSpec := { name := "coreAlike", fn := fun _ => fun
  | [d1, d2, d3] => { results := [.lit (.bool false)], args := [d1, d2, d3] }
  | _ => none }
def CoreAlikeWrongFalsely : Prop := coreAlikeRow.holds Tryz.pinned (OpenSpec.ofChange coreAlikeWrong)

/- THE SECOND FORM. 'bulk': how many values and letters a reading holds, each counted each time it is reached (what is shared counts as often as it is met; a slice's spare places count too). A statement '..UptoSaid' is the law's where the arguments, and the package variables that the reading takes, are together of bulk at most 1048576: NARROWER than '..Said'. Prove '..Said' where nothing that the law and all that it calls make is longer than what came in: it says more and counts as full. Else prove '..UptoSaid'. A law counts once. -/
mutual
def uptoBulk {H : Type} : DataW H → Nat
  | .lit (.string bytes) => bytes.length + 1
  | .lit _ => 1
  | .nil => 1
  | .ptr d => uptoBulk d + 1
  | .slice elems spare => uptoBulkAll elems + uptoBulkAll spare + 1
  | .agg parts => uptoBulkAll parts + 1
  | .iface _ d => uptoBulk d + 1
  | .map entries => uptoBulkEntries entries + 1
  | .held _ => 1
def uptoBulkAll {H : Type} : List (DataW H) → Nat
  | [] => 0
  | d :: r => uptoBulk d + uptoBulkAll r
def uptoBulkEntries {H : Type} : List (Lit × DataW H) → Nat
  | [] => 0
  | x :: r => uptoBulkEntry x + uptoBulkEntries r
def uptoBulkEntry {H : Type} : Lit × DataW H → Nat
  | (.string bytes, d) => bytes.length + uptoBulk d + 1
  | (_, d) => uptoBulk d + 1
 end
def uptoSmall : (H : Type) → List (DataW H) → Bool := fun _ ds => decide (uptoBulkAll ds ≤ 1048576)
def OpenSpec.upto (s : _root_.Go.ChangeSpec) : _root_.Go.OpenSpec := { _root_.Go.OpenSpec.ofChange s with cond := some uptoSmall }

/-- 'fuguelaw18.CoreSubsts', WHERE WHAT IT READS IS OF BULK AT MOST 1048576: true; the input reads as it did. -/
def coreSubstsUptoRow : OpenClaim := { program := "ytgonkhaebmfgiaagreatdoor", sum := "c207e7c8c7510b5bf4d867e484b6d1dbaac768b42c59c6520c16eab5bd64a99d", func := "fugue/fuguelaw18.CoreSubsts", spec := "coreSubsts", inPlace := ["internal/abi.NoEscape", "internal/bytealg.MakeNoZero", "slices.overlaps[string]"], unfollowed := true, recurses := true, named := ["internal/strconv.uint64pow10", "math/bits.deBruijn32tab", "math/bits.deBruijn64tab"], apart := false, laid := [("math/bits.deBruijn32tab", laid_math_bits_deBruijn32tab), ("math/bits.deBruijn64tab", laid_math_bits_deBruijn64tab), ("internal/strconv.uint64pow10", laid_internal_strconv_uint64pow10)], narrowed := true }
def CoreSubstsUptoSaid : Prop := coreSubstsUptoRow.holds Tryz.pinned (OpenSpec.upto coreSubstsSpec)

/-- 'fuguelaw18.CoreTypes', WHERE WHAT IT READS IS OF BULK AT MOST 1048576: true; the input reads as it did. -/
def coreTypesUptoRow : OpenClaim := { program := "ytgonkhaebmfgiaagreatdoor", sum := "c207e7c8c7510b5bf4d867e484b6d1dbaac768b42c59c6520c16eab5bd64a99d", func := "fugue/fuguelaw18.CoreTypes", spec := "coreTypes", inPlace := ["internal/abi.NoEscape", "internal/bytealg.MakeNoZero", "slices.overlaps[string]"], unfollowed := true, recurses := true, named := ["internal/strconv.uint64pow10", "math/bits.deBruijn32tab", "math/bits.deBruijn64tab"], apart := false, laid := [("math/bits.deBruijn32tab", laid_math_bits_deBruijn32tab), ("math/bits.deBruijn64tab", laid_math_bits_deBruijn64tab), ("internal/strconv.uint64pow10", laid_internal_strconv_uint64pow10)], narrowed := true }
def CoreTypesUptoSaid : Prop := coreTypesUptoRow.holds Tryz.pinned (OpenSpec.upto coreTypesSpec)

/-- 'fuguelaw18.CorePrints', WHERE WHAT IT READS IS OF BULK AT MOST 1048576: true; the input reads as it did. -/
def corePrintsUptoRow : OpenClaim := { program := "ytgonkhaebmfgiaagreatdoor", sum := "c207e7c8c7510b5bf4d867e484b6d1dbaac768b42c59c6520c16eab5bd64a99d", func := "fugue/fuguelaw18.CorePrints", spec := "corePrints", inPlace := ["internal/abi.NoEscape", "internal/bytealg.MakeNoZero", "slices.overlaps[string]"], unfollowed := true, recurses := true, named := ["internal/strconv.uint64pow10", "math/bits.deBruijn32tab", "math/bits.deBruijn64tab"], apart := false, laid := [("math/bits.deBruijn32tab", laid_math_bits_deBruijn32tab), ("math/bits.deBruijn64tab", laid_math_bits_deBruijn64tab), ("internal/strconv.uint64pow10", laid_internal_strconv_uint64pow10)], narrowed := true }
def CorePrintsUptoSaid : Prop := corePrintsUptoRow.holds Tryz.pinned (OpenSpec.upto corePrintsSpec)

/-- 'fuguelaw18.CoreMakes', WHERE WHAT IT READS IS OF BULK AT MOST 1048576: true; the input reads as it did. -/
def coreMakesUptoRow : OpenClaim := { program := "ytgonkhaebmfgiaagreatdoor", sum := "c207e7c8c7510b5bf4d867e484b6d1dbaac768b42c59c6520c16eab5bd64a99d", func := "fugue/fuguelaw18.CoreMakes", spec := "coreMakes", inPlace := ["internal/abi.NoEscape", "internal/bytealg.MakeNoZero", "slices.overlaps[string]"], unfollowed := true, recurses := true, named := ["internal/strconv.uint64pow10", "math/bits.deBruijn32tab", "math/bits.deBruijn64tab"], apart := false, laid := [("math/bits.deBruijn32tab", laid_math_bits_deBruijn32tab), ("math/bits.deBruijn64tab", laid_math_bits_deBruijn64tab), ("internal/strconv.uint64pow10", laid_internal_strconv_uint64pow10)], narrowed := true }
def CoreMakesUptoSaid : Prop := coreMakesUptoRow.holds Tryz.pinned (OpenSpec.upto coreMakesSpec)

/-- 'fuguelaw18.CoreTwice', WHERE WHAT IT READS IS OF BULK AT MOST 1048576: true; the input reads as it did. -/
def coreTwiceUptoRow : OpenClaim := { program := "ytgonkhaebmfgiaagreatdoor", sum := "c207e7c8c7510b5bf4d867e484b6d1dbaac768b42c59c6520c16eab5bd64a99d", func := "fugue/fuguelaw18.CoreTwice", spec := "coreTwice", inPlace := ["internal/abi.NoEscape", "internal/bytealg.MakeNoZero", "slices.overlaps[string]"], unfollowed := true, recurses := true, named := ["internal/strconv.uint64pow10", "math/bits.deBruijn32tab", "math/bits.deBruijn64tab"], apart := false, laid := [("math/bits.deBruijn32tab", laid_math_bits_deBruijn32tab), ("math/bits.deBruijn64tab", laid_math_bits_deBruijn64tab), ("internal/strconv.uint64pow10", laid_internal_strconv_uint64pow10)], narrowed := true }
def CoreTwiceUptoSaid : Prop := coreTwiceUptoRow.holds Tryz.pinned (OpenSpec.upto coreTwiceSpec)

/-- 'fuguelaw18.CoreFar', WHERE WHAT IT READS IS OF BULK AT MOST 1048576: true; the input reads as it did. -/
def coreFarUptoRow : OpenClaim := { program := "ytgonkhaebmfgiaagreatdoor", sum := "c207e7c8c7510b5bf4d867e484b6d1dbaac768b42c59c6520c16eab5bd64a99d", func := "fugue/fuguelaw18.CoreFar", spec := "coreFar", inPlace := ["internal/abi.NoEscape", "internal/bytealg.MakeNoZero", "slices.overlaps[string]"], unfollowed := true, recurses := true, named := ["internal/strconv.uint64pow10", "math/bits.deBruijn32tab", "math/bits.deBruijn64tab"], apart := false, laid := [("math/bits.deBruijn32tab", laid_math_bits_deBruijn32tab), ("math/bits.deBruijn64tab", laid_math_bits_deBruijn64tab), ("internal/strconv.uint64pow10", laid_internal_strconv_uint64pow10)], narrowed := true }
def CoreFarUptoSaid : Prop := coreFarUptoRow.holds Tryz.pinned (OpenSpec.upto coreFarSpec)

/-- 'fuguelaw18.CoreRenames', WHERE WHAT IT READS IS OF BULK AT MOST 1048576: true; the input reads as it did. -/
def coreRenamesUptoRow : OpenClaim := { program := "ytgonkhaebmfgiaagreatdoor", sum := "c207e7c8c7510b5bf4d867e484b6d1dbaac768b42c59c6520c16eab5bd64a99d", func := "fugue/fuguelaw18.CoreRenames", spec := "coreRenames", inPlace := ["internal/abi.NoEscape", "internal/bytealg.MakeNoZero", "slices.overlaps[string]"], unfollowed := true, recurses := true, named := ["internal/strconv.uint64pow10", "math/bits.deBruijn32tab", "math/bits.deBruijn64tab"], apart := false, laid := [("math/bits.deBruijn32tab", laid_math_bits_deBruijn32tab), ("math/bits.deBruijn64tab", laid_math_bits_deBruijn64tab), ("internal/strconv.uint64pow10", laid_internal_strconv_uint64pow10)], narrowed := true }
def CoreRenamesUptoSaid : Prop := coreRenamesUptoRow.holds Tryz.pinned (OpenSpec.upto coreRenamesSpec)

/-- 'fuguelaw18.CoreFrees', WHERE WHAT IT READS IS OF BULK AT MOST 1048576: true; the input reads as it did. -/
def coreFreesUptoRow : OpenClaim := { program := "ytgonkhaebmfgiaagreatdoor", sum := "c207e7c8c7510b5bf4d867e484b6d1dbaac768b42c59c6520c16eab5bd64a99d", func := "fugue/fuguelaw18.CoreFrees", spec := "coreFrees", inPlace := ["internal/abi.NoEscape", "internal/bytealg.MakeNoZero", "slices.overlaps[string]"], unfollowed := true, recurses := true, named := ["internal/strconv.uint64pow10", "math/bits.deBruijn32tab", "math/bits.deBruijn64tab"], apart := false, laid := [("math/bits.deBruijn32tab", laid_math_bits_deBruijn32tab), ("math/bits.deBruijn64tab", laid_math_bits_deBruijn64tab), ("internal/strconv.uint64pow10", laid_internal_strconv_uint64pow10)], narrowed := true }
def CoreFreesUptoSaid : Prop := coreFreesUptoRow.holds Tryz.pinned (OpenSpec.upto coreFreesSpec)

/-- 'fuguelaw18.CoreCatches', WHERE WHAT IT READS IS OF BULK AT MOST 1048576: true; the input reads as it did. -/
def coreCatchesUptoRow : OpenClaim := { program := "ytgonkhaebmfgiaagreatdoor", sum := "c207e7c8c7510b5bf4d867e484b6d1dbaac768b42c59c6520c16eab5bd64a99d", func := "fugue/fuguelaw18.CoreCatches", spec := "coreCatches", inPlace := ["internal/abi.NoEscape", "internal/bytealg.MakeNoZero", "slices.overlaps[string]"], unfollowed := true, recurses := true, named := ["internal/strconv.uint64pow10", "math/bits.deBruijn32tab", "math/bits.deBruijn64tab"], apart := false, laid := [("math/bits.deBruijn32tab", laid_math_bits_deBruijn32tab), ("math/bits.deBruijn64tab", laid_math_bits_deBruijn64tab), ("internal/strconv.uint64pow10", laid_internal_strconv_uint64pow10)], narrowed := true }
def CoreCatchesUptoSaid : Prop := coreCatchesUptoRow.holds Tryz.pinned (OpenSpec.upto coreCatchesSpec)

/-- 'fuguelaw18.CoreAlike', WHERE WHAT IT READS IS OF BULK AT MOST 1048576: true; the input reads as it did. -/
def coreAlikeUptoRow : OpenClaim := { program := "ytgonkhaebmfgiaagreatdoor", sum := "c207e7c8c7510b5bf4d867e484b6d1dbaac768b42c59c6520c16eab5bd64a99d", func := "fugue/fuguelaw18.CoreAlike", spec := "coreAlike", inPlace := ["internal/abi.NoEscape", "internal/bytealg.MakeNoZero", "slices.overlaps[string]"], unfollowed := true, recurses := true, named := ["internal/strconv.uint64pow10", "math/bits.deBruijn32tab", "math/bits.deBruijn64tab"], apart := false, laid := [("math/bits.deBruijn32tab", laid_math_bits_deBruijn32tab), ("math/bits.deBruijn64tab", laid_math_bits_deBruijn64tab), ("internal/strconv.uint64pow10", laid_internal_strconv_uint64pow10)], narrowed := true }
def CoreAlikeUptoSaid : Prop := coreAlikeUptoRow.holds Tryz.pinned (OpenSpec.upto coreAlikeSpec)

end Rows
end Go.Proofs.YtgonkhaebmfgiaaGreatDoor
