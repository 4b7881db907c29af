/-
  No cell of these rows narrows 'for every input' (looked for: loops, veiled, ifaces, maps, wideKeys, modest, calm, conditions, laid).
  DERIVED. THE GIVEN ROWS OF THIS SEAT. 4 by the template 'for every input the law returns true; each argument reads behind the call as it read before'; 0 by the template 'total and deterministic' (their statements: YtefdahofpjmnfaaTotals.lean).
  GIVEN WITH THE SEED: the statements are not yours to turn. If you find one false, say at which input.
  Laid BY PROGRAM, IN A SANDBOX (cutbox-rows.mjs): the forced cells as the released guide's own fill.sh prints them over the translation 52bbadb4f08e5bc5… (all of the seat's roots in one cut). By AI agents, Wed Nov 11 2026. No macro, syntax, notation, axiom, sorry.
-/
import Derived.Test.YtefdahofpjmnfaaChecked
import GoSem.Claim
import GoSem.ClaimJoined
import GoSem.ClaimMapViews
import Derived.JoinedTies
import Derived.KernelRfl
namespace Go.Proofs.Ytefdahofpjmnfaa
/- THE CELL 'sum', in the pinned program and in every row, IS THE sha256 OF THE DUMP (.gsa) THAT YtefdahofpjmnfaaProg.lean LOADS. Nothing in Lean hashes anything: it is a label: what it is worth is what the hold of that sum in a sandbox is worth. -/
noncomputable def Try.pinned : Pinned := { name := "ytefdahofpjmnfaa", sum := "52bbadb4f08e5bc5f8120bb0383be0a57aaf349f4355c771ecb3d4ec849161fc", checked := Try.checked }
namespace Rows
def none {H : Type} : Left H := { results := [], args := [] }

/-- 'fuguelaw20.CoverMissing': WHATEVER THE INPUT: true; the input reads as it did. -/
def coverMissingSpec : ChangeSpec := { name := "coverMissing", fn := fun _ => fun
  | [d] => { results := [.lit (.bool true)], args := [d] }
  | _ => none }
def coverMissingRow : OpenClaim := { program := "ytefdahofpjmnfaa", sum := "52bbadb4f08e5bc5f8120bb0383be0a57aaf349f4355c771ecb3d4ec849161fc", func := "fugue/fuguelaw20.CoverMissing", spec := "coverMissing", unfollowed := true, recurses := true, apart := false }
def CoverMissingSaid : Prop := coverMissingRow.holds Try.pinned (OpenSpec.ofChange coverMissingSpec)

/-- ITS FALSE NEIGHBOUR: 'it returns false'. Refute it at one input. -/
def coverMissingWrong : ChangeSpec := { name := "coverMissing", fn := fun _ => fun
  | [d] => { results := [.lit (.bool false)], args := [d] }
  | _ => none }
def CoverMissingWrongFalsely : Prop := coverMissingRow.holds Try.pinned (OpenSpec.ofChange coverMissingWrong)

/-- 'fuguelaw20.CoverUseless': WHATEVER THE INPUT: true; the input reads as it did. -/
def coverUselessSpec : ChangeSpec := { name := "coverUseless", fn := fun _ => fun
  | [d] => { results := [.lit (.bool true)], args := [d] }
  | _ => none }
def coverUselessRow : OpenClaim := { program := "ytefdahofpjmnfaa", sum := "52bbadb4f08e5bc5f8120bb0383be0a57aaf349f4355c771ecb3d4ec849161fc", func := "fugue/fuguelaw20.CoverUseless", spec := "coverUseless", unfollowed := true, recurses := true, apart := false }
def CoverUselessSaid : Prop := coverUselessRow.holds Try.pinned (OpenSpec.ofChange coverUselessSpec)

/-- ITS FALSE NEIGHBOUR: 'it returns false'. Refute it at one input. -/
def coverUselessWrong : ChangeSpec := { name := "coverUseless", fn := fun _ => fun
  | [d] => { results := [.lit (.bool false)], args := [d] }
  | _ => none }
def CoverUselessWrongFalsely : Prop := coverUselessRow.holds Try.pinned (OpenSpec.ofChange coverUselessWrong)

/-- 'fuguelaw20.CoverFull': WHATEVER THE INPUT: true; the input reads as it did. -/
def coverFullSpec : ChangeSpec := { name := "coverFull", fn := fun _ => fun
  | [d1, d2] => { results := [.lit (.bool true)], args := [d1, d2] }
  | _ => none }
def coverFullRow : OpenClaim := { program := "ytefdahofpjmnfaa", sum := "52bbadb4f08e5bc5f8120bb0383be0a57aaf349f4355c771ecb3d4ec849161fc", func := "fugue/fuguelaw20.CoverFull", spec := "coverFull", unfollowed := true, recurses := true, apart := false }
def CoverFullSaid : Prop := coverFullRow.holds Try.pinned (OpenSpec.ofChange coverFullSpec)

/-- ITS FALSE NEIGHBOUR: 'it returns false'. Refute it at one input. -/
def coverFullWrong : ChangeSpec := { name := "coverFull", fn := fun _ => fun
  | [d1, d2] => { results := [.lit (.bool false)], args := [d1, d2] }
  | _ => none }
def CoverFullWrongFalsely : Prop := coverFullRow.holds Try.pinned (OpenSpec.ofChange coverFullWrong)

/-- 'fuguelaw20.CoverWhole': WHATEVER THE INPUT: true; the input reads as it did. -/
def coverWholeSpec : ChangeSpec := { name := "coverWhole", fn := fun _ => fun
  | [d1, d2] => { results := [.lit (.bool true)], args := [d1, d2] }
  | _ => none }
def coverWholeRow : OpenClaim := { program := "ytefdahofpjmnfaa", sum := "52bbadb4f08e5bc5f8120bb0383be0a57aaf349f4355c771ecb3d4ec849161fc", func := "fugue/fuguelaw20.CoverWhole", spec := "coverWhole", unfollowed := true, recurses := true, apart := false }
def CoverWholeSaid : Prop := coverWholeRow.holds Try.pinned (OpenSpec.ofChange coverWholeSpec)

/-- ITS FALSE NEIGHBOUR: 'it returns false'. Refute it at one input. -/
def coverWholeWrong : ChangeSpec := { name := "coverWhole", fn := fun _ => fun
  | [d1, d2] => { results := [.lit (.bool false)], args := [d1, d2] }
  | _ => none }
def CoverWholeWrongFalsely : Prop := coverWholeRow.holds Try.pinned (OpenSpec.ofChange coverWholeWrong)

/- THE SECOND FORM. 'bulk': how many values and letters a reading holds, each counted each time it is reached (what is shared counts as often as it is met; a slice's spare places count too). A statement '..UptoSaid' is the law's where the arguments, and the package variables that the reading takes, are together of bulk at most 1048576: NARROWER than '..Said'. Prove '..Said' where nothing that the law and all that it calls make is longer than what came in: it says more and counts as full. Else prove '..UptoSaid'. A law counts once. -/
mutual
def uptoBulk {H : Type} : DataW H → Nat
  | .lit (.string bytes) => bytes.length + 1
  | .lit _ => 1
  | .nil => 1
  | .ptr d => uptoBulk d + 1
  | .slice elems spare => uptoBulkAll elems + uptoBulkAll spare + 1
  | .agg parts => uptoBulkAll parts + 1
  | .iface _ d => uptoBulk d + 1
  | .map entries => uptoBulkEntries entries + 1
  | .held _ => 1
def uptoBulkAll {H : Type} : List (DataW H) → Nat
  | [] => 0
  | d :: r => uptoBulk d + uptoBulkAll r
def uptoBulkEntries {H : Type} : List (Lit × DataW H) → Nat
  | [] => 0
  | x :: r => uptoBulkEntry x + uptoBulkEntries r
def uptoBulkEntry {H : Type} : Lit × DataW H → Nat
  | (.string bytes, d) => bytes.length + uptoBulk d + 1
  | (_, d) => uptoBulk d + 1
 end
def uptoSmall : (H : Type) → List (DataW H) → Bool := fun _ ds => decide (uptoBulkAll ds ≤ 1048576)
def OpenSpec.upto (s : _root_.Go.ChangeSpec) : _root_.Go.OpenSpec := { _root_.Go.OpenSpec.ofChange s with cond := some uptoSmall }

/-- 'fuguelaw20.CoverMissing', WHERE WHAT IT READS IS OF BULK AT MOST 1048576: true; the input reads as it did. -/
def coverMissingUptoRow : OpenClaim := { program := "ytefdahofpjmnfaa", sum := "52bbadb4f08e5bc5f8120bb0383be0a57aaf349f4355c771ecb3d4ec849161fc", func := "fugue/fuguelaw20.CoverMissing", spec := "coverMissing", unfollowed := true, recurses := true, apart := false, narrowed := true }
def CoverMissingUptoSaid : Prop := coverMissingUptoRow.holds Try.pinned (OpenSpec.upto coverMissingSpec)

/-- 'fuguelaw20.CoverUseless', WHERE WHAT IT READS IS OF BULK AT MOST 1048576: true; the input reads as it did. -/
def coverUselessUptoRow : OpenClaim := { program := "ytefdahofpjmnfaa", sum := "52bbadb4f08e5bc5f8120bb0383be0a57aaf349f4355c771ecb3d4ec849161fc", func := "fugue/fuguelaw20.CoverUseless", spec := "coverUseless", unfollowed := true, recurses := true, apart := false, narrowed := true }
def CoverUselessUptoSaid : Prop := coverUselessUptoRow.holds Try.pinned (OpenSpec.upto coverUselessSpec)

/-- 'fuguelaw20.CoverFull', WHERE WHAT IT READS IS OF BULK AT MOST 1048576: true; the input reads as it did. -/
def coverFullUptoRow : OpenClaim := { program := "ytefdahofpjmnfaa", sum := "52bbadb4f08e5bc5f8120bb0383be0a57aaf349f4355c771ecb3d4ec849161fc", func := "fugue/fuguelaw20.CoverFull", spec := "coverFull", unfollowed := true, recurses := true, apart := false, narrowed := true }
def CoverFullUptoSaid : Prop := coverFullUptoRow.holds Try.pinned (OpenSpec.upto coverFullSpec)

/-- 'fuguelaw20.CoverWhole', WHERE WHAT IT READS IS OF BULK AT MOST 1048576: true; the input reads as it did. -/
def coverWholeUptoRow : OpenClaim := { program := "ytefdahofpjmnfaa", sum := "52bbadb4f08e5bc5f8120bb0383be0a57aaf349f4355c771ecb3d4ec849161fc", func := "fugue/fuguelaw20.CoverWhole", spec := "coverWhole", unfollowed := true, recurses := true, apart := false, narrowed := true }
def CoverWholeUptoSaid : Prop := coverWholeUptoRow.holds Try.pinned (OpenSpec.upto coverWholeSpec)

end Rows
end Go.Proofs.Ytefdahofpjmnfaa
