/-
  DERIVED. GIVEN WITH THE SEED: THE CARDS: each row of YtebmimnglcdogaaGreatDoorRows.lean that lists a variable, with what it lists TIED to the program's text (the seventh form; the later family's looks); each row that meets fmt, with fmt's text TOLD by the authors' own Lean function (tested against real Go, not proved from fmt's source: count such statements apart). THE CARD IS WHAT COUNTS. Prove the row's statement (the work); the ties are given (YtebmimnglcdogaaGreatDoorTie.lean); close each card by the builder's one call (the guide's Derived/Test/ToyasCard.lean, 'card_holds'). Laid BY PROGRAM, IN A SANDBOX (cutbox-door.mjs). By AI agents, Wed Nov 11 2026. No macro, syntax, notation, axiom, sorry.
-/
import Derived.Test.YtebmimnglcdogaaGreatDoorRows
import GoSem.ClaimSeven
namespace Go.Proofs.YtebmimnglcdogaaGreatDoor
namespace Rows

/-- THE TIED CARD OF 'fuguelaw20.CoverTyped'. -/
def coverTypedCard : Claim7 := { stood := { row := coverTypedRow, standIns := [], harness := (true, "2035c5811dec4a5fcf1ef2205f25c8ce6cd4a13b730b3d33ee1b971ebbe50de3"), looks := true }, kinds := [], alts := [], laidByText := true, laidKinds := [.data, .data, .data], laidTests := true, laidLooks := .later }
def CoverTypedCardSaid : Prop := Claim7.holds Tryz.pinned (.plain (OpenSpec.ofChange coverTypedSpec)) coverTypedCard

/-- THE TIED CARD OF 'fuguelaw20.CoverChecks'. -/
def coverChecksCard : Claim7 := { stood := { row := coverChecksRow, standIns := [], harness := (true, "2035c5811dec4a5fcf1ef2205f25c8ce6cd4a13b730b3d33ee1b971ebbe50de3"), looks := true }, kinds := [], alts := [], laidByText := true, laidKinds := [.data, .data, .data], laidTests := true, laidLooks := .later }
def CoverChecksCardSaid : Prop := Claim7.holds Tryz.pinned (.plain (OpenSpec.ofChange coverChecksSpec)) coverChecksCard

/-- THE SECOND FORM's CARD OF 'fuguelaw20.CoverTyped'. -/
def coverTypedUptoCard : Claim7 := { stood := { row := coverTypedUptoRow, standIns := [], harness := (true, "2035c5811dec4a5fcf1ef2205f25c8ce6cd4a13b730b3d33ee1b971ebbe50de3"), looks := true }, kinds := [], alts := [], laidByText := true, laidKinds := [.data, .data, .data], laidTests := true, laidLooks := .later }
def CoverTypedUptoCardSaid : Prop := Claim7.holds Tryz.pinned (.plain (OpenSpec.upto coverTypedSpec)) coverTypedUptoCard

/-- THE SECOND FORM's CARD OF 'fuguelaw20.CoverChecks'. -/
def coverChecksUptoCard : Claim7 := { stood := { row := coverChecksUptoRow, standIns := [], harness := (true, "2035c5811dec4a5fcf1ef2205f25c8ce6cd4a13b730b3d33ee1b971ebbe50de3"), looks := true }, kinds := [], alts := [], laidByText := true, laidKinds := [.data, .data, .data], laidTests := true, laidLooks := .later }
def CoverChecksUptoCardSaid : Prop := Claim7.holds Tryz.pinned (.plain (OpenSpec.upto coverChecksSpec)) coverChecksUptoCard
end Rows
end Go.Proofs.YtebmimnglcdogaaGreatDoor
