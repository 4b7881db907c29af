/-
  DERIVED. GIVEN WITH THE SEED: THE CARDS: each row of YtkhnjmbgkakngaaGreatDoorRows.lean that lists a variable, with what it lists TIED to the program's text (the seventh form; the later family's looks); each row that meets fmt, with fmt's text TOLD by the authors' own Lean function (tested against real Go, not proved from fmt's source: count such statements apart). THE CARD IS WHAT COUNTS. Prove the row's statement (the work); the ties are given (YtkhnjmbgkakngaaGreatDoorTie.lean); close each card by the builder's one call (the guide's Derived/Test/ToyasCard.lean, 'card_holds'). Laid BY PROGRAM, IN A SANDBOX (cutbox-door.mjs). By AI agents, Wed Nov 11 2026. No macro, syntax, notation, axiom, sorry.
-/
import Derived.Test.YtkhnjmbgkakngaaGreatDoorRows
import GoSem.ClaimSeven
namespace Go.Proofs.YtkhnjmbgkakngaaGreatDoor
namespace Rows

/-- THE TIED CARD OF 'fuguelaw12.EntailTells'. -/
def entailTellsCard : Claim7 := { stood := { row := entailTellsRow, standIns := [], harness := (true, "5defd48fb1a4665e8763c6ee9dfa0b6660adb16966e3483c9d84ab8254a34ea2"), looks := false }, kinds := [], alts := [], laidByText := true, laidKinds := [.data, .data, .data], laidTests := true, laidLooks := .later }
def EntailTellsCardSaid : Prop := Claim7.holds Tryz.pinned (.plain (OpenSpec.ofChange entailTellsSpec)) entailTellsCard

/-- THE TIED CARD OF 'fuguelaw12.EntailHeads'. -/
def entailHeadsCard : Claim7 := { stood := { row := entailHeadsRow, standIns := [], harness := (true, "5defd48fb1a4665e8763c6ee9dfa0b6660adb16966e3483c9d84ab8254a34ea2"), looks := false }, kinds := [], alts := [], laidByText := true, laidKinds := [.data, .data, .data], laidTests := true, laidLooks := .later }
def EntailHeadsCardSaid : Prop := Claim7.holds Tryz.pinned (.plain (OpenSpec.ofChange entailHeadsSpec)) entailHeadsCard

/-- THE SECOND FORM's CARD OF 'fuguelaw12.EntailTells'. -/
def entailTellsUptoCard : Claim7 := { stood := { row := entailTellsUptoRow, standIns := [], harness := (true, "5defd48fb1a4665e8763c6ee9dfa0b6660adb16966e3483c9d84ab8254a34ea2"), looks := false }, kinds := [], alts := [], laidByText := true, laidKinds := [.data, .data, .data], laidTests := true, laidLooks := .later }
def EntailTellsUptoCardSaid : Prop := Claim7.holds Tryz.pinned (.plain (OpenSpec.upto entailTellsSpec)) entailTellsUptoCard

/-- THE SECOND FORM's CARD OF 'fuguelaw12.EntailHeads'. -/
def entailHeadsUptoCard : Claim7 := { stood := { row := entailHeadsUptoRow, standIns := [], harness := (true, "5defd48fb1a4665e8763c6ee9dfa0b6660adb16966e3483c9d84ab8254a34ea2"), looks := false }, kinds := [], alts := [], laidByText := true, laidKinds := [.data, .data, .data], laidTests := true, laidLooks := .later }
def EntailHeadsUptoCardSaid : Prop := Claim7.holds Tryz.pinned (.plain (OpenSpec.upto entailHeadsSpec)) entailHeadsUptoCard
end Rows
end Go.Proofs.YtkhnjmbgkakngaaGreatDoor
