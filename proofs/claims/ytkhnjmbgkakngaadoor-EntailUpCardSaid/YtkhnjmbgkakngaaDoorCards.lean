/-
  DERIVED. GIVEN WITH THE SEED: THE CARDS: each row of YtkhnjmbgkakngaaDoorRows.lean that lists a variable, with what it lists TIED to the program's text (the seventh form; the later family's looks); each row that meets fmt, with fmt's text TOLD by the authors' own Lean function (tested against real Go, not proved from fmt's source: count such statements apart). THE CARD IS WHAT COUNTS. Prove the row's statement (the work); the ties are given (YtkhnjmbgkakngaaDoorTie.lean); close each card by the builder's one call (the guide's Derived/Test/ToyasCard.lean, 'card_holds'). Laid BY PROGRAM, IN A SANDBOX (cutbox-door.mjs). By AI agents, Wed Nov 11 2026. No macro, syntax, notation, axiom, sorry.
-/
import Derived.Test.YtkhnjmbgkakngaaDoorRows
import GoSem.ClaimSeven
namespace Go.Proofs.YtkhnjmbgkakngaaDoor
namespace Rows

/-- THE TIED CARD OF 'fuguelaw12.EntailCut'. -/
def entailCutCard : Claim7 := { stood := { row := entailCutRow, standIns := [], harness := (true, "95c909563ea2a5b91fc1a68f36081a8528629b80d8f57dc5a15827a8db97ece6"), looks := false }, kinds := [], alts := [], laidByText := true, laidKinds := [.data, .data, .data], laidTests := true, laidLooks := .later }
def EntailCutCardSaid : Prop := Claim7.holds Tryd.pinned (.plain (OpenSpec.ofChange entailCutSpec)) entailCutCard

/-- THE TIED CARD OF 'fuguelaw12.EntailGrows'. -/
def entailGrowsCard : Claim7 := { stood := { row := entailGrowsRow, standIns := [], harness := (true, "95c909563ea2a5b91fc1a68f36081a8528629b80d8f57dc5a15827a8db97ece6"), looks := false }, kinds := [], alts := [], laidByText := true, laidKinds := [.data, .data, .data], laidTests := true, laidLooks := .later }
def EntailGrowsCardSaid : Prop := Claim7.holds Tryd.pinned (.plain (OpenSpec.ofChange entailGrowsSpec)) entailGrowsCard

/-- THE TIED CARD OF 'fuguelaw12.EntailOnce'. -/
def entailOnceCard : Claim7 := { stood := { row := entailOnceRow, standIns := [], harness := (true, "95c909563ea2a5b91fc1a68f36081a8528629b80d8f57dc5a15827a8db97ece6"), looks := false }, kinds := [], alts := [], laidByText := true, laidKinds := [.data, .data, .data], laidTests := true, laidLooks := .later }
def EntailOnceCardSaid : Prop := Claim7.holds Tryd.pinned (.plain (OpenSpec.ofChange entailOnceSpec)) entailOnceCard

/-- THE TIED CARD OF 'fuguelaw12.EntailUp'. -/
def entailUpCard : Claim7 := { stood := { row := entailUpRow, standIns := [], harness := (true, "95c909563ea2a5b91fc1a68f36081a8528629b80d8f57dc5a15827a8db97ece6"), looks := false }, kinds := [], alts := [], laidByText := true, laidKinds := [.data, .data, .data], laidTests := true, laidLooks := .later }
def EntailUpCardSaid : Prop := Claim7.holds Tryd.pinned (.plain (OpenSpec.ofChange entailUpSpec)) entailUpCard

/-- THE SECOND FORM's CARD OF 'fuguelaw12.EntailCut'. -/
def entailCutUptoCard : Claim7 := { stood := { row := entailCutUptoRow, standIns := [], harness := (true, "95c909563ea2a5b91fc1a68f36081a8528629b80d8f57dc5a15827a8db97ece6"), looks := false }, kinds := [], alts := [], laidByText := true, laidKinds := [.data, .data, .data], laidTests := true, laidLooks := .later }
def EntailCutUptoCardSaid : Prop := Claim7.holds Tryd.pinned (.plain (OpenSpec.upto entailCutSpec)) entailCutUptoCard

/-- THE SECOND FORM's CARD OF 'fuguelaw12.EntailGrows'. -/
def entailGrowsUptoCard : Claim7 := { stood := { row := entailGrowsUptoRow, standIns := [], harness := (true, "95c909563ea2a5b91fc1a68f36081a8528629b80d8f57dc5a15827a8db97ece6"), looks := false }, kinds := [], alts := [], laidByText := true, laidKinds := [.data, .data, .data], laidTests := true, laidLooks := .later }
def EntailGrowsUptoCardSaid : Prop := Claim7.holds Tryd.pinned (.plain (OpenSpec.upto entailGrowsSpec)) entailGrowsUptoCard

/-- THE SECOND FORM's CARD OF 'fuguelaw12.EntailOnce'. -/
def entailOnceUptoCard : Claim7 := { stood := { row := entailOnceUptoRow, standIns := [], harness := (true, "95c909563ea2a5b91fc1a68f36081a8528629b80d8f57dc5a15827a8db97ece6"), looks := false }, kinds := [], alts := [], laidByText := true, laidKinds := [.data, .data, .data], laidTests := true, laidLooks := .later }
def EntailOnceUptoCardSaid : Prop := Claim7.holds Tryd.pinned (.plain (OpenSpec.upto entailOnceSpec)) entailOnceUptoCard

/-- THE SECOND FORM's CARD OF 'fuguelaw12.EntailUp'. -/
def entailUpUptoCard : Claim7 := { stood := { row := entailUpUptoRow, standIns := [], harness := (true, "95c909563ea2a5b91fc1a68f36081a8528629b80d8f57dc5a15827a8db97ece6"), looks := false }, kinds := [], alts := [], laidByText := true, laidKinds := [.data, .data, .data], laidTests := true, laidLooks := .later }
def EntailUpUptoCardSaid : Prop := Claim7.holds Tryd.pinned (.plain (OpenSpec.upto entailUpSpec)) entailUpUptoCard
end Rows
end Go.Proofs.YtkhnjmbgkakngaaDoor
