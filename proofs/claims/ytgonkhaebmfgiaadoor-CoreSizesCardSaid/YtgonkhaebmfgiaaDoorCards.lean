/-
  DERIVED. GIVEN WITH THE SEED: THE CARDS: each row of YtgonkhaebmfgiaaDoorRows.lean that lists a variable, with what it lists TIED to the program's text (the seventh form; the later family's looks); each row that meets fmt, with fmt's text TOLD by the authors' own Lean function (tested against real Go, not proved from fmt's source: count such statements apart). THE CARD IS WHAT COUNTS. Prove the row's statement (the work); the ties are given (YtgonkhaebmfgiaaDoorTie.lean); close each card by the builder's one call (the guide's Derived/Test/ToyasCard.lean, 'card_holds'). Laid BY PROGRAM, IN A SANDBOX (cutbox-door.mjs). By AI agents, Wed Nov 11 2026. No macro, syntax, notation, axiom, sorry.
-/
import Derived.Test.YtgonkhaebmfgiaaDoorRows
import GoSem.ClaimSeven
namespace Go.Proofs.YtgonkhaebmfgiaaDoor
namespace Rows

/-- THE TIED CARD OF 'fuguelaw18.CoreSizes'. -/
def coreSizesCard : Claim7 := { stood := { row := coreSizesRow, standIns := [], harness := (true, "22ac021fc9398afdddad056f7035ee313e7bfee3da9120ba7d0c9e1dbf4f68c8"), looks := false }, kinds := [], alts := [], laidByText := true, laidKinds := [.data, .data, .data], laidTests := true, laidLooks := .later }
def CoreSizesCardSaid : Prop := Claim7.holds Tryd.pinned (.plain (OpenSpec.ofChange coreSizesSpec)) coreSizesCard

/-- THE SECOND FORM's CARD OF 'fuguelaw18.CoreSizes'. -/
def coreSizesUptoCard : Claim7 := { stood := { row := coreSizesUptoRow, standIns := [], harness := (true, "22ac021fc9398afdddad056f7035ee313e7bfee3da9120ba7d0c9e1dbf4f68c8"), looks := false }, kinds := [], alts := [], laidByText := true, laidKinds := [.data, .data, .data], laidTests := true, laidLooks := .later }
def CoreSizesUptoCardSaid : Prop := Claim7.holds Tryd.pinned (.plain (OpenSpec.upto coreSizesSpec)) coreSizesUptoCard
end Rows
end Go.Proofs.YtgonkhaebmfgiaaDoor
