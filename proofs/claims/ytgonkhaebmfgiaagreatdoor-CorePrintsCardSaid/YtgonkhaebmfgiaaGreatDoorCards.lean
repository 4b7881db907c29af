/-
  DERIVED. GIVEN WITH THE SEED: THE CARDS: each row of YtgonkhaebmfgiaaGreatDoorRows.lean that lists a variable, with what it lists TIED to the program's text (the seventh form; the later family's looks); each row that meets fmt, with fmt's text TOLD by the authors' own Lean function (tested against real Go, not proved from fmt's source: count such statements apart). THE CARD IS WHAT COUNTS. Prove the row's statement (the work); the ties are given (YtgonkhaebmfgiaaGreatDoorTie.lean); close each card by the builder's one call (the guide's Derived/Test/ToyasCard.lean, 'card_holds'). Laid BY PROGRAM, IN A SANDBOX (cutbox-door.mjs). By AI agents, Wed Nov 11 2026. No macro, syntax, notation, axiom, sorry.
-/
import Derived.Test.YtgonkhaebmfgiaaGreatDoorRows
import GoSem.ClaimSeven
namespace Go.Proofs.YtgonkhaebmfgiaaGreatDoor
namespace Rows

/-- THE TIED CARD OF 'fuguelaw18.CoreSubsts'. -/
def coreSubstsCard : Claim7 := { stood := { row := coreSubstsRow, standIns := [], harness := (true, "9dae6e8e3aa33e6925e771b2d9ada6a862b9dad12abc211cf8eeb8ca0e8cd361"), looks := false }, kinds := [], alts := [], laidByText := true, laidKinds := [.data, .data, .data], laidTests := true, laidLooks := .later }
def CoreSubstsCardSaid : Prop := Claim7.holds Tryz.pinned (.plain (OpenSpec.ofChange coreSubstsSpec)) coreSubstsCard

/-- THE TIED CARD OF 'fuguelaw18.CoreTypes'. -/
def coreTypesCard : Claim7 := { stood := { row := coreTypesRow, standIns := [], harness := (true, "9dae6e8e3aa33e6925e771b2d9ada6a862b9dad12abc211cf8eeb8ca0e8cd361"), looks := false }, kinds := [], alts := [], laidByText := true, laidKinds := [.data, .data, .data], laidTests := true, laidLooks := .later }
def CoreTypesCardSaid : Prop := Claim7.holds Tryz.pinned (.plain (OpenSpec.ofChange coreTypesSpec)) coreTypesCard

/-- THE TIED CARD OF 'fuguelaw18.CorePrints'. -/
def corePrintsCard : Claim7 := { stood := { row := corePrintsRow, standIns := [], harness := (true, "9dae6e8e3aa33e6925e771b2d9ada6a862b9dad12abc211cf8eeb8ca0e8cd361"), looks := false }, kinds := [], alts := [], laidByText := true, laidKinds := [.data, .data, .data], laidTests := true, laidLooks := .later }
def CorePrintsCardSaid : Prop := Claim7.holds Tryz.pinned (.plain (OpenSpec.ofChange corePrintsSpec)) corePrintsCard

/-- THE TIED CARD OF 'fuguelaw18.CoreMakes'. -/
def coreMakesCard : Claim7 := { stood := { row := coreMakesRow, standIns := [], harness := (true, "9dae6e8e3aa33e6925e771b2d9ada6a862b9dad12abc211cf8eeb8ca0e8cd361"), looks := false }, kinds := [], alts := [], laidByText := true, laidKinds := [.data, .data, .data], laidTests := true, laidLooks := .later }
def CoreMakesCardSaid : Prop := Claim7.holds Tryz.pinned (.plain (OpenSpec.ofChange coreMakesSpec)) coreMakesCard

/-- THE TIED CARD OF 'fuguelaw18.CoreTwice'. -/
def coreTwiceCard : Claim7 := { stood := { row := coreTwiceRow, standIns := [], harness := (true, "9dae6e8e3aa33e6925e771b2d9ada6a862b9dad12abc211cf8eeb8ca0e8cd361"), looks := false }, kinds := [], alts := [], laidByText := true, laidKinds := [.data, .data, .data], laidTests := true, laidLooks := .later }
def CoreTwiceCardSaid : Prop := Claim7.holds Tryz.pinned (.plain (OpenSpec.ofChange coreTwiceSpec)) coreTwiceCard

/-- THE TIED CARD OF 'fuguelaw18.CoreFar'. -/
def coreFarCard : Claim7 := { stood := { row := coreFarRow, standIns := [], harness := (true, "9dae6e8e3aa33e6925e771b2d9ada6a862b9dad12abc211cf8eeb8ca0e8cd361"), looks := false }, kinds := [], alts := [], laidByText := true, laidKinds := [.data, .data, .data], laidTests := true, laidLooks := .later }
def CoreFarCardSaid : Prop := Claim7.holds Tryz.pinned (.plain (OpenSpec.ofChange coreFarSpec)) coreFarCard

/-- THE TIED CARD OF 'fuguelaw18.CoreRenames'. -/
def coreRenamesCard : Claim7 := { stood := { row := coreRenamesRow, standIns := [], harness := (true, "9dae6e8e3aa33e6925e771b2d9ada6a862b9dad12abc211cf8eeb8ca0e8cd361"), looks := false }, kinds := [], alts := [], laidByText := true, laidKinds := [.data, .data, .data], laidTests := true, laidLooks := .later }
def CoreRenamesCardSaid : Prop := Claim7.holds Tryz.pinned (.plain (OpenSpec.ofChange coreRenamesSpec)) coreRenamesCard

/-- THE TIED CARD OF 'fuguelaw18.CoreFrees'. -/
def coreFreesCard : Claim7 := { stood := { row := coreFreesRow, standIns := [], harness := (true, "9dae6e8e3aa33e6925e771b2d9ada6a862b9dad12abc211cf8eeb8ca0e8cd361"), looks := false }, kinds := [], alts := [], laidByText := true, laidKinds := [.data, .data, .data], laidTests := true, laidLooks := .later }
def CoreFreesCardSaid : Prop := Claim7.holds Tryz.pinned (.plain (OpenSpec.ofChange coreFreesSpec)) coreFreesCard

/-- THE TIED CARD OF 'fuguelaw18.CoreCatches'. -/
def coreCatchesCard : Claim7 := { stood := { row := coreCatchesRow, standIns := [], harness := (true, "9dae6e8e3aa33e6925e771b2d9ada6a862b9dad12abc211cf8eeb8ca0e8cd361"), looks := false }, kinds := [], alts := [], laidByText := true, laidKinds := [.data, .data, .data], laidTests := true, laidLooks := .later }
def CoreCatchesCardSaid : Prop := Claim7.holds Tryz.pinned (.plain (OpenSpec.ofChange coreCatchesSpec)) coreCatchesCard

/-- THE TIED CARD OF 'fuguelaw18.CoreAlike'. -/
def coreAlikeCard : Claim7 := { stood := { row := coreAlikeRow, standIns := [], harness := (true, "9dae6e8e3aa33e6925e771b2d9ada6a862b9dad12abc211cf8eeb8ca0e8cd361"), looks := false }, kinds := [], alts := [], laidByText := true, laidKinds := [.data, .data, .data], laidTests := true, laidLooks := .later }
def CoreAlikeCardSaid : Prop := Claim7.holds Tryz.pinned (.plain (OpenSpec.ofChange coreAlikeSpec)) coreAlikeCard

/-- THE SECOND FORM's CARD OF 'fuguelaw18.CoreSubsts'. -/
def coreSubstsUptoCard : Claim7 := { stood := { row := coreSubstsUptoRow, standIns := [], harness := (true, "9dae6e8e3aa33e6925e771b2d9ada6a862b9dad12abc211cf8eeb8ca0e8cd361"), looks := false }, kinds := [], alts := [], laidByText := true, laidKinds := [.data, .data, .data], laidTests := true, laidLooks := .later }
def CoreSubstsUptoCardSaid : Prop := Claim7.holds Tryz.pinned (.plain (OpenSpec.upto coreSubstsSpec)) coreSubstsUptoCard

/-- THE SECOND FORM's CARD OF 'fuguelaw18.CoreTypes'. -/
def coreTypesUptoCard : Claim7 := { stood := { row := coreTypesUptoRow, standIns := [], harness := (true, "9dae6e8e3aa33e6925e771b2d9ada6a862b9dad12abc211cf8eeb8ca0e8cd361"), looks := false }, kinds := [], alts := [], laidByText := true, laidKinds := [.data, .data, .data], laidTests := true, laidLooks := .later }
def CoreTypesUptoCardSaid : Prop := Claim7.holds Tryz.pinned (.plain (OpenSpec.upto coreTypesSpec)) coreTypesUptoCard

/-- THE SECOND FORM's CARD OF 'fuguelaw18.CorePrints'. -/
def corePrintsUptoCard : Claim7 := { stood := { row := corePrintsUptoRow, standIns := [], harness := (true, "9dae6e8e3aa33e6925e771b2d9ada6a862b9dad12abc211cf8eeb8ca0e8cd361"), looks := false }, kinds := [], alts := [], laidByText := true, laidKinds := [.data, .data, .data], laidTests := true, laidLooks := .later }
def CorePrintsUptoCardSaid : Prop := Claim7.holds Tryz.pinned (.plain (OpenSpec.upto corePrintsSpec)) corePrintsUptoCard

/-- THE SECOND FORM's CARD OF 'fuguelaw18.CoreMakes'. -/
def coreMakesUptoCard : Claim7 := { stood := { row := coreMakesUptoRow, standIns := [], harness := (true, "9dae6e8e3aa33e6925e771b2d9ada6a862b9dad12abc211cf8eeb8ca0e8cd361"), looks := false }, kinds := [], alts := [], laidByText := true, laidKinds := [.data, .data, .data], laidTests := true, laidLooks := .later }
def CoreMakesUptoCardSaid : Prop := Claim7.holds Tryz.pinned (.plain (OpenSpec.upto coreMakesSpec)) coreMakesUptoCard

/-- THE SECOND FORM's CARD OF 'fuguelaw18.CoreTwice'. -/
def coreTwiceUptoCard : Claim7 := { stood := { row := coreTwiceUptoRow, standIns := [], harness := (true, "9dae6e8e3aa33e6925e771b2d9ada6a862b9dad12abc211cf8eeb8ca0e8cd361"), looks := false }, kinds := [], alts := [], laidByText := true, laidKinds := [.data, .data, .data], laidTests := true, laidLooks := .later }
def CoreTwiceUptoCardSaid : Prop := Claim7.holds Tryz.pinned (.plain (OpenSpec.upto coreTwiceSpec)) coreTwiceUptoCard

/-- THE SECOND FORM's CARD OF 'fuguelaw18.CoreFar'. -/
def coreFarUptoCard : Claim7 := { stood := { row := coreFarUptoRow, standIns := [], harness := (true, "9dae6e8e3aa33e6925e771b2d9ada6a862b9dad12abc211cf8eeb8ca0e8cd361"), looks := false }, kinds := [], alts := [], laidByText := true, laidKinds := [.data, .data, .data], laidTests := true, laidLooks := .later }
def CoreFarUptoCardSaid : Prop := Claim7.holds Tryz.pinned (.plain (OpenSpec.upto coreFarSpec)) coreFarUptoCard

/-- THE SECOND FORM's CARD OF 'fuguelaw18.CoreRenames'. -/
def coreRenamesUptoCard : Claim7 := { stood := { row := coreRenamesUptoRow, standIns := [], harness := (true, "9dae6e8e3aa33e6925e771b2d9ada6a862b9dad12abc211cf8eeb8ca0e8cd361"), looks := false }, kinds := [], alts := [], laidByText := true, laidKinds := [.data, .data, .data], laidTests := true, laidLooks := .later }
def CoreRenamesUptoCardSaid : Prop := Claim7.holds Tryz.pinned (.plain (OpenSpec.upto coreRenamesSpec)) coreRenamesUptoCard

/-- THE SECOND FORM's CARD OF 'fuguelaw18.CoreFrees'. -/
def coreFreesUptoCard : Claim7 := { stood := { row := coreFreesUptoRow, standIns := [], harness := (true, "9dae6e8e3aa33e6925e771b2d9ada6a862b9dad12abc211cf8eeb8ca0e8cd361"), looks := false }, kinds := [], alts := [], laidByText := true, laidKinds := [.data, .data, .data], laidTests := true, laidLooks := .later }
def CoreFreesUptoCardSaid : Prop := Claim7.holds Tryz.pinned (.plain (OpenSpec.upto coreFreesSpec)) coreFreesUptoCard

/-- THE SECOND FORM's CARD OF 'fuguelaw18.CoreCatches'. -/
def coreCatchesUptoCard : Claim7 := { stood := { row := coreCatchesUptoRow, standIns := [], harness := (true, "9dae6e8e3aa33e6925e771b2d9ada6a862b9dad12abc211cf8eeb8ca0e8cd361"), looks := false }, kinds := [], alts := [], laidByText := true, laidKinds := [.data, .data, .data], laidTests := true, laidLooks := .later }
def CoreCatchesUptoCardSaid : Prop := Claim7.holds Tryz.pinned (.plain (OpenSpec.upto coreCatchesSpec)) coreCatchesUptoCard

/-- THE SECOND FORM's CARD OF 'fuguelaw18.CoreAlike'. -/
def coreAlikeUptoCard : Claim7 := { stood := { row := coreAlikeUptoRow, standIns := [], harness := (true, "9dae6e8e3aa33e6925e771b2d9ada6a862b9dad12abc211cf8eeb8ca0e8cd361"), looks := false }, kinds := [], alts := [], laidByText := true, laidKinds := [.data, .data, .data], laidTests := true, laidLooks := .later }
def CoreAlikeUptoCardSaid : Prop := Claim7.holds Tryz.pinned (.plain (OpenSpec.upto coreAlikeSpec)) coreAlikeUptoCard
end Rows
end Go.Proofs.YtgonkhaebmfgiaaGreatDoor
