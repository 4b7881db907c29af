/-
  DERIVED. GIVEN WITH THE SEED: THE CARDS: each row of YtdmbahepaglcbaaGreatDoorRows.lean that lists a variable, with what it lists TIED to the program's text (the seventh form; the later family's looks); each row that meets fmt, with fmt's text TOLD by the authors' own Lean function (tested against real Go, not proved from fmt's source: count such statements apart). THE CARD IS WHAT COUNTS. Prove the row's statement (the work); the ties are given (YtdmbahepaglcbaaGreatDoorTie.lean); close each card by the builder's one call (the guide's Derived/Test/ToyasCard.lean, 'card_holds'). Laid BY PROGRAM, IN A SANDBOX (cutbox-door.mjs). By AI agents, Wed Nov 11 2026. No macro, syntax, notation, axiom, sorry.
-/
import Derived.Test.YtdmbahepaglcbaaGreatDoorRows
import GoSem.ClaimSeven
namespace Go.Proofs.YtdmbahepaglcbaaGreatDoor
namespace Rows

/-- THE TIED CARD OF 'fuguelaw19.CheckNames'. -/
def checkNamesCard : Claim7 := { stood := { row := checkNamesRow, standIns := [], harness := (true, "a5d0c87049a7449cea9f5b10b787f70ee305d7d85cdad5290a571a4e196525a5"), looks := true }, kinds := [], alts := [], laidByText := true, laidKinds := [.data, .data, .data], laidTests := true, laidLooks := .later }
def CheckNamesCardSaid : Prop := Claim7.holds Tryz.pinned (.plain (OpenSpec.ofChange checkNamesSpec)) checkNamesCard

/-- THE TIED CARD OF 'fuguelaw19.CheckLet'. -/
def checkLetCard : Claim7 := { stood := { row := checkLetRow, standIns := [], harness := (true, "a5d0c87049a7449cea9f5b10b787f70ee305d7d85cdad5290a571a4e196525a5"), looks := true }, kinds := [], alts := [], laidByText := true, laidKinds := [.data, .data, .data], laidTests := true, laidLooks := .later }
def CheckLetCardSaid : Prop := Claim7.holds Tryz.pinned (.plain (OpenSpec.ofChange checkLetSpec)) checkLetCard

/-- THE TIED CARD OF 'fuguelaw19.CheckGives'. -/
def checkGivesCard : Claim7 := { stood := { row := checkGivesRow, standIns := [], harness := (true, "a5d0c87049a7449cea9f5b10b787f70ee305d7d85cdad5290a571a4e196525a5"), looks := true }, kinds := [], alts := [], laidByText := true, laidKinds := [.data, .data, .data], laidTests := true, laidLooks := .later }
def CheckGivesCardSaid : Prop := Claim7.holds Tryz.pinned (.plain (OpenSpec.ofChange checkGivesSpec)) checkGivesCard

/-- THE TIED CARD OF 'fuguelaw19.CheckParts'. -/
def checkPartsCard : Claim7 := { stood := { row := checkPartsRow, standIns := [], harness := (true, "a5d0c87049a7449cea9f5b10b787f70ee305d7d85cdad5290a571a4e196525a5"), looks := true }, kinds := [], alts := [], laidByText := true, laidKinds := [.data, .data, .data], laidTests := true, laidLooks := .later }
def CheckPartsCardSaid : Prop := Claim7.holds Tryz.pinned (.plain (OpenSpec.ofChange checkPartsSpec)) checkPartsCard

/-- THE TIED CARD OF 'fuguelaw19.CheckBinds'. -/
def checkBindsCard : Claim7 := { stood := { row := checkBindsRow, standIns := [], harness := (true, "a5d0c87049a7449cea9f5b10b787f70ee305d7d85cdad5290a571a4e196525a5"), looks := true }, kinds := [], alts := [], laidByText := true, laidKinds := [.data, .data, .data], laidTests := true, laidLooks := .later }
def CheckBindsCardSaid : Prop := Claim7.holds Tryz.pinned (.plain (OpenSpec.ofChange checkBindsSpec)) checkBindsCard

/-- THE TIED CARD OF 'fuguelaw19.CheckCases'. -/
def checkCasesCard : Claim7 := { stood := { row := checkCasesRow, standIns := [], harness := (true, "a5d0c87049a7449cea9f5b10b787f70ee305d7d85cdad5290a571a4e196525a5"), looks := true }, kinds := [], alts := [], laidByText := true, laidKinds := [.data, .data, .data], laidTests := true, laidLooks := .later }
def CheckCasesCardSaid : Prop := Claim7.holds Tryz.pinned (.plain (OpenSpec.ofChange checkCasesSpec)) checkCasesCard

/-- THE SECOND FORM's CARD OF 'fuguelaw19.CheckNames'. -/
def checkNamesUptoCard : Claim7 := { stood := { row := checkNamesUptoRow, standIns := [], harness := (true, "a5d0c87049a7449cea9f5b10b787f70ee305d7d85cdad5290a571a4e196525a5"), looks := true }, kinds := [], alts := [], laidByText := true, laidKinds := [.data, .data, .data], laidTests := true, laidLooks := .later }
def CheckNamesUptoCardSaid : Prop := Claim7.holds Tryz.pinned (.plain (OpenSpec.upto checkNamesSpec)) checkNamesUptoCard

/-- THE SECOND FORM's CARD OF 'fuguelaw19.CheckLet'. -/
def checkLetUptoCard : Claim7 := { stood := { row := checkLetUptoRow, standIns := [], harness := (true, "a5d0c87049a7449cea9f5b10b787f70ee305d7d85cdad5290a571a4e196525a5"), looks := true }, kinds := [], alts := [], laidByText := true, laidKinds := [.data, .data, .data], laidTests := true, laidLooks := .later }
def CheckLetUptoCardSaid : Prop := Claim7.holds Tryz.pinned (.plain (OpenSpec.upto checkLetSpec)) checkLetUptoCard

/-- THE SECOND FORM's CARD OF 'fuguelaw19.CheckGives'. -/
def checkGivesUptoCard : Claim7 := { stood := { row := checkGivesUptoRow, standIns := [], harness := (true, "a5d0c87049a7449cea9f5b10b787f70ee305d7d85cdad5290a571a4e196525a5"), looks := true }, kinds := [], alts := [], laidByText := true, laidKinds := [.data, .data, .data], laidTests := true, laidLooks := .later }
def CheckGivesUptoCardSaid : Prop := Claim7.holds Tryz.pinned (.plain (OpenSpec.upto checkGivesSpec)) checkGivesUptoCard

/-- THE SECOND FORM's CARD OF 'fuguelaw19.CheckParts'. -/
def checkPartsUptoCard : Claim7 := { stood := { row := checkPartsUptoRow, standIns := [], harness := (true, "a5d0c87049a7449cea9f5b10b787f70ee305d7d85cdad5290a571a4e196525a5"), looks := true }, kinds := [], alts := [], laidByText := true, laidKinds := [.data, .data, .data], laidTests := true, laidLooks := .later }
def CheckPartsUptoCardSaid : Prop := Claim7.holds Tryz.pinned (.plain (OpenSpec.upto checkPartsSpec)) checkPartsUptoCard

/-- THE SECOND FORM's CARD OF 'fuguelaw19.CheckBinds'. -/
def checkBindsUptoCard : Claim7 := { stood := { row := checkBindsUptoRow, standIns := [], harness := (true, "a5d0c87049a7449cea9f5b10b787f70ee305d7d85cdad5290a571a4e196525a5"), looks := true }, kinds := [], alts := [], laidByText := true, laidKinds := [.data, .data, .data], laidTests := true, laidLooks := .later }
def CheckBindsUptoCardSaid : Prop := Claim7.holds Tryz.pinned (.plain (OpenSpec.upto checkBindsSpec)) checkBindsUptoCard

/-- THE SECOND FORM's CARD OF 'fuguelaw19.CheckCases'. -/
def checkCasesUptoCard : Claim7 := { stood := { row := checkCasesUptoRow, standIns := [], harness := (true, "a5d0c87049a7449cea9f5b10b787f70ee305d7d85cdad5290a571a4e196525a5"), looks := true }, kinds := [], alts := [], laidByText := true, laidKinds := [.data, .data, .data], laidTests := true, laidLooks := .later }
def CheckCasesUptoCardSaid : Prop := Claim7.holds Tryz.pinned (.plain (OpenSpec.upto checkCasesSpec)) checkCasesUptoCard
end Rows
end Go.Proofs.YtdmbahepaglcbaaGreatDoor
