/-
  DERIVED. GIVEN WITH THE SEED: THE CARDS: each row of YtefdahofpjmnfaaDoorRows.lean that lists a variable, with what it lists TIED to the program's text (the seventh form; the later family's looks); each row that meets fmt, with fmt's text TOLD by the authors' own Lean function (tested against real Go, not proved from fmt's source: count such statements apart). THE CARD IS WHAT COUNTS. Prove the row's statement (the work); the ties are given (YtefdahofpjmnfaaDoorTie.lean); close each card by the builder's one call (the guide's Derived/Test/ToyasCard.lean, 'card_holds'). Laid BY PROGRAM, IN A SANDBOX (cutbox-door.mjs). By AI agents, Wed Nov 11 2026. No macro, syntax, notation, axiom, sorry.
-/
import Derived.Test.YtefdahofpjmnfaaDoorRows
import GoSem.ClaimSeven
namespace Go.Proofs.YtefdahofpjmnfaaDoor
namespace Rows

/-- THE TIED CARD OF 'fuguelaw20.CoverCompiles'. -/
def coverCompilesCard : Claim7 := { stood := { row := coverCompilesRow, standIns := [], harness := (true, "f88b172d83b4a36919ef057b308ceb198e54b90bcd923aab061b128f37efdb4e"), looks := false }, kinds := [], alts := [], laidByText := true, laidKinds := [.data, .data, .data], laidTests := true, laidLooks := .later }
def CoverCompilesCardSaid : Prop := Claim7.holds Tryd.pinned (.plain (OpenSpec.ofChange coverCompilesSpec)) coverCompilesCard

/-- THE TIED CARD OF 'fuguelaw20.CoverRuns'. -/
def coverRunsCard : Claim7 := { stood := { row := coverRunsRow, standIns := [], harness := (true, "f88b172d83b4a36919ef057b308ceb198e54b90bcd923aab061b128f37efdb4e"), looks := false }, kinds := [], alts := [], laidByText := true, laidKinds := [.data, .data, .data], laidTests := true, laidLooks := .later }
def CoverRunsCardSaid : Prop := Claim7.holds Tryd.pinned (.plain (OpenSpec.ofChange coverRunsSpec)) coverRunsCard

/-- THE TIED CARD OF 'fuguelaw20.CoverThin'. -/
def coverThinCard : Claim7 := { stood := { row := coverThinRow, standIns := [], harness := (true, "f88b172d83b4a36919ef057b308ceb198e54b90bcd923aab061b128f37efdb4e"), looks := false }, kinds := [], alts := [], laidByText := true, laidKinds := [.data, .data, .data], laidTests := true, laidLooks := .later }
def CoverThinCardSaid : Prop := Claim7.holds Tryd.pinned (.plain (OpenSpec.ofChange coverThinSpec)) coverThinCard

/-- THE SECOND FORM's CARD OF 'fuguelaw20.CoverCompiles'. -/
def coverCompilesUptoCard : Claim7 := { stood := { row := coverCompilesUptoRow, standIns := [], harness := (true, "f88b172d83b4a36919ef057b308ceb198e54b90bcd923aab061b128f37efdb4e"), looks := false }, kinds := [], alts := [], laidByText := true, laidKinds := [.data, .data, .data], laidTests := true, laidLooks := .later }
def CoverCompilesUptoCardSaid : Prop := Claim7.holds Tryd.pinned (.plain (OpenSpec.upto coverCompilesSpec)) coverCompilesUptoCard

/-- THE SECOND FORM's CARD OF 'fuguelaw20.CoverRuns'. -/
def coverRunsUptoCard : Claim7 := { stood := { row := coverRunsUptoRow, standIns := [], harness := (true, "f88b172d83b4a36919ef057b308ceb198e54b90bcd923aab061b128f37efdb4e"), looks := false }, kinds := [], alts := [], laidByText := true, laidKinds := [.data, .data, .data], laidTests := true, laidLooks := .later }
def CoverRunsUptoCardSaid : Prop := Claim7.holds Tryd.pinned (.plain (OpenSpec.upto coverRunsSpec)) coverRunsUptoCard

/-- THE SECOND FORM's CARD OF 'fuguelaw20.CoverThin'. -/
def coverThinUptoCard : Claim7 := { stood := { row := coverThinUptoRow, standIns := [], harness := (true, "f88b172d83b4a36919ef057b308ceb198e54b90bcd923aab061b128f37efdb4e"), looks := false }, kinds := [], alts := [], laidByText := true, laidKinds := [.data, .data, .data], laidTests := true, laidLooks := .later }
def CoverThinUptoCardSaid : Prop := Claim7.holds Tryd.pinned (.plain (OpenSpec.upto coverThinSpec)) coverThinUptoCard
end Rows
end Go.Proofs.YtefdahofpjmnfaaDoor
