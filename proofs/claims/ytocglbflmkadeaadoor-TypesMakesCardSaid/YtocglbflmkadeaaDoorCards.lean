/-
  DERIVED. GIVEN WITH THE SEED: THE CARDS: each row of YtocglbflmkadeaaDoorRows.lean that lists a variable, with what it lists TIED to the program's text (the seventh form; the later family's looks); each row that meets fmt, with fmt's text TOLD by the authors' own Lean function (tested against real Go, not proved from fmt's source: count such statements apart). THE CARD IS WHAT COUNTS. Prove the row's statement (the work); the ties are given (YtocglbflmkadeaaDoorTie.lean); close each card by the builder's one call (the guide's Derived/Test/ToyasCard.lean, 'card_holds'). Laid BY PROGRAM, IN A SANDBOX (cutbox-door.mjs). By AI agents, Wed Nov 11 2026. No macro, syntax, notation, axiom, sorry.
-/
import Derived.Test.YtocglbflmkadeaaDoorRows
import GoSem.ClaimSeven
namespace Go.Proofs.YtocglbflmkadeaaDoor
namespace Rows

/-- THE TIED CARD OF 'fuguelaw04.TypesSplits'. -/
def typesSplitsCard : Claim7 := { stood := { row := typesSplitsRow, standIns := [], harness := (true, "87bb2929aaad084a5f0a146add09ddf853b2c3a2ffb9dea7f40305872c1d86d7"), looks := false }, kinds := [], alts := [], laidByText := true, laidKinds := [.data, .data, .data], laidTests := true, laidLooks := .later }
def TypesSplitsCardSaid : Prop := Claim7.holds Tryd.pinned (.plain (OpenSpec.ofChange typesSplitsSpec)) typesSplitsCard

/-- THE TIED CARD OF 'fuguelaw04.TypesMakes'. -/
def typesMakesCard : Claim7 := { stood := { row := typesMakesRow, standIns := [], harness := (true, "87bb2929aaad084a5f0a146add09ddf853b2c3a2ffb9dea7f40305872c1d86d7"), looks := false }, kinds := [], alts := [], laidByText := true, laidKinds := [.data, .data, .data], laidTests := true, laidLooks := .later }
def TypesMakesCardSaid : Prop := Claim7.holds Tryd.pinned (.plain (OpenSpec.ofChange typesMakesSpec)) typesMakesCard

/-- THE TIED CARD OF 'fuguelaw04.TypesPrints'. -/
def typesPrintsCard : Claim7 := { stood := { row := typesPrintsRow, standIns := [], harness := (true, "87bb2929aaad084a5f0a146add09ddf853b2c3a2ffb9dea7f40305872c1d86d7"), looks := false }, kinds := [], alts := [], laidByText := true, laidKinds := [.data, .data, .data], laidTests := true, laidLooks := .later }
def TypesPrintsCardSaid : Prop := Claim7.holds Tryd.pinned (.plain (OpenSpec.ofChange typesPrintsSpec)) typesPrintsCard

/-- THE TIED CARD OF 'fuguelaw04.TypesSame'. -/
def typesSameCard : Claim7 := { stood := { row := typesSameRow, standIns := [], harness := (true, "87bb2929aaad084a5f0a146add09ddf853b2c3a2ffb9dea7f40305872c1d86d7"), looks := false }, kinds := [], alts := [], laidByText := true, laidKinds := [.data, .data, .data], laidTests := true, laidLooks := .later }
def TypesSameCardSaid : Prop := Claim7.holds Tryd.pinned (.plain (OpenSpec.ofChange typesSameSpec)) typesSameCard

/-- THE TIED CARD OF 'fuguelaw04.TypesCounts'. -/
def typesCountsCard : Claim7 := { stood := { row := typesCountsRow, standIns := [], harness := (true, "87bb2929aaad084a5f0a146add09ddf853b2c3a2ffb9dea7f40305872c1d86d7"), looks := false }, kinds := [], alts := [], laidByText := true, laidKinds := [.data, .data, .data], laidTests := true, laidLooks := .later }
def TypesCountsCardSaid : Prop := Claim7.holds Tryd.pinned (.plain (OpenSpec.ofChange typesCountsSpec)) typesCountsCard

/-- THE TIED CARD OF 'fuguelaw04.TypesPuts'. -/
def typesPutsCard : Claim7 := { stood := { row := typesPutsRow, standIns := [], harness := (true, "87bb2929aaad084a5f0a146add09ddf853b2c3a2ffb9dea7f40305872c1d86d7"), looks := false }, kinds := [], alts := [], laidByText := true, laidKinds := [.data, .data, .data], laidTests := true, laidLooks := .later }
def TypesPutsCardSaid : Prop := Claim7.holds Tryd.pinned (.plain (OpenSpec.ofChange typesPutsSpec)) typesPutsCard

/-- THE TIED CARD OF 'fuguelaw04.TypesCatches'. -/
def typesCatchesCard : Claim7 := { stood := { row := typesCatchesRow, standIns := [], harness := (true, "87bb2929aaad084a5f0a146add09ddf853b2c3a2ffb9dea7f40305872c1d86d7"), looks := false }, kinds := [], alts := [], laidByText := true, laidKinds := [.data, .data, .data], laidTests := true, laidLooks := .later }
def TypesCatchesCardSaid : Prop := Claim7.holds Tryd.pinned (.plain (OpenSpec.ofChange typesCatchesSpec)) typesCatchesCard

/-- THE TIED CARD OF 'fuguelaw04.TypesComposes'. -/
def typesComposesCard : Claim7 := { stood := { row := typesComposesRow, standIns := [], harness := (true, "87bb2929aaad084a5f0a146add09ddf853b2c3a2ffb9dea7f40305872c1d86d7"), looks := false }, kinds := [], alts := [], laidByText := true, laidKinds := [.data, .data, .data], laidTests := true, laidLooks := .later }
def TypesComposesCardSaid : Prop := Claim7.holds Tryd.pinned (.plain (OpenSpec.ofChange typesComposesSpec)) typesComposesCard

/-- THE SECOND FORM's CARD OF 'fuguelaw04.TypesSplits'. -/
def typesSplitsUptoCard : Claim7 := { stood := { row := typesSplitsUptoRow, standIns := [], harness := (true, "87bb2929aaad084a5f0a146add09ddf853b2c3a2ffb9dea7f40305872c1d86d7"), looks := false }, kinds := [], alts := [], laidByText := true, laidKinds := [.data, .data, .data], laidTests := true, laidLooks := .later }
def TypesSplitsUptoCardSaid : Prop := Claim7.holds Tryd.pinned (.plain (OpenSpec.upto typesSplitsSpec)) typesSplitsUptoCard

/-- THE SECOND FORM's CARD OF 'fuguelaw04.TypesMakes'. -/
def typesMakesUptoCard : Claim7 := { stood := { row := typesMakesUptoRow, standIns := [], harness := (true, "87bb2929aaad084a5f0a146add09ddf853b2c3a2ffb9dea7f40305872c1d86d7"), looks := false }, kinds := [], alts := [], laidByText := true, laidKinds := [.data, .data, .data], laidTests := true, laidLooks := .later }
def TypesMakesUptoCardSaid : Prop := Claim7.holds Tryd.pinned (.plain (OpenSpec.upto typesMakesSpec)) typesMakesUptoCard

/-- THE SECOND FORM's CARD OF 'fuguelaw04.TypesPrints'. -/
def typesPrintsUptoCard : Claim7 := { stood := { row := typesPrintsUptoRow, standIns := [], harness := (true, "87bb2929aaad084a5f0a146add09ddf853b2c3a2ffb9dea7f40305872c1d86d7"), looks := false }, kinds := [], alts := [], laidByText := true, laidKinds := [.data, .data, .data], laidTests := true, laidLooks := .later }
def TypesPrintsUptoCardSaid : Prop := Claim7.holds Tryd.pinned (.plain (OpenSpec.upto typesPrintsSpec)) typesPrintsUptoCard

/-- THE SECOND FORM's CARD OF 'fuguelaw04.TypesSame'. -/
def typesSameUptoCard : Claim7 := { stood := { row := typesSameUptoRow, standIns := [], harness := (true, "87bb2929aaad084a5f0a146add09ddf853b2c3a2ffb9dea7f40305872c1d86d7"), looks := false }, kinds := [], alts := [], laidByText := true, laidKinds := [.data, .data, .data], laidTests := true, laidLooks := .later }
def TypesSameUptoCardSaid : Prop := Claim7.holds Tryd.pinned (.plain (OpenSpec.upto typesSameSpec)) typesSameUptoCard

/-- THE SECOND FORM's CARD OF 'fuguelaw04.TypesCounts'. -/
def typesCountsUptoCard : Claim7 := { stood := { row := typesCountsUptoRow, standIns := [], harness := (true, "87bb2929aaad084a5f0a146add09ddf853b2c3a2ffb9dea7f40305872c1d86d7"), looks := false }, kinds := [], alts := [], laidByText := true, laidKinds := [.data, .data, .data], laidTests := true, laidLooks := .later }
def TypesCountsUptoCardSaid : Prop := Claim7.holds Tryd.pinned (.plain (OpenSpec.upto typesCountsSpec)) typesCountsUptoCard

/-- THE SECOND FORM's CARD OF 'fuguelaw04.TypesPuts'. -/
def typesPutsUptoCard : Claim7 := { stood := { row := typesPutsUptoRow, standIns := [], harness := (true, "87bb2929aaad084a5f0a146add09ddf853b2c3a2ffb9dea7f40305872c1d86d7"), looks := false }, kinds := [], alts := [], laidByText := true, laidKinds := [.data, .data, .data], laidTests := true, laidLooks := .later }
def TypesPutsUptoCardSaid : Prop := Claim7.holds Tryd.pinned (.plain (OpenSpec.upto typesPutsSpec)) typesPutsUptoCard

/-- THE SECOND FORM's CARD OF 'fuguelaw04.TypesCatches'. -/
def typesCatchesUptoCard : Claim7 := { stood := { row := typesCatchesUptoRow, standIns := [], harness := (true, "87bb2929aaad084a5f0a146add09ddf853b2c3a2ffb9dea7f40305872c1d86d7"), looks := false }, kinds := [], alts := [], laidByText := true, laidKinds := [.data, .data, .data], laidTests := true, laidLooks := .later }
def TypesCatchesUptoCardSaid : Prop := Claim7.holds Tryd.pinned (.plain (OpenSpec.upto typesCatchesSpec)) typesCatchesUptoCard

/-- THE SECOND FORM's CARD OF 'fuguelaw04.TypesComposes'. -/
def typesComposesUptoCard : Claim7 := { stood := { row := typesComposesUptoRow, standIns := [], harness := (true, "87bb2929aaad084a5f0a146add09ddf853b2c3a2ffb9dea7f40305872c1d86d7"), looks := false }, kinds := [], alts := [], laidByText := true, laidKinds := [.data, .data, .data], laidTests := true, laidLooks := .later }
def TypesComposesUptoCardSaid : Prop := Claim7.holds Tryd.pinned (.plain (OpenSpec.upto typesComposesSpec)) typesComposesUptoCard
end Rows
end Go.Proofs.YtocglbflmkadeaaDoor
