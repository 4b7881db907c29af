/-
  DERIVED. GIVEN WITH THE SEED: THE CARDS: each row of YtigifkjcghkiiaaDoorRows.lean that lists a variable, with what it lists TIED to the program's text (the seventh form; the later family's looks); each row that meets fmt, with fmt's text TOLD by the authors' own Lean function (tested against real Go, not proved from fmt's source: count such statements apart). THE CARD IS WHAT COUNTS. Prove the row's statement (the work); the ties are given (YtigifkjcghkiiaaDoorTie.lean); close each card by the builder's one call (the guide's Derived/Test/ToyasCard.lean, 'card_holds'). Laid BY PROGRAM, IN A SANDBOX (cutbox-door.mjs). By AI agents, Wed Nov 11 2026. No macro, syntax, notation, axiom, sorry.
-/
import Derived.Test.YtigifkjcghkiiaaDoorRows
import GoSem.ClaimSeven
namespace Go.Proofs.YtigifkjcghkiiaaDoor
namespace Rows

/-- THE TIED CARD OF 'fuguelaw09.UnifyEqual'. -/
def unifyEqualCard : Claim7 := { stood := { row := unifyEqualRow, standIns := [], harness := (true, "727ec2e41ac414766619d1e6ac4ef69e48e3421564e4b1e21f922c8395ca646b"), looks := true }, kinds := [], alts := [], laidByText := true, laidKinds := [.data, .data, .data], laidTests := true, laidLooks := .later }
def UnifyEqualCardSaid : Prop := Claim7.holds Tryd.pinned (.plain (OpenSpec.ofChange unifyEqualSpec)) unifyEqualCard

/-- THE TIED CARD OF 'fuguelaw09.UnifyLeast'. -/
def unifyLeastCard : Claim7 := { stood := { row := unifyLeastRow, standIns := [], harness := (true, "727ec2e41ac414766619d1e6ac4ef69e48e3421564e4b1e21f922c8395ca646b"), looks := true }, kinds := [], alts := [], laidByText := true, laidKinds := [.data, .data, .data], laidTests := true, laidLooks := .later }
def UnifyLeastCardSaid : Prop := Claim7.holds Tryd.pinned (.plain (OpenSpec.ofChange unifyLeastSpec)) unifyLeastCard

/-- THE TIED CARD OF 'fuguelaw09.UnifyRow'. -/
def unifyRowCard : Claim7 := { stood := { row := unifyRowRow, standIns := [], harness := (true, "727ec2e41ac414766619d1e6ac4ef69e48e3421564e4b1e21f922c8395ca646b"), looks := true }, kinds := [], alts := [], laidByText := true, laidKinds := [.data, .data, .data], laidTests := true, laidLooks := .later }
def UnifyRowCardSaid : Prop := Claim7.holds Tryd.pinned (.plain (OpenSpec.ofChange unifyRowSpec)) unifyRowCard

/-- THE TIED CARD OF 'fuguelaw09.UnifyMatches'. -/
def unifyMatchesCard : Claim7 := { stood := { row := unifyMatchesRow, standIns := [], harness := (true, "727ec2e41ac414766619d1e6ac4ef69e48e3421564e4b1e21f922c8395ca646b"), looks := true }, kinds := [], alts := [], laidByText := true, laidKinds := [.data, .data, .data], laidTests := true, laidLooks := .later }
def UnifyMatchesCardSaid : Prop := Claim7.holds Tryd.pinned (.plain (OpenSpec.ofChange unifyMatchesSpec)) unifyMatchesCard

/-- THE TIED CARD OF 'fuguelaw09.UnifyBoth'. -/
def unifyBothCard : Claim7 := { stood := { row := unifyBothRow, standIns := [], harness := (true, "727ec2e41ac414766619d1e6ac4ef69e48e3421564e4b1e21f922c8395ca646b"), looks := true }, kinds := [], alts := [], laidByText := true, laidKinds := [.data, .data, .data], laidTests := true, laidLooks := .later }
def UnifyBothCardSaid : Prop := Claim7.holds Tryd.pinned (.plain (OpenSpec.ofChange unifyBothSpec)) unifyBothCard

/-- THE TIED CARD OF 'fuguelaw09.UnifyOnes'. -/
def unifyOnesCard : Claim7 := { stood := { row := unifyOnesRow, standIns := [], harness := (true, "727ec2e41ac414766619d1e6ac4ef69e48e3421564e4b1e21f922c8395ca646b"), looks := true }, kinds := [], alts := [], laidByText := true, laidKinds := [.data, .data, .data], laidTests := true, laidLooks := .later }
def UnifyOnesCardSaid : Prop := Claim7.holds Tryd.pinned (.plain (OpenSpec.ofChange unifyOnesSpec)) unifyOnesCard

/-- THE TIED CARD OF 'fuguelaw09.UnifyGreat'. -/
def unifyGreatCard : Claim7 := { stood := { row := unifyGreatRow, standIns := [], harness := (true, "727ec2e41ac414766619d1e6ac4ef69e48e3421564e4b1e21f922c8395ca646b"), looks := true }, kinds := [], alts := [], laidByText := true, laidKinds := [.data, .data, .data], laidTests := true, laidLooks := .later }
def UnifyGreatCardSaid : Prop := Claim7.holds Tryd.pinned (.plain (OpenSpec.ofChange unifyGreatSpec)) unifyGreatCard

/-- THE TIED CARD OF 'fuguelaw09.UnifyTwice'. -/
def unifyTwiceCard : Claim7 := { stood := { row := unifyTwiceRow, standIns := [], harness := (true, "727ec2e41ac414766619d1e6ac4ef69e48e3421564e4b1e21f922c8395ca646b"), looks := true }, kinds := [], alts := [], laidByText := true, laidKinds := [.data, .data, .data], laidTests := true, laidLooks := .later }
def UnifyTwiceCardSaid : Prop := Claim7.holds Tryd.pinned (.plain (OpenSpec.ofChange unifyTwiceSpec)) unifyTwiceCard

/-- THE TIED CARD OF 'fuguelaw09.UnifyAlls'. -/
def unifyAllsCard : Claim7 := { stood := { row := unifyAllsRow, standIns := [], harness := (true, "727ec2e41ac414766619d1e6ac4ef69e48e3421564e4b1e21f922c8395ca646b"), looks := true }, kinds := [], alts := [], laidByText := true, laidKinds := [.data, .data, .data], laidTests := true, laidLooks := .later }
def UnifyAllsCardSaid : Prop := Claim7.holds Tryd.pinned (.plain (OpenSpec.ofChange unifyAllsSpec)) unifyAllsCard

/-- THE SECOND FORM's CARD OF 'fuguelaw09.UnifyEqual'. -/
def unifyEqualUptoCard : Claim7 := { stood := { row := unifyEqualUptoRow, standIns := [], harness := (true, "727ec2e41ac414766619d1e6ac4ef69e48e3421564e4b1e21f922c8395ca646b"), looks := true }, kinds := [], alts := [], laidByText := true, laidKinds := [.data, .data, .data], laidTests := true, laidLooks := .later }
def UnifyEqualUptoCardSaid : Prop := Claim7.holds Tryd.pinned (.plain (OpenSpec.upto unifyEqualSpec)) unifyEqualUptoCard

/-- THE SECOND FORM's CARD OF 'fuguelaw09.UnifyLeast'. -/
def unifyLeastUptoCard : Claim7 := { stood := { row := unifyLeastUptoRow, standIns := [], harness := (true, "727ec2e41ac414766619d1e6ac4ef69e48e3421564e4b1e21f922c8395ca646b"), looks := true }, kinds := [], alts := [], laidByText := true, laidKinds := [.data, .data, .data], laidTests := true, laidLooks := .later }
def UnifyLeastUptoCardSaid : Prop := Claim7.holds Tryd.pinned (.plain (OpenSpec.upto unifyLeastSpec)) unifyLeastUptoCard

/-- THE SECOND FORM's CARD OF 'fuguelaw09.UnifyRow'. -/
def unifyRowUptoCard : Claim7 := { stood := { row := unifyRowUptoRow, standIns := [], harness := (true, "727ec2e41ac414766619d1e6ac4ef69e48e3421564e4b1e21f922c8395ca646b"), looks := true }, kinds := [], alts := [], laidByText := true, laidKinds := [.data, .data, .data], laidTests := true, laidLooks := .later }
def UnifyRowUptoCardSaid : Prop := Claim7.holds Tryd.pinned (.plain (OpenSpec.upto unifyRowSpec)) unifyRowUptoCard

/-- THE SECOND FORM's CARD OF 'fuguelaw09.UnifyMatches'. -/
def unifyMatchesUptoCard : Claim7 := { stood := { row := unifyMatchesUptoRow, standIns := [], harness := (true, "727ec2e41ac414766619d1e6ac4ef69e48e3421564e4b1e21f922c8395ca646b"), looks := true }, kinds := [], alts := [], laidByText := true, laidKinds := [.data, .data, .data], laidTests := true, laidLooks := .later }
def UnifyMatchesUptoCardSaid : Prop := Claim7.holds Tryd.pinned (.plain (OpenSpec.upto unifyMatchesSpec)) unifyMatchesUptoCard

/-- THE SECOND FORM's CARD OF 'fuguelaw09.UnifyBoth'. -/
def unifyBothUptoCard : Claim7 := { stood := { row := unifyBothUptoRow, standIns := [], harness := (true, "727ec2e41ac414766619d1e6ac4ef69e48e3421564e4b1e21f922c8395ca646b"), looks := true }, kinds := [], alts := [], laidByText := true, laidKinds := [.data, .data, .data], laidTests := true, laidLooks := .later }
def UnifyBothUptoCardSaid : Prop := Claim7.holds Tryd.pinned (.plain (OpenSpec.upto unifyBothSpec)) unifyBothUptoCard

/-- THE SECOND FORM's CARD OF 'fuguelaw09.UnifyOnes'. -/
def unifyOnesUptoCard : Claim7 := { stood := { row := unifyOnesUptoRow, standIns := [], harness := (true, "727ec2e41ac414766619d1e6ac4ef69e48e3421564e4b1e21f922c8395ca646b"), looks := true }, kinds := [], alts := [], laidByText := true, laidKinds := [.data, .data, .data], laidTests := true, laidLooks := .later }
def UnifyOnesUptoCardSaid : Prop := Claim7.holds Tryd.pinned (.plain (OpenSpec.upto unifyOnesSpec)) unifyOnesUptoCard

/-- THE SECOND FORM's CARD OF 'fuguelaw09.UnifyGreat'. -/
def unifyGreatUptoCard : Claim7 := { stood := { row := unifyGreatUptoRow, standIns := [], harness := (true, "727ec2e41ac414766619d1e6ac4ef69e48e3421564e4b1e21f922c8395ca646b"), looks := true }, kinds := [], alts := [], laidByText := true, laidKinds := [.data, .data, .data], laidTests := true, laidLooks := .later }
def UnifyGreatUptoCardSaid : Prop := Claim7.holds Tryd.pinned (.plain (OpenSpec.upto unifyGreatSpec)) unifyGreatUptoCard

/-- THE SECOND FORM's CARD OF 'fuguelaw09.UnifyTwice'. -/
def unifyTwiceUptoCard : Claim7 := { stood := { row := unifyTwiceUptoRow, standIns := [], harness := (true, "727ec2e41ac414766619d1e6ac4ef69e48e3421564e4b1e21f922c8395ca646b"), looks := true }, kinds := [], alts := [], laidByText := true, laidKinds := [.data, .data, .data], laidTests := true, laidLooks := .later }
def UnifyTwiceUptoCardSaid : Prop := Claim7.holds Tryd.pinned (.plain (OpenSpec.upto unifyTwiceSpec)) unifyTwiceUptoCard

/-- THE SECOND FORM's CARD OF 'fuguelaw09.UnifyAlls'. -/
def unifyAllsUptoCard : Claim7 := { stood := { row := unifyAllsUptoRow, standIns := [], harness := (true, "727ec2e41ac414766619d1e6ac4ef69e48e3421564e4b1e21f922c8395ca646b"), looks := true }, kinds := [], alts := [], laidByText := true, laidKinds := [.data, .data, .data], laidTests := true, laidLooks := .later }
def UnifyAllsUptoCardSaid : Prop := Claim7.holds Tryd.pinned (.plain (OpenSpec.upto unifyAllsSpec)) unifyAllsUptoCard
end Rows
end Go.Proofs.YtigifkjcghkiiaaDoor
