/-
  DERIVED. GIVEN WITH THE SEED: THE CARDS: each row of YtbaalaaoggplmaaDoorRows.lean that lists a variable, with what it lists TIED to the program's text (the seventh form; the later family's looks); each row that meets fmt, with fmt's text TOLD by the authors' own Lean function (tested against real Go, not proved from fmt's source: count such statements apart). THE CARD IS WHAT COUNTS. Prove the row's statement (the work); the ties are given (YtbaalaaoggplmaaDoorTie.lean); close each card by the builder's one call (the guide's Derived/Test/ToyasCard.lean, 'card_holds'). Laid BY PROGRAM, IN A SANDBOX (cutbox-door.mjs). By AI agents, Wed Nov 11 2026. No macro, syntax, notation, axiom, sorry.
-/
import Derived.Test.YtbaalaaoggplmaaDoorRows
import GoSem.ClaimSeven
namespace Go.Proofs.YtbaalaaoggplmaaDoor
namespace Rows

/-- THE TIED CARD OF 'landaulaw7.FilterOrder'. -/
def filterOrderCard : Claim7 := { stood := { row := filterOrderRow, standIns := [], harness := (true, "4ce643163110817c14fcf33181f891fcfcbfcf6555c67e67dc478374c4817ef3"), looks := true }, kinds := [], alts := [], laidByText := true, laidKinds := [.data, .pinned], laidTests := true, laidLooks := .later }
def FilterOrderCardSaid : Prop := Claim7.holds Tryd.pinned (.plain (OpenSpec.ofChange filterOrderSpec)) filterOrderCard

/-- THE TIED CARD OF 'landaulaw7.FilterWindow'. -/
def filterWindowCard : Claim7 := { stood := { row := filterWindowRow, standIns := [], harness := (true, "4ce643163110817c14fcf33181f891fcfcbfcf6555c67e67dc478374c4817ef3"), looks := true }, kinds := [], alts := [], laidByText := true, laidKinds := [.data, .pinned], laidTests := true, laidLooks := .later }
def FilterWindowCardSaid : Prop := Claim7.holds Tryd.pinned (.plain (OpenSpec.ofChange filterWindowSpec)) filterWindowCard

/-- THE TIED CARD OF 'landaulaw7.FilterSome'. -/
def filterSomeCard : Claim7 := { stood := { row := filterSomeRow, standIns := [], harness := (true, "4ce643163110817c14fcf33181f891fcfcbfcf6555c67e67dc478374c4817ef3"), looks := true }, kinds := [], alts := [], laidByText := true, laidKinds := [.data, .pinned], laidTests := true, laidLooks := .later }
def FilterSomeCardSaid : Prop := Claim7.holds Tryd.pinned (.plain (OpenSpec.ofChange filterSomeSpec)) filterSomeCard

/-- THE TIED CARD OF 'landaulaw7.FilterResets'. -/
def filterResetsCard : Claim7 := { stood := { row := filterResetsRow, standIns := [], harness := (true, "4ce643163110817c14fcf33181f891fcfcbfcf6555c67e67dc478374c4817ef3"), looks := true }, kinds := [], alts := [], laidByText := true, laidKinds := [.data, .pinned], laidTests := true, laidLooks := .later }
def FilterResetsCardSaid : Prop := Claim7.holds Tryd.pinned (.plain (OpenSpec.ofChange filterResetsSpec)) filterResetsCard

/-- THE TIED CARD OF 'landaulaw7.FilterPlays'. -/
def filterPlaysCard : Claim7 := { stood := { row := filterPlaysRow, standIns := [], harness := (true, "4ce643163110817c14fcf33181f891fcfcbfcf6555c67e67dc478374c4817ef3"), looks := true }, kinds := [], alts := [], laidByText := true, laidKinds := [.data, .pinned], laidTests := true, laidLooks := .later }
def FilterPlaysCardSaid : Prop := Claim7.holds Tryd.pinned (.plain (OpenSpec.ofChange filterPlaysSpec)) filterPlaysCard

/-- THE TIED CARD OF 'landaulaw15.BookOrder'. -/
def bookOrderCard : Claim7 := { stood := { row := bookOrderRow, standIns := [], harness := (true, "4ce643163110817c14fcf33181f891fcfcbfcf6555c67e67dc478374c4817ef3"), looks := true }, kinds := [], alts := [], laidByText := true, laidKinds := [.data, .pinned], laidTests := true, laidLooks := .later }
def BookOrderCardSaid : Prop := Claim7.holds Tryd.pinned (.plain (OpenSpec.ofChange bookOrderSpec)) bookOrderCard

/-- THE TIED CARD OF 'landaulaw15.BookFolds'. -/
def bookFoldsCard : Claim7 := { stood := { row := bookFoldsRow, standIns := [], harness := (true, "4ce643163110817c14fcf33181f891fcfcbfcf6555c67e67dc478374c4817ef3"), looks := true }, kinds := [], alts := [], laidByText := true, laidKinds := [.data, .pinned], laidTests := true, laidLooks := .later }
def BookFoldsCardSaid : Prop := Claim7.holds Tryd.pinned (.plain (OpenSpec.ofChange bookFoldsSpec)) bookFoldsCard

/-- THE TIED CARD OF 'landaulaw15.BookParts'. -/
def bookPartsCard : Claim7 := { stood := { row := bookPartsRow, standIns := [], harness := (true, "4ce643163110817c14fcf33181f891fcfcbfcf6555c67e67dc478374c4817ef3"), looks := true }, kinds := [], alts := [], laidByText := true, laidKinds := [.data, .pinned], laidTests := true, laidLooks := .later }
def BookPartsCardSaid : Prop := Claim7.holds Tryd.pinned (.plain (OpenSpec.ofChange bookPartsSpec)) bookPartsCard

/-- THE SECOND FORM's CARD OF 'landaulaw7.FilterOrder'. -/
def filterOrderUptoCard : Claim7 := { stood := { row := filterOrderUptoRow, standIns := [], harness := (true, "4ce643163110817c14fcf33181f891fcfcbfcf6555c67e67dc478374c4817ef3"), looks := true }, kinds := [], alts := [], laidByText := true, laidKinds := [.data, .pinned], laidTests := true, laidLooks := .later }
def FilterOrderUptoCardSaid : Prop := Claim7.holds Tryd.pinned (.plain (OpenSpec.upto filterOrderSpec)) filterOrderUptoCard

/-- THE SECOND FORM's CARD OF 'landaulaw7.FilterWindow'. -/
def filterWindowUptoCard : Claim7 := { stood := { row := filterWindowUptoRow, standIns := [], harness := (true, "4ce643163110817c14fcf33181f891fcfcbfcf6555c67e67dc478374c4817ef3"), looks := true }, kinds := [], alts := [], laidByText := true, laidKinds := [.data, .pinned], laidTests := true, laidLooks := .later }
def FilterWindowUptoCardSaid : Prop := Claim7.holds Tryd.pinned (.plain (OpenSpec.upto filterWindowSpec)) filterWindowUptoCard

/-- THE SECOND FORM's CARD OF 'landaulaw7.FilterSome'. -/
def filterSomeUptoCard : Claim7 := { stood := { row := filterSomeUptoRow, standIns := [], harness := (true, "4ce643163110817c14fcf33181f891fcfcbfcf6555c67e67dc478374c4817ef3"), looks := true }, kinds := [], alts := [], laidByText := true, laidKinds := [.data, .pinned], laidTests := true, laidLooks := .later }
def FilterSomeUptoCardSaid : Prop := Claim7.holds Tryd.pinned (.plain (OpenSpec.upto filterSomeSpec)) filterSomeUptoCard

/-- THE SECOND FORM's CARD OF 'landaulaw7.FilterResets'. -/
def filterResetsUptoCard : Claim7 := { stood := { row := filterResetsUptoRow, standIns := [], harness := (true, "4ce643163110817c14fcf33181f891fcfcbfcf6555c67e67dc478374c4817ef3"), looks := true }, kinds := [], alts := [], laidByText := true, laidKinds := [.data, .pinned], laidTests := true, laidLooks := .later }
def FilterResetsUptoCardSaid : Prop := Claim7.holds Tryd.pinned (.plain (OpenSpec.upto filterResetsSpec)) filterResetsUptoCard

/-- THE SECOND FORM's CARD OF 'landaulaw7.FilterPlays'. -/
def filterPlaysUptoCard : Claim7 := { stood := { row := filterPlaysUptoRow, standIns := [], harness := (true, "4ce643163110817c14fcf33181f891fcfcbfcf6555c67e67dc478374c4817ef3"), looks := true }, kinds := [], alts := [], laidByText := true, laidKinds := [.data, .pinned], laidTests := true, laidLooks := .later }
def FilterPlaysUptoCardSaid : Prop := Claim7.holds Tryd.pinned (.plain (OpenSpec.upto filterPlaysSpec)) filterPlaysUptoCard

/-- THE SECOND FORM's CARD OF 'landaulaw15.BookOrder'. -/
def bookOrderUptoCard : Claim7 := { stood := { row := bookOrderUptoRow, standIns := [], harness := (true, "4ce643163110817c14fcf33181f891fcfcbfcf6555c67e67dc478374c4817ef3"), looks := true }, kinds := [], alts := [], laidByText := true, laidKinds := [.data, .pinned], laidTests := true, laidLooks := .later }
def BookOrderUptoCardSaid : Prop := Claim7.holds Tryd.pinned (.plain (OpenSpec.upto bookOrderSpec)) bookOrderUptoCard

/-- THE SECOND FORM's CARD OF 'landaulaw15.BookFolds'. -/
def bookFoldsUptoCard : Claim7 := { stood := { row := bookFoldsUptoRow, standIns := [], harness := (true, "4ce643163110817c14fcf33181f891fcfcbfcf6555c67e67dc478374c4817ef3"), looks := true }, kinds := [], alts := [], laidByText := true, laidKinds := [.data, .pinned], laidTests := true, laidLooks := .later }
def BookFoldsUptoCardSaid : Prop := Claim7.holds Tryd.pinned (.plain (OpenSpec.upto bookFoldsSpec)) bookFoldsUptoCard

/-- THE SECOND FORM's CARD OF 'landaulaw15.BookParts'. -/
def bookPartsUptoCard : Claim7 := { stood := { row := bookPartsUptoRow, standIns := [], harness := (true, "4ce643163110817c14fcf33181f891fcfcbfcf6555c67e67dc478374c4817ef3"), looks := true }, kinds := [], alts := [], laidByText := true, laidKinds := [.data, .pinned], laidTests := true, laidLooks := .later }
def BookPartsUptoCardSaid : Prop := Claim7.holds Tryd.pinned (.plain (OpenSpec.upto bookPartsSpec)) bookPartsUptoCard
end Rows
end Go.Proofs.YtbaalaaoggplmaaDoor
