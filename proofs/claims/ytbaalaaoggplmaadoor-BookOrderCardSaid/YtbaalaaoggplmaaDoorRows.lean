/-
  NARROWER THAN 'FOR EVERY INPUT', by the rows' own cells (each row's printed sentence says how): FilterOrder: laid · FilterWindow: laid · FilterSome: laid · FilterResets: laid · FilterPlays: laid · BookOrder: laid · BookFolds: laid · BookParts: laid.
  DERIVED. THE GIVEN ROWS OF THIS SEAT. 8 by the template 'for every input the law returns true; each argument reads behind the call as it read before'; 0 by the template 'total and deterministic' (their statements: YtbaalaaoggplmaaDoorTotals.lean).
  GIVEN WITH THE SEED: the statements are not yours to turn. If you find one false, say at which input.
  Laid BY PROGRAM, IN A SANDBOX (cutbox-rows.mjs): the forced cells as the released guide's own fill.sh prints them over the translation 0108114e4a2727cc… (all of the seat's roots in one cut). By AI agents, Wed Nov 11 2026. No macro, syntax, notation, axiom, sorry.
-/
import Derived.Test.YtbaalaaoggplmaaDoorChecked
import GoSem.PinnedTables
import GoSem.Claim
import GoSem.ClaimJoined
import GoSem.ClaimMapViews
import Derived.JoinedTies
import Derived.KernelRfl
namespace Go.Proofs.YtbaalaaoggplmaaDoor
/- THE CELL 'sum', in the pinned program and in every row, IS THE sha256 OF THE DUMP (.gsa) THAT YtbaalaaoggplmaaDoorProg.lean LOADS. Nothing in Lean hashes anything: it is a label: what it is worth is what the hold of that sum in a sandbox is worth. -/
noncomputable def Tryd.pinned : Pinned := { name := "ytbaalaaoggplmaadoor", sum := "0108114e4a2727cc9cddd3dac4ba7a7301e3c20d011f1b1d4d58a39398dbf869", checked := Tryd.checked }
namespace Rows
def none {H : Type} : Left H := { results := [], args := [] }

/- WHAT THE LISTED PACKAGE-LEVEL VARIABLES READ AS WHEN THE CALL BEGINS. Each datum BY PROGRAM (the guide's laid-datum.mjs) off the statement by which the dump's own 'gosem.cut.vars' lays the variable. In a bare row this is a premise. The card (YtbaalaaoggplmaaDoorCards.lean) ties it to the program's text. -/
def laid_unicode_utf8_acceptRanges {H : Type} : DataW H := .agg [.agg [.lit (.int .u8 128), .lit (.int .u8 191)], .agg [.lit (.int .u8 160), .lit (.int .u8 191)], .agg [.lit (.int .u8 128), .lit (.int .u8 159)], .agg [.lit (.int .u8 144), .lit (.int .u8 191)], .agg [.lit (.int .u8 128), .lit (.int .u8 143)], .agg [.lit (.int .u8 0), .lit (.int .u8 0)], .agg [.lit (.int .u8 0), .lit (.int .u8 0)], .agg [.lit (.int .u8 0), .lit (.int .u8 0)], .agg [.lit (.int .u8 0), .lit (.int .u8 0)], .agg [.lit (.int .u8 0), .lit (.int .u8 0)], .agg [.lit (.int .u8 0), .lit (.int .u8 0)], .agg [.lit (.int .u8 0), .lit (.int .u8 0)], .agg [.lit (.int .u8 0), .lit (.int .u8 0)], .agg [.lit (.int .u8 0), .lit (.int .u8 0)], .agg [.lit (.int .u8 0), .lit (.int .u8 0)], .agg [.lit (.int .u8 0), .lit (.int .u8 0)]]
/-- One of Go's own tables, pinned by name: the form's constant. -/
def laid_unicode_utf8_first : DataW Unit := Go.Pinned.utf8First

/-- 'landaulaw7.FilterOrder': WHATEVER THE INPUT: true; the input reads as it did. -/
def filterOrderSpec : ChangeSpec := { name := "filterOrder", fn := fun _ => fun
  | [d1, d2] => { results := [.lit (.bool true)], args := [d1, d2] }
  | _ => none }
def filterOrderRow : OpenClaim := { program := "ytbaalaaoggplmaadoor", sum := "0108114e4a2727cc9cddd3dac4ba7a7301e3c20d011f1b1d4d58a39398dbf869", func := "landau/landaulaw7.FilterOrder", spec := "filterOrder", unfollowed := true, recurses := true, named := ["unicode/utf8.first", "unicode/utf8.acceptRanges"], apart := false, laid := [("unicode/utf8.acceptRanges", laid_unicode_utf8_acceptRanges), ("unicode/utf8.first", laid_unicode_utf8_first)] }
def FilterOrderSaid : Prop := filterOrderRow.holds Tryd.pinned (OpenSpec.ofChange filterOrderSpec)

/-- ITS FALSE NEIGHBOUR: 'it returns false'. Refute it at one input. -/
def filterOrderWrong : ChangeSpec := { name := "filterOrder", fn := fun _ => fun
  | [d1, d2] => { results := [.lit (.bool false)], args := [d1, d2] }
  | _ => none }
def FilterOrderWrongFalsely : Prop := filterOrderRow.holds Tryd.pinned (OpenSpec.ofChange filterOrderWrong)

/-- 'landaulaw7.FilterWindow': WHATEVER THE INPUT: true; the input reads as it did. -/
def filterWindowSpec : ChangeSpec := { name := "filterWindow", fn := fun _ => fun
  | [d1, d2, d3] => { results := [.lit (.bool true)], args := [d1, d2, d3] }
  | _ => none }
def filterWindowRow : OpenClaim := { program := "ytbaalaaoggplmaadoor", sum := "0108114e4a2727cc9cddd3dac4ba7a7301e3c20d011f1b1d4d58a39398dbf869", func := "landau/landaulaw7.FilterWindow", spec := "filterWindow", unfollowed := true, recurses := true, named := ["unicode/utf8.first", "unicode/utf8.acceptRanges"], apart := false, laid := [("unicode/utf8.acceptRanges", laid_unicode_utf8_acceptRanges), ("unicode/utf8.first", laid_unicode_utf8_first)] }
def FilterWindowSaid : Prop := filterWindowRow.holds Tryd.pinned (OpenSpec.ofChange filterWindowSpec)

/-- ITS FALSE NEIGHBOUR: 'it returns false'. Refute it at one input. -/
def filterWindowWrong : ChangeSpec := { name := "filterWindow", fn := fun _ => fun
  | [d1, d2, d3] => { results := [.lit (.bool false)], args := [d1, d2, d3] }
  | _ => none }
def FilterWindowWrongFalsely : Prop := filterWindowRow.holds Tryd.pinned (OpenSpec.ofChange filterWindowWrong)

/-- 'landaulaw7.FilterSome': WHATEVER THE INPUT: true; the input reads as it did. -/
def filterSomeSpec : ChangeSpec := { name := "filterSome", fn := fun _ => fun
  | [d1, d2] => { results := [.lit (.bool true)], args := [d1, d2] }
  | _ => none }
def filterSomeRow : OpenClaim := { program := "ytbaalaaoggplmaadoor", sum := "0108114e4a2727cc9cddd3dac4ba7a7301e3c20d011f1b1d4d58a39398dbf869", func := "landau/landaulaw7.FilterSome", spec := "filterSome", unfollowed := true, recurses := true, named := ["unicode/utf8.first", "unicode/utf8.acceptRanges"], apart := false, laid := [("unicode/utf8.acceptRanges", laid_unicode_utf8_acceptRanges), ("unicode/utf8.first", laid_unicode_utf8_first)] }
def FilterSomeSaid : Prop := filterSomeRow.holds Tryd.pinned (OpenSpec.ofChange filterSomeSpec)

/-- ITS FALSE NEIGHBOUR: 'it returns false'. Refute it at one input. -/
def filterSomeWrong : ChangeSpec := { name := "filterSome", fn := fun _ => fun
  | [d1, d2] => { results := [.lit (.bool false)], args := [d1, d2] }
  | _ => none }
def FilterSomeWrongFalsely : Prop := filterSomeRow.holds Tryd.pinned (OpenSpec.ofChange filterSomeWrong)

/-- 'landaulaw7.FilterResets': WHATEVER THE INPUT: true; the input reads as it did. -/
def filterResetsSpec : ChangeSpec := { name := "filterResets", fn := fun _ => fun
  | [d1, d2] => { results := [.lit (.bool true)], args := [d1, d2] }
  | _ => none }
def filterResetsRow : OpenClaim := { program := "ytbaalaaoggplmaadoor", sum := "0108114e4a2727cc9cddd3dac4ba7a7301e3c20d011f1b1d4d58a39398dbf869", func := "landau/landaulaw7.FilterResets", spec := "filterResets", unfollowed := true, recurses := true, named := ["unicode/utf8.first", "unicode/utf8.acceptRanges"], apart := false, laid := [("unicode/utf8.acceptRanges", laid_unicode_utf8_acceptRanges), ("unicode/utf8.first", laid_unicode_utf8_first)] }
def FilterResetsSaid : Prop := filterResetsRow.holds Tryd.pinned (OpenSpec.ofChange filterResetsSpec)

/-- ITS FALSE NEIGHBOUR: 'it returns false'. Refute it at one input. -/
def filterResetsWrong : ChangeSpec := { name := "filterResets", fn := fun _ => fun
  | [d1, d2] => { results := [.lit (.bool false)], args := [d1, d2] }
  | _ => none }
def FilterResetsWrongFalsely : Prop := filterResetsRow.holds Tryd.pinned (OpenSpec.ofChange filterResetsWrong)

/-- 'landaulaw7.FilterPlays': WHATEVER THE INPUT: true; the input reads as it did. -/
def filterPlaysSpec : ChangeSpec := { name := "filterPlays", fn := fun _ => fun
  | [d1, d2, d3] => { results := [.lit (.bool true)], args := [d1, d2, d3] }
  | _ => none }
def filterPlaysRow : OpenClaim := { program := "ytbaalaaoggplmaadoor", sum := "0108114e4a2727cc9cddd3dac4ba7a7301e3c20d011f1b1d4d58a39398dbf869", func := "landau/landaulaw7.FilterPlays", spec := "filterPlays", inPlace := ["maps.clone"], unfollowed := true, recurses := true, named := ["unicode/utf8.first", "unicode/utf8.acceptRanges"], apart := false, laid := [("unicode/utf8.acceptRanges", laid_unicode_utf8_acceptRanges), ("unicode/utf8.first", laid_unicode_utf8_first)] }
def FilterPlaysSaid : Prop := filterPlaysRow.holds Tryd.pinned (OpenSpec.ofChange filterPlaysSpec)

/-- ITS FALSE NEIGHBOUR: 'it returns false'. Refute it at one input. -/
def filterPlaysWrong : ChangeSpec := { name := "filterPlays", fn := fun _ => fun
  | [d1, d2, d3] => { results := [.lit (.bool false)], args := [d1, d2, d3] }
  | _ => none }
def FilterPlaysWrongFalsely : Prop := filterPlaysRow.holds Tryd.pinned (OpenSpec.ofChange filterPlaysWrong)

/-- 'landaulaw15.BookOrder': WHATEVER THE INPUT: true; the input reads as it did. -/
def bookOrderSpec : ChangeSpec := { name := "bookOrder", fn := fun _ => fun
  | [d1, d2] => { results := [.lit (.bool true)], args := [d1, d2] }
  | _ => none }
def bookOrderRow : OpenClaim := { program := "ytbaalaaoggplmaadoor", sum := "0108114e4a2727cc9cddd3dac4ba7a7301e3c20d011f1b1d4d58a39398dbf869", func := "landau/landaulaw15.BookOrder", spec := "bookOrder", inPlace := ["internal/bytealg.abigen_runtime_cmpstring", "slices.overlaps[landau/fold.Cell]"], unfollowed := true, recurses := true, named := ["unicode/utf8.first", "unicode/utf8.acceptRanges"], apart := false, laid := [("unicode/utf8.acceptRanges", laid_unicode_utf8_acceptRanges), ("unicode/utf8.first", laid_unicode_utf8_first)] }
def BookOrderSaid : Prop := bookOrderRow.holds Tryd.pinned (OpenSpec.ofChange bookOrderSpec)

/-- ITS FALSE NEIGHBOUR: 'it returns false'. Refute it at one input. -/
def bookOrderWrong : ChangeSpec := { name := "bookOrder", fn := fun _ => fun
  | [d1, d2] => { results := [.lit (.bool false)], args := [d1, d2] }
  | _ => none }
def BookOrderWrongFalsely : Prop := bookOrderRow.holds Tryd.pinned (OpenSpec.ofChange bookOrderWrong)

/-- 'landaulaw15.BookFolds': WHATEVER THE INPUT: true; the input reads as it did. -/
def bookFoldsSpec : ChangeSpec := { name := "bookFolds", fn := fun _ => fun
  | [d1, d2, d3] => { results := [.lit (.bool true)], args := [d1, d2, d3] }
  | _ => none }
def bookFoldsRow : OpenClaim := { program := "ytbaalaaoggplmaadoor", sum := "0108114e4a2727cc9cddd3dac4ba7a7301e3c20d011f1b1d4d58a39398dbf869", func := "landau/landaulaw15.BookFolds", spec := "bookFolds", inPlace := ["internal/bytealg.abigen_runtime_cmpstring", "slices.overlaps[landau/fold.Cell]"], unfollowed := true, recurses := true, named := ["unicode/utf8.first", "unicode/utf8.acceptRanges"], apart := false, laid := [("unicode/utf8.acceptRanges", laid_unicode_utf8_acceptRanges), ("unicode/utf8.first", laid_unicode_utf8_first)] }
def BookFoldsSaid : Prop := bookFoldsRow.holds Tryd.pinned (OpenSpec.ofChange bookFoldsSpec)

/-- ITS FALSE NEIGHBOUR: 'it returns false'. Refute it at one input. -/
def bookFoldsWrong : ChangeSpec := { name := "bookFolds", fn := fun _ => fun
  | [d1, d2, d3] => { results := [.lit (.bool false)], args := [d1, d2, d3] }
  | _ => none }
def BookFoldsWrongFalsely : Prop := bookFoldsRow.holds Tryd.pinned (OpenSpec.ofChange bookFoldsWrong)

/-- 'landaulaw15.BookParts': WHATEVER THE INPUT: true; the input reads as it did. -/
def bookPartsSpec : ChangeSpec := { name := "bookParts", fn := fun _ => fun
  | [d1, d2] => { results := [.lit (.bool true)], args := [d1, d2] }
  | _ => none }
def bookPartsRow : OpenClaim := { program := "ytbaalaaoggplmaadoor", sum := "0108114e4a2727cc9cddd3dac4ba7a7301e3c20d011f1b1d4d58a39398dbf869", func := "landau/landaulaw15.BookParts", spec := "bookParts", inPlace := ["internal/bytealg.abigen_runtime_cmpstring", "slices.overlaps[landau/fold.Cell]"], unfollowed := true, recurses := true, named := ["unicode/utf8.first", "unicode/utf8.acceptRanges"], apart := false, laid := [("unicode/utf8.acceptRanges", laid_unicode_utf8_acceptRanges), ("unicode/utf8.first", laid_unicode_utf8_first)] }
def BookPartsSaid : Prop := bookPartsRow.holds Tryd.pinned (OpenSpec.ofChange bookPartsSpec)

/-- ITS FALSE NEIGHBOUR: 'it returns false'. Refute it at one input. -/
def bookPartsWrong : ChangeSpec := { name := "bookParts", fn := fun _ => fun
  | [d1, d2] => { results := [.lit (.bool false)], args := [d1, d2] }
  | _ => none }
def BookPartsWrongFalsely : Prop := bookPartsRow.holds Tryd.pinned (OpenSpec.ofChange bookPartsWrong)

/- THE SECOND FORM. 'bulk': how many values and letters a reading holds, each counted each time it is reached (what is shared counts as often as it is met; a slice's spare places count too). A statement '..UptoSaid' is the law's where the arguments, and the package variables that the reading takes, are together of bulk at most 1048576: NARROWER than '..Said'. Prove '..Said' where nothing that the law and all that it calls make is longer than what came in: it says more and counts as full. Else prove '..UptoSaid'. A law counts once. -/
mutual
def uptoBulk {H : Type} : DataW H → Nat
  | .lit (.string bytes) => bytes.length + 1
  | .lit _ => 1
  | .nil => 1
  | .ptr d => uptoBulk d + 1
  | .slice elems spare => uptoBulkAll elems + uptoBulkAll spare + 1
  | .agg parts => uptoBulkAll parts + 1
  | .iface _ d => uptoBulk d + 1
  | .map entries => uptoBulkEntries entries + 1
  | .held _ => 1
def uptoBulkAll {H : Type} : List (DataW H) → Nat
  | [] => 0
  | d :: r => uptoBulk d + uptoBulkAll r
def uptoBulkEntries {H : Type} : List (Lit × DataW H) → Nat
  | [] => 0
  | x :: r => uptoBulkEntry x + uptoBulkEntries r
def uptoBulkEntry {H : Type} : Lit × DataW H → Nat
  | (.string bytes, d) => bytes.length + uptoBulk d + 1
  | (_, d) => uptoBulk d + 1
 end
def uptoSmall : (H : Type) → List (DataW H) → Bool := fun _ ds => decide (uptoBulkAll ds ≤ 1048576)
def OpenSpec.upto (s : _root_.Go.ChangeSpec) : _root_.Go.OpenSpec := { _root_.Go.OpenSpec.ofChange s with cond := some uptoSmall }

/-- 'landaulaw7.FilterOrder', WHERE WHAT IT READS IS OF BULK AT MOST 1048576: true; the input reads as it did. -/
def filterOrderUptoRow : OpenClaim := { program := "ytbaalaaoggplmaadoor", sum := "0108114e4a2727cc9cddd3dac4ba7a7301e3c20d011f1b1d4d58a39398dbf869", func := "landau/landaulaw7.FilterOrder", spec := "filterOrder", unfollowed := true, recurses := true, named := ["unicode/utf8.first", "unicode/utf8.acceptRanges"], apart := false, laid := [("unicode/utf8.acceptRanges", laid_unicode_utf8_acceptRanges), ("unicode/utf8.first", laid_unicode_utf8_first)], narrowed := true }
def FilterOrderUptoSaid : Prop := filterOrderUptoRow.holds Tryd.pinned (OpenSpec.upto filterOrderSpec)

/-- 'landaulaw7.FilterWindow', WHERE WHAT IT READS IS OF BULK AT MOST 1048576: true; the input reads as it did. -/
def filterWindowUptoRow : OpenClaim := { program := "ytbaalaaoggplmaadoor", sum := "0108114e4a2727cc9cddd3dac4ba7a7301e3c20d011f1b1d4d58a39398dbf869", func := "landau/landaulaw7.FilterWindow", spec := "filterWindow", unfollowed := true, recurses := true, named := ["unicode/utf8.first", "unicode/utf8.acceptRanges"], apart := false, laid := [("unicode/utf8.acceptRanges", laid_unicode_utf8_acceptRanges), ("unicode/utf8.first", laid_unicode_utf8_first)], narrowed := true }
def FilterWindowUptoSaid : Prop := filterWindowUptoRow.holds Tryd.pinned (OpenSpec.upto filterWindowSpec)

/-- 'landaulaw7.FilterSome', WHERE WHAT IT READS IS OF BULK AT MOST 1048576: true; the input reads as it did. -/
def filterSomeUptoRow : OpenClaim := { program := "ytbaalaaoggplmaadoor", sum := "0108114e4a2727cc9cddd3dac4ba7a7301e3c20d011f1b1d4d58a39398dbf869", func := "landau/landaulaw7.FilterSome", spec := "filterSome", unfollowed := true, recurses := true, named := ["unicode/utf8.first", "unicode/utf8.acceptRanges"], apart := false, laid := [("unicode/utf8.acceptRanges", laid_unicode_utf8_acceptRanges), ("unicode/utf8.first", laid_unicode_utf8_first)], narrowed := true }
def FilterSomeUptoSaid : Prop := filterSomeUptoRow.holds Tryd.pinned (OpenSpec.upto filterSomeSpec)

/-- 'landaulaw7.FilterResets', WHERE WHAT IT READS IS OF BULK AT MOST 1048576: true; the input reads as it did. -/
def filterResetsUptoRow : OpenClaim := { program := "ytbaalaaoggplmaadoor", sum := "0108114e4a2727cc9cddd3dac4ba7a7301e3c20d011f1b1d4d58a39398dbf869", func := "landau/landaulaw7.FilterResets", spec := "filterResets", unfollowed := true, recurses := true, named := ["unicode/utf8.first", "unicode/utf8.acceptRanges"], apart := false, laid := [("unicode/utf8.acceptRanges", laid_unicode_utf8_acceptRanges), ("unicode/utf8.first", laid_unicode_utf8_first)], narrowed := true }
def FilterResetsUptoSaid : Prop := filterResetsUptoRow.holds Tryd.pinned (OpenSpec.upto filterResetsSpec)

/-- 'landaulaw7.FilterPlays', WHERE WHAT IT READS IS OF BULK AT MOST 1048576: true; the input reads as it did. -/
def filterPlaysUptoRow : OpenClaim := { program := "ytbaalaaoggplmaadoor", sum := "0108114e4a2727cc9cddd3dac4ba7a7301e3c20d011f1b1d4d58a39398dbf869", func := "landau/landaulaw7.FilterPlays", spec := "filterPlays", inPlace := ["maps.clone"], unfollowed := true, recurses := true, named := ["unicode/utf8.first", "unicode/utf8.acceptRanges"], apart := false, laid := [("unicode/utf8.acceptRanges", laid_unicode_utf8_acceptRanges), ("unicode/utf8.first", laid_unicode_utf8_first)], narrowed := true }
def FilterPlaysUptoSaid : Prop := filterPlaysUptoRow.holds Tryd.pinned (OpenSpec.upto filterPlaysSpec)

/-- 'landaulaw15.BookOrder', WHERE WHAT IT READS IS OF BULK AT MOST 1048576: true; the input reads as it did. -/
def bookOrderUptoRow : OpenClaim := { program := "ytbaalaaoggplmaadoor", sum := "0108114e4a2727cc9cddd3dac4ba7a7301e3c20d011f1b1d4d58a39398dbf869", func := "landau/landaulaw15.BookOrder", spec := "bookOrder", inPlace := ["internal/bytealg.abigen_runtime_cmpstring", "slices.overlaps[landau/fold.Cell]"], unfollowed := true, recurses := true, named := ["unicode/utf8.first", "unicode/utf8.acceptRanges"], apart := false, laid := [("unicode/utf8.acceptRanges", laid_unicode_utf8_acceptRanges), ("unicode/utf8.first", laid_unicode_utf8_first)], narrowed := true }
def BookOrderUptoSaid : Prop := bookOrderUptoRow.holds Tryd.pinned (OpenSpec.upto bookOrderSpec)

/-- 'landaulaw15.BookFolds', WHERE WHAT IT READS IS OF BULK AT MOST 1048576: true; the input reads as it did. -/
def bookFoldsUptoRow : OpenClaim := { program := "ytbaalaaoggplmaadoor", sum := "0108114e4a2727cc9cddd3dac4ba7a7301e3c20d011f1b1d4d58a39398dbf869", func := "landau/landaulaw15.BookFolds", spec := "bookFolds", inPlace := ["internal/bytealg.abigen_runtime_cmpstring", "slices.overlaps[landau/fold.Cell]"], unfollowed := true, recurses := true, named := ["unicode/utf8.first", "unicode/utf8.acceptRanges"], apart := false, laid := [("unicode/utf8.acceptRanges", laid_unicode_utf8_acceptRanges), ("unicode/utf8.first", laid_unicode_utf8_first)], narrowed := true }
def BookFoldsUptoSaid : Prop := bookFoldsUptoRow.holds Tryd.pinned (OpenSpec.upto bookFoldsSpec)

/-- 'landaulaw15.BookParts', WHERE WHAT IT READS IS OF BULK AT MOST 1048576: true; the input reads as it did. -/
def bookPartsUptoRow : OpenClaim := { program := "ytbaalaaoggplmaadoor", sum := "0108114e4a2727cc9cddd3dac4ba7a7301e3c20d011f1b1d4d58a39398dbf869", func := "landau/landaulaw15.BookParts", spec := "bookParts", inPlace := ["internal/bytealg.abigen_runtime_cmpstring", "slices.overlaps[landau/fold.Cell]"], unfollowed := true, recurses := true, named := ["unicode/utf8.first", "unicode/utf8.acceptRanges"], apart := false, laid := [("unicode/utf8.acceptRanges", laid_unicode_utf8_acceptRanges), ("unicode/utf8.first", laid_unicode_utf8_first)], narrowed := true }
def BookPartsUptoSaid : Prop := bookPartsUptoRow.holds Tryd.pinned (OpenSpec.upto bookPartsSpec)

end Rows
end Go.Proofs.YtbaalaaoggplmaaDoor
