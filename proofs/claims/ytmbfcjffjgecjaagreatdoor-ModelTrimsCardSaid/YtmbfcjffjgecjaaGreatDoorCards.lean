/-
  DERIVED. GIVEN WITH THE SEED: THE CARDS: each row of YtmbfcjffjgecjaaGreatDoorRows.lean that lists a variable, with what it lists TIED to the program's text (the seventh form; the later family's looks); each row that meets fmt, with fmt's text TOLD by the authors' own Lean function (tested against real Go, not proved from fmt's source: count such statements apart). THE CARD IS WHAT COUNTS. Prove the row's statement (the work); the ties are given (YtmbfcjffjgecjaaGreatDoorTie.lean); close each card by the builder's one call (the guide's Derived/Test/ToyasCard.lean, 'card_holds'). Laid BY PROGRAM, IN A SANDBOX (cutbox-door.mjs). By AI agents, Wed Nov 11 2026. No macro, syntax, notation, axiom, sorry.
-/
import Derived.Test.YtmbfcjffjgecjaaGreatDoorRows
import GoSem.ClaimSeven
namespace Go.Proofs.YtmbfcjffjgecjaaGreatDoor
namespace Rows

/-- THE TIED CARD OF 'landaulaw24.ModelRight'. -/
def modelRightCard : Claim7 := { stood := { row := modelRightRow, standIns := [], harness := (true, "c96fe51edf8981d665a7b4301708648cbed3b1d17d290cbb40759b4b0781c3cf"), looks := true }, kinds := [], alts := [], laidByText := true, laidKinds := [.data, .data, .data, .data, .sentinel, .sentinel, .pinned], laidTests := true, laidLooks := .later }
def ModelRightCardSaid : Prop := Claim7.holds Tryz.pinned (.plain (OpenSpec.ofChange modelRightSpec)) modelRightCard

/-- THE TIED CARD OF 'landaulaw24.ModelLogs'. -/
def modelLogsCard : Claim7 := { stood := { row := modelLogsRow, standIns := [], harness := (true, "c96fe51edf8981d665a7b4301708648cbed3b1d17d290cbb40759b4b0781c3cf"), looks := true }, kinds := [], alts := [], laidByText := true, laidKinds := [.data, .data, .data, .data, .sentinel, .sentinel, .pinned], laidTests := true, laidLooks := .later }
def ModelLogsCardSaid : Prop := Claim7.holds Tryz.pinned (.plain (OpenSpec.ofChange modelLogsSpec)) modelLogsCard

/-- THE TIED CARD OF 'landaulaw4.SegLines'. -/
def segLinesCard : Claim7 := { stood := { row := segLinesRow, standIns := [], harness := (true, "c96fe51edf8981d665a7b4301708648cbed3b1d17d290cbb40759b4b0781c3cf"), looks := true }, kinds := [], alts := [], laidByText := true, laidKinds := [.data, .data, .data, .data, .sentinel, .sentinel, .pinned], laidTests := true, laidLooks := .later }
def SegLinesCardSaid : Prop := Claim7.holds Tryz.pinned (.plain (OpenSpec.ofChange segLinesSpec)) segLinesCard

/-- THE TIED CARD OF 'landaulaw4.SegOnce'. -/
def segOnceCard : Claim7 := { stood := { row := segOnceRow, standIns := [], harness := (true, "c96fe51edf8981d665a7b4301708648cbed3b1d17d290cbb40759b4b0781c3cf"), looks := true }, kinds := [], alts := [], laidByText := true, laidKinds := [.data, .data, .data, .data, .sentinel, .sentinel, .pinned], laidTests := true, laidLooks := .later }
def SegOnceCardSaid : Prop := Claim7.holds Tryz.pinned (.plain (OpenSpec.ofChange segOnceSpec)) segOnceCard

/-- THE TIED CARD OF 'landaulaw4.SegSeals'. -/
def segSealsCard : Claim7 := { stood := { row := segSealsRow, standIns := [], harness := (true, "c96fe51edf8981d665a7b4301708648cbed3b1d17d290cbb40759b4b0781c3cf"), looks := true }, kinds := [], alts := [], laidByText := true, laidKinds := [.data, .data, .data, .data, .sentinel, .sentinel, .pinned], laidTests := true, laidLooks := .later }
def SegSealsCardSaid : Prop := Claim7.holds Tryz.pinned (.plain (OpenSpec.ofChange segSealsSpec)) segSealsCard

/-- THE TIED CARD OF 'landaulaw4.SegCuts'. -/
def segCutsCard : Claim7 := { stood := { row := segCutsRow, standIns := [], harness := (true, "c96fe51edf8981d665a7b4301708648cbed3b1d17d290cbb40759b4b0781c3cf"), looks := true }, kinds := [], alts := [], laidByText := true, laidKinds := [.data, .data, .data, .data, .sentinel, .sentinel, .pinned], laidTests := true, laidLooks := .later }
def SegCutsCardSaid : Prop := Claim7.holds Tryz.pinned (.plain (OpenSpec.ofChange segCutsSpec)) segCutsCard

/-- THE TIED CARD OF 'landaulaw24.ModelTrims'. -/
def modelTrimsCard : Claim7 := { stood := { row := modelTrimsRow, standIns := [], harness := (true, "c96fe51edf8981d665a7b4301708648cbed3b1d17d290cbb40759b4b0781c3cf"), looks := true }, kinds := [], alts := [], laidByText := true, laidKinds := [.data, .data, .data, .data, .sentinel, .sentinel, .pinned], laidTests := true, laidLooks := .later }
def ModelTrimsCardSaid : Prop := Claim7.holds Tryz.pinned (.plain (OpenSpec.ofChange modelTrimsSpec)) modelTrimsCard

/-- THE TIED CARD OF 'landaulaw6.LogLasts'. -/
def logLastsCard : Claim7 := { stood := { row := logLastsRow, standIns := [], harness := (true, "c96fe51edf8981d665a7b4301708648cbed3b1d17d290cbb40759b4b0781c3cf"), looks := true }, kinds := [], alts := [], laidByText := true, laidKinds := [.data, .data, .data, .data, .sentinel, .sentinel, .pinned], laidTests := true, laidLooks := .later }
def LogLastsCardSaid : Prop := Claim7.holds Tryz.pinned (.plain (OpenSpec.ofChange logLastsSpec)) logLastsCard

/-- THE TIED CARD OF 'landaulaw6.LogStripes'. -/
def logStripesCard : Claim7 := { stood := { row := logStripesRow, standIns := [], harness := (true, "c96fe51edf8981d665a7b4301708648cbed3b1d17d290cbb40759b4b0781c3cf"), looks := true }, kinds := [], alts := [], laidByText := true, laidKinds := [.data, .data, .data, .data, .sentinel, .sentinel, .pinned], laidTests := true, laidLooks := .later }
def LogStripesCardSaid : Prop := Claim7.holds Tryz.pinned (.plain (OpenSpec.ofChange logStripesSpec)) logStripesCard

/-- THE TIED CARD OF 'landaulaw6.LogTrims'. -/
def logTrimsCard : Claim7 := { stood := { row := logTrimsRow, standIns := [], harness := (true, "c96fe51edf8981d665a7b4301708648cbed3b1d17d290cbb40759b4b0781c3cf"), looks := true }, kinds := [], alts := [], laidByText := true, laidKinds := [.data, .data, .data, .data, .sentinel, .sentinel, .pinned], laidTests := true, laidLooks := .later }
def LogTrimsCardSaid : Prop := Claim7.holds Tryz.pinned (.plain (OpenSpec.ofChange logTrimsSpec)) logTrimsCard

/-- THE TIED CARD OF 'landaulaw6.LogResizes'. -/
def logResizesCard : Claim7 := { stood := { row := logResizesRow, standIns := [], harness := (true, "c96fe51edf8981d665a7b4301708648cbed3b1d17d290cbb40759b4b0781c3cf"), looks := true }, kinds := [], alts := [], laidByText := true, laidKinds := [.data, .data, .data, .data, .sentinel, .sentinel, .pinned], laidTests := true, laidLooks := .later }
def LogResizesCardSaid : Prop := Claim7.holds Tryz.pinned (.plain (OpenSpec.ofChange logResizesSpec)) logResizesCard

/-- THE TIED CARD OF 'landaulaw6.LogHoles'. -/
def logHolesCard : Claim7 := { stood := { row := logHolesRow, standIns := [], harness := (true, "c96fe51edf8981d665a7b4301708648cbed3b1d17d290cbb40759b4b0781c3cf"), looks := true }, kinds := [], alts := [], laidByText := true, laidKinds := [.data, .data, .data, .data, .sentinel, .sentinel, .pinned], laidTests := true, laidLooks := .later }
def LogHolesCardSaid : Prop := Claim7.holds Tryz.pinned (.plain (OpenSpec.ofChange logHolesSpec)) logHolesCard

/-- THE SECOND FORM's CARD OF 'landaulaw24.ModelRight'. -/
def modelRightUptoCard : Claim7 := { stood := { row := modelRightUptoRow, standIns := [], harness := (true, "c96fe51edf8981d665a7b4301708648cbed3b1d17d290cbb40759b4b0781c3cf"), looks := true }, kinds := [], alts := [], laidByText := true, laidKinds := [.data, .data, .data, .data, .sentinel, .sentinel, .pinned], laidTests := true, laidLooks := .later }
def ModelRightUptoCardSaid : Prop := Claim7.holds Tryz.pinned (.plain (OpenSpec.upto modelRightSpec)) modelRightUptoCard

/-- THE SECOND FORM's CARD OF 'landaulaw24.ModelLogs'. -/
def modelLogsUptoCard : Claim7 := { stood := { row := modelLogsUptoRow, standIns := [], harness := (true, "c96fe51edf8981d665a7b4301708648cbed3b1d17d290cbb40759b4b0781c3cf"), looks := true }, kinds := [], alts := [], laidByText := true, laidKinds := [.data, .data, .data, .data, .sentinel, .sentinel, .pinned], laidTests := true, laidLooks := .later }
def ModelLogsUptoCardSaid : Prop := Claim7.holds Tryz.pinned (.plain (OpenSpec.upto modelLogsSpec)) modelLogsUptoCard

/-- THE SECOND FORM's CARD OF 'landaulaw4.SegLines'. -/
def segLinesUptoCard : Claim7 := { stood := { row := segLinesUptoRow, standIns := [], harness := (true, "c96fe51edf8981d665a7b4301708648cbed3b1d17d290cbb40759b4b0781c3cf"), looks := true }, kinds := [], alts := [], laidByText := true, laidKinds := [.data, .data, .data, .data, .sentinel, .sentinel, .pinned], laidTests := true, laidLooks := .later }
def SegLinesUptoCardSaid : Prop := Claim7.holds Tryz.pinned (.plain (OpenSpec.upto segLinesSpec)) segLinesUptoCard

/-- THE SECOND FORM's CARD OF 'landaulaw4.SegOnce'. -/
def segOnceUptoCard : Claim7 := { stood := { row := segOnceUptoRow, standIns := [], harness := (true, "c96fe51edf8981d665a7b4301708648cbed3b1d17d290cbb40759b4b0781c3cf"), looks := true }, kinds := [], alts := [], laidByText := true, laidKinds := [.data, .data, .data, .data, .sentinel, .sentinel, .pinned], laidTests := true, laidLooks := .later }
def SegOnceUptoCardSaid : Prop := Claim7.holds Tryz.pinned (.plain (OpenSpec.upto segOnceSpec)) segOnceUptoCard

/-- THE SECOND FORM's CARD OF 'landaulaw4.SegSeals'. -/
def segSealsUptoCard : Claim7 := { stood := { row := segSealsUptoRow, standIns := [], harness := (true, "c96fe51edf8981d665a7b4301708648cbed3b1d17d290cbb40759b4b0781c3cf"), looks := true }, kinds := [], alts := [], laidByText := true, laidKinds := [.data, .data, .data, .data, .sentinel, .sentinel, .pinned], laidTests := true, laidLooks := .later }
def SegSealsUptoCardSaid : Prop := Claim7.holds Tryz.pinned (.plain (OpenSpec.upto segSealsSpec)) segSealsUptoCard

/-- THE SECOND FORM's CARD OF 'landaulaw4.SegCuts'. -/
def segCutsUptoCard : Claim7 := { stood := { row := segCutsUptoRow, standIns := [], harness := (true, "c96fe51edf8981d665a7b4301708648cbed3b1d17d290cbb40759b4b0781c3cf"), looks := true }, kinds := [], alts := [], laidByText := true, laidKinds := [.data, .data, .data, .data, .sentinel, .sentinel, .pinned], laidTests := true, laidLooks := .later }
def SegCutsUptoCardSaid : Prop := Claim7.holds Tryz.pinned (.plain (OpenSpec.upto segCutsSpec)) segCutsUptoCard

/-- THE SECOND FORM's CARD OF 'landaulaw24.ModelTrims'. -/
def modelTrimsUptoCard : Claim7 := { stood := { row := modelTrimsUptoRow, standIns := [], harness := (true, "c96fe51edf8981d665a7b4301708648cbed3b1d17d290cbb40759b4b0781c3cf"), looks := true }, kinds := [], alts := [], laidByText := true, laidKinds := [.data, .data, .data, .data, .sentinel, .sentinel, .pinned], laidTests := true, laidLooks := .later }
def ModelTrimsUptoCardSaid : Prop := Claim7.holds Tryz.pinned (.plain (OpenSpec.upto modelTrimsSpec)) modelTrimsUptoCard

/-- THE SECOND FORM's CARD OF 'landaulaw6.LogLasts'. -/
def logLastsUptoCard : Claim7 := { stood := { row := logLastsUptoRow, standIns := [], harness := (true, "c96fe51edf8981d665a7b4301708648cbed3b1d17d290cbb40759b4b0781c3cf"), looks := true }, kinds := [], alts := [], laidByText := true, laidKinds := [.data, .data, .data, .data, .sentinel, .sentinel, .pinned], laidTests := true, laidLooks := .later }
def LogLastsUptoCardSaid : Prop := Claim7.holds Tryz.pinned (.plain (OpenSpec.upto logLastsSpec)) logLastsUptoCard

/-- THE SECOND FORM's CARD OF 'landaulaw6.LogStripes'. -/
def logStripesUptoCard : Claim7 := { stood := { row := logStripesUptoRow, standIns := [], harness := (true, "c96fe51edf8981d665a7b4301708648cbed3b1d17d290cbb40759b4b0781c3cf"), looks := true }, kinds := [], alts := [], laidByText := true, laidKinds := [.data, .data, .data, .data, .sentinel, .sentinel, .pinned], laidTests := true, laidLooks := .later }
def LogStripesUptoCardSaid : Prop := Claim7.holds Tryz.pinned (.plain (OpenSpec.upto logStripesSpec)) logStripesUptoCard

/-- THE SECOND FORM's CARD OF 'landaulaw6.LogTrims'. -/
def logTrimsUptoCard : Claim7 := { stood := { row := logTrimsUptoRow, standIns := [], harness := (true, "c96fe51edf8981d665a7b4301708648cbed3b1d17d290cbb40759b4b0781c3cf"), looks := true }, kinds := [], alts := [], laidByText := true, laidKinds := [.data, .data, .data, .data, .sentinel, .sentinel, .pinned], laidTests := true, laidLooks := .later }
def LogTrimsUptoCardSaid : Prop := Claim7.holds Tryz.pinned (.plain (OpenSpec.upto logTrimsSpec)) logTrimsUptoCard

/-- THE SECOND FORM's CARD OF 'landaulaw6.LogResizes'. -/
def logResizesUptoCard : Claim7 := { stood := { row := logResizesUptoRow, standIns := [], harness := (true, "c96fe51edf8981d665a7b4301708648cbed3b1d17d290cbb40759b4b0781c3cf"), looks := true }, kinds := [], alts := [], laidByText := true, laidKinds := [.data, .data, .data, .data, .sentinel, .sentinel, .pinned], laidTests := true, laidLooks := .later }
def LogResizesUptoCardSaid : Prop := Claim7.holds Tryz.pinned (.plain (OpenSpec.upto logResizesSpec)) logResizesUptoCard

/-- THE SECOND FORM's CARD OF 'landaulaw6.LogHoles'. -/
def logHolesUptoCard : Claim7 := { stood := { row := logHolesUptoRow, standIns := [], harness := (true, "c96fe51edf8981d665a7b4301708648cbed3b1d17d290cbb40759b4b0781c3cf"), looks := true }, kinds := [], alts := [], laidByText := true, laidKinds := [.data, .data, .data, .data, .sentinel, .sentinel, .pinned], laidTests := true, laidLooks := .later }
def LogHolesUptoCardSaid : Prop := Claim7.holds Tryz.pinned (.plain (OpenSpec.upto logHolesSpec)) logHolesUptoCard
end Rows
end Go.Proofs.YtmbfcjffjgecjaaGreatDoor
