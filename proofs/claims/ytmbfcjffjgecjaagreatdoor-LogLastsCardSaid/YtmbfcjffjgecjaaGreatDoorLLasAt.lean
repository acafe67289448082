/- A part of a proof: what functions of the program compute. -/
import Derived.Test.YtmbfcjffjgecjaaGreatDoorRowE
set_option linter.unusedVariables false
set_option maxHeartbeats 0
namespace Go.Proofs.YtmbfcjffjgecjaaGreatDoor
open Go.ChangeShapes Go.WideShapes Go.ChangeAt Go.RowKit Go.Sl
theorem logLasts_at1 : (Rows.logLastsRow.inPlace == Tryz.pinned.checked.prog.inPlace 10) = true := by kernel_rfl
theorem logLasts_at2 : (Rows.logLastsRow.unfollowed == Tryz.pinned.checked.prog.unfollowed 10) = true := by kernel_rfl
theorem logLasts_at3 : (Rows.logLastsRow.recurses == Tryz.pinned.checked.prog.recurses 10) = true := by kernel_rfl
theorem logLasts_at4 : (Rows.logLastsRow.named == Tryz.pinned.checked.prog.varsNamed 10) = true := by kernel_rfl
end Go.Proofs.YtmbfcjffjgecjaaGreatDoor
