/- A part of a proof: what functions of the program compute. -/
import Derived.Test.YtmbfcjffjgecjaaGreatDoorRowE
set_option linter.unusedVariables false
set_option maxHeartbeats 0
namespace Go.Proofs.YtmbfcjffjgecjaaGreatDoor
open Go.ChangeShapes Go.WideShapes Go.ChangeAt Go.RowKit Go.Sl
theorem logTrims_at1 : (Rows.logTrimsRow.inPlace == Tryz.pinned.checked.prog.inPlace 12) = true := by kernel_rfl
theorem logTrims_at2 : (Rows.logTrimsRow.unfollowed == Tryz.pinned.checked.prog.unfollowed 12) = true := by kernel_rfl
theorem logTrims_at3 : (Rows.logTrimsRow.recurses == Tryz.pinned.checked.prog.recurses 12) = true := by kernel_rfl
theorem logTrims_at4 : (Rows.logTrimsRow.named == Tryz.pinned.checked.prog.varsNamed 12) = true := by kernel_rfl
end Go.Proofs.YtmbfcjffjgecjaaGreatDoor
