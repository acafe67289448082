/- A part of a proof: what functions of the program compute. -/
import Derived.Test.YtmbfcjffjgecjaaGreatDoorRowE
set_option linter.unusedVariables false
set_option maxHeartbeats 0
namespace Go.Proofs.YtmbfcjffjgecjaaGreatDoor
open Go.ChangeShapes Go.WideShapes Go.ChangeAt Go.RowKit Go.Sl
theorem logStripes_at1 : (Rows.logStripesRow.inPlace == Tryz.pinned.checked.prog.inPlace 11) = true := by kernel_rfl
theorem logStripes_at2 : (Rows.logStripesRow.unfollowed == Tryz.pinned.checked.prog.unfollowed 11) = true := by kernel_rfl
theorem logStripes_at3 : (Rows.logStripesRow.recurses == Tryz.pinned.checked.prog.recurses 11) = true := by kernel_rfl
theorem logStripes_at4 : (Rows.logStripesRow.named == Tryz.pinned.checked.prog.varsNamed 11) = true := by kernel_rfl
end Go.Proofs.YtmbfcjffjgecjaaGreatDoor
