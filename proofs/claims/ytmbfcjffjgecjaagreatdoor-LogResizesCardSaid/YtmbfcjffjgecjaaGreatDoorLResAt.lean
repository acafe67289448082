/- A part of a proof: what functions of the program compute. -/
import Derived.Test.YtmbfcjffjgecjaaGreatDoorRowE
set_option linter.unusedVariables false
set_option maxHeartbeats 0
namespace Go.Proofs.YtmbfcjffjgecjaaGreatDoor
open Go.ChangeShapes Go.WideShapes Go.ChangeAt Go.RowKit Go.Sl
theorem logResizes_at1 : (Rows.logResizesRow.inPlace == Tryz.pinned.checked.prog.inPlace 13) = true := by kernel_rfl
theorem logResizes_at2 : (Rows.logResizesRow.unfollowed == Tryz.pinned.checked.prog.unfollowed 13) = true := by kernel_rfl
theorem logResizes_at3 : (Rows.logResizesRow.recurses == Tryz.pinned.checked.prog.recurses 13) = true := by kernel_rfl
theorem logResizes_at4 : (Rows.logResizesRow.named == Tryz.pinned.checked.prog.varsNamed 13) = true := by kernel_rfl
end Go.Proofs.YtmbfcjffjgecjaaGreatDoor
