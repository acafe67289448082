/- A part of a proof: what functions of the program compute. -/
import Derived.Test.YtmbfcjffjgecjaaGreatDoorRowE
set_option linter.unusedVariables false
set_option maxHeartbeats 0
namespace Go.Proofs.YtmbfcjffjgecjaaGreatDoor
open Go.ChangeShapes Go.WideShapes Go.ChangeAt Go.RowKit Go.Sl
theorem modelRight_at1 : (Rows.modelRightRow.inPlace == Tryz.pinned.checked.prog.inPlace 3) = true := by kernel_rfl
theorem modelRight_at2 : (Rows.modelRightRow.unfollowed == Tryz.pinned.checked.prog.unfollowed 3) = true := by kernel_rfl
theorem modelRight_at3 : (Rows.modelRightRow.recurses == Tryz.pinned.checked.prog.recurses 3) = true := by kernel_rfl
theorem modelRight_at4 : (Rows.modelRightRow.named == Tryz.pinned.checked.prog.varsNamed 3) = true := by kernel_rfl
end Go.Proofs.YtmbfcjffjgecjaaGreatDoor
