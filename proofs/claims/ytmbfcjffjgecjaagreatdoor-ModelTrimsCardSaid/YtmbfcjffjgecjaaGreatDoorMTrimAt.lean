/- A part of a proof: what functions of the program compute. -/
import Derived.Test.YtmbfcjffjgecjaaGreatDoorRowE
set_option linter.unusedVariables false
set_option maxHeartbeats 0
namespace Go.Proofs.YtmbfcjffjgecjaaGreatDoor
open Go.ChangeShapes Go.WideShapes Go.ChangeAt Go.RowKit Go.Sl
theorem modelTrims_at1 : (Rows.modelTrimsRow.inPlace == Tryz.pinned.checked.prog.inPlace 9) = true := by kernel_rfl
theorem modelTrims_at2 : (Rows.modelTrimsRow.unfollowed == Tryz.pinned.checked.prog.unfollowed 9) = true := by kernel_rfl
theorem modelTrims_at3 : (Rows.modelTrimsRow.recurses == Tryz.pinned.checked.prog.recurses 9) = true := by kernel_rfl
theorem modelTrims_at4 : (Rows.modelTrimsRow.named == Tryz.pinned.checked.prog.varsNamed 9) = true := by kernel_rfl
end Go.Proofs.YtmbfcjffjgecjaaGreatDoor
