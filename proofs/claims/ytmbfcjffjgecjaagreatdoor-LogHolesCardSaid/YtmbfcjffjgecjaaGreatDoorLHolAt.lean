/- A part of a proof: what functions of the program compute. -/
import Derived.Test.YtmbfcjffjgecjaaGreatDoorRowE
set_option linter.unusedVariables false
set_option maxHeartbeats 0
namespace Go.Proofs.YtmbfcjffjgecjaaGreatDoor
open Go.ChangeShapes Go.WideShapes Go.ChangeAt Go.RowKit Go.Sl
theorem logHoles_at1 : (Rows.logHolesRow.inPlace == Tryz.pinned.checked.prog.inPlace 14) = true := by kernel_rfl
theorem logHoles_at2 : (Rows.logHolesRow.unfollowed == Tryz.pinned.checked.prog.unfollowed 14) = true := by kernel_rfl
theorem logHoles_at3 : (Rows.logHolesRow.recurses == Tryz.pinned.checked.prog.recurses 14) = true := by kernel_rfl
theorem logHoles_at4 : (Rows.logHolesRow.named == Tryz.pinned.checked.prog.varsNamed 14) = true := by kernel_rfl
end Go.Proofs.YtmbfcjffjgecjaaGreatDoor
