/- A part of a proof: what functions of the program compute. -/
import Derived.Test.YtmbfcjffjgecjaaGreatDoorRowE
set_option linter.unusedVariables false
set_option maxHeartbeats 0
namespace Go.Proofs.YtmbfcjffjgecjaaGreatDoor
open Go.ChangeShapes Go.WideShapes Go.ChangeAt Go.RowKit Go.Sl
theorem modelLogs_at1 : (Rows.modelLogsRow.inPlace == Tryz.pinned.checked.prog.inPlace 4) = true := by kernel_rfl
theorem modelLogs_at2 : (Rows.modelLogsRow.unfollowed == Tryz.pinned.checked.prog.unfollowed 4) = true := by kernel_rfl
theorem modelLogs_at3 : (Rows.modelLogsRow.recurses == Tryz.pinned.checked.prog.recurses 4) = true := by kernel_rfl
theorem modelLogs_at4 : (Rows.modelLogsRow.named == Tryz.pinned.checked.prog.varsNamed 4) = true := by kernel_rfl
end Go.Proofs.YtmbfcjffjgecjaaGreatDoor
