/- Records in an order in which each stands behind what it hangs on have no flaw; two that are exchanged have one, where the one hangs on the other. -/
import Derived.Test.YtmbfcjffjgecjaaGreatDoorMRightAt
import Derived.Test.YtmbfcjffjgecjaaGreatDoorMRightLift
set_option linter.unusedVariables false
set_option maxHeartbeats 0
namespace Go.Proofs.YtmbfcjffjgecjaaGreatDoor
open Go.ChangeShapes Go.WideShapes Go.ChangeAt Go.RowKit Go.Sl
theorem modelRight_closed : joinedFacts Tryz.pinned.checked.prog 3 Tryz.f3 (OpenSpec.ofChange Rows.modelRightSpec).bare Rows.modelRightRow = true := by
  unfold joinedFacts
  rw [modelRight_at1, modelRight_at2, modelRight_at3, modelRight_at4]
  kernel_rfl
theorem modelRight_row : Rows.ModelRightSaid :=
  OpenClaim.holds_of_cond 3 Tryz.f3 rfl rfl rfl rfl rfl rfl rfl ⟨rfl, rfl, rfl, rfl, rfl⟩ rfl rfl rfl rfl rfl (by kernel_rfl) Tryz.func3 modelRight_closed
    (of_decide_eq_true (by kernel_rfl)) (by unfold Func.isWrapper; rw [if_neg (of_decide_eq_false (by kernel_rfl))]; exact ⟨rfl, rfl⟩)
    (fun os started H enc _ F0 => by rw [OpenClaim.pre_eq_preRow]; exact modelRight_lifted os started H enc F0)
theorem modelRight_holds : Rows.ModelRightCardSaid :=
  Claim7.holds_tied_plain_at .later [] [.data, .data, .data, .data, .sentinel, .sentinel, .pinned] true (true, "c96fe51edf8981d665a7b4301708648cbed3b1d17d290cbb40759b4b0781c3cf") true
    modelRight_row (fun _ h => by cases h) (by kernel_rfl) (fun _ h => by cases h) modelRight_row_tie rfl ⟨rfl, rfl⟩ (by kernel_rfl) rfl
    (fun f fn hf hfn => by
      obtain rfl : f = 3 := Option.some.inj ((show Tryz.prog.funcNamed "landau/landaulaw24.ModelRight" = some 3 by kernel_rfl).symm.trans hf) |>.symm
      obtain rfl : fn = Tryz.f3 := (Option.some.inj (Tryz.func3.symm.trans hfn)).symm
      exact ⟨by kernel_rfl, fun j t ht => by
        have hall : (Tryz.f3.params.toList.all fun u => !Tryz.prog.wantsStandIn u) = true := by kernel_rfl
        have hm : t ∈ Tryz.f3.params.toList := by simpa using Array.mem_of_getElem? ht
        exact (show Tryz.prog.wantsStandIn t = false by simpa using List.all_eq_true.1 hall t hm)⟩)
    (by kernel_rfl)
#print axioms modelRight_holds
end Go.Proofs.YtmbfcjffjgecjaaGreatDoor
