/- Whatever a crash keeps, all that was below the head is there again, each at its position. -/
import Derived.Test.YtmbfcjffjgecjaaGreatDoorLLasAt
import Derived.Test.YtmbfcjffjgecjaaGreatDoorLLasLift
set_option linter.unusedVariables false
set_option maxHeartbeats 0
namespace Go.Proofs.YtmbfcjffjgecjaaGreatDoor
open Go.ChangeShapes Go.WideShapes Go.ChangeAt Go.RowKit Go.Sl
theorem logLasts_closed : joinedFacts Tryz.pinned.checked.prog 10 Tryz.f10 (OpenSpec.ofChange Rows.logLastsSpec).bare Rows.logLastsRow = true := by
  unfold joinedFacts
  rw [logLasts_at1, logLasts_at2, logLasts_at3, logLasts_at4]
  kernel_rfl
theorem logLasts_row : Rows.LogLastsSaid :=
  OpenClaim.holds_of_cond 10 Tryz.f10 rfl rfl rfl rfl rfl rfl rfl ⟨rfl, rfl, rfl, rfl, rfl⟩ rfl rfl rfl rfl rfl (by kernel_rfl) Tryz.func10 logLasts_closed
    (of_decide_eq_true (by kernel_rfl)) (by unfold Func.isWrapper; rw [if_neg (of_decide_eq_false (by kernel_rfl))]; exact ⟨rfl, rfl⟩)
    (fun os started H enc _ F0 => by rw [OpenClaim.pre_eq_preRow]; exact logLasts_lifted os started H enc F0)
theorem logLasts_holds : Rows.LogLastsCardSaid :=
  Claim7.holds_tied_plain_at .later [] [.data, .data, .data, .data, .sentinel, .sentinel, .pinned] true (true, "c96fe51edf8981d665a7b4301708648cbed3b1d17d290cbb40759b4b0781c3cf") true
    logLasts_row (fun _ h => by cases h) (by kernel_rfl) (fun _ h => by cases h) logLasts_row_tie rfl ⟨rfl, rfl⟩ (by kernel_rfl) rfl
    (fun f fn hf hfn => by
      obtain rfl : f = 10 := Option.some.inj ((show Tryz.prog.funcNamed "landau/landaulaw6.LogLasts" = some 10 by kernel_rfl).symm.trans hf) |>.symm
      obtain rfl : fn = Tryz.f10 := (Option.some.inj (Tryz.func10.symm.trans hfn)).symm
      exact ⟨by kernel_rfl, fun j t ht => by
        have hall : (Tryz.f10.params.toList.all fun u => !Tryz.prog.wantsStandIn u) = true := by kernel_rfl
        have hm : t ∈ Tryz.f10.params.toList := by simpa using Array.mem_of_getElem? ht
        exact (show Tryz.prog.wantsStandIn t = false by simpa using List.all_eq_true.1 hall t hm)⟩)
    (by kernel_rfl)
#print axioms logLasts_holds
end Go.Proofs.YtmbfcjffjgecjaaGreatDoor
