/- The head goes only as far as all stripes have synced. -/
import Derived.Test.YtmbfcjffjgecjaaGreatDoorLStrAt
import Derived.Test.YtmbfcjffjgecjaaGreatDoorLStrLift
set_option linter.unusedVariables false
set_option maxHeartbeats 0
namespace Go.Proofs.YtmbfcjffjgecjaaGreatDoor
open Go.ChangeShapes Go.WideShapes Go.ChangeAt Go.RowKit Go.Sl
theorem logStripes_closed : joinedFacts Tryz.pinned.checked.prog 11 Tryz.f11 (OpenSpec.ofChange Rows.logStripesSpec).bare Rows.logStripesRow = true := by
  unfold joinedFacts
  rw [logStripes_at1, logStripes_at2, logStripes_at3, logStripes_at4]
  kernel_rfl
theorem logStripes_row : Rows.LogStripesSaid :=
  OpenClaim.holds_of_cond 11 Tryz.f11 rfl rfl rfl rfl rfl rfl rfl ⟨rfl, rfl, rfl, rfl, rfl⟩ rfl rfl rfl rfl rfl (by kernel_rfl) Tryz.func11 logStripes_closed
    (of_decide_eq_true (by kernel_rfl)) (by unfold Func.isWrapper; rw [if_neg (of_decide_eq_false (by kernel_rfl))]; exact ⟨rfl, rfl⟩)
    (fun os started H enc _ F0 => by rw [OpenClaim.pre_eq_preRow]; exact logStripes_lifted os started H enc F0)
theorem logStripes_holds : Rows.LogStripesCardSaid :=
  Claim7.holds_tied_plain_at .later [] [.data, .data, .data, .data, .sentinel, .sentinel, .pinned] true (true, "c96fe51edf8981d665a7b4301708648cbed3b1d17d290cbb40759b4b0781c3cf") true
    logStripes_row (fun _ h => by cases h) (by kernel_rfl) (fun _ h => by cases h) logStripes_row_tie rfl ⟨rfl, rfl⟩ (by kernel_rfl) rfl
    (fun f fn hf hfn => by
      obtain rfl : f = 11 := Option.some.inj ((show Tryz.prog.funcNamed "landau/landaulaw6.LogStripes" = some 11 by kernel_rfl).symm.trans hf) |>.symm
      obtain rfl : fn = Tryz.f11 := (Option.some.inj (Tryz.func11.symm.trans hfn)).symm
      exact ⟨by kernel_rfl, fun j t ht => by
        have hall : (Tryz.f11.params.toList.all fun u => !Tryz.prog.wantsStandIn u) = true := by kernel_rfl
        have hm : t ∈ Tryz.f11.params.toList := by simpa using Array.mem_of_getElem? ht
        exact (show Tryz.prog.wantsStandIn t = false by simpa using List.all_eq_true.1 hall t hm)⟩)
    (by kernel_rfl)
#print axioms logStripes_holds
end Go.Proofs.YtmbfcjffjgecjaaGreatDoor
