/- A part of a proof: what functions of the program compute. -/
import Derived.Test.YtmbfcjffjgecjaaGreatDoorRefE
import Derived.Test.YtmbfcjffjgecjaaGreatDoorLib1
import Derived.Test.YtmbfcjffjgecjaaGreatDoorTabE
set_option linter.unusedVariables false
set_option linter.unusedSimpArgs false
set_option maxHeartbeats 0
namespace Go.Proofs
attribute [local irreducible] Go.Sl.SO Go.Sl.SQ Go.Sl.SR Go.Sl.SC Go.Sl.SX Go.Sl.SY Go.Sl.eadr Go.Sl.slAt Go.Sl.sqAt Go.Sl.pts Go.Sl.rod Go.Sl.ob Go.Sl.ex Go.Sl.big Go.Sl.pr Go.Sl.tabs Go.Sl.mpAt
open Go.Sl
theorem rcell_does (ky vl : ByteArray) (hv : vl.size ≤ lim) : Does Tryz.prog 177 [.string ky, .string vl] [] [] Unit (fun _ => True) (fun _ => .int .i64 (cellBad ky vl)) (fun _ => []) := by
  refine Does.of Tryz.call177 Tryz.func177 rfl rfl rfl all_nil rfl ?_
  repeat' (first
 | refine SO.pure rfl rfl rfl ?_
 | refine SO.nil ?_
 | refine SO.guardY rfl rfl ?_
 | refine SO.guardN rfl rfl rfl ?_
 | refine SK.seq ?_
 | refine SK.region ?_
 | refine SK.condT rfl ?_
 | refine SK.skip ?_
 | refine SK.block ?_
 | refine SO.guard rfl rfl rfl (fun h => ?_) (fun h => ?_)
 | refine SK.cond rfl (fun h => ?_) (fun h => ?_)
 | fail)
  all_goals try simp only [decide_eq_true_eq, decide_eq_false_iff_not, Bool.not_true, Bool.not_false, Bool.not_eq_true', Bool.not_eq_false'] at *
  all_goals try (
    rw [show cellBad ky vl = 3 by unfold cellBad; rw [if_pos (by omega)]]
    exact SK.retX (.tmp rfl .nil) () trivial rfl (by repeat constructor))
  have hk8 : ky.size ≤ 8 := by omega
  refine SK.loop (X := {i : Nat // i ≤ ky.size ∧ ((bytesI ky).take i).all nameI = true}) (fun i => [(5, .int .i64 (i.1 : Int)), (0, .string ky), (1, .string vl)]) (fun i => []) (fun i => ky.size - i.1) ⟨0, by omega, by simp⟩ (by repeat constructor) (ent_append_of_takes (by repeat constructor)) ?_
  rintro ⟨i, hi, hall⟩
  dsimp only
  have hwi := wrapn (show i ≤ lim by unfold lim; omega)
  repeat' (first
 | refine SO.sidxH rfl rfl rfl rfl rfl (by assumption) ?_
 | refine SO.pure rfl rfl rfl ?_
 | refine SO.nil ?_
 | refine SO.guardY rfl rfl ?_
 | refine SO.guardN rfl rfl rfl ?_
 | refine SO.guardU rfl rfl rfl rfl ?_
 | refine SK.seq ?_
 | refine SK.region ?_
 | refine SK.condT rfl ?_
 | refine SK.condF rfl ?_
 | refine SK.skip ?_
 | refine SK.block ?_
 | refine SK.blk ?_
 | refine SK.exit rfl ?_
 | refine SO.sidx rfl rfl rfl rfl rfl (by first | assumption | omega | exact Nat.le_of_ble_eq_true rfl | (simp only [decide_eq_true_eq, decide_eq_false_iff_not] at *; omega)) (fun v hv => ?_)
 | refine SO.guard rfl rfl rfl (fun h => ?_) (fun h => ?_)
 | refine SK.cond rfl (fun h => ?_) (fun h => ?_)
 | fail)
  all_goals try simp only [decide_eq_true_eq, decide_eq_false_iff_not, Bool.not_true, Bool.not_false, Bool.not_eq_true', Bool.not_eq_false'] at *
  all_goals try first
    | (refine SK.inv ⟨⟨i + 1, by omega, all_take_step hall (by assumption) (by simp [nameI]; omega)⟩, ?_, ?_, ?_⟩
       · show ky.size - (i + 1) < ky.size - i
         omega
       · rw [hwi]; repeat constructor
       · exact ent_append_of_takes (by repeat constructor))
    | (rw [show cellBad ky vl = 3 by
         unfold cellBad
         rw [if_pos (.inr (.inr (by rw [nameOk_bytes]; exact all_not (by assumption) (by simp [nameI]; omega))))]]
       exact SK.retX (.tmp rfl .nil) () trivial rfl (by repeat constructor))
  have hnm : nameOk ky = true := by rw [nameOk_bytes]; exact all_take_all hall (by rw [bytesI_len]; omega)
  have hcb : cellBad ky vl = if valOk vl = false then 2 else if 16 < vl.size then 4 else 0 := by unfold cellBad; rw [if_neg (by rintro (h | h | h) <;> first | omega | (rw [hnm] at h; cases h))]
  rw [hcb]
  refine SK.loop (X := {i : Nat // i ≤ vl.size ∧ ((bytesI vl).take i).all (fun c => decide (33 ≤ c) && decide (c ≤ 126)) = true}) (fun i => [(6, .int .i64 (i.1 : Int)), (1, .string vl)]) (fun i => []) (fun i => vl.size - i.1) ⟨0, by omega, by simp⟩ (by repeat constructor) (ent_append_of_takes (by repeat constructor)) ?_
  rintro ⟨q, hq, hall2⟩
  dsimp only
  have hwq := wrapn (show q ≤ lim by omega)
  repeat' (first
 | refine SO.sidxH rfl rfl rfl rfl rfl (by assumption) ?_
 | refine SO.pure rfl rfl rfl ?_
 | refine SO.nil ?_
 | refine SO.guardY rfl rfl ?_
 | refine SO.guardN rfl rfl rfl ?_
 | refine SK.seq ?_
 | refine SK.region ?_
 | refine SK.condT rfl ?_
 | refine SK.skip ?_
 | refine SK.block ?_
 | refine SK.blk ?_
 | refine SK.exit rfl ?_
 | refine SO.sidx rfl rfl rfl rfl rfl (by first | assumption | omega | exact Nat.le_of_ble_eq_true rfl | (simp only [decide_eq_true_eq, decide_eq_false_iff_not] at *; omega)) (fun v hv => ?_)
 | refine SO.guard rfl rfl rfl (fun h => ?_) (fun h => ?_)
 | refine SK.cond rfl (fun h => ?_) (fun h => ?_)
 | fail)
  all_goals try simp only [decide_eq_true_eq, decide_eq_false_iff_not, Bool.not_true, Bool.not_false, Bool.not_eq_true', Bool.not_eq_false'] at *
  all_goals try first
    | (refine SK.inv ⟨⟨q + 1, by omega, all_take_step hall2 (by assumption) (by simp; omega)⟩, ?_, ?_, ?_⟩
       · show vl.size - (q + 1) < vl.size - q
         omega
       · rw [hwq]; repeat constructor
       · exact ent_append_of_takes (by repeat constructor))
    | (rw [if_pos (show valOk vl = false by unfold valOk; exact all_not (by assumption) (by simp; omega))]
       exact SK.retX (.tmp rfl .nil) () trivial rfl (by repeat constructor))
    | (rw [if_neg (show ¬ valOk vl = false by rw [show valOk vl = true from all_take_all hall2 (by rw [bytesI_len]; omega)]; simp)]
       first
         | (rw [if_pos (by omega)]; exact SK.retX (.tmp rfl .nil) () trivial rfl (by repeat constructor))
         | (rw [if_neg (by omega)]; exact SK.retX (.tmp rfl .nil) () trivial rfl (by repeat constructor)))
theorem rcheck_does (r : Rc) (h : Pl) (m : Int) (hv : r.val.size ≤ lim) : Does Tryz.prog 154 [RRec.val r h, .int .i64 m] [slAt RI h.1 r.dep.length r.dep] [] Unit (fun _ => True) (fun _ => .int .i64 (checkR r m)) (fun _ => []) := by
  refine Does.of Tryz.call154 Tryz.func154 rfl rfl rfl (all_cons (pers_slAt _ _ _ _) all_nil) rfl ?_
  rw [checkR_cell]
  repeat' (first
 | refine SO.call (rcheckv_does _ _ _ _ _) rfl rfl rfl (by repeat constructor) (by repeat constructor) rfl (fun x hx => ?_)
 | refine SO.call (rget_does _ _ _ _ _) rfl rfl rfl (by repeat constructor) (by repeat constructor) rfl (fun x hx => ?_)
 | refine SO.call (rcell_does r.key r.val hv) rfl rfl rfl (by repeat constructor) (by repeat constructor) rfl (fun x hx => ?_)
 | refine SO.pure rfl rfl rfl ?_
 | refine SO.nil ?_
 | refine SO.guardY rfl rfl ?_
 | refine SO.guardN rfl rfl rfl ?_
 | refine SO.load rfl (by repeat constructor) rfl (by rfl) (by exact ⟨rfl, by first | exact fun _ => rfl | exact (fun h => by cases h)⟩) rfl ?_
 | refine SK.seq ?_
 | refine SK.region ?_
 | refine SK.condT rfl ?_
 | refine SK.skip ?_
 | refine SO.box rfl rfl rfl (fun b => ?_)
 | refine SK.regionX 6 (.item 0 0 (.item 0 2 (.item 0 5 (.item 0 1 (.item 0 3 (.item 0 6 (.item 1 4 (.item 0 7 .nil)))))))) [] .nil (by repeat (first | exact .nil | apply PersSub.s | apply PersSub.t | apply PersSub.p | apply PersSub.r | apply PersSub.skip)) (by kernel_rfl) (by kernel_rfl) (fun _ _ _ h => h) ?_
 | refine SX.tail (by rfl) (by repeat (first | exact .nil | apply DropP.s | apply DropP.t | apply DropP.p | apply DropP.r | apply DropP.keep)) ?_
 | refine SX.pure rfl rfl rfl ?_
 | refine SX.load rfl (by repeat constructor) rfl (by rfl) (by exact ⟨rfl, by first | exact fun _ => rfl | exact (fun h => by cases h)⟩) rfl ?_
 | refine SX.step rfl rfl ?_
 | refine SK.invY ?_
 | refine SY.shareGo (by repeat (first | exact .nil | apply PersSub.s | apply PersSub.t | apply PersSub.p | apply PersSub.r | apply PersSub.skip)) ?_
 | refine SO.guard rfl rfl rfl (fun h => ?_) (fun h => ?_)
 | refine SK.cond rfl (fun h => ?_) (fun h => ?_)
 | fail)
  all_goals try simp only [decide_eq_true_eq, decide_eq_false_iff_not, Bool.not_true, Bool.not_false, Bool.not_eq_true', Bool.not_eq_false'] at *
  all_goals refine SK.retX (.tmp rfl .nil) () trivial (congrArg (Value.int .i64) ?_) (by repeat constructor)
  all_goals first
    | rw [if_pos (by omega)]
    | rw [if_neg (by omega), if_pos (by omega)]
    | rw [if_neg (by omega), if_neg (by omega), if_pos (by omega)]
    | rw [if_neg (by omega), if_neg (by omega), if_neg (by omega)]
end Go.Proofs
