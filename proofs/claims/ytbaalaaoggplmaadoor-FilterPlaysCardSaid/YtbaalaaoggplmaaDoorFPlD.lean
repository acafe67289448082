/- A part of a proof: what functions of the program compute. -/
import Derived.Test.YtbaalaaoggplmaaDoorFRef3D
import Derived.Test.YtbaalaaoggplmaaDoorFTwinD
import Derived.Test.YtbaalaaoggplmaaDoorLib1
set_option linter.unusedVariables false
set_option linter.unusedSimpArgs false
set_option maxHeartbeats 0
namespace Go.Proofs
attribute [local irreducible] Go.Sl.SO Go.Sl.SQ Go.Sl.SR Go.Sl.SC Go.Sl.SX Go.Sl.SY Go.Sl.eadr Go.Sl.slAt Go.Sl.sqAt Go.Sl.pts Go.Sl.rod Go.Sl.ob Go.Sl.ex Go.Sl.big Go.Sl.pr Go.Sl.tabs Go.Sl.mpAt
open Go.Sl

theorem few1_does (r : Rc) (h : Pl) : Does Tryd.prog 38 [RRec.val r h] [] [] Unit (fun _ => True) (fun _ => .bool (fewR r)) (fun _ => []) := fewr_does r h
theorem few_does (A : Option Addr) (n c : Nat) (l : List Ac) : Does Tryd.prog 20 [.slice A n c] [slAt RActC A n l] [] Unit (fun _ => True) (fun _ => .bool (decide (l.length ≤ 80) && l.all fun x => fewR x.r)) (fun _ => []) := by
  refine Does.of Tryd.call20 Tryd.func20 rfl rfl rfl (all_cons (pers_slAt _ _ _ _) all_nil) rfl ?_
  refine SK.know (sl_len (ρ := RActC) (A := A) (n := n) (l := l) (by repeat constructor)) ?_
  rintro ⟨rfl, hlim, -⟩
  by_cases h80 : l.length ≤ 80
  case neg =>
    repeat' (first
    | (refine SO.pure rfl rfl rfl ?_)
    | (refine SO.nil ?_)
    | (refine SK.seq ?_)
    | (refine SK.region ?_)
    | (refine SK.condTP rfl (by first | assumption | (simp only [decide_eq_true_eq, decide_eq_false_iff_not, Bool.not_eq_true', Bool.not_eq_false', Bool.not_true, Bool.not_false, Bool.not_not]; omega)) ?_)
    | fail)
    rw [decide_eq_true (show (80 : Int) < (l.length : Int) by omega), decide_eq_false h80]
    skip
    exact SK.retX (.tmp rfl .nil) () trivial rfl (by repeat constructor)
  repeat' (first
    | (refine SO.pure rfl rfl rfl ?_)
    | (refine SO.nil ?_)
    | (refine SK.seq ?_)
    | (refine SK.region ?_)
    | (refine SK.skip ?_)
    | (refine SK.block ?_)
    | (refine SK.condFP rfl (by first | assumption | (simp only [decide_eq_true_eq, decide_eq_false_iff_not, Bool.not_eq_true', Bool.not_eq_false', Bool.not_true, Bool.not_false, Bool.not_not]; omega)) ?_)
    | fail)
  rw [decide_eq_false (show ¬ (80 : Int) < (l.length : Int) by omega), decide_eq_true h80]
  skip
  refine SK.loop (X := {i : Nat // i ≤ l.length ∧ (l.take i).all (fun x => fewR x.r) = true}) (fun i => [(3, .int .i64 (i.1 : Int)), (0, .slice A l.length c)]) (fun i => [slAt RActC A l.length l]) (fun i => l.length - i.1) ⟨0, Nat.zero_le _, by simp⟩ (by repeat constructor) (ent_append_of_takes (by repeat constructor)) ?_
  rintro ⟨i, hi, hall⟩
  dsimp only
  have hwi := wrapn (show i ≤ lim by omega)
  rcases Nat.lt_or_ge i l.length with hil | hil
  · have hd1 : decide ((i : Int) < (l.length : Int)) = true := decide_eq_true (by omega)
    obtain ⟨u, hu⟩ : ∃ u, l[i]? = some u := ⟨_, List.getElem?_eq_getElem hil⟩
    have hf : ∀ h, Does Tryd.prog 38 [RRec.val u.r h] [] [] Unit (fun _ => True) (fun _ => .bool (fewR u.r)) (fun _ => []) := fun h => few1_does u.r h
    repeat' (first
    | (refine SO.indexH rfl rfl (by repeat constructor) rfl rfl rfl rfl (by assumption) ?_)
    | (refine SO.pure rfl rfl rfl ?_)
    | (refine SO.nil ?_)
    | (refine SO.efield rfl rfl rfl rfl rfl ?_)
    | (refine SK.seq ?_)
    | (refine SK.region ?_)
    | (refine SK.skip ?_)
    | (refine SK.block ?_)
    | (refine SO.eload rfl (by repeat constructor) (by assumption) rfl (by rfl) (by exact fun _ => ⟨rfl, fun h => by cases h⟩) rfl (fun hid => ?_))
    | (refine SK.condTP rfl (by first | assumption | (simp only [decide_eq_true_eq, decide_eq_false_iff_not, Bool.not_eq_true', Bool.not_eq_false', Bool.not_true, Bool.not_false, Bool.not_not]; omega)) ?_)
    | fail)
    rw [hd1]
    repeat' (first
    | (refine SO.call (hf _) rfl rfl rfl (by repeat constructor) (by repeat constructor) rfl (fun x hx => ?_))
    | (refine SO.pure rfl rfl rfl ?_)
    | (refine SO.nil ?_)
    | fail)
    cases hq : fewR u.r with
    | false =>
      have hno : (l.all fun x => fewR x.r) = false := by
        rw [Bool.eq_false_iff]; intro h
        have := List.all_eq_true.1 h u (List.mem_of_getElem? hu)
        rw [hq] at this; cases this
      rw [hno]
      repeat' (first
    | (refine SO.pure rfl rfl rfl ?_)
    | (refine SO.nil ?_)
    | (refine SK.seq ?_)
    | (refine SK.region ?_)
    | (refine SK.condT rfl ?_)
    | fail)
      exact SK.retX (.tmp rfl .nil) () trivial rfl (by repeat constructor)
    | true =>
      repeat' (first
    | (refine SO.pure rfl rfl rfl ?_)
    | (refine SO.nil ?_)
    | (refine SK.region ?_)
    | (refine SK.condF rfl ?_)
    | (refine SK.skip ?_)
    | (refine SK.blk ?_)
    | fail)
      refine SK.inv ⟨⟨i + 1, by omega, ?_⟩, ?_, ?_, ?_⟩
      · rw [List.take_add_one, hu, List.all_append, hall]; simp [hq]
      · show l.length - (i + 1) < l.length - i
        omega
      · rw [hwi]; repeat constructor
      · exact ent_append_of_takes (by repeat constructor)
  · have hd1 : decide ((i : Int) < (l.length : Int)) = false := decide_eq_false (by omega)
    rw [List.take_of_length_le hil] at hall
    rw [hall]
    repeat' (first
    | (refine SO.pure rfl rfl rfl ?_)
    | (refine SO.nil ?_)
    | (refine SK.seq ?_)
    | (refine SK.region ?_)
    | (refine SK.exit rfl ?_)
    | (refine SK.condFP rfl (by first | assumption | (simp only [decide_eq_true_eq, decide_eq_false_iff_not, Bool.not_eq_true', Bool.not_eq_false', Bool.not_true, Bool.not_false, Bool.not_not]; omega)) ?_)
    | fail)
    rw [hd1]
    skip
    exact SK.retX (.tmp rfl .nil) () trivial rfl (by repeat constructor)
end Go.Proofs
