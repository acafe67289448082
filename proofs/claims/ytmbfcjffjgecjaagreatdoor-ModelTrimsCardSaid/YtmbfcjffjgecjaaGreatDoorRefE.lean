/- A part of a proof: what functions of the program compute. -/
import Derived.Test.YtmbfcjffjgecjaaGreatDoorLib1
import Derived.Test.YtmbfcjffjgecjaaGreatDoorTabE
set_option linter.unusedVariables false
set_option linter.unusedSimpArgs false
set_option maxHeartbeats 0
namespace Go.Proofs
attribute [local irreducible] Go.Sl.SO Go.Sl.SQ Go.Sl.SR Go.Sl.SC Go.Sl.SX Go.Sl.SY Go.Sl.eadr Go.Sl.slAt Go.Sl.sqAt Go.Sl.pts Go.Sl.rod Go.Sl.ob Go.Sl.ex Go.Sl.big Go.Sl.pr Go.Sl.tabs Go.Sl.mpAt
open Go.Sl
theorem rget_does (A : Option Addr) (n c : Nat) (l : List Int) (i : Int) : Does Tryz.prog 18 [.slice A n c, .int .i64 i] [slAt RI A n l] [] Unit (fun _ => True) (fun _ => .int .i64 (getI l i)) (fun _ => []) := by
  refine Does.of Tryz.call18 Tryz.func18 rfl rfl rfl (all_cons (pers_slAt _ _ _ _) all_nil) rfl ?_
  refine SK.know (sl_len (ρ := RI) (A := A) (n := n) (l := l) (by repeat constructor)) ?_
  rintro ⟨rfl, hlim, -⟩
  by_cases h1 : i < 0
  · repeat' (first
 | refine SO.pure rfl rfl rfl ?_
 | refine SO.nil ?_
 | refine SO.guardN rfl rfl rfl ?_
 | refine SK.seq ?_
 | refine SK.region ?_
 | refine SK.condT rfl ?_
 | refine SO.guardNP rfl rfl rfl (by first | assumption | (simp only [Go.Sl.bl]; omega)) ?_
 | fail)
    all_goals first
      | (exfalso; simp at *; omega)
      | (refine SK.retX (.tmp rfl .nil) () trivial ?_ (by repeat constructor)
         simp [tupV, getI, h1])
  · obtain ⟨j, rfl⟩ := Int.eq_ofNat_of_zero_le (Int.not_lt.1 h1)
    by_cases hj : j < l.length
    · repeat' (first
 | refine SO.pure rfl rfl rfl ?_
 | refine SO.nil ?_
 | refine SO.guardY rfl rfl ?_
 | refine SO.index rfl rfl (by repeat constructor) rfl rfl rfl rfl (by first | assumption | omega | exact Nat.le_of_ble_eq_true rfl | (simp only [decide_eq_true_eq, decide_eq_false_iff_not] at *; omega)) (fun v hv => ?_)
 | refine SO.eloadW rfl (by repeat constructor) (by assumption) rfl (by rfl) rfl (by rfl) rfl (fun hid => ?_)
 | refine SK.seq ?_
 | refine SK.region ?_
 | refine SK.skip ?_
 | refine SK.condFP rfl (by first | assumption | (simp only [Go.Sl.bl]; omega)) ?_
 | fail)
      all_goals try (exfalso; simp at *; omega)
      refine SK.retX (.tmp rfl .nil) () trivial ?_ (by repeat constructor)
      show Value.int .i64 v = _
      rw [getI, if_neg (by omega)]
      simp [List.getD, hv]
    · repeat' (first
 | refine SO.pure rfl rfl rfl ?_
 | refine SO.nil ?_
 | refine SO.guardY rfl rfl ?_
 | refine SK.seq ?_
 | refine SK.region ?_
 | refine SK.condTP rfl (by first | assumption | (simp only [Go.Sl.bl]; omega)) ?_
 | fail)
      all_goals try (exfalso; simp at *; omega)
      refine SK.retX (.tmp rfl .nil) () trivial ?_ (by repeat constructor)
      simp [tupV, getI, List.getD, List.getElem?_eq_none (Nat.le_of_not_lt hj)]
theorem rcov_does (A B : Option Addr) (n c m e : Nat) (a b : List Int) : Does Tryz.prog 85 [.slice A n c, .slice B m e] [slAt RI A n a, slAt RI B m b] [] Unit (fun _ => True) (fun _ => .bool (covI a b)) (fun _ => []) := by
  refine Does.of Tryz.call85 Tryz.func85 rfl rfl rfl (all_cons (pers_slAt _ _ _ _) (all_cons (pers_slAt _ _ _ _) all_nil)) rfl ?_
  refine SK.know (sl_len (ρ := RI) (A := A) (n := n) (l := a) (by repeat constructor)) ?_
  rintro ⟨rfl, hlim, -⟩
  refine SK.know (sl_len (ρ := RI) (A := B) (n := m) (l := b) (by repeat constructor)) ?_
  rintro ⟨rfl, hlim2, -⟩
  repeat' (first
 | refine SO.pure rfl rfl rfl ?_
 | refine SO.nil ?_
 | refine SK.seq ?_
 | refine SK.region ?_
 | refine SK.block ?_
 | fail)
  refine SK.loop (X := {i : Nat // i ≤ max a.length b.length ∧ ∀ j : Nat, j < i → getI b j ≤ getI a j}) (fun i => [(5, .int .i64 (i.1 : Int)), (0, .slice A a.length c), (1, .slice B b.length e)]) (fun i => [slAt RI A a.length a, slAt RI B b.length b]) (fun i => max a.length b.length - i.1) ⟨0, by omega, fun j h => by omega⟩ (by repeat constructor) (ent_append_of_takes (by repeat constructor)) ?_
  rintro ⟨i, hi, hall⟩
  dsimp only
  have hwi := wrapn (show i ≤ lim by omega)
  have hend : ¬ (i < max a.length b.length) → covI a b = true := fun h => covI_true fun j hj => hall j (by omega)
  repeat' (first
 | refine SO.call (rget_does _ _ _ _ _) rfl rfl rfl (by repeat constructor) (by repeat constructor) rfl (fun x hx => ?_)
 | refine SO.pure rfl rfl rfl ?_
 | refine SO.nil ?_
 | refine SO.guardY rfl rfl ?_
 | refine SO.guardN rfl rfl rfl ?_
 | refine SK.seq ?_
 | refine SK.region ?_
 | refine SK.condT rfl ?_
 | refine SK.skip ?_
 | refine SK.block ?_
 | refine SK.blk ?_
 | refine SK.exit rfl ?_
 | refine SO.guard rfl rfl rfl (fun h => ?_) (fun h => ?_)
 | refine SK.cond rfl (fun h => ?_) (fun h => ?_)
 | fail)
  all_goals try simp only [decide_eq_true_eq, decide_eq_false_iff_not, Bool.not_true, Bool.not_false, Bool.not_eq_true', Bool.not_eq_false'] at *
  all_goals first
    | (refine SK.inv ⟨⟨i + 1, by omega, fun j hj => ?_⟩, ?_, ?_, ?_⟩
       · by_cases hji : j = i
         · subst hji; omega
         · exact hall j (by omega)
       · show max a.length b.length - (i + 1) < max a.length b.length - i
         omega
       · rw [hwi]; repeat constructor
       · exact ent_append_of_takes (by repeat constructor))
    | (rw [covI_false (a := a) (b := b) (j := i) (by omega) (by omega)]
       exact SK.retX (.tmp rfl .nil) () trivial rfl (by repeat constructor))
    | (rw [hend (by omega)]
       exact SK.retX (.tmp rfl .nil) () trivial rfl (by repeat constructor))
theorem rsamev_does (A B : Option Addr) (n c m e : Nat) (a b : List Int) : Does Tryz.prog 24 [.slice A n c, .slice B m e] [slAt RI A n a, slAt RI B m b] [] Unit (fun _ => True) (fun _ => .bool (sameV a b)) (fun _ => []) := by
  refine Does.of Tryz.call24 Tryz.func24 rfl rfl rfl (all_cons (pers_slAt _ _ _ _) (all_cons (pers_slAt _ _ _ _) all_nil)) rfl ?_
  repeat' (first
 | refine SO.call (rcov_does _ _ _ _ _ _ _ _) rfl rfl rfl (by repeat constructor) (by repeat constructor) rfl (fun x hx => ?_)
 | refine SO.pure rfl rfl rfl ?_
 | refine SO.nil ?_
 | refine SO.guardY rfl rfl ?_
 | refine SO.guardN rfl rfl rfl ?_
 | refine SK.seq ?_
 | refine SK.region ?_
 | refine SO.guard rfl rfl rfl (fun h => ?_) (fun h => ?_)
 | fail)
  all_goals refine SK.retX (.tmp rfl .nil) () trivial (congrArg Value.bool ?_) (by repeat constructor)
  all_goals simp_all [sameV]
theorem rcheckv_does (A : Option Addr) (n c : Nat) (l : List Int) (m : Int) : Does Tryz.prog 176 [.slice A n c, .int .i64 m] [slAt RI A n l] [] Unit (fun _ => True) (fun _ => .int .i64 (checkV l m)) (fun _ => []) := by
  refine Does.of Tryz.call176 Tryz.func176 rfl rfl rfl (all_cons (pers_slAt _ _ _ _) all_nil) rfl ?_
  refine SK.know (sl_len (ρ := RI) (A := A) (n := n) (l := l) (by repeat constructor)) ?_
  rintro ⟨rfl, hlim, -⟩
  repeat' (first
 | refine SO.pure rfl rfl rfl ?_
 | refine SO.nil ?_
 | refine SO.guardY rfl rfl ?_
 | refine SO.guardN rfl rfl rfl ?_
 | refine SK.seq ?_
 | refine SK.region ?_
 | refine SK.condT rfl ?_
 | refine SK.skip ?_
 | refine SK.block ?_
 | refine SO.guard rfl rfl rfl (fun h => ?_) (fun h => ?_)
 | refine SK.cond rfl (fun h => ?_) (fun h => ?_)
 | fail)
  all_goals try simp only [decide_eq_true_eq, decide_eq_false_iff_not, Bool.not_true, Bool.not_false, Bool.not_eq_true', Bool.not_eq_false'] at *
  all_goals try (
    rw [show checkV l m = 1 by unfold checkV; rw [if_pos (by omega)]]
    exact SK.retX (.tmp rfl .nil) () trivial rfl (by repeat constructor))
  all_goals try (
    rw [show checkV l m = 4 by unfold checkV; rw [if_neg (by omega), if_pos (by omega)]]
    exact SK.retX (.tmp rfl .nil) () trivial rfl (by repeat constructor))
  have hck : checkV l m = vecBad l := by unfold checkV; rw [if_neg (by omega), if_neg (by omega)]
  rw [hck]
  refine SK.loop (X := {i : Nat // i ≤ l.length ∧ vecBad (l.take i) = 0}) (fun i => [(5, .int .i64 (i.1 : Int)), (0, .slice A l.length c)]) (fun i => [slAt RI A l.length l]) (fun i => l.length - i.1) ⟨0, by omega, by simp [vecBad]⟩ (by repeat constructor) (ent_append_of_takes (by repeat constructor)) ?_
  rintro ⟨i, hi, hall⟩
  dsimp only
  have hwi := wrapn (show i ≤ lim by omega)
  repeat' (first
 | refine SO.indexH rfl rfl (by repeat constructor) rfl rfl rfl rfl (by assumption) ?_
 | refine SO.pure rfl rfl rfl ?_
 | refine SO.nil ?_
 | refine SO.index rfl rfl (by repeat constructor) rfl rfl rfl rfl (by first | assumption | omega | exact Nat.le_of_ble_eq_true rfl | (simp only [decide_eq_true_eq, decide_eq_false_iff_not] at *; omega)) (fun v hv => ?_)
 | refine SO.eloadW rfl (by repeat constructor) (by assumption) rfl (by rfl) rfl (by rfl) rfl (fun hid => ?_)
 | refine SK.seq ?_
 | refine SK.region ?_
 | refine SK.skip ?_
 | refine SK.block ?_
 | refine SK.blk ?_
 | refine SK.exit rfl ?_
 | refine SK.cond rfl (fun h => ?_) (fun h => ?_)
 | fail)
  all_goals try simp only [decide_eq_true_eq, decide_eq_false_iff_not, Bool.not_true, Bool.not_false, Bool.not_eq_true', Bool.not_eq_false'] at *
  all_goals first
    | (refine SK.inv ⟨⟨i + 1, by omega, vecBad_step hall (by assumption) (by omega) (by omega)⟩, ?_, ?_, ?_⟩
       · show l.length - (i + 1) < l.length - i
         omega
       · rw [hwi]; repeat constructor
       · exact ent_append_of_takes (by repeat constructor))
    | (rw [(vecBad_at hall (by assumption)).1 (by assumption)]
       exact SK.retX (.tmp rfl .nil) () trivial rfl (by repeat constructor))
    | (rw [(vecBad_at hall (by assumption)).2 (by assumption) (by assumption)]
       exact SK.retX (.tmp rfl .nil) () trivial rfl (by repeat constructor))
    | (rw [show vecBad l = 0 by rw [List.take_of_length_le (by omega)] at hall; exact hall]
       exact SK.retX (.tmp rfl .nil) () trivial rfl (by repeat constructor))
end Go.Proofs
