/- A part of a proof: what functions of the program compute. -/
import Derived.Test.YtbaalaaoggplmaaH2
set_option linter.unusedVariables false
set_option linter.unusedSimpArgs false
set_option maxHeartbeats 0
namespace Go.Proofs
attribute [local irreducible] Go.Sl.SO Go.Sl.SQ Go.Sl.SC Go.Sl.eadr Go.Sl.slAt Go.Sl.sqAt Go.Sl.pts Go.Sl.rod Go.Sl.ob Go.Sl.ex Go.Sl.big Go.Sl.pr
open Go.Sl Go.Hist

theorem told_does (b : Nat) (g x : Ev) (hg h : REv.V) : Does Try.prog 14 [REv.val x h, .pointer (some ⟨b, 0, none⟩)] [rod b 0 (REv.cells g hg)] [] Unit (fun _ => True) (fun _ => .bool (toldBy g x)) (fun _ => []) := by
  refine Does.of Try.call14 Try.func14 rfl rfl rfl (all_cons (pers_rod _ _ _) all_nil) rfl ?_
  simp only [REv, Rep.val]
  repeat' (first
    | (refine SO.pure rfl rfl rfl ?_)
    | (refine SO.pure2 rfl rfl rfl ?_)
    | (refine SO.nil ?_)
    | (refine SO.guardY rfl rfl ?_)
    | (refine SO.guardN rfl rfl rfl ?_)
    | (refine SO.loadW rfl (by repeat constructor) rfl rfl rfl (by rfl) rfl ?_)
    | (refine SO.load rfl (by repeat constructor) rfl (by rfl) (by exact ⟨rfl, by first | exact fun _ => rfl | exact (fun h => by cases h)⟩) rfl ?_)
    | (refine SO.loadR rfl (by repeat constructor) rfl (by rfl) (by exact ⟨rfl, by first | exact fun _ => rfl | exact (fun h => by cases h)⟩) rfl ?_)
    | (refine SO.field rfl rfl rfl rfl (by exact ⟨rfl, by first | exact fun _ => rfl | exact (fun h => by cases h)⟩) rfl ?_)
    | (refine SO.build rfl rfl rfl rfl ?_)
    | (refine SO.index rfl rfl (by repeat constructor) rfl rfl rfl rfl (by first | assumption | omega | exact Nat.le_of_ble_eq_true rfl) (fun v hv => ?_))
    | (refine SO.indexW rfl rfl (by repeat constructor) rfl rfl rfl rfl (by first | assumption | omega | exact Nat.le_of_ble_eq_true rfl) (fun v hv => ?_))
    | (refine SO.slice (k1 := .i64) (k2 := .i64) rfl rfl rfl (by repeat constructor) rfl rfl (by rfl) rfl (by exact .inr ⟨rfl, rfl⟩) (by exact .inl rfl) (by omega) (by omega) (by assumption) (fun As cs hcs => ?_))
    | (refine SO.efield rfl rfl rfl rfl rfl ?_)
    | (refine SO.eloadW rfl (by repeat constructor) (by assumption) rfl (by rfl) rfl (by rfl) rfl (fun hid => ?_))
    | (refine SO.eload rfl (by repeat constructor) (by assumption) rfl (by rfl) (by exact fun _ => ⟨rfl, fun _ => rfl⟩) rfl (fun hid => ?_))
    | (refine SK.seq ?_)
    | (refine SK.region ?_)
    | (refine SK.condT rfl ?_)
    | (refine SK.condF rfl ?_)
    | (refine SK.skip ?_)
    | (refine SK.block ?_)
    | (refine SK.blk ?_)
    | (refine SK.exit rfl ?_)
    | (refine SO.alloc rfl rfl rfl (fun b => ?_))
    | (refine SO.box rfl rfl rfl (fun b => ?_))
    | (refine SO.storeW rfl rfl (by repeat constructor) rfl (by rfl) (by rfl) (by rfl) ?_)
    | (refine SO.store rfl rfl (by repeat constructor) rfl (by rfl) rfl rfl (by rfl) (by rfl) ?_)
    | (refine SO.buildSlice rfl rfl rfl rfl rfl rfl (fun b => ?_))
    | (refine SO.guardYP rfl rfl (by first | assumption | (simp only [decide_eq_true_eq, decide_eq_false_iff_not, Bool.not_eq_true', Bool.not_eq_false', Bool.not_true, Bool.not_false, Bool.not_not]; omega)) ?_)
    | (refine SO.guardNP rfl rfl rfl (by first | assumption | (simp only [decide_eq_true_eq, decide_eq_false_iff_not, Bool.not_eq_true', Bool.not_eq_false', Bool.not_true, Bool.not_false, Bool.not_not]; omega)) ?_)
    | (refine SK.condTP rfl (by first | assumption | (simp only [decide_eq_true_eq, decide_eq_false_iff_not, Bool.not_eq_true', Bool.not_eq_false', Bool.not_true, Bool.not_false, Bool.not_not]; omega)) ?_)
    | (refine SK.condFP rfl (by first | assumption | (simp only [decide_eq_true_eq, decide_eq_false_iff_not, Bool.not_eq_true', Bool.not_eq_false', Bool.not_true, Bool.not_false, Bool.not_not]; omega)) ?_)
    | (refine SO.guard rfl rfl rfl (fun h => ?_) (fun h => ?_))
    | (refine SK.cond rfl (fun h => ?_) (fun h => ?_)))
  all_goals
    refine SK.retX (.tmp rfl .nil) () trivial ?_ (by repeat constructor)
    simp_all [tupV, toldBy]

theorem find_does (b : Nat) (g : Ev) (hg : REv.V) (A : Option Addr) (n c : Nat) (l : List Ev) : Does Try.prog 15 [.slice A n c, .func (.func 14) #[] #[.pointer (some ⟨b, 0, none⟩)]] [rod b 0 (REv.cells g hg), slAt REv A n l] []
    Int (fun r => decide (0 ≤ r) = l.any (toldBy g)) (fun r => .int .i64 r) (fun _ => []) := by
  refine Does.of Try.call15 Try.func15 rfl rfl rfl (all_cons (pers_rod _ _ _) (all_cons (pers_slAt _ _ _ _) all_nil)) rfl ?_
  refine SK.know (sl_len (ρ := REv) (A := A) (n := n) (l := l) (by repeat constructor)) ?_
  rintro ⟨rfl, hla, -⟩
  repeat' (first
    | (refine SO.pure rfl rfl rfl ?_)
    | (refine SO.pure2 rfl rfl rfl ?_)
    | (refine SO.nil ?_)
    | (refine SO.guardY rfl rfl ?_)
    | (refine SO.guardN rfl rfl rfl ?_)
    | (refine SO.loadW rfl (by repeat constructor) rfl rfl rfl (by rfl) rfl ?_)
    | (refine SO.load rfl (by repeat constructor) rfl (by rfl) (by exact ⟨rfl, by first | exact fun _ => rfl | exact (fun h => by cases h)⟩) rfl ?_)
    | (refine SO.loadR rfl (by repeat constructor) rfl (by rfl) (by exact ⟨rfl, by first | exact fun _ => rfl | exact (fun h => by cases h)⟩) rfl ?_)
    | (refine SO.field rfl rfl rfl rfl (by exact ⟨rfl, by first | exact fun _ => rfl | exact (fun h => by cases h)⟩) rfl ?_)
    | (refine SO.build rfl rfl rfl rfl ?_)
    | (refine SO.index rfl rfl (by repeat constructor) rfl rfl rfl rfl (by first | assumption | omega | exact Nat.le_of_ble_eq_true rfl) (fun v hv => ?_))
    | (refine SO.indexW rfl rfl (by repeat constructor) rfl rfl rfl rfl (by first | assumption | omega | exact Nat.le_of_ble_eq_true rfl) (fun v hv => ?_))
    | (refine SO.slice (k1 := .i64) (k2 := .i64) rfl rfl rfl (by repeat constructor) rfl rfl (by rfl) rfl (by exact .inr ⟨rfl, rfl⟩) (by exact .inl rfl) (by omega) (by omega) (by assumption) (fun As cs hcs => ?_))
    | (refine SO.efield rfl rfl rfl rfl rfl ?_)
    | (refine SO.eloadW rfl (by repeat constructor) (by assumption) rfl (by rfl) rfl (by rfl) rfl (fun hid => ?_))
    | (refine SO.eload rfl (by repeat constructor) (by assumption) rfl (by rfl) (by exact fun _ => ⟨rfl, fun _ => rfl⟩) rfl (fun hid => ?_))
    | (refine SK.seq ?_)
    | (refine SK.region ?_)
    | (refine SK.condT rfl ?_)
    | (refine SK.condF rfl ?_)
    | (refine SK.skip ?_)
    | (refine SK.block ?_)
    | (refine SK.blk ?_)
    | (refine SK.exit rfl ?_)
    | (refine SO.alloc rfl rfl rfl (fun b => ?_))
    | (refine SO.box rfl rfl rfl (fun b => ?_))
    | (refine SO.storeW rfl rfl (by repeat constructor) rfl (by rfl) (by rfl) (by rfl) ?_)
    | (refine SO.store rfl rfl (by repeat constructor) rfl (by rfl) rfl rfl (by rfl) (by rfl) ?_)
    | (refine SO.buildSlice rfl rfl rfl rfl rfl rfl (fun b => ?_))
    | (refine SO.guardYP rfl rfl (by first | assumption | (simp only [decide_eq_true_eq, decide_eq_false_iff_not, Bool.not_eq_true', Bool.not_eq_false', Bool.not_true, Bool.not_false, Bool.not_not]; omega)) ?_)
    | (refine SO.guardNP rfl rfl rfl (by first | assumption | (simp only [decide_eq_true_eq, decide_eq_false_iff_not, Bool.not_eq_true', Bool.not_eq_false', Bool.not_true, Bool.not_false, Bool.not_not]; omega)) ?_)
    | (refine SK.condTP rfl (by first | assumption | (simp only [decide_eq_true_eq, decide_eq_false_iff_not, Bool.not_eq_true', Bool.not_eq_false', Bool.not_true, Bool.not_false, Bool.not_not]; omega)) ?_)
    | (refine SK.condFP rfl (by first | assumption | (simp only [decide_eq_true_eq, decide_eq_false_iff_not, Bool.not_eq_true', Bool.not_eq_false', Bool.not_true, Bool.not_false, Bool.not_not]; omega)) ?_)
    | (refine SO.guard rfl rfl rfl (fun h => ?_) (fun h => ?_))
    | (refine SK.cond rfl (fun h => ?_) (fun h => ?_)))
  refine SK.loop (X := {i : Nat // i ≤ l.length ∧ ∀ j x, j < i → l[j]? = some x → toldBy g x = false}) (fun i => [(8, .int .i64 (i.1 : Int)), (7, .int .i64 (l.length : Int)), (0, .slice A l.length c), (1, .func (.func 14) #[] #[.pointer (some ⟨b, 0, none⟩)])]) (fun _ => [rod b 0 (REv.cells g hg), slAt REv A l.length l]) (fun i => l.length - i.1) ⟨0, by omega, fun j x h => by omega⟩ (by repeat constructor) (Ent.refl _) ?_
  rintro ⟨i, hi, hall⟩
  repeat' (first
    | (refine SO.pure rfl rfl rfl ?_)
    | (refine SO.pure2 rfl rfl rfl ?_)
    | (refine SO.nil ?_)
    | (refine SO.guardY rfl rfl ?_)
    | (refine SO.guardN rfl rfl rfl ?_)
    | (refine SO.loadW rfl (by repeat constructor) rfl rfl rfl (by rfl) rfl ?_)
    | (refine SO.load rfl (by repeat constructor) rfl (by rfl) (by exact ⟨rfl, by first | exact fun _ => rfl | exact (fun h => by cases h)⟩) rfl ?_)
    | (refine SO.loadR rfl (by repeat constructor) rfl (by rfl) (by exact ⟨rfl, by first | exact fun _ => rfl | exact (fun h => by cases h)⟩) rfl ?_)
    | (refine SO.field rfl rfl rfl rfl (by exact ⟨rfl, by first | exact fun _ => rfl | exact (fun h => by cases h)⟩) rfl ?_)
    | (refine SO.build rfl rfl rfl rfl ?_)
    | (refine SO.index rfl rfl (by repeat constructor) rfl rfl rfl rfl (by first | assumption | omega | exact Nat.le_of_ble_eq_true rfl) (fun v hv => ?_))
    | (refine SO.indexW rfl rfl (by repeat constructor) rfl rfl rfl rfl (by first | assumption | omega | exact Nat.le_of_ble_eq_true rfl) (fun v hv => ?_))
    | (refine SO.slice (k1 := .i64) (k2 := .i64) rfl rfl rfl (by repeat constructor) rfl rfl (by rfl) rfl (by exact .inr ⟨rfl, rfl⟩) (by exact .inl rfl) (by omega) (by omega) (by assumption) (fun As cs hcs => ?_))
    | (refine SO.efield rfl rfl rfl rfl rfl ?_)
    | (refine SO.eloadW rfl (by repeat constructor) (by assumption) rfl (by rfl) rfl (by rfl) rfl (fun hid => ?_))
    | (refine SO.eload rfl (by repeat constructor) (by assumption) rfl (by rfl) (by exact fun _ => ⟨rfl, fun _ => rfl⟩) rfl (fun hid => ?_))
    | (refine SK.seq ?_)
    | (refine SK.region ?_)
    | (refine SK.condT rfl ?_)
    | (refine SK.condF rfl ?_)
    | (refine SK.skip ?_)
    | (refine SK.block ?_)
    | (refine SK.blk ?_)
    | (refine SK.exit rfl ?_)
    | (refine SO.alloc rfl rfl rfl (fun b => ?_))
    | (refine SO.box rfl rfl rfl (fun b => ?_))
    | (refine SO.storeW rfl rfl (by repeat constructor) rfl (by rfl) (by rfl) (by rfl) ?_)
    | (refine SO.store rfl rfl (by repeat constructor) rfl (by rfl) rfl rfl (by rfl) (by rfl) ?_)
    | (refine SO.buildSlice rfl rfl rfl rfl rfl rfl (fun b => ?_))
    | (refine SO.guardYP rfl rfl (by first | assumption | (simp only [decide_eq_true_eq, decide_eq_false_iff_not, Bool.not_eq_true', Bool.not_eq_false', Bool.not_true, Bool.not_false, Bool.not_not]; omega)) ?_)
    | (refine SO.guardNP rfl rfl rfl (by first | assumption | (simp only [decide_eq_true_eq, decide_eq_false_iff_not, Bool.not_eq_true', Bool.not_eq_false', Bool.not_true, Bool.not_false, Bool.not_not]; omega)) ?_)
    | (refine SK.condTP rfl (by first | assumption | (simp only [decide_eq_true_eq, decide_eq_false_iff_not, Bool.not_eq_true', Bool.not_eq_false', Bool.not_true, Bool.not_false, Bool.not_not]; omega)) ?_)
    | (refine SK.condFP rfl (by first | assumption | (simp only [decide_eq_true_eq, decide_eq_false_iff_not, Bool.not_eq_true', Bool.not_eq_false', Bool.not_true, Bool.not_false, Bool.not_not]; omega)) ?_)
    | (refine SO.guard rfl rfl rfl (fun h => ?_) (fun h => ?_))
    | (refine SK.cond rfl (fun h => ?_) (fun h => ?_)))
  · simp only [decide_eq_true_eq] at h
    have hil : i < l.length := by omega
    repeat' (first
    | (refine SO.call (told_does b g v hg hid) rfl rfl rfl (by repeat constructor) (by repeat constructor) rfl (fun x hx => ?_))
    | (refine SO.pure rfl rfl rfl ?_)
    | (refine SO.pure2 rfl rfl rfl ?_)
    | (refine SO.nil ?_)
    | (refine SO.guardY rfl rfl ?_)
    | (refine SO.guardN rfl rfl rfl ?_)
    | (refine SO.loadW rfl (by repeat constructor) rfl rfl rfl (by rfl) rfl ?_)
    | (refine SO.load rfl (by repeat constructor) rfl (by rfl) (by exact ⟨rfl, by first | exact fun _ => rfl | exact (fun h => by cases h)⟩) rfl ?_)
    | (refine SO.loadR rfl (by repeat constructor) rfl (by rfl) (by exact ⟨rfl, by first | exact fun _ => rfl | exact (fun h => by cases h)⟩) rfl ?_)
    | (refine SO.field rfl rfl rfl rfl (by exact ⟨rfl, by first | exact fun _ => rfl | exact (fun h => by cases h)⟩) rfl ?_)
    | (refine SO.build rfl rfl rfl rfl ?_)
    | (refine SO.index rfl rfl (by repeat constructor) rfl rfl rfl rfl (by first | assumption | omega | exact Nat.le_of_ble_eq_true rfl) (fun v hv => ?_))
    | (refine SO.indexW rfl rfl (by repeat constructor) rfl rfl rfl rfl (by first | assumption | omega | exact Nat.le_of_ble_eq_true rfl) (fun v hv => ?_))
    | (refine SO.slice (k1 := .i64) (k2 := .i64) rfl rfl rfl (by repeat constructor) rfl rfl (by rfl) rfl (by exact .inr ⟨rfl, rfl⟩) (by exact .inl rfl) (by omega) (by omega) (by assumption) (fun As cs hcs => ?_))
    | (refine SO.efield rfl rfl rfl rfl rfl ?_)
    | (refine SO.eloadW rfl (by repeat constructor) (by assumption) rfl (by rfl) rfl (by rfl) rfl (fun hid => ?_))
    | (refine SO.eload rfl (by repeat constructor) (by assumption) rfl (by rfl) (by exact fun _ => ⟨rfl, fun _ => rfl⟩) rfl (fun hid => ?_))
    | (refine SK.seq ?_)
    | (refine SK.region ?_)
    | (refine SK.condT rfl ?_)
    | (refine SK.condF rfl ?_)
    | (refine SK.skip ?_)
    | (refine SK.block ?_)
    | (refine SK.blk ?_)
    | (refine SK.exit rfl ?_)
    | (refine SO.alloc rfl rfl rfl (fun b => ?_))
    | (refine SO.box rfl rfl rfl (fun b => ?_))
    | (refine SO.storeW rfl rfl (by repeat constructor) rfl (by rfl) (by rfl) (by rfl) ?_)
    | (refine SO.store rfl rfl (by repeat constructor) rfl (by rfl) rfl rfl (by rfl) (by rfl) ?_)
    | (refine SO.buildSlice rfl rfl rfl rfl rfl rfl (fun b => ?_))
    | (refine SO.guardYP rfl rfl (by first | assumption | (simp only [decide_eq_true_eq, decide_eq_false_iff_not, Bool.not_eq_true', Bool.not_eq_false', Bool.not_true, Bool.not_false, Bool.not_not]; omega)) ?_)
    | (refine SO.guardNP rfl rfl rfl (by first | assumption | (simp only [decide_eq_true_eq, decide_eq_false_iff_not, Bool.not_eq_true', Bool.not_eq_false', Bool.not_true, Bool.not_false, Bool.not_not]; omega)) ?_)
    | (refine SK.condTP rfl (by first | assumption | (simp only [decide_eq_true_eq, decide_eq_false_iff_not, Bool.not_eq_true', Bool.not_eq_false', Bool.not_true, Bool.not_false, Bool.not_not]; omega)) ?_)
    | (refine SK.condFP rfl (by first | assumption | (simp only [decide_eq_true_eq, decide_eq_false_iff_not, Bool.not_eq_true', Bool.not_eq_false', Bool.not_true, Bool.not_false, Bool.not_not]; omega)) ?_)
    | (refine SO.guard rfl rfl rfl (fun h => ?_) (fun h => ?_))
    | (refine SK.cond rfl (fun h => ?_) (fun h => ?_)))
    · refine SK.retX (.tmp rfl .nil) (i : Int) ?_ ?_ (by exact .nil)
      rotate_left
      · rfl
      have : l.any (toldBy g) = true := List.any_eq_true.2 ⟨v, List.mem_of_getElem? hv, h⟩
      rw [this]; simp
    · have ht := h
      have hw := wrap_nat (show i < lim by omega)
      refine SK.inv ⟨⟨i + 1, by omega, fun j x hj hx => ?_⟩, ?_, ⟨?_, by repeat constructor⟩, ent_append_of_takes (by repeat constructor)⟩
      · rcases Nat.lt_succ_iff_lt_or_eq.1 hj with h2 | rfl
        · exact hall j x h2 hx
        · have hv' : l[j]? = some v := hv
          rw [hv'] at hx; cases hx; exact ht
      · show l.length - (i + 1) < l.length - i
        omega
      · simp only [TT.get_cons, putD]
        simp [hw]
  · refine SK.retX (.tmp rfl .nil) (-1) ?_ ?_ (by exact .nil)
    rotate_left
    · rfl
    simp only [decide_eq_false_iff_not] at h
    have : l.any (toldBy g) = false := by
      rw [List.any_eq_false]
      intro x hx
      obtain ⟨j, hj, rfl⟩ := List.getElem_of_mem hx
      have := hall j l[j] (by omega) (by simp)
      simp [this]
    rw [this]; simp
theorem any_does (b : Nat) (g : Ev) (hg : REv.V) (A : Option Addr) (n c : Nat) (l : List Ev) : Does Try.prog 13 [.slice A n c, .func (.func 14) #[] #[.pointer (some ⟨b, 0, none⟩)]] [rod b 0 (REv.cells g hg), slAt REv A n l] []
    Unit (fun _ => True) (fun _ => .bool (l.any (toldBy g))) (fun _ => []) := by
  refine Does.of Try.call13 Try.func13 rfl rfl rfl (all_cons (pers_rod _ _ _) (all_cons (pers_slAt _ _ _ _) all_nil)) rfl ?_
  repeat' (first
    | (refine SO.call (find_does b g hg A n c l) rfl rfl rfl (by repeat constructor) (by repeat constructor) rfl (fun x hx => ?_))
    | (refine SO.pure rfl rfl rfl ?_)
    | (refine SO.pure2 rfl rfl rfl ?_)
    | (refine SO.nil ?_)
    | (refine SO.guardY rfl rfl ?_)
    | (refine SO.guardN rfl rfl rfl ?_)
    | (refine SO.loadW rfl (by repeat constructor) rfl rfl rfl (by rfl) rfl ?_)
    | (refine SO.load rfl (by repeat constructor) rfl (by rfl) (by exact ⟨rfl, by first | exact fun _ => rfl | exact (fun h => by cases h)⟩) rfl ?_)
    | (refine SO.loadR rfl (by repeat constructor) rfl (by rfl) (by exact ⟨rfl, by first | exact fun _ => rfl | exact (fun h => by cases h)⟩) rfl ?_)
    | (refine SO.field rfl rfl rfl rfl (by exact ⟨rfl, by first | exact fun _ => rfl | exact (fun h => by cases h)⟩) rfl ?_)
    | (refine SO.build rfl rfl rfl rfl ?_)
    | (refine SO.index rfl rfl (by repeat constructor) rfl rfl rfl rfl (by first | assumption | omega | exact Nat.le_of_ble_eq_true rfl) (fun v hv => ?_))
    | (refine SO.indexW rfl rfl (by repeat constructor) rfl rfl rfl rfl (by first | assumption | omega | exact Nat.le_of_ble_eq_true rfl) (fun v hv => ?_))
    | (refine SO.slice (k1 := .i64) (k2 := .i64) rfl rfl rfl (by repeat constructor) rfl rfl (by rfl) rfl (by exact .inr ⟨rfl, rfl⟩) (by exact .inl rfl) (by omega) (by omega) (by assumption) (fun As cs hcs => ?_))
    | (refine SO.efield rfl rfl rfl rfl rfl ?_)
    | (refine SO.eloadW rfl (by repeat constructor) (by assumption) rfl (by rfl) rfl (by rfl) rfl (fun hid => ?_))
    | (refine SO.eload rfl (by repeat constructor) (by assumption) rfl (by rfl) (by exact fun _ => ⟨rfl, fun _ => rfl⟩) rfl (fun hid => ?_))
    | (refine SK.seq ?_)
    | (refine SK.region ?_)
    | (refine SK.condT rfl ?_)
    | (refine SK.condF rfl ?_)
    | (refine SK.skip ?_)
    | (refine SK.block ?_)
    | (refine SK.blk ?_)
    | (refine SK.exit rfl ?_)
    | (refine SO.alloc rfl rfl rfl (fun b => ?_))
    | (refine SO.box rfl rfl rfl (fun b => ?_))
    | (refine SO.storeW rfl rfl (by repeat constructor) rfl (by rfl) (by rfl) (by rfl) ?_)
    | (refine SO.store rfl rfl (by repeat constructor) rfl (by rfl) rfl rfl (by rfl) (by rfl) ?_)
    | (refine SO.buildSlice rfl rfl rfl rfl rfl rfl (fun b => ?_))
    | (refine SO.guardYP rfl rfl (by first | assumption | (simp only [decide_eq_true_eq, decide_eq_false_iff_not, Bool.not_eq_true', Bool.not_eq_false', Bool.not_true, Bool.not_false, Bool.not_not]; omega)) ?_)
    | (refine SO.guardNP rfl rfl rfl (by first | assumption | (simp only [decide_eq_true_eq, decide_eq_false_iff_not, Bool.not_eq_true', Bool.not_eq_false', Bool.not_true, Bool.not_false, Bool.not_not]; omega)) ?_)
    | (refine SK.condTP rfl (by first | assumption | (simp only [decide_eq_true_eq, decide_eq_false_iff_not, Bool.not_eq_true', Bool.not_eq_false', Bool.not_true, Bool.not_false, Bool.not_not]; omega)) ?_)
    | (refine SK.condFP rfl (by first | assumption | (simp only [decide_eq_true_eq, decide_eq_false_iff_not, Bool.not_eq_true', Bool.not_eq_false', Bool.not_true, Bool.not_false, Bool.not_not]; omega)) ?_)
    | (refine SO.guard rfl rfl rfl (fun h => ?_) (fun h => ?_))
    | (refine SK.cond rfl (fun h => ?_) (fun h => ?_)))
  refine SK.retX (.tmp rfl .nil) () trivial ?_ (by repeat constructor)
  show Value.bool _ = _
  rw [← hx]
end Go.Proofs
