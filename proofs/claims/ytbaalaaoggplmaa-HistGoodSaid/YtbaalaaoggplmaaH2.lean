/- A part of a proof: what functions of the program compute. -/
import Derived.Test.YtbaalaaoggplmaaH1
set_option linter.unusedVariables false
set_option linter.unusedSimpArgs false
namespace Go.Proofs
attribute [local irreducible] Go.Sl.SO Go.Sl.SQ Go.Sl.SC Go.Sl.eadr Go.Sl.slAt Go.Sl.sqAt Go.Sl.pts Go.Sl.rod Go.Sl.ob Go.Sl.ex Go.Sl.big Go.Sl.pr
open Go.Sl Go.Hist

theorem cov_nat (a b : List Int) : (if (a.length : Int) < (b.length : Int) then (b.length : Int) else (a.length : Int)) = ((max a.length b.length : Nat) : Int) := by
  split <;> omega
theorem wrap_nat {i : Nat} (h : i < lim) : IntKind.i64.wrap ((i : Int) + 1) = ((i + 1 : Nat) : Int) := by
  have : (i : Int) < 2147483648 := by unfold lim at h; omega
  simp only [IntKind.wrap, IntKind.bits, IntKind.signed]
  simp
  omega

theorem covers_does (A B : Option Addr) (n m c d : Nat) (a b : List Int) : Does Try.prog 12 [.slice A n c, .slice B m d] [slAt RI A n a, slAt RI B m b] [] Unit (fun _ => True) (fun _ => .bool (coversI a b)) (fun _ => []) := by
  refine Does.of Try.call12 Try.func12 rfl rfl rfl (all_cons (pers_slAt _ _ _ _) (all_cons (pers_slAt _ _ _ _) all_nil)) rfl ?_
  refine SK.know (sl_len (ρ := RI) (A := A) (n := n) (l := a) (by repeat constructor)) ?_
  rintro ⟨rfl, hla, -⟩
  refine SK.know (sl_len (ρ := RI) (A := B) (n := m) (l := b) (by repeat constructor)) ?_
  rintro ⟨rfl, hlb, -⟩
  repeat' (first
    | (refine SO.pure rfl rfl rfl ?_)
    | (refine SO.pure2 rfl rfl rfl ?_)
    | (refine SO.nil ?_)
    | (refine SO.guardY rfl rfl ?_)
    | (refine SO.guardN rfl rfl rfl ?_)
    | (refine SO.loadW rfl (by repeat constructor) rfl rfl rfl (by rfl) rfl ?_)
    | (refine SO.load rfl (by repeat constructor) rfl (by rfl) (by exact ⟨rfl, by first | exact fun _ => rfl | exact (fun h => by cases h)⟩) rfl ?_)
    | (refine SO.loadR rfl (by repeat constructor) rfl (by rfl) (by exact ⟨rfl, by first | exact fun _ => rfl | exact (fun h => by cases h)⟩) rfl ?_)
    | (refine SO.field rfl rfl rfl rfl (by exact ⟨rfl, by first | exact fun _ => rfl | exact (fun h => by cases h)⟩) rfl ?_)
    | (refine SO.build rfl rfl rfl rfl ?_)
    | (refine SO.index rfl rfl (by repeat constructor) rfl rfl rfl rfl (by first | assumption | omega | exact Nat.le_of_ble_eq_true rfl) (fun v hv => ?_))
    | (refine SO.indexW rfl rfl (by repeat constructor) rfl rfl rfl rfl (by first | assumption | omega | exact Nat.le_of_ble_eq_true rfl) (fun v hv => ?_))
    | (refine SO.slice (k1 := .i64) (k2 := .i64) rfl rfl rfl (by repeat constructor) rfl rfl (by rfl) rfl (by exact .inr ⟨rfl, rfl⟩) (by exact .inl rfl) (by omega) (by omega) (by assumption) (fun As cs hcs => ?_))
    | (refine SO.efield rfl rfl rfl rfl rfl ?_)
    | (refine SO.eloadW rfl (by repeat constructor) (by assumption) rfl (by rfl) rfl (by rfl) rfl (fun hid => ?_))
    | (refine SO.eload rfl (by repeat constructor) (by assumption) rfl (by rfl) (by exact fun _ => ⟨rfl, fun _ => rfl⟩) rfl (fun hid => ?_))
    | (refine SK.seq ?_)
    | (refine SK.region ?_)
    | (refine SK.condT rfl ?_)
    | (refine SK.condF rfl ?_)
    | (refine SK.skip ?_)
    | (refine SK.block ?_)
    | (refine SK.blk ?_)
    | (refine SK.exit rfl ?_)
    | (refine SO.alloc rfl rfl rfl (fun b => ?_))
    | (refine SO.box rfl rfl rfl (fun b => ?_))
    | (refine SO.storeW rfl rfl (by repeat constructor) rfl (by rfl) (by rfl) (by rfl) ?_)
    | (refine SO.store rfl rfl (by repeat constructor) rfl (by rfl) rfl rfl (by rfl) (by rfl) ?_)
    | (refine SO.buildSlice rfl rfl rfl rfl rfl rfl (fun b => ?_))
    | (refine SO.guardYP rfl rfl (by first | assumption | (simp only [decide_eq_true_eq, decide_eq_false_iff_not, Bool.not_eq_true', Bool.not_eq_false', Bool.not_true, Bool.not_false, Bool.not_not]; omega)) ?_)
    | (refine SO.guardNP rfl rfl rfl (by first | assumption | (simp only [decide_eq_true_eq, decide_eq_false_iff_not, Bool.not_eq_true', Bool.not_eq_false', Bool.not_true, Bool.not_false, Bool.not_not]; omega)) ?_)
    | (refine SK.condTP rfl (by first | assumption | (simp only [decide_eq_true_eq, decide_eq_false_iff_not, Bool.not_eq_true', Bool.not_eq_false', Bool.not_true, Bool.not_false, Bool.not_not]; omega)) ?_)
    | (refine SK.condFP rfl (by first | assumption | (simp only [decide_eq_true_eq, decide_eq_false_iff_not, Bool.not_eq_true', Bool.not_eq_false', Bool.not_true, Bool.not_false, Bool.not_not]; omega)) ?_)
    | (refine SO.guard rfl rfl rfl (fun h => ?_) (fun h => ?_))
    | (refine SK.cond rfl (fun h => ?_) (fun h => ?_)))
  refine SK.loop (X := {i : Nat // i ≤ max a.length b.length ∧ ∀ j, j < i → getI b j ≤ getI a j}) (fun i => [(11, .int .i64 (i.1 : Int)), (10, .int .i64 (if (a.length : Int) < (b.length : Int) then (b.length : Int) else (a.length : Int))), (0, .slice A a.length c), (1, .slice B b.length d)]) (fun _ => [slAt RI A a.length a, slAt RI B b.length b]) (fun i => max a.length b.length - i.1) ⟨0, by omega, fun j h => by omega⟩ (by repeat constructor) (Ent.refl _) ?_
  rintro ⟨i, hi, hall⟩
  repeat' (first
    | (refine SO.call (get_does _ _ _ _ _) rfl rfl rfl (by repeat constructor) (by repeat constructor) rfl (fun x hx => ?_))
    | (refine SO.pure rfl rfl rfl ?_)
    | (refine SO.pure2 rfl rfl rfl ?_)
    | (refine SO.nil ?_)
    | (refine SO.guardY rfl rfl ?_)
    | (refine SO.guardN rfl rfl rfl ?_)
    | (refine SO.loadW rfl (by repeat constructor) rfl rfl rfl (by rfl) rfl ?_)
    | (refine SO.load rfl (by repeat constructor) rfl (by rfl) (by exact ⟨rfl, by first | exact fun _ => rfl | exact (fun h => by cases h)⟩) rfl ?_)
    | (refine SO.loadR rfl (by repeat constructor) rfl (by rfl) (by exact ⟨rfl, by first | exact fun _ => rfl | exact (fun h => by cases h)⟩) rfl ?_)
    | (refine SO.field rfl rfl rfl rfl (by exact ⟨rfl, by first | exact fun _ => rfl | exact (fun h => by cases h)⟩) rfl ?_)
    | (refine SO.build rfl rfl rfl rfl ?_)
    | (refine SO.index rfl rfl (by repeat constructor) rfl rfl rfl rfl (by first | assumption | omega | exact Nat.le_of_ble_eq_true rfl) (fun v hv => ?_))
    | (refine SO.indexW rfl rfl (by repeat constructor) rfl rfl rfl rfl (by first | assumption | omega | exact Nat.le_of_ble_eq_true rfl) (fun v hv => ?_))
    | (refine SO.slice (k1 := .i64) (k2 := .i64) rfl rfl rfl (by repeat constructor) rfl rfl (by rfl) rfl (by exact .inr ⟨rfl, rfl⟩) (by exact .inl rfl) (by omega) (by omega) (by assumption) (fun As cs hcs => ?_))
    | (refine SO.efield rfl rfl rfl rfl rfl ?_)
    | (refine SO.eloadW rfl (by repeat constructor) (by assumption) rfl (by rfl) rfl (by rfl) rfl (fun hid => ?_))
    | (refine SO.eload rfl (by repeat constructor) (by assumption) rfl (by rfl) (by exact fun _ => ⟨rfl, fun _ => rfl⟩) rfl (fun hid => ?_))
    | (refine SK.seq ?_)
    | (refine SK.region ?_)
    | (refine SK.condT rfl ?_)
    | (refine SK.condF rfl ?_)
    | (refine SK.skip ?_)
    | (refine SK.block ?_)
    | (refine SK.blk ?_)
    | (refine SK.exit rfl ?_)
    | (refine SO.alloc rfl rfl rfl (fun b => ?_))
    | (refine SO.box rfl rfl rfl (fun b => ?_))
    | (refine SO.storeW rfl rfl (by repeat constructor) rfl (by rfl) (by rfl) (by rfl) ?_)
    | (refine SO.store rfl rfl (by repeat constructor) rfl (by rfl) rfl rfl (by rfl) (by rfl) ?_)
    | (refine SO.buildSlice rfl rfl rfl rfl rfl rfl (fun b => ?_))
    | (refine SO.guardYP rfl rfl (by first | assumption | (simp only [decide_eq_true_eq, decide_eq_false_iff_not, Bool.not_eq_true', Bool.not_eq_false', Bool.not_true, Bool.not_false, Bool.not_not]; omega)) ?_)
    | (refine SO.guardNP rfl rfl rfl (by first | assumption | (simp only [decide_eq_true_eq, decide_eq_false_iff_not, Bool.not_eq_true', Bool.not_eq_false', Bool.not_true, Bool.not_false, Bool.not_not]; omega)) ?_)
    | (refine SK.condTP rfl (by first | assumption | (simp only [decide_eq_true_eq, decide_eq_false_iff_not, Bool.not_eq_true', Bool.not_eq_false', Bool.not_true, Bool.not_false, Bool.not_not]; omega)) ?_)
    | (refine SK.condFP rfl (by first | assumption | (simp only [decide_eq_true_eq, decide_eq_false_iff_not, Bool.not_eq_true', Bool.not_eq_false', Bool.not_true, Bool.not_false, Bool.not_not]; omega)) ?_)
    | (refine SO.guard rfl rfl rfl (fun h => ?_) (fun h => ?_))
    | (refine SK.cond rfl (fun h => ?_) (fun h => ?_)))
  · rename_i h1 _ _
    refine SK.retX (.tmp rfl .nil) () trivial ?_ (by repeat constructor)
    rw [cov_nat] at h1
    simp only [decide_eq_true_eq] at h1
    have : coversI a b = false := by
      rw [Bool.eq_false_iff]
      intro hc
      have := List.all_eq_true.1 hc i (by simp; omega)
      simp only [decide_eq_true_eq] at h this
      omega
    simp [tupV, this]
  · rename_i h1 _ _
    rw [cov_nat] at h1
    simp only [decide_eq_true_eq, decide_eq_false_iff_not] at h1 h
    have hi' : i < max a.length b.length := by omega
    refine SK.inv ⟨⟨i + 1, by omega, fun j hj => ?_⟩, ?_, ⟨?_, by repeat constructor⟩, Ent.refl _⟩
    · rcases Nat.lt_succ_iff_lt_or_eq.1 hj with h2 | rfl
      · exact hall j h2
      · omega
    · show max a.length b.length - (i + 1) < max a.length b.length - i
      omega
    · have hw := wrap_nat (show i < lim by omega)
      simp only [TT.get_cons, putD]
      simp [hw]
  · rw [cov_nat] at h
    simp only [decide_eq_false_iff_not] at h
    refine SK.retX (.tmp rfl .nil) () trivial ?_ (by repeat constructor)
    have : coversI a b = true := by
      refine List.all_eq_true.2 fun j hj => ?_
      have := hall j (by simp at hj; omega)
      simpa using this
    simp [tupV, this]
end Go.Proofs
