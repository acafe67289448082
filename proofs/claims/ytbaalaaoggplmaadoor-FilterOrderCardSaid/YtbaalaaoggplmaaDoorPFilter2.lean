/- A part of a proof: what functions of the program compute. -/
import Derived.Test.YtbaalaaoggplmaaDoorPFilter
/-! The filter's laws, plainly. -/
set_option linter.unusedVariables false
set_option linter.unusedSimpArgs false
namespace Go.Sl
theorem mput_len {κ α : Type} [DecidableEq κ] : ∀ (l : List (κ × α)) (k : κ) (v : α), (mput l k v).length ≤ l.length + 1
  | [], k, v => by simp [mput]
  | (k', v') :: l, k, v => by
    simp only [mput]
    by_cases h : k' = k
    · rw [if_pos h]; simp
    · rw [if_neg h]; have := mput_len l k v; simp only [List.length_cons]; omega
theorem putF_le (s : FS) (r : Rc) : (putF s r).2.next = s.next ∧ (putF s r).2.held.length ≤ s.held.length + 1 ∧ (putF s r).2.site = s.site ∧ (putF s r).2.room = s.room := by
  unfold putF
  split
  · simp
  split
  · simp
  split
  · simp
  split
  · simp
  · exact ⟨rfl, mput_len _ _ _, rfl, rfl⟩
theorem mdel_le {κ α : Type} [DecidableEq κ] : ∀ (l : List (κ × α)) (k : κ), (mdel l k).length ≤ l.length
  | [], k => by simp [mdel]
  | (k', v') :: l, k => by
    simp only [mdel]
    by_cases h : k' = k
    · rw [if_pos h]; simp
    · rw [if_neg h]; have := mdel_le l k; simp only [List.length_cons]; omega
theorem after_len (s : FS) : ∀ i, (afterF s i).held.length ≤ s.held.length
  | 0 => Nat.le_refl _
  | i + 1 => by have := after_len s i; have h := mdel_le (afterF s i).held (afterF s i).next; simp only [afterF, stepF]; omega
theorem modk {x m : Int} (hx : 0 ≤ x) (hm : 0 < m) (hb : m ≤ 1000000) : ∃ y, IntKind.i64.wrap (1 + IntKind.i64.wrap (x.tmod m)) = y ∧ 1 ≤ y ∧ y ≤ m := by
  have h1 : 0 ≤ x.tmod m ∧ x.tmod m < m := by
    rw [Int.tmod_eq_emod_of_nonneg hx]
    exact ⟨Int.emod_nonneg _ (by omega), Int.emod_lt_of_pos _ hm⟩
  refine ⟨_, rfl, ?_⟩
  rw [wrap_id (n := x.tmod m) (by omega) (by omega), wrap_id (by omega) (by omega)]
  omega
theorem addw {x m : Int} (hx : 0 ≤ x) (hm : x ≤ m) (hb : m ≤ 1000000) : IntKind.i64.wrap (1 + IntKind.i64.wrap x) = 1 + x := by
  rw [wrap_id (n := x) (by omega) (by omega), wrap_id (by omega) (by omega)]
/-- What a filter of FilterResets has had after i rounds. -/
def fr (i : Nat) (s : FS) : Prop := s.site = 1 ∧ s.room = 20 ∧ 1 ≤ s.next ∧ s.next ≤ 1 + 3 * (i : Int) ∧ s.held.length ≤ i
theorem fr_put {i : Nat} {s : FS} (h : fr i s) (r : Rc) : fr (i + 1) (putF s r).2 := by
  obtain ⟨h1, h2, h3, h4, h5⟩ := h
  obtain ⟨e1, e2, e3, e4⟩ := putF_le s r
  exact ⟨by rw [e3, h1], by rw [e4, h2], by rw [e1]; exact h3, by rw [e1]; omega, by omega⟩
theorem fr_take {i : Nat} {s : FS} (h : fr i s) (r : Rc) (j : Nat) (hj : j ≤ 3) : fr (i + 1) (afterF (putF s r).2 j) := by
  obtain ⟨h1, h2, h3, h4, h5⟩ := h
  obtain ⟨e1, e2, e3, e4⟩ := putF_le s r
  obtain ⟨a1, a2⟩ := after_site (putF s r).2 j
  have a3 := after_next (putF s r).2 j
  have a4 := after_len (putF s r).2 j
  exact ⟨by rw [a1, e3, h1], by rw [a2, e4, h2], by rw [a3, e1]; omega, by rw [a3, e1]; omega, by omega⟩
abbrev gs0 (n : Int) : FS := ⟨1, 20, n, []⟩
abbrev gs1 (n : Int) : FS := ⟨1, 20, n, [(n + 1, rk (n + 1))]⟩
abbrev gs2 (n : Int) : FS := ⟨1, 20, n, mput [(n + 1, rk (n + 1))] n (rk n)⟩
theorem fr_zero : fr 0 (gs0 1) := ⟨rfl, rfl, by decide, by decide, by decide⟩
theorem fr_reset {i : Nat} {s : FS} (h : fr i s) (n : Int) (h1 : 1 ≤ n) (h2 : n ≤ 1000) : resetF s n = (0, gs0 n) := by
  unfold resetF
  rw [if_neg (by omega)]
  obtain ⟨e1, e2, -⟩ := h
  cases s
  dsimp only at e1 e2
  subst e1; subst e2
  rfl
theorem gs_put1 (n : Int) (h1 : 1 ≤ n) (h2 : n ≤ 1000) : putF (gs0 n) (rk (n + 1)) = (0, gs1 n) := by
  unfold putF
  rw [if_neg (by rw [rk_check (n + 1) (by omega) (by omega)]; simp), if_neg (by simp [rk]), if_neg (by simp [mget, rk]; omega), if_neg (by show ¬ (20 ≤ n + 1 - n); omega)]
  rfl
theorem gs_put2 (n : Int) (h1 : 1 ≤ n) (h2 : n ≤ 1000) : putF (gs1 n) (rk n) = (0, gs2 n) := by
  have hne : ¬ (n + 1 = n) := by omega
  unfold putF
  rw [if_neg (by rw [rk_check n (by omega) (by omega)]; simp), if_neg (by simp [rk]), if_neg (by simp [mget, rk, hne]), if_neg (by show ¬ (20 ≤ n - n); omega)]
  rfl
theorem gs_has (n : Int) : hasF (gs1 n) = false := by
  unfold hasF
  simp [mget]
  omega
theorem gs_mput (n : Int) : mput [(n + 1, rk (n + 1))] n (rk n) = [(n + 1, rk (n + 1)), (n, rk n)] := by
  simp only [mput]
  rw [if_neg (by omega)]
theorem gs_ready (n : Int) : (readyF (gs2 n)).take 9 = [rk n, rk (n + 1)] ∧ afterF (gs2 n) 2 = gs0 (n + 2) := by
  unfold gs2
  rw [gs_mput]
  have h1 : ¬ (n + 1 = n) := by omega
  have h2 : ¬ (n + 1 = n + 2) := by omega
  constructor
  · simp [readyF, rdyF, mget, stepF, mdel, h1]
  · simp only [afterF, stepF, mdel, if_neg h1, if_pos]
    simp only [gs0, FS.mk.injEq, true_and, and_true]
    omega
theorem gs_r0 (n : Int) : resetF (gs0 (n + 2)) 0 = (1, gs0 (n + 2)) := rfl
theorem gs_r1 (n : Int) : resetF (gs0 (n + 2)) 1048578 = (1, gs0 (n + 2)) := rfl
theorem gs_r2 (n : Int) : resetF (gs0 (n + 2)) 1048577 = (0, gs0 1048577) := rfl
end Go.Sl
