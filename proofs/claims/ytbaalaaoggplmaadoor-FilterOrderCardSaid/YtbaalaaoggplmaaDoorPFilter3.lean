/- A part of a proof: what functions of the program compute. -/
import Derived.Test.YtbaalaaoggplmaaDoorPFilter2
/-! FilterSome, FilterOrder, plainly. -/
set_option linter.unusedVariables false
set_option linter.unusedSimpArgs false
namespace Go.Sl
/-- m records, the last one the (t+1)-th of site 1, held from the top down. -/
def dn (t : Nat) : Nat → List (Int × Rc)
  | 0 => []
  | m + 1 => (((t + 1 + m : Nat) : Int), rk ((t + 1 + m : Nat) : Int)) :: dn t m
theorem dn_len (t : Nat) : ∀ m, (dn t m).length = m
  | 0 => rfl
  | m + 1 => by simp [dn, dn_len t m]
theorem dn_get_none (t : Nat) {i : Int} (hi : i ≤ (t : Int)) : ∀ m, mget (dn t m) i = none
  | 0 => rfl
  | m + 1 => by
    simp only [dn, mget]
    rw [if_neg (by omega)]
    exact dn_get_none t hi m
theorem dn_put (t : Nat) : ∀ m, mput (dn (t + 1) m) ((t + 1 : Nat) : Int) (rk ((t + 1 : Nat) : Int)) = dn t (m + 1)
  | 0 => rfl
  | m + 1 => by
    simp only [dn, mput]
    rw [if_neg (by omega)]
    rw [dn_put t m, show t + 1 + 1 + m = t + 1 + (m + 1) by omega]
    rfl
theorem dn_get (t : Nat) : ∀ m, mget (dn t (m + 1)) ((t + 1 : Nat) : Int) = some (rk ((t + 1 : Nat) : Int))
  | 0 => by simp [dn, mget]
  | m + 1 => by
    have h := dn_get t m
    unfold dn
    simp only [mget]
    rw [if_neg (by omega)]
    exact h
theorem dn_del (t : Nat) : ∀ m, mdel (dn t (m + 1)) ((t + 1 : Nat) : Int) = dn (t + 1) m
  | 0 => by simp [dn, mdel]
  | m + 1 => by
    have h := dn_del t m
    unfold dn
    simp only [mdel]
    rw [if_neg (by omega), h, show t + 1 + (m + 1) = t + 1 + 1 + m by omega]
abbrev ss (t m : Nat) : FS := ⟨1, 64, ((t + 1 : Nat) : Int), dn t m⟩
abbrev s0 (t m : Nat) : FS := ⟨1, 64, 1, dn t m⟩
theorem s0_put (t m : Nat) (hk : t + m < 60) : putF (s0 (t + 1) m) (rk ((t + 1 : Nat) : Int)) = (0, s0 t (m + 1)) := by
  unfold putF
  rw [if_neg (by rw [rk_check _ (by omega) (by omega)]; simp), if_neg (by simp [rk]), if_neg (by
    show ¬ ((mget (dn (t + 1) m) ((t + 1 : Nat) : Int)).isSome = true ∨ ((t + 1 : Nat) : Int) < 1)
    rw [dn_get_none (t + 1) (by omega)]; simp; omega), if_neg (by show ¬ (64 ≤ ((t + 1 : Nat) : Int) - 1); omega)]
  show (0, ({ site := 1, room := 64, next := 1, held := mput (dn (t + 1) m) ((t + 1 : Nat) : Int) (rk ((t + 1 : Nat) : Int)) } : FS)) = _
  rw [dn_put]
theorem ss_step (t m : Nat) : stepF (ss t (m + 1)) = ss (t + 1) m := by
  unfold stepF
  show ({ site := 1, room := 64, next := ((t + 1 : Nat) : Int) + 1, held := mdel (dn t (m + 1)) ((t + 1 : Nat) : Int) } : FS) = _
  rw [dn_del]
  rfl
theorem ss_after (t m : Nat) : ∀ j, j ≤ m → afterF (ss t m) j = ss (t + j) (m - j)
  | 0, _ => rfl
  | j + 1, h => by
    simp only [afterF]
    rw [ss_after t m j (by omega), show m - j = (m - (j + 1)) + 1 by omega, ss_step]
    rfl
def upr (t : Nat) : Nat → List Rc
  | 0 => []
  | m + 1 => rk ((t + 1 : Nat) : Int) :: upr (t + 1) m
theorem upr_len : ∀ (m t : Nat), (upr t m).length = m
  | 0, t => rfl
  | m + 1, t => by simp [upr, upr_len m]
theorem upr_get : ∀ (m t i : Nat), i < m → (upr t m)[i]? = some (rk ((t + 1 + i : Nat) : Int))
  | 0, t, i, h => by omega
  | m + 1, t, 0, h => by simp [upr]
  | m + 1, t, i + 1, h => by
    simp only [upr, List.getElem?_cons_succ]
    rw [upr_get m (t + 1) i (by omega), show t + 1 + 1 + i = t + 1 + (i + 1) by omega]
theorem ss_rdy : ∀ (m t : Nat), rdyF m (ss t m) = upr t m
  | 0, t => rfl
  | m + 1, t => by
    simp only [rdyF, upr]
    rw [show mget (ss t (m + 1)).held (ss t (m + 1)).next = some (rk ((t + 1 : Nat) : Int)) from dn_get t m]
    simp only
    rw [ss_step, ss_rdy m (t + 1)]
theorem ss_ready (t m : Nat) : readyF (ss t m) = upr t m := by
  unfold readyF
  rw [show (ss t m).held.length = m from dn_len t m]
  exact ss_rdy m t
/-! FilterOrder. -/
/-- All that is held is R of its number, from 'next' to 'k'. -/
structure og (k : Nat) (s : FS) : Prop where
  site : s.site = 1
  room : s.room = 64
  lo : 1 ≤ s.next
  hi : s.next ≤ (k : Int) + 1
  all : ∀ i r, (i, r) ∈ s.held → r = rk i ∧ s.next ≤ i ∧ i ≤ (k : Int)
  nod : (keysM s.held).Nodup
theorem mget_mem {κ α : Type} [DecidableEq κ] : ∀ {l : List (κ × α)} {k : κ} {v : α}, mget l k = some v → (k, v) ∈ l
  | [], k, v, h => by simp [mget] at h
  | (k', v') :: l, k, v, h => by
    simp only [mget] at h
    by_cases hk : k' = k
    · rw [if_pos hk] at h; cases h; subst hk; exact List.mem_cons_self
    · rw [if_neg hk] at h; exact List.mem_cons_of_mem _ (mget_mem h)
theorem mdel_mem {κ α : Type} [DecidableEq κ] : ∀ {l : List (κ × α)} {k : κ} {x : κ × α}, x ∈ mdel l k → x ∈ l
  | [], k, x, h => by simp [mdel] at h
  | (k', v') :: l, k, x, h => by
    simp only [mdel] at h
    by_cases hk : k' = k
    · rw [if_pos hk] at h; exact List.mem_cons_of_mem _ h
    · rw [if_neg hk] at h
      rcases List.mem_cons.1 h with rfl | h
      · exact List.mem_cons_self
      · exact List.mem_cons_of_mem _ (mdel_mem h)
theorem mput_mem {κ α : Type} [DecidableEq κ] : ∀ {l : List (κ × α)} {k : κ} {v : α} {x : κ × α}, x ∈ mput l k v → x = (k, v) ∨ x ∈ l
  | [], k, v, x, h => by left; simpa [mput] using h
  | (k', v') :: l, k, v, x, h => by
    simp only [mput] at h
    by_cases hk : k' = k
    · rw [if_pos hk] at h
      rcases List.mem_cons.1 h with h | h
      · exact .inl h
      · exact .inr (List.mem_cons_of_mem _ h)
    · rw [if_neg hk] at h
      rcases List.mem_cons.1 h with rfl | h
      · exact .inr List.mem_cons_self
      · rcases mput_mem h with h | h
        · exact .inl h
        · exact .inr (List.mem_cons_of_mem _ h)
theorem key_mem {κ α : Type} {l : List (κ × α)} {k : κ} {v : α} (h : (k, v) ∈ l) : k ∈ keysM l := List.mem_map.2 ⟨_, h, rfl⟩
theorem og_zero (k : Nat) : og k ⟨1, 64, 1, []⟩ := ⟨rfl, rfl, by decide, by show (1 : Int) ≤ k + 1; omega, fun i r h => by simp at h, by simp [keysM]⟩
theorem og_put {k : Nat} {s : FS} (h : og k s) (x : Int) (h1 : 1 ≤ x) (h2 : x ≤ (k : Int)) : og k (putF s (rk x)).2 := by
  unfold putF
  split
  · exact h
  split
  · exact h
  split
  · exact h
  split
  · exact h
  · rename_i h3 h4
    refine ⟨h.site, h.room, h.lo, h.hi, fun i r hm => ?_, nodup_mput h.nod _ _⟩
    rcases mput_mem hm with e | e
    · cases e
      refine ⟨rfl, ?_, h2⟩
      show s.next ≤ x
      have : ¬ x < s.next := fun e => h3 (.inr e)
      omega
    · exact h.all i r e
theorem og_step {k : Nat} {s : FS} (h : og k s) {r : Rc} (hr : mget s.held s.next = some r) : og k (stepF s) := by
  have h1 := h.all _ _ (mget_mem hr)
  refine ⟨h.site, h.room, by have := h.lo; show 1 ≤ s.next + 1; omega, by show s.next + 1 ≤ (k : Int) + 1; omega, fun i r hm => ?_, nodup_mdel h.nod _⟩
  have h2 := h.all i r (mdel_mem hm)
  refine ⟨h2.1, ?_, h2.2.2⟩
  show s.next + 1 ≤ i
  have : i ≠ s.next := fun e => by
    have h3 : (mget (mdel s.held s.next) i).isSome = true := mget_isSome.2 (key_mem hm)
    rw [mget_mdel h.nod, if_pos e] at h3
    simp at h3
  omega
theorem og_after {k : Nat} {s : FS} (h : og k s) : ∀ j, j ≤ (readyF s).length → og k (afterF s j)
  | 0, _ => h
  | j + 1, hj => by
    have h1 := ready_get s j (by omega)
    have h2 : (readyF s)[j]? = some (readyF s)[j] := List.getElem?_eq_getElem (by omega)
    exact og_step (og_after h j (by omega)) (h1.symm.trans h2)
theorem og_seq {k : Nat} {s : FS} (h : og k s) (j : Nat) {r : Rc} (hr : (readyF s)[j]? = some r) : r = rk (s.next + j) := by
  have hj : j < (readyF s).length := (List.getElem?_eq_some_iff.1 hr).1
  have h1 := (ready_get s j (by omega)).symm.trans hr
  have h2 := (og_after h j (by omega)).all _ _ (mget_mem h1)
  rw [h2.1, after_next]
theorem og_len {k : Nat} {s : FS} (h : og k s) : (readyF s).length ≤ k := by
  have h1 := (og_after h _ (Nat.le_refl _)).hi
  rw [after_next] at h1
  have := h.lo
  omega
theorem og_clean (s : FS) : mget (afterF s (readyF s).length).held (afterF s (readyF s).length).next = none := by
  rw [← ready_get s _ (Nat.le_refl _)]
  exact List.getElem?_eq_none (Nat.le_refl _)
theorem og_end {k : Nat} {s : FS} (h : og k s) (hn : s.next = (k : Int) + 1) : s.held = [] := by
  cases hh : s.held with
  | nil => rfl
  | cons p l =>
    obtain ⟨i, r⟩ := p
    have := h.all i r (by rw [hh]; exact List.mem_cons_self)
    omega
theorem og_prog {k : Nat} {s : FS} (h : og k s) (hk : k ≤ 20) (hc : mget s.held s.next = none) (x : Int) (h1 : 1 ≤ x) (h2 : x ≤ (k : Int)) (h3 : x ≤ s.next) : x + 1 ≤ s.next + ((readyF (putF s (rk x)).2).length : Int) := by
  by_cases he : x = s.next
  · have hp : (putF s (rk x)).2 = { s with held := mput s.held x (rk x) } := by
      unfold putF
      rw [if_neg (by rw [rk_check x h1 (by omega)]; simp), if_neg (by simp [rk, h.site]), if_neg (by
        show ¬ ((mget s.held x).isSome = true ∨ x < s.next)
        rw [he, hc]; simp), if_neg (by show ¬ (s.room ≤ x - s.next); rw [h.room]; omega)]
      rfl
    rw [hp]
    have h4 := ready_get { s with held := mput s.held x (rk x) } 0 (Nat.zero_le _)
    simp only [afterF] at h4
    rw [mget_mput, if_pos he.symm] at h4
    have := (List.getElem?_eq_some_iff.1 h4).1
    omega
  · omega
end Go.Sl
namespace Go.Sl
theorem upr_take : ∀ (m t n : Nat), (upr t m).take n = upr t (min n m)
  | 0, t, n => by simp [upr]
  | m + 1, t, 0 => by simp [upr]
  | m + 1, t, n + 1 => by
    rw [Nat.add_min_add_right]
    simp only [upr, List.take_succ_cons]
    rw [upr_take m (t + 1) n]
theorem tmod_nat {x m : Int} (hx : 0 ≤ x) (hm : 0 < m) (hb : m ≤ 1000000) : ∃ k : Nat, IntKind.i64.wrap (x.tmod m) = (k : Int) ∧ (k : Int) < m := by
  have h1 : 0 ≤ x.tmod m ∧ x.tmod m < m := by
    rw [Int.tmod_eq_emod_of_nonneg hx]
    exact ⟨Int.emod_nonneg _ (by omega), Int.emod_lt_of_pos _ hm⟩
  rw [wrap_id (by omega) (by omega)]
  exact ⟨(x.tmod m).toNat, by omega, by omega⟩
end Go.Sl
