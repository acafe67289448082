/- A part of a proof: a walk over the model by a small separation logic. -/
import Derived.Test.YtbaalaaoggplmaaDoorSlLaw
/-! What an argument reads as lies in memory. -/
set_option linter.unusedVariables false
set_option linter.unusedSectionVars false
namespace Go.Sl
open Go.ChangeShapes Go.WideShapes Go.RowKit
section
variable {H : Type} {enc : TypeId × Value → H} {P : Program} {W : World}

/-- Cells that read as data of type t are those of one of α, with p. -/
def Rd {α : Type} (enc : TypeId × Value → H) (P : Program) (W : World) (t : TypeId) (ρ : Rep α) (p : α → Prop) : Prop :=
  ∀ fuel cs x, DataW.trod enc P W 0 (fun _ => true) true fuel t cs = some x → ∃ a h, p a ∧ cs = ρ.cells a h ∧ seps (ρ.atoms a h) (ro0 W) own0

theorem slot_ok {P : Program} {t e : TypeId} {r : Reach} {b0 : Nat} {v : Value} (ht : P.underlying t = some (.slice e)) (h : Value.okWide P W r b0 t v) : ∃ A n c, v = .slice A n c ∧ (∀ a, A = some a → a.spot = none) := by
  obtain ⟨A, n, c, rfl⟩ := okWide_slice ht h
  refine ⟨A, n, c, rfl, ?_⟩
  rintro a rfl
  simp only [Value.okWide, ht, Cell.okWide, Cell.ok] at h
  exact h.2.2.2.1

theorem flat_cell {α : Type} {ρ : Rep α} (z : List (α × ρ.V)) {i : Nat} {v : Value} (h : (flat ρ z)[i]? = some v) : ∃ k j x y, z[k]? = some (x, y) ∧ i = k * ρ.sz + j ∧ j < ρ.sz ∧ (ρ.cells x y)[j]? = some v := by
  have hi : i < z.length * ρ.sz := by rw [← flat_length]; exact row_lt h
  have hp := ρ.pos
  have hk : i / ρ.sz < z.length := Nat.div_lt_of_lt_mul (by rw [Nat.mul_comm]; exact hi)
  have hj : i % ρ.sz < ρ.sz := Nat.mod_lt _ hp
  have he : i = i / ρ.sz * ρ.sz + i % ρ.sz := by rw [Nat.mul_comm]; exact (Nat.div_add_mod i ρ.sz).symm
  obtain ⟨⟨x, y⟩, hz'⟩ : ∃ xy, z[i / ρ.sz]? = some xy := ⟨_, List.getElem?_eq_getElem hk⟩
  refine ⟨_, _, x, y, hz', he, hj, ?_⟩
  rw [← flat_get z _ _ x y hz' hj, ← he]; exact h

theorem read_slice {α : Type} {ρ : Rep α} {p : α → Prop} {t e : TypeId} {r : Reach} {b0 : Nat} {v : Value} {d : DataW H} {ps : List MemPlace} (ht : P.underlying t = some (.slice e)) (hsz : P.cellsOf e = ρ.sz) (he : Rd enc P W e ρ p)
    (hok : Value.okWide P W r b0 t v) (h : DataW.Trod enc P W 0 (fun _ => true) true t v d ps) :
    ∃ A n c, ∃ l : List α, v = .slice A n c ∧ n = l.length ∧ n ≤ c ∧ (∀ x ∈ l, p x) ∧ (n ≤ lim → (slAt ρ A n l).h (ro0 W) own0) := by
  obtain ⟨A, n, c, rfl, hspot⟩ := slot_ok ht hok
  obtain ⟨fuel, hf⟩ := h
  rcases DataW.trod_slice ht hf with ⟨hcs, hx⟩ | ⟨a, len, cap, elems, rest, m, _, hcs, hx, hb, hl, hm, hlen, hel, _, _⟩
  · simp only [Value.cells] at hcs
    obtain ⟨rfl, rfl, rfl⟩ : A = none ∧ n = 0 ∧ c = 0 := by simpa using hcs
    exact ⟨none, 0, 0, [], rfl, rfl, Nat.le_refl _, by simp, fun h => ⟨rfl, h, fun _ => rfl, fun a h => by cases h⟩⟩
  · simp only [Value.cells] at hcs
    obtain ⟨rfl, rfl, rfl⟩ : A = some a ∧ n = len ∧ c = cap := by simpa using hcs
    have hs := hspot a rfl
    have each : ∀ i : Fin n, ∃ xy : α × ρ.V, p xy.1 ∧ (∀ j v, (ρ.cells xy.1 xy.2)[j]? = some v → W.cell? ⟨a.block, a.off + (i.1 * ρ.sz + j), none⟩ = some v) ∧ seps (ρ.atoms xy.1 xy.2) (ro0 W) own0 := by
      intro i
      have hi := hel i.1 i.2
      have he' : i.1 < elems.length := by rw [hlen]; exact i.2
      rw [List.getElem?_eq_getElem he', Option.bind_eq_some_iff] at hi
      obtain ⟨cs, hcs, htr⟩ := hi
      obtain ⟨x, y, hp, rfl, hat⟩ := he m cs _ htr
      refine ⟨(x, y), hp, fun j v hv => ?_, hat⟩
      obtain ⟨_, hlc, hc⟩ := World.cells?_some hcs
      have hj := row_lt hv
      rw [hsz] at hc
      have := hc j (by rw [ρ.len] at hj; exact hj)
      rw [hv, eadr_base hs, Addr.add] at this
      split at this
      · rename_i h0; rw [h0, Nat.add_zero]; exact this
      · rw [← Nat.add_assoc]; exact this
    let f : Fin n → α × ρ.V := fun i => (each i).choose
    have hfp : ∀ i, _ := fun i => (each i).choose_spec
    have hget : ∀ (k : Nat) x, (List.ofFn f)[k]? = some x → ∃ hk : k < n, x = f ⟨k, hk⟩ := fun k x hx => by
      have hk := row_lt hx
      simp at hk
      refine ⟨hk, ?_⟩
      rw [List.getElem?_ofFn] at hx
      simpa [hk] using hx.symm
    refine ⟨some a, n, c, (List.ofFn f).map (·.1), rfl, by simp, hl, ?_, fun hlim => ⟨by simp, hlim, fun h => (by cases h), fun a' ha => ?_⟩⟩
    · intro x hx
      obtain ⟨y, hy, rfl⟩ := List.mem_map.1 hx
      obtain ⟨k, hk⟩ := List.getElem?_of_mem hy
      obtain ⟨hk', rfl⟩ := hget k y hk
      exact (hfp ⟨k, hk'⟩).1
    · cases ha
      refine ⟨hs, List.ofFn f, rfl, fun i v hv => ?_, fun i x y hx => ?_⟩
      · obtain ⟨k, j, x, y, hz, hi, hj, hv⟩ := flat_cell _ hv
        obtain ⟨hk, hxy⟩ := hget k _ hz
        have := (hfp ⟨k, hk⟩).2.1 j v (by show (ρ.cells (f ⟨k, hk⟩).1 (f ⟨k, hk⟩).2)[j]? = _; rw [← hxy]; exact hv)
        rw [hi]; exact this
      · obtain ⟨hk, hxy⟩ := hget i _ hx
        have := (hfp ⟨i, hk⟩).2.2
        change seps (ρ.atoms (f ⟨i, hk⟩).1 (f ⟨i, hk⟩).2) _ _ at this
        rw [← hxy] at this
        exact this
end
end Go.Sl
