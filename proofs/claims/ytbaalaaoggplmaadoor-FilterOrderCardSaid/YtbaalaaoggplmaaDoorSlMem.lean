/- A part of a proof: a walk over the model by a small separation logic. -/
import Derived.Test.YtbaalaaoggplmaaDoorSlHeap
import Derived.Laws.World
/-! What loads, stores and new blocks do to the statements on memory. -/
set_option linter.unusedVariables false
namespace Go.Sl
variable {w : World} {L : List HP}

theorem row_lt {α : Type} {vs : List α} {i : Nat} {v : α} (h : vs[i]? = some v) : i < vs.length := by
  rcases Nat.lt_or_ge i vs.length with g | g
  · exact g
  · simp [List.getElem?_eq_none g] at h

theorem St.cell {b off : Nat} {vs : List Value} (h : St w (pts b off vs :: L)) {i : Nat} {v : Value} (hv : vs[i]? = some v) :
    w.cell? ⟨b, off + i, none⟩ = some v ∧ w.frozen? ⟨b, off + i, none⟩ = false := by
  obtain ⟨r, o, s, x, y, d, le, hp, _⟩ := h
  exact s.val _ _ _ (le _ _ _ (Own.le_add_left _ _ _ _ _ (hp i v hv)))
theorem St.rcell {b off : Nat} {vs : List Value} (h : St w (rod b off vs :: L)) {i : Nat} {v : Value} (hv : vs[i]? = some v) :
    w.cell? ⟨b, off + i, none⟩ = some v := by
  obtain ⟨r, o, s, x, y, d, le, hp, _⟩ := h
  exact s.ro _ _ _ (hp i v hv)
theorem St.obj {b : Nat} {x : Obj} (h : St w (ob b x :: L)) : w.heap[b]? = some x ∧ notCells x := by
  obtain ⟨r, o, s, a, y, d, le, hp, _⟩ := h
  exact (s.obj _ _ _ (le _ _ _ (Own.le_add_left _ _ _ _ _ hp))).2

theorem cell_block {w : World} {i j : Nat} {v : Value} (h : w.cell? ⟨i, j, none⟩ = some v) : ∃ c e f, w.heap[i]? = some (.cells c e f) ∧ c[j]? = some v := by
  unfold World.cell? at h
  split at h
  · rename_i c e f hh; exact ⟨c, e, f, hh, by simpa using h⟩
  · simp at h

theorem cell_set_self {w : World} {b j : Nat} {u v : Value} (h : w.cell? ⟨b, j, none⟩ = some u) : (w.setCell ⟨b, j, none⟩ v).cell? ⟨b, j, none⟩ = some v :=
  World.cell?_setCell_same _ _ _ h
theorem cell_set_ne {w : World} {b j i k : Nat} {v : Value} (h : i ≠ b ∨ k ≠ j) : (w.setCell ⟨b, j, none⟩ v).cell? ⟨i, k, none⟩ = w.cell? ⟨i, k, none⟩ :=
  World.cell?_setCell_other _ _ _ _ (fun e => by injection e with e1 e2; rcases h with h | h <;> exact h (by simp [e1, e2]))
theorem frozen_set {w : World} {a a' : Addr} {v : Value} : (w.setCell a v).frozen? a' = w.frozen? a' := World.frozen?_setCell _ _ _ _
theorem obj_set {w : World} {a : Addr} {v : Value} {i : Nat} {x : Obj} (hx : notCells x) (h : w.heap[i]? = some x) : (w.setCell a v).heap[i]? = some x := by
  simp only [World.setCell, Array.getElem?_modify]
  split
  · rw [h]; cases x <;> simp [notCells] at hx ⊢
  · exact h

theorem St.store {b off : Nat} {vs : List Value} (h : St w (pts b off vs :: L)) {i : Nat} (hi : i < vs.length) (v : Value) :
    St (w.setCell ⟨b, off + i, none⟩ v) (pts b off (vs.set i v) :: L) := by
  obtain ⟨r, o, s, x, y, d, le, hp, hL⟩ := h
  let q : Nat → Nat → Bool := fun k l => k == b && l == off + i
  let put : Own → Own := fun z k l => if q k l then (z k l).map (fun _ => .val v) else z k l
  have hxi : x b (off + i) = some (.val vs[i]) := hp i _ (by simp [hi])
  have hyi : y b (off + i) = none := (d b (off + i)).resolve_left (by simp [hxi])
  have hoi : o b (off + i) = some (.val vs[i]) := le _ _ _ (Own.le_add_left _ _ _ _ _ hxi)
  have hq : ∀ k l, q k l = true ↔ k = b ∧ l = off + i := fun k l => by simp [q]
  have hlow : ∀ k l c, put o k l = some c → r.bs.heap.size ≤ k := fun k l c e => by
    simp only [put] at e
    split at e
    · cases ho : o k l with
      | none => simp [ho] at e
      | some c' => exact s.low _ _ _ ho
    · exact s.low _ _ _ e
  refine ⟨r, put o, ⟨fun k l u e => ?_, fun k l u e => ?_, fun k l z e => ?_, fun k l u c e e' => ?_, s.below.setCell (s.low _ _ _ hoi) v, hlow⟩, put x, y, fun k l => ?_, fun k l c e => ?_, ?_, hL⟩
  · rw [cell_set_ne]
    · exact s.ro _ _ _ e
    · by_cases hk : k = b
      · subst hk
        by_cases hl : l = off + i
        · subst hl; exact (s.dis _ _ _ _ e hoi).elim
        · exact .inr hl
      · exact .inl hk
  · by_cases hkl : q k l = true
    · obtain ⟨rfl, rfl⟩ := (hq k l).1 hkl
      simp only [put, hkl, if_true, hoi, Option.map_some] at e
      cases e
      obtain ⟨hc, hf⟩ := s.val _ _ _ hoi
      exact ⟨cell_set_self hc, by rw [frozen_set]; exact hf⟩
    · simp only [put, hkl, if_false, Bool.false_eq_true] at e
      obtain ⟨hc, hf⟩ := s.val _ _ _ e
      refine ⟨?_, by rw [frozen_set]; exact hf⟩
      rw [cell_set_ne]
      · exact hc
      · by_cases hk : k = b
        · right; intro hl; exact hkl ((hq k l).2 ⟨hk, hl⟩)
        · exact .inl hk
  · by_cases hkl : q k l = true
    · obtain ⟨rfl, rfl⟩ := (hq k l).1 hkl
      simp only [put, hkl, if_true, hoi, Option.map_some] at e
      cases e
    · simp only [put, hkl, if_false, Bool.false_eq_true] at e
      obtain ⟨h0, h1, h2⟩ := s.obj _ _ _ e
      exact ⟨h0, obj_set h2 h1, h2⟩
  · by_cases hkl : q k l = true
    · obtain ⟨rfl, rfl⟩ := (hq k l).1 hkl
      exact s.dis _ _ _ _ e hoi
    · simp only [put, hkl, if_false, Bool.false_eq_true] at e'
      exact s.dis _ _ _ _ e e'
  · by_cases hkl : q k l = true
    · obtain ⟨rfl, rfl⟩ := (hq k l).1 hkl
      exact .inr hyi
    · simp only [put, hkl, if_false, Bool.false_eq_true]
      exact d k l
  · by_cases hkl : q k l = true
    · obtain ⟨rfl, rfl⟩ := (hq k l).1 hkl
      simp only [Own.add, put, hkl, if_true, hxi, Option.map_some, Option.some_or] at e
      simp only [put, hkl, if_true, hoi, Option.map_some]; exact e
    · simp only [Own.add, put, hkl, if_false, Bool.false_eq_true] at e ⊢
      exact le _ _ _ e
  · intro j u hu
    by_cases hj : j = i
    · subst hj
      have : q b (off + j) = true := (hq _ _).2 ⟨rfl, rfl⟩
      simp only [put, this, if_true, hxi, Option.map_some]
      simp [List.getElem?_set_self hi] at hu
      rw [hu]
    · have : q b (off + j) = false := by
        cases h : q b (off + j) with
        | false => rfl
        | true => have := ((hq _ _).1 h).2; omega
      simp only [put, this, Bool.false_eq_true, if_false]
      rw [List.getElem?_set_ne (fun e => hj e.symm)] at hu
      exact hp j u hu

/-- A new object. -/
theorem heap_push_lt {w : World} {o : Obj} {i : Nat} {x : Obj} (h : w.heap[i]? = some x) : (w.heap.push o)[i]? = some x := by
  have hi : i < w.heap.size := by
    rcases Nat.lt_or_ge i w.heap.size with g | g
    · exact g
    · simp [Array.getElem?_eq_none g] at h
  rw [Array.getElem?_push_lt hi]; rw [Array.getElem?_eq_getElem hi] at h; exact h

theorem cell_push {w : World} {o : Obj} {a : Addr} {v : Value} (h : w.cell? a = some v) : ({ w with heap := w.heap.push o } : World).cell? a = some v := by
  unfold World.cell? at h ⊢
  split at h
  · rename_i hh
    simp only [heap_push_lt hh]; exact h
  · simp at h
theorem frozen_push {w : World} {o : Obj} {a : Addr} {v : Value} (h : w.cell? a = some v) : ({ w with heap := w.heap.push o } : World).frozen? a = w.frozen? a := by
  unfold World.cell? at h
  unfold World.frozen?
  split at h
  · rename_i hh
    simp only [heap_push_lt hh, hh]
  · simp at h

theorem sat_push {w : World} {r : Ro} {o : Own} (s : Sat w r o) (z : Obj) : Sat { w with heap := w.heap.push z } r o :=
  ⟨fun i j v e => cell_push (s.ro i j v e), fun i j v e => ⟨cell_push (s.val i j v e).1, by rw [frozen_push (s.val i j v e).1]; exact (s.val i j v e).2⟩,
   fun i j x e => ⟨(s.obj i j x e).1, heap_push_lt (s.obj i j x e).2.1, (s.obj i j x e).2.2⟩, s.dis, s.below.alloc s.below.size z, s.low⟩

theorem sat_new {w : World} {r : Ro} {o : Own} (s : Sat w r o) : (∀ j c, o w.heap.size j ≠ some c) ∧ (∀ j v, r w.heap.size j ≠ some v) := by
  have none : w.heap[w.heap.size]? = none := Array.getElem?_eq_none (Nat.le_refl _)
  constructor
  · intro j c e
    cases c with
    | val v => obtain ⟨c, e, f, hh, _⟩ := cell_block (s.val _ _ _ e).1; rw [none] at hh; simp at hh
    | obj x => have := (s.obj _ _ _ e).2.1; rw [none] at this; simp at this
  · intro j v e
    obtain ⟨c, e, f, hh, _⟩ := cell_block (s.ro _ _ _ e); rw [none] at hh; simp at hh

theorem St.alloc (h : St w L) (cs : Array Value) (t : TypeId) : St { w with heap := w.heap.push (.cells cs t) } (pts w.heap.size 0 cs.toList :: L) := by
  obtain ⟨r, o, s, hL⟩ := h
  obtain ⟨n1, n2⟩ := sat_new s
  let x : Own := fun i j => if i = w.heap.size then (cs.toList[j]?).map .val else none
  have dx : x.disj o := fun i j => by
    by_cases hi : i = w.heap.size
    · right
      subst hi
      cases ho : o w.heap.size j with
      | none => rfl
      | some c => exact (n1 _ _ ho).elim
    · left; simp [x, hi]
  have s' := sat_push s (.cells cs t)
  have hself : ({ w with heap := w.heap.push (.cells cs t) } : World).heap[w.heap.size]? = some (.cells cs t) := by simp
  have hlow : ∀ k l c, x.add o k l = some c → r.bs.heap.size ≤ k := fun k l c e => by
    rcases Own.add_cases e with e | e
    · simp only [x] at e
      split at e
      · rename_i hk; rw [hk]; exact s.below.size
      · cases e
    · exact s.low _ _ _ e
  refine ⟨r, x.add o, ⟨s'.ro, fun i j v e => ?_, fun i j z e => ?_, fun i j v c e e' => ?_, s'.below, hlow⟩, x, o, dx, Own.le_refl _, ?_, hL⟩
  · rcases Own.add_cases e with e | e
    · by_cases hi : i = w.heap.size
      · subst hi
        simp only [x, if_true, Option.map_eq_some_iff] at e
        obtain ⟨u, hu, e⟩ := e
        cases e
        refine ⟨?_, ?_⟩
        · unfold World.cell?; simp only [hself]; simpa using hu
        · unfold World.frozen?; simp only [hself]; simp
      · simp [x, hi] at e
    · exact s'.val _ _ _ e
  · rcases Own.add_cases e with e | e
    · simp only [x] at e
      split at e
      · simp only [Option.map_eq_some_iff] at e
        obtain ⟨u, hu, e⟩ := e; cases e
      · simp at e
    · exact s'.obj _ _ _ e
  · rcases Own.add_cases e' with e' | e'
    · by_cases hi : i = w.heap.size
      · subst hi; exact n2 _ _ e
      · simp [x, hi] at e'
    · exact s.dis _ _ _ _ e e'
  · intro i v hv
    simp only [x, if_true, Nat.zero_add, hv, Option.map_some]

theorem St.allocObj (h : St w L) (z : Obj) (hz : notCells z) : St { w with heap := w.heap.push z } (ob w.heap.size z :: L) := by
  obtain ⟨r, o, s, hL⟩ := h
  obtain ⟨n1, n2⟩ := sat_new s
  let x : Own := fun i j => if i = w.heap.size ∧ j = 0 then some (.obj z) else none
  have dx : x.disj o := fun i j => by
    by_cases hi : i = w.heap.size
    · right
      subst hi
      cases ho : o w.heap.size j with
      | none => rfl
      | some c => exact (n1 _ _ ho).elim
    · left; simp [x, hi]
  have s' := sat_push s z
  have hself : ({ w with heap := w.heap.push z } : World).heap[w.heap.size]? = some z := by simp
  have hlow : ∀ k l c, x.add o k l = some c → r.bs.heap.size ≤ k := fun k l c e => by
    rcases Own.add_cases e with e | e
    · simp only [x] at e
      split at e
      · rename_i hk; rw [hk.1]; exact s.below.size
      · cases e
    · exact s.low _ _ _ e
  refine ⟨r, x.add o, ⟨s'.ro, fun i j v e => ?_, fun i j z e => ?_, fun i j v c e e' => ?_, s'.below, hlow⟩, x, o, dx, Own.le_refl _, ?_, hL⟩
  · rcases Own.add_cases e with e | e
    · simp only [x] at e; split at e <;> simp at e
    · exact s'.val _ _ _ e
  · rcases Own.add_cases e with e1 | e1
    · simp only [x] at e1
      split at e1
      · rename_i hij; obtain ⟨rfl, rfl⟩ := hij; cases e1; exact ⟨rfl, hself, hz⟩
      · cases e1
    · exact s'.obj _ _ _ e1
  · rcases Own.add_cases e' with e1 | e1
    · simp only [x] at e1
      split at e1
      · rename_i hij; obtain ⟨rfl, rfl⟩ := hij; exact n2 _ _ e
      · simp at e1
    · exact s.dis _ _ _ _ e e1
  · show x w.heap.size 0 = _
    simp [x]

theorem St.setObj {b : Nat} {x z : Obj} (h : St w (ob b x :: L)) (hz : notCells z) : St { w with heap := w.heap.setIfInBounds b z } (ob b z :: L) := by
  obtain ⟨r, o, s, x', y, d, le, hp, hL⟩ := h
  have ho : o b 0 = some (.obj x) := le _ _ _ (Own.le_add_left _ _ _ _ _ hp)
  obtain ⟨_, hb, hx⟩ := s.obj _ _ _ ho
  have hlt : b < w.heap.size := by
    rcases Nat.lt_or_ge b w.heap.size with g | g
    · exact g
    · simp [Array.getElem?_eq_none g] at hb
  have hne : ∀ {i j v}, w.cell? ⟨i, j, none⟩ = some v → b ≠ i := fun {i j v} e he => by
    subst he
    obtain ⟨c, e, f, hh, _⟩ := cell_block e
    rw [hb] at hh; cases hh; exact hx
  have hcell : ∀ {i j v}, w.cell? ⟨i, j, none⟩ = some v → ({ w with heap := w.heap.setIfInBounds b z } : World).cell? ⟨i, j, none⟩ = some v := fun {i j v} e => by
    have := hne e
    unfold World.cell? at e ⊢
    simp only [Array.getElem?_setIfInBounds_ne this]; exact e
  have hfr : ∀ {i j v}, w.cell? ⟨i, j, none⟩ = some v → ({ w with heap := w.heap.setIfInBounds b z } : World).frozen? ⟨i, j, none⟩ = w.frozen? ⟨i, j, none⟩ := fun {i j v} e => by
    have := hne e
    unfold World.frozen?
    simp only [Array.getElem?_setIfInBounds_ne this]
  let put : Own → Own := fun u k l => if k = b ∧ l = 0 then some (.obj z) else u k l
  have hy : y b 0 = none := (d b 0).resolve_left (by rw [hp]; simp)
  have hlow : ∀ k l c, put o k l = some c → r.bs.heap.size ≤ k := fun k l c e => by
    simp only [put] at e
    split at e
    · rename_i hk; rw [hk.1]; exact s.low _ _ _ ho
    · exact s.low _ _ _ e
  have hbel : Go.RowKit.Below r.bs.heap.size r.bs { w with heap := w.heap.setIfInBounds b z } :=
    s.below.trans ⟨rfl, rfl, rfl, by simp, fun k hk => by
      have := s.low _ _ _ ho
      exact Array.getElem?_setIfInBounds_ne (by omega)⟩
  refine ⟨r, put o, ⟨fun k l u e => hcell (s.ro _ _ _ e), fun k l u e => ?_, fun k l u e => ?_, fun k l u c e e' => ?_, hbel, hlow⟩, put x', y, fun k l => ?_, fun k l c e => ?_, ?_, hL⟩
  · simp only [put] at e
    split at e
    · cases e
    · obtain ⟨h1, h2⟩ := s.val _ _ _ e
      exact ⟨hcell h1, by rw [hfr h1]; exact h2⟩
  · simp only [put] at e
    split at e
    · rename_i hk; obtain ⟨rfl, rfl⟩ := hk; cases e
      exact ⟨rfl, by simp [hlt], hz⟩
    · rename_i hk
      obtain ⟨h0, h1, h2⟩ := s.obj _ _ _ e
      refine ⟨h0, ?_, h2⟩
      have : b ≠ k := fun he => hk ⟨he.symm, h0⟩
      simp only [Array.getElem?_setIfInBounds_ne this]; exact h1
  · simp only [put] at e'
    split at e'
    · rename_i hk; obtain ⟨rfl, rfl⟩ := hk; exact s.dis _ _ _ _ e ho
    · exact s.dis _ _ _ _ e e'
  · simp only [put]
    split
    · rename_i hk; obtain ⟨rfl, rfl⟩ := hk; exact .inr hy
    · exact d k l
  · simp only [put, Own.add] at e ⊢
    split
    · rename_i hk; simp only [hk, and_self, if_true, Option.some_or] at e; exact e
    · rename_i hk; simp only [hk, if_false] at e; exact le _ _ _ e
  · show put x' b 0 = _
    simp [put]

/-- Own cells are given up for good: from now on they are read alone. -/
theorem St.publish {b off : Nat} {vs : List Value} (h : St w (pts b off vs :: L)) : St w (rod b off vs :: L) := by
  obtain ⟨r, o, s, x, y, d, le, hp, hL⟩ := h
  let r' : Ro := ⟨fun i j => (r i j).or (match x i j with | some (.val v) => some v | _ => none), r.bs⟩
  have hle : r.le r' := ⟨rfl, fun i j v e => by simp [r', e]⟩
  have hr' : ∀ i j v, r' i j = some v → r i j = some v ∨ x i j = some (.val v) := fun i j v e => by
    simp only [r'] at e
    cases hr : r i j with
    | some u => left; simpa [hr] using e
    | none =>
      right
      simp only [hr, Option.none_or] at e
      split at e
      · rename_i u hx; cases e; exact hx
      · simp at e
  refine ⟨r', y, ⟨fun i j v e => ?_, fun i j v e => s.val _ _ _ (le _ _ _ (Own.le_add_right d _ _ _ e)), fun i j z e => s.obj _ _ _ (le _ _ _ (Own.le_add_right d _ _ _ e)), fun i j v c e e' => ?_, s.below, fun i j c e => s.low _ _ _ (le _ _ _ (Own.le_add_right d _ _ _ e))⟩, fun _ _ => none, y, fun _ _ => .inl rfl, none_add, ?_, seps_up hle (Own.le_refl _) hL⟩
  · rcases hr' _ _ _ e with e | e
    · exact s.ro _ _ _ e
    · exact (s.val _ _ _ (le _ _ _ (Own.le_add_left _ _ _ _ _ e))).1
  · rcases hr' _ _ _ e with e | e
    · exact s.dis _ _ _ _ e (le _ _ _ (Own.le_add_right d _ _ _ e'))
    · rcases d i j with h | h
      · simp [h] at e
      · simp [h] at e'
  · intro i v hv
    have hx := hp i v hv
    have ho := le _ _ _ (Own.le_add_left _ _ _ _ _ hx)
    have hrn : r b (off + i) = none := by
      cases hr : r b (off + i) with
      | none => rfl
      | some u => exact (s.dis _ _ _ _ hr ho).elim
    simp [r', hrn, hx]

theorem St.drew (h : St w L) (n : Nat) : St { w with drawn := n } L :=
  let ⟨r, o, s, x⟩ := h
  ⟨r, o, ⟨s.ro, s.val, s.obj, s.dis, ⟨s.below.os, s.below.tape, s.below.output, s.below.size, s.below.block⟩, s.low⟩, x⟩

theorem pts_split {b off : Nat} {us vs : List Value} : Ent (pts b off (us ++ vs) :: L) (pts b off us :: pts b (off + us.length) vs :: L) := by
  rintro r o ⟨x, y, d, le, hp, hL⟩
  let p : Nat → Nat → Prop := fun i j => i = b ∧ off + us.length ≤ j
  have hd : ∀ i j, Decidable (p i j) := fun i j => inferInstanceAs (Decidable (_ ∧ _))
  let x1 : Own := fun i j => if p i j then none else x i j
  let x2 : Own := fun i j => if p i j then x i j else none
  refine ⟨x1, x2.add y, fun i j => ?_, fun i j c e => ?_, ?_, x2, y, fun i j => ?_, Own.le_refl _, ?_, hL⟩
  · by_cases h : p i j
    · left; simp [x1, h]
    · rcases d i j with h' | h'
      · left; simp [x1, h']
      · right; simp [Own.add, x2, h, h']
  · rcases Own.add_cases e with e | e
    · simp only [x1] at e; split at e
      · simp at e
      · exact le _ _ _ (Own.le_add_left _ _ _ _ _ e)
    · rcases Own.add_cases e with e | e
      · simp only [x2] at e; split at e
        · exact le _ _ _ (Own.le_add_left _ _ _ _ _ e)
        · simp at e
      · exact le _ _ _ (Own.le_add_right d _ _ _ e)
  · intro i v hv
    have hi := row_lt hv
    have : ¬ p b (off + i) := fun h => by have := h.2; omega
    show x1 b (off + i) = _
    simp only [x1, this, if_false]
    exact hp i v (by rw [List.getElem?_append_left hi]; exact hv)
  · rcases d i j with h' | h'
    · left; simp [x2, h']
    · exact .inr h'
  · intro i v hv
    have : p b (off + us.length + i) := ⟨rfl, by omega⟩
    show x2 b (off + us.length + i) = _
    simp only [x2, this, if_true]
    have := hp (us.length + i) v (by rw [List.getElem?_append_right (by omega)]; simpa using hv)
    rwa [← Nat.add_assoc] at this

theorem pts_join {b off : Nat} {us vs : List Value} : Ent (pts b off us :: pts b (off + us.length) vs :: L) (pts b off (us ++ vs) :: L) := by
  rintro r o ⟨x, yz, d, le, hx, y, z, d', le', hy, hL⟩
  have dxz : x.disj z := fun i j => by
    rcases d i j with h | h
    · exact .inl h
    · right
      cases hz : z i j with
      | none => rfl
      | some c => have := le' _ _ _ (Own.le_add_right d' _ _ _ hz); simp [h] at this
  have dxy : x.disj y := fun i j => by
    rcases d i j with h | h
    · exact .inl h
    · right
      cases hz : y i j with
      | none => rfl
      | some c => have := le' _ _ _ (Own.le_add_left _ _ _ _ _ hz); simp [h] at this
  refine ⟨x.add y, z, fun i j => ?_, fun i j c e => ?_, ?_, hL⟩
  · rcases dxz i j with h | h
    · rcases d' i j with h' | h'
      · left; simp [Own.add, h, h']
      · exact .inr h'
    · exact .inr h
  · rcases Own.add_cases e with e | e
    · rcases Own.add_cases e with e | e
      · exact le _ _ _ (Own.le_add_left _ _ _ _ _ e)
      · exact le _ _ _ (Own.le_add_right d _ _ _ (le' _ _ _ (Own.le_add_left _ _ _ _ _ e)))
    · exact le _ _ _ (Own.le_add_right d _ _ _ (le' _ _ _ (Own.le_add_right d' _ _ _ e)))
  · intro i v hv
    rcases Nat.lt_or_ge i us.length with h | h
    · rw [List.getElem?_append_left h] at hv
      exact Own.le_add_left _ _ _ _ _ (hx i v hv)
    · rw [List.getElem?_append_right h] at hv
      have := hy _ _ hv
      rw [show off + us.length + (i - us.length) = off + i by omega] at this
      exact Own.le_add_right dxy _ _ _ this

end Go.Sl
