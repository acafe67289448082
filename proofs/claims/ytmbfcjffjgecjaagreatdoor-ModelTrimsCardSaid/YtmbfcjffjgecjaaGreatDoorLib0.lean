/- A part of a proof: a walk over the model by a small separation logic. -/
import Derived.RangeFuncLeaves
import Derived.TacticsIn
import Derived.OrdersIn
import Derived.Below
import Derived.Laws.World
import Derived.Deep.Quiet
import Derived.Laws.Strings
import Derived.Laws.Small
import Derived.Carry
import Derived.ChangeSame
import Derived.RowKit
import Derived.WideKeyArgs
set_option linter.unusedVariables false
theorem Go.Sl.bl : (∀ (p : Prop) [Decidable p], (decide p = true) = p) ∧ (∀ (p : Prop) [Decidable p], decide p = false ↔ ¬ p) ∧ (∀ b : Bool, ((!b) = true) = (b = false)) ∧ (∀ b : Bool, ((!b) = false) = (b = true)) ∧ (!true) = false ∧ (!false) = true ∧ (∀ b : Bool, (!!b) = b) :=
  ⟨fun p _ => decide_eq_true_eq, fun p _ => decide_eq_false_iff_not, by decide, by decide, rfl, rfl, by decide⟩
namespace Go.Sl
inductive Cel where
  | val (v : Value)
  | obj (o : Obj)
  | pl
abbrev Own := Nat → Nat → Option Cel
structure Ro where
  rd : Nat → Nat → Option Value
  bs : World
instance : CoeFun Ro (fun _ => Nat → Nat → Option Value) := ⟨Ro.rd⟩
structure Ro.le (r r' : Ro) : Prop where
  bs : r'.bs = r.bs
  le : ∀ i j v, r i j = some v → r' i j = some v
def Own.le (o o' : Own) : Prop := ∀ i j c, o i j = some c → o' i j = some c
def Own.disj (a b : Own) : Prop := ∀ i j, a i j = none ∨ b i j = none
def Own.add (a b : Own) : Own := fun i j => (a i j).or (b i j)
theorem Ro.le_refl (r : Ro) : r.le r := ⟨rfl, fun _ _ _ h => h⟩
theorem Ro.le_trans {a b c : Ro} (h : a.le b) (h' : b.le c) : a.le c := ⟨h'.bs.trans h.bs, fun i j v e => h'.le i j v (h.le i j v e)⟩
theorem Own.le_refl (o : Own) : o.le o := fun _ _ _ h => h
theorem Own.le_trans {a b c : Own} (h : a.le b) (h' : b.le c) : a.le c := fun i j v e => h' i j v (h i j v e)
theorem Own.le_add_left (a b : Own) : a.le (a.add b) := fun i j c h => by simp [Own.add, h]
theorem Own.le_add_right {a b : Own} (d : a.disj b) : b.le (a.add b) := fun i j c h => by
  rcases d i j with h' | h'
  · simp [Own.add, h', h]
  · simp [h'] at h
theorem Own.add_cases {a b : Own} {i j : Nat} {c : Cel} (h : a.add b i j = some c) : a i j = some c ∨ b i j = some c := by
  simp only [Own.add] at h
  cases ha : a i j with
  | none => right; simpa [ha] using h
  | some x => left; simpa [ha] using h
structure HP where
  h : Ro → Own → Prop
  up : ∀ r r' o o', Ro.le r r' → Own.le o o' → h r o → h r' o'
def seps : List HP → Ro → Own → Prop
  | [], _, _ => True
  | A :: L, r, o => ∃ a b, Own.disj a b ∧ Own.le (a.add b) o ∧ A.h r a ∧ seps L r b
theorem seps_up {L : List HP} : ∀ {r r' : Ro} {o o' : Own}, r.le r' → o.le o' → seps L r o → seps L r' o' := by
  induction L with
  | nil => intros; trivial
  | cons A L ih =>
    rintro r r' o o' hr ho ⟨a, b, d, le, hA, hL⟩
    exact ⟨a, b, d, Own.le_trans le ho, A.up _ _ _ _ hr (Own.le_refl _) hA, ih hr (Own.le_refl _) hL⟩
def notCells : Obj → Prop
  | .cells .. => False
  | _ => True
def plainAt (w : World) (i j : Nat) : Prop := ∃ c e f, w.heap[i]? = some (.cells c e f) ∧ c.size = j ∧ w.frozen? ⟨i, j, none⟩ = false
structure Sat (w : World) (r : Ro) (o : Own) : Prop where
  ro : ∀ i j v, r i j = some v → w.cell? ⟨i, j, none⟩ = some v
  val : ∀ i j v, o i j = some (.val v) → w.cell? ⟨i, j, none⟩ = some v ∧ w.frozen? ⟨i, j, none⟩ = false
  obj : ∀ i j x, o i j = some (.obj x) → j = 0 ∧ w.heap[i]? = some x ∧ notCells x
  dis : ∀ i j v c, r i j = some v → o i j = some c → False
  below : Go.RowKit.Below r.bs.heap.size r.bs w
  low : ∀ i j c, o i j = some c → r.bs.heap.size ≤ i
  pl : ∀ i j, o i j = some .pl → plainAt w i j
theorem Sat.weaken {w : World} {r : Ro} {o o' : Own} (h : Sat w r o) (le : o'.le o) : Sat w r o' :=
  ⟨h.ro, fun i j v e => h.val i j v (le _ _ _ e), fun i j x e => h.obj i j x (le _ _ _ e), fun i j v c e e' => h.dis i j v c e (le _ _ _ e'), h.below, fun i j c e => h.low i j c (le _ _ _ e), fun i j e => h.pl i j (le _ _ _ e)⟩
def St (w : World) (L : List HP) : Prop := ∃ r o, Sat w r o ∧ seps L r o
def Ent (L L' : List HP) : Prop := ∀ r o, seps L r o → seps L' r o
theorem Ent.refl (L : List HP) : Ent L L := fun _ _ h => h
theorem Ent.trans {A B C : List HP} (h : Ent A B) (h' : Ent B C) : Ent A C := fun r o x => h' r o (h r o x)
theorem St.ent {w : World} {L L' : List HP} (e : Ent L L') (h : St w L) : St w L' := let ⟨r, o, s, x⟩ := h; ⟨r, o, s, e r o x⟩
theorem Ent.cons {A : HP} {L L' : List HP} (e : Ent L L') : Ent (A :: L) (A :: L') :=
  fun _ _ ⟨a, b, d, le, hA, hL⟩ => ⟨a, b, d, le, hA, e _ _ hL⟩
theorem Ent.drop {A : HP} {L : List HP} : Ent (A :: L) L :=
  fun _ _ ⟨_, _, d, le, _, hL⟩ => seps_up (Ro.le_refl _) (Own.le_trans (Own.le_add_right d) le) hL
theorem Ent.swap {A B : HP} {L : List HP} : Ent (A :: B :: L) (B :: A :: L) := by
  rintro r o ⟨a, bc, d, le, hA, b, c, d', le', hB, hL⟩
  have dab : a.disj b := fun i j => by
    rcases d i j with h | h
    · exact .inl h
    · right
      cases hb : b i j with
      | none => rfl
      | some x => have := le' i j x (Own.le_add_left _ _ _ _ _ hb); simp [h] at this
  have dac : a.disj c := fun i j => by
    rcases d i j with h | h
    · exact .inl h
    · right
      cases hb : c i j with
      | none => rfl
      | some x => have := le' i j x (Own.le_add_right d' _ _ _ hb); simp [h] at this
  refine ⟨b, a.add c, fun i j => ?_, ?_, hB, a, c, dac, Own.le_refl _, hA, hL⟩
  · cases hb : b i j with
    | none => exact .inl rfl
    | some x =>
      right
      have h1 := (dab i j).resolve_right (by simp [hb])
      have h2 := (d' i j).resolve_left (by simp [hb])
      simp [Own.add, h1, h2]
  · intro i j x e
    rcases Own.add_cases e with e | e
    · exact le _ _ _ (Own.le_add_right d _ _ _ (le' _ _ _ (Own.le_add_left _ _ _ _ _ e)))
    · rcases Own.add_cases e with e | e
      · exact le _ _ _ (Own.le_add_left _ _ _ _ _ e)
      · exact le _ _ _ (Own.le_add_right d _ _ _ (le' _ _ _ (Own.le_add_right d' _ _ _ e)))
inductive Take : HP → List HP → List HP → Prop
  | here {A : HP} {L : List HP} : Take A (A :: L) L
  | there {A B : HP} {L L' : List HP} (h : Take A L L') : Take A (B :: L) (B :: L')
theorem Take.ent {A : HP} {L L' : List HP} (h : Take A L L') : Ent L (A :: L') := by
  induction h with
  | here => exact Ent.refl _
  | there _ ih => exact (Ent.cons ih).trans Ent.swap
theorem Take.back {A : HP} {L L' : List HP} (h : Take A L L') : Ent (A :: L') L := by
  induction h with
  | here => exact Ent.refl _
  | there _ ih => exact Ent.swap.trans (Ent.cons ih)
theorem Take.drop {A : HP} {L L' : List HP} (h : Take A L L') : Ent L L' := h.ent.trans Ent.drop
inductive Takes : List HP → List HP → List HP → Prop
  | nil {L : List HP} : Takes [] L L
  | cons {A : HP} {As L L1 L2 : List HP} (h : Take A L L1) (t : Takes As L1 L2) : Takes (A :: As) L L2
theorem Takes.ent {As L L' : List HP} (h : Takes As L L') : Ent L (As ++ L') := by
  induction h with
  | nil => exact Ent.refl _
  | cons h _ ih => exact h.ent.trans (Ent.cons ih)
theorem Ent.app {A B C : List HP} (e : Ent B C) : Ent (A ++ B) (A ++ C) := by
  induction A with
  | nil => exact e
  | cons a A ih => exact Ent.cons ih
theorem ent_append_of_takes {As L L' : List HP} (h : Takes As L L') : Ent L As := by
  induction h with
  | nil => exact fun _ _ _ => trivial
  | cons h _ ih => exact h.ent.trans (Ent.cons ih)
def pr (p : Prop) : HP := ⟨fun _ _ => p, fun _ _ _ _ _ _ h => h⟩
def ex {α : Type} (A : α → HP) : HP := ⟨fun r o => ∃ x, (A x).h r o, fun _ _ _ _ hr ho ⟨x, h⟩ => ⟨x, (A x).up _ _ _ _ hr ho h⟩⟩
def pts (b off : Nat) (vs : List Value) : HP :=
  ⟨fun _ o => ∀ i v, vs[i]? = some v → o b (off + i) = some (.val v), fun _ _ _ _ _ ho h i v e => ho _ _ _ (h i v e)⟩
def rod (b off : Nat) (vs : List Value) : HP :=
  ⟨fun r _ => ∀ i v, vs[i]? = some v → r b (off + i) = some v, fun _ _ _ _ hr _ h i v e => hr.le _ _ _ (h i v e)⟩
def ob (b : Nat) (x : Obj) : HP := ⟨fun _ o => o b 0 = some (.obj x), fun _ _ _ _ _ ho h => ho _ _ _ h⟩
def big (L : List HP) : HP := ⟨fun r o => seps L r o, fun _ _ _ _ hr ho h => seps_up hr ho h⟩
def Pers (A : HP) : Prop := ∀ r o, A.h r o → A.h r (fun _ _ => none)
theorem pers_pr (p : Prop) : Pers (pr p) := fun _ _ h => h
theorem pers_rod (b off : Nat) (vs : List Value) : Pers (rod b off vs) := fun _ _ h => h
theorem Ent.dup {A : HP} (p : Pers A) {L : List HP} : Ent (A :: L) (A :: A :: L) := by
  rintro r o ⟨a, b, d, le, hA, hL⟩
  refine ⟨fun _ _ => none, a.add b, fun i j => .inl rfl, ?_, p _ _ hA, a, b, d, Own.le_refl _, hA, hL⟩
  intro i j c e
  rcases Own.add_cases e with e | e
  · simp at e
  · exact le _ _ _ e
theorem none_add {o : Own} : Own.le (Own.add (fun _ _ => none) o) o := fun i j c e => by
  rcases Own.add_cases e with e | e
  · simp at e
  · exact e
theorem ent_pr {p : Prop} {L : List HP} (h : p) : Ent L (pr p :: L) := fun r o x =>
  ⟨fun _ _ => none, o, fun i j => .inl rfl, none_add, h, x⟩
theorem St.pr {w : World} {p : Prop} {L : List HP} (h : St w (pr p :: L)) : p ∧ St w L := by
  obtain ⟨r, o, s, a, b, d, le, hp, hL⟩ := h
  exact ⟨hp, r, o, s, seps_up (Ro.le_refl _) (Own.le_trans (Own.le_add_right d) le) hL⟩
theorem St.ex {w : World} {α : Type} {A : α → HP} {L : List HP} (h : St w (ex A :: L)) : ∃ x, St w (A x :: L) := by
  obtain ⟨r, o, s, a, b, d, le, ⟨x, hx⟩, hL⟩ := h
  exact ⟨x, r, o, s, a, b, d, le, hx, hL⟩
theorem ent_ex {α : Type} {A : α → HP} {L : List HP} (x : α) : Ent (A x :: L) (Sl.ex A :: L) :=
  fun _ _ ⟨a, b, d, le, hA, hL⟩ => ⟨a, b, d, le, ⟨x, hA⟩, hL⟩
theorem ent_big {A L : List HP} : Ent (big A :: L) (A ++ L) := by
  intro r o h
  obtain ⟨a, b, d, le, hA, hL⟩ := h
  induction A generalizing a b o with
  | nil => exact seps_up (Ro.le_refl _) (Own.le_trans (Own.le_add_right d) le) hL
  | cons X A ih =>
    obtain ⟨x, y, d', le', hX, hA'⟩ := hA
    have dxb : x.disj b := fun i j => by
      rcases d i j with h | h
      · left
        cases hx : x i j with
        | none => rfl
        | some c => have := le' _ _ _ (Own.le_add_left x y _ _ _ hx); simp [h] at this
      · exact .inr h
    have dyb : y.disj b := fun i j => by
      rcases d i j with h | h
      · left
        cases hx : y i j with
        | none => rfl
        | some c => have := le' _ _ _ (Own.le_add_right d' _ _ _ hx); simp [h] at this
      · exact .inr h
    refine ⟨x, y.add b, fun i j => ?_, ?_, hX, ih (y.add b) y b dyb (Own.le_refl _) hA' hL⟩
    · cases hx : x i j with
      | none => exact .inl rfl
      | some c =>
        right
        have h1 := (d' i j).resolve_left (by simp [hx])
        have h2 := (dxb i j).resolve_left (by simp [hx])
        simp [Own.add, h1, h2]
    · intro i j c e
      rcases Own.add_cases e with e | e
      · exact le _ _ _ (Own.le_add_left _ _ _ _ _ (le' _ _ _ (Own.le_add_left _ _ _ _ _ e)))
      · rcases Own.add_cases e with e | e
        · exact le _ _ _ (Own.le_add_left _ _ _ _ _ (le' _ _ _ (Own.le_add_right d' _ _ _ e)))
        · exact le _ _ _ (Own.le_add_right d _ _ _ e)
theorem big_ent {A L : List HP} : Ent (A ++ L) (big A :: L) := by
  intro r o h
  induction A generalizing o with
  | nil => exact ⟨fun _ _ => none, o, fun _ _ => .inl rfl, none_add, trivial, h⟩
  | cons X A ih =>
    obtain ⟨x, y, d, le, hX, h'⟩ := h
    obtain ⟨a, b, d', le', hA, hL⟩ := ih y h'
    have dxa : x.disj a := fun i j => by
      rcases d i j with h | h
      · exact .inl h
      · right
        cases hx : a i j with
        | none => rfl
        | some c => have := le' _ _ _ (Own.le_add_left a b _ _ _ hx); simp [h] at this
    have dxb : x.disj b := fun i j => by
      rcases d i j with h | h
      · exact .inl h
      · right
        cases hx : b i j with
        | none => rfl
        | some c => have := le' _ _ _ (Own.le_add_right d' _ _ _ hx); simp [h] at this
    refine ⟨x.add a, b, fun i j => ?_, ?_, ⟨x, a, dxa, Own.le_refl _, hX, hA⟩, hL⟩
    · cases hb : b i j with
      | none => exact .inr rfl
      | some c =>
        left
        have h1 := (dxb i j).resolve_right (by simp [hb])
        have h2 := (d' i j).resolve_right (by simp [hb])
        simp [Own.add, h1, h2]
    · intro i j c e
      rcases Own.add_cases e with e | e
      · rcases Own.add_cases e with e | e
        · exact le _ _ _ (Own.le_add_left _ _ _ _ _ e)
        · exact le _ _ _ (Own.le_add_right d _ _ _ (le' _ _ _ (Own.le_add_left _ _ _ _ _ e)))
      · exact le _ _ _ (Own.le_add_right d _ _ _ (le' _ _ _ (Own.le_add_right d' _ _ _ e)))
end Go.Sl

set_option linter.unusedVariables false
namespace Go.Sl
variable {w : World} {L : List HP}
theorem row_lt {α : Type} {vs : List α} {i : Nat} {v : α} (h : vs[i]? = some v) : i < vs.length := by
  rcases Nat.lt_or_ge i vs.length with g | g
  · exact g
  · simp [List.getElem?_eq_none g] at h
theorem St.cell {b off : Nat} {vs : List Value} (h : St w (pts b off vs :: L)) {i : Nat} {v : Value} (hv : vs[i]? = some v) :
    w.cell? ⟨b, off + i, none⟩ = some v ∧ w.frozen? ⟨b, off + i, none⟩ = false := by
  obtain ⟨r, o, s, x, y, d, le, hp, _⟩ := h
  exact s.val _ _ _ (le _ _ _ (Own.le_add_left _ _ _ _ _ (hp i v hv)))
theorem St.rcell {b off : Nat} {vs : List Value} (h : St w (rod b off vs :: L)) {i : Nat} {v : Value} (hv : vs[i]? = some v) :
    w.cell? ⟨b, off + i, none⟩ = some v := by
  obtain ⟨r, o, s, x, y, d, le, hp, _⟩ := h
  exact s.ro _ _ _ (hp i v hv)
theorem St.obj {b : Nat} {x : Obj} (h : St w (ob b x :: L)) : w.heap[b]? = some x ∧ notCells x := by
  obtain ⟨r, o, s, a, y, d, le, hp, _⟩ := h
  exact (s.obj _ _ _ (le _ _ _ (Own.le_add_left _ _ _ _ _ hp))).2
theorem cell_block {w : World} {i j : Nat} {v : Value} (h : w.cell? ⟨i, j, none⟩ = some v) : ∃ c e f, w.heap[i]? = some (.cells c e f) ∧ c[j]? = some v := by
  unfold World.cell? at h
  split at h
  · rename_i c e f hh; exact ⟨c, e, f, hh, by simpa using h⟩
  · simp at h
theorem cell_set_self {w : World} {b j : Nat} {u v : Value} (h : w.cell? ⟨b, j, none⟩ = some u) : (w.setCell ⟨b, j, none⟩ v).cell? ⟨b, j, none⟩ = some v :=
  World.cell?_setCell_same _ _ _ h
theorem cell_set_ne {w : World} {b j i k : Nat} {v : Value} (h : i ≠ b ∨ k ≠ j) : (w.setCell ⟨b, j, none⟩ v).cell? ⟨i, k, none⟩ = w.cell? ⟨i, k, none⟩ :=
  World.cell?_setCell_other _ _ _ _ (fun e => by injection e with e1 e2; rcases h with h | h <;> exact h (by simp [e1, e2]))
theorem frozen_set {w : World} {a a' : Addr} {v : Value} : (w.setCell a v).frozen? a' = w.frozen? a' := World.frozen?_setCell _ _ _ _
theorem obj_set {w : World} {a : Addr} {v : Value} {i : Nat} {x : Obj} (hx : notCells x) (h : w.heap[i]? = some x) : (w.setCell a v).heap[i]? = some x := by
  simp only [World.setCell, Array.getElem?_modify]
  split
  · rw [h]; cases x <;> simp [notCells] at hx ⊢
  · exact h
theorem plain_set {a : Addr} {v : Value} {i j : Nat} (h : plainAt w i j) : plainAt (w.setCell a v) i j := by
  obtain ⟨c, e, f, h1, h2, h3⟩ := h
  by_cases hb : a.block = i
  · subst hb
    refine ⟨if a.spot.isSome then c else c.setIfInBounds a.off v, e, f, ?_, by split <;> simp [h2], by rw [frozen_set]; exact h3⟩
    simp only [World.setCell, Array.getElem?_modify, if_true, h1, Option.map_some]
  · refine ⟨c, e, f, ?_, h2, by rw [frozen_set]; exact h3⟩
    simp only [World.setCell, Array.getElem?_modify, if_neg hb, h1]
theorem St.store {b off : Nat} {vs : List Value} (h : St w (pts b off vs :: L)) {i : Nat} (hi : i < vs.length) (v : Value) :
    St (w.setCell ⟨b, off + i, none⟩ v) (pts b off (vs.set i v) :: L) := by
  obtain ⟨r, o, s, x, y, d, le, hp, hL⟩ := h
  let q : Nat → Nat → Bool := fun k l => k == b && l == off + i
  let put : Own → Own := fun z k l => if q k l then (z k l).map (fun _ => .val v) else z k l
  have hxi : x b (off + i) = some (.val vs[i]) := hp i _ (by simp [hi])
  have hyi : y b (off + i) = none := (d b (off + i)).resolve_left (by simp [hxi])
  have hoi : o b (off + i) = some (.val vs[i]) := le _ _ _ (Own.le_add_left _ _ _ _ _ hxi)
  have hq : ∀ k l, q k l = true ↔ k = b ∧ l = off + i := fun k l => by simp [q]
  have hlow : ∀ k l c, put o k l = some c → r.bs.heap.size ≤ k := fun k l c e => by
    simp only [put] at e
    split at e
    · cases ho : o k l with
      | none => simp [ho] at e
      | some c' => exact s.low _ _ _ ho
    · exact s.low _ _ _ e
  refine ⟨r, put o, ⟨fun k l u e => ?_, fun k l u e => ?_, fun k l z e => ?_, fun k l u c e e' => ?_, s.below.setCell (s.low _ _ _ hoi) v, hlow, fun k l e => plain_set (s.pl _ _ (by
      simp only [put] at e
      split at e
      · cases ho : o k l with
        | none => simp [ho] at e
        | some c' => simp [ho] at e
      · exact e))⟩, put x, y, fun k l => ?_, fun k l c e => ?_, ?_, hL⟩
  · rw [cell_set_ne]
    · exact s.ro _ _ _ e
    · by_cases hk : k = b
      · subst hk
        by_cases hl : l = off + i
        · subst hl; exact (s.dis _ _ _ _ e hoi).elim
        · exact .inr hl
      · exact .inl hk
  · by_cases hkl : q k l = true
    · obtain ⟨rfl, rfl⟩ := (hq k l).1 hkl
      simp only [put, hkl, if_true, hoi, Option.map_some] at e
      cases e
      obtain ⟨hc, hf⟩ := s.val _ _ _ hoi
      exact ⟨cell_set_self hc, by rw [frozen_set]; exact hf⟩
    · simp only [put, hkl, if_false, Bool.false_eq_true] at e
      obtain ⟨hc, hf⟩ := s.val _ _ _ e
      refine ⟨?_, by rw [frozen_set]; exact hf⟩
      rw [cell_set_ne]
      · exact hc
      · by_cases hk : k = b
        · right; intro hl; exact hkl ((hq k l).2 ⟨hk, hl⟩)
        · exact .inl hk
  · by_cases hkl : q k l = true
    · obtain ⟨rfl, rfl⟩ := (hq k l).1 hkl
      simp only [put, hkl, if_true, hoi, Option.map_some] at e
      cases e
    · simp only [put, hkl, if_false, Bool.false_eq_true] at e
      obtain ⟨h0, h1, h2⟩ := s.obj _ _ _ e
      exact ⟨h0, obj_set h2 h1, h2⟩
  · by_cases hkl : q k l = true
    · obtain ⟨rfl, rfl⟩ := (hq k l).1 hkl
      exact s.dis _ _ _ _ e hoi
    · simp only [put, hkl, if_false, Bool.false_eq_true] at e'
      exact s.dis _ _ _ _ e e'
  · by_cases hkl : q k l = true
    · obtain ⟨rfl, rfl⟩ := (hq k l).1 hkl
      exact .inr hyi
    · simp only [put, hkl, if_false, Bool.false_eq_true]
      exact d k l
  · by_cases hkl : q k l = true
    · obtain ⟨rfl, rfl⟩ := (hq k l).1 hkl
      simp only [Own.add, put, hkl, if_true, hxi, Option.map_some, Option.some_or] at e
      simp only [put, hkl, if_true, hoi, Option.map_some]; exact e
    · simp only [Own.add, put, hkl, if_false, Bool.false_eq_true] at e ⊢
      exact le _ _ _ e
  · intro j u hu
    by_cases hj : j = i
    · subst hj
      have : q b (off + j) = true := (hq _ _).2 ⟨rfl, rfl⟩
      simp only [put, this, if_true, hxi, Option.map_some]
      simp [List.getElem?_set_self hi] at hu
      rw [hu]
    · have : q b (off + j) = false := by
        cases h : q b (off + j) with
        | false => rfl
        | true => have := ((hq _ _).1 h).2; omega
      simp only [put, this, Bool.false_eq_true, if_false]
      rw [List.getElem?_set_ne (fun e => hj e.symm)] at hu
      exact hp j u hu
theorem heap_push_lt {w : World} {o : Obj} {i : Nat} {x : Obj} (h : w.heap[i]? = some x) : (w.heap.push o)[i]? = some x := by
  have hi : i < w.heap.size := by
    rcases Nat.lt_or_ge i w.heap.size with g | g
    · exact g
    · simp [Array.getElem?_eq_none g] at h
  rw [Array.getElem?_push_lt hi]; rw [Array.getElem?_eq_getElem hi] at h; exact h
theorem cell_push {w : World} {o : Obj} {a : Addr} {v : Value} (h : w.cell? a = some v) : ({ w with heap := w.heap.push o } : World).cell? a = some v := by
  unfold World.cell? at h ⊢
  split at h
  · rename_i hh
    simp only [heap_push_lt hh]; exact h
  · simp at h
theorem frozen_push {w : World} {o : Obj} {a : Addr} {v : Value} (h : w.cell? a = some v) : ({ w with heap := w.heap.push o } : World).frozen? a = w.frozen? a := by
  unfold World.cell? at h
  unfold World.frozen?
  split at h
  · rename_i hh
    simp only [heap_push_lt hh, hh]
  · simp at h
theorem plain_push {w : World} {i j : Nat} (z : Obj) (h : plainAt w i j) : plainAt { w with heap := w.heap.push z } i j := by
  obtain ⟨c, e, f, h1, h2, h3⟩ := h
  refine ⟨c, e, f, heap_push_lt h1, h2, ?_⟩
  unfold World.frozen? at h3 ⊢
  simp only [h1] at h3
  simp only [heap_push_lt h1]; exact h3
theorem sat_push {w : World} {r : Ro} {o : Own} (s : Sat w r o) (z : Obj) : Sat { w with heap := w.heap.push z } r o :=
  ⟨fun i j v e => cell_push (s.ro i j v e), fun i j v e => ⟨cell_push (s.val i j v e).1, by rw [frozen_push (s.val i j v e).1]; exact (s.val i j v e).2⟩,
   fun i j x e => ⟨(s.obj i j x e).1, heap_push_lt (s.obj i j x e).2.1, (s.obj i j x e).2.2⟩, s.dis, s.below.alloc s.below.size z, s.low, fun i j e => plain_push z (s.pl i j e)⟩
theorem sat_new {w : World} {r : Ro} {o : Own} (s : Sat w r o) : (∀ j c, o w.heap.size j ≠ some c) ∧ (∀ j v, r w.heap.size j ≠ some v) := by
  have none : w.heap[w.heap.size]? = none := Array.getElem?_eq_none (Nat.le_refl _)
  constructor
  · intro j c e
    cases c with
    | val v => obtain ⟨c, e, f, hh, _⟩ := cell_block (s.val _ _ _ e).1; rw [none] at hh; simp at hh
    | obj x => have := (s.obj _ _ _ e).2.1; rw [none] at this; simp at this
    | pl => obtain ⟨c, e, f, hh, _⟩ := s.pl _ _ e; rw [none] at hh; simp at hh
  · intro j v e
    obtain ⟨c, e, f, hh, _⟩ := cell_block (s.ro _ _ _ e); rw [none] at hh; simp at hh
theorem St.alloc (h : St w L) (cs : Array Value) (t : TypeId) : St { w with heap := w.heap.push (.cells cs t) } (pts w.heap.size 0 cs.toList :: L) := by
  obtain ⟨r, o, s, hL⟩ := h
  obtain ⟨n1, n2⟩ := sat_new s
  let x : Own := fun i j => if i = w.heap.size then (cs.toList[j]?).map .val else none
  have dx : x.disj o := fun i j => by
    by_cases hi : i = w.heap.size
    · right
      subst hi
      cases ho : o w.heap.size j with
      | none => rfl
      | some c => exact (n1 _ _ ho).elim
    · left; simp [x, hi]
  have s' := sat_push s (.cells cs t)
  have hself : ({ w with heap := w.heap.push (.cells cs t) } : World).heap[w.heap.size]? = some (.cells cs t) := by simp
  have hlow : ∀ k l c, x.add o k l = some c → r.bs.heap.size ≤ k := fun k l c e => by
    rcases Own.add_cases e with e | e
    · simp only [x] at e
      split at e
      · rename_i hk; rw [hk]; exact s.below.size
      · cases e
    · exact s.low _ _ _ e
  refine ⟨r, x.add o, ⟨s'.ro, fun i j v e => ?_, fun i j z e => ?_, fun i j v c e e' => ?_, s'.below, hlow, fun i j e => ?_⟩, x, o, dx, Own.le_refl _, ?_, hL⟩
  · rcases Own.add_cases e with e | e
    · by_cases hi : i = w.heap.size
      · subst hi
        simp only [x, if_true, Option.map_eq_some_iff] at e
        obtain ⟨u, hu, e⟩ := e
        cases e
        refine ⟨?_, ?_⟩
        · unfold World.cell?; simp only [hself]; simpa using hu
        · unfold World.frozen?; simp only [hself]; simp
      · simp [x, hi] at e
    · exact s'.val _ _ _ e
  · rcases Own.add_cases e with e | e
    · simp only [x] at e
      split at e
      · simp only [Option.map_eq_some_iff] at e
        obtain ⟨u, hu, e⟩ := e; cases e
      · simp at e
    · exact s'.obj _ _ _ e
  · rcases Own.add_cases e' with e' | e'
    · by_cases hi : i = w.heap.size
      · subst hi; exact n2 _ _ e
      · simp [x, hi] at e'
    · exact s.dis _ _ _ _ e e'
  · rcases Own.add_cases e with e | e
    · simp only [x] at e
      split at e
      · simp only [Option.map_eq_some_iff] at e
        obtain ⟨u, hu, e⟩ := e; cases e
      · simp at e
    · exact s'.pl _ _ e
  · intro i v hv
    simp only [x, if_true, Nat.zero_add, hv, Option.map_some]
def plain (b n : Nat) : HP := ⟨fun _ o => o b n = some .pl, fun _ _ _ _ _ ho h => ho _ _ _ h⟩
theorem St.plain {b n : Nat} (h : St w (Sl.plain b n :: L)) : plainAt w b n := by
  obtain ⟨r, o, s, x, y, d, le, hp, _⟩ := h
  exact s.pl _ _ (le _ _ _ (Own.le_add_left _ _ _ _ _ hp))
theorem St.allocObj (h : St w L) (z : Obj) (hz : notCells z) : St { w with heap := w.heap.push z } (ob w.heap.size z :: L) := by
  obtain ⟨r, o, s, hL⟩ := h
  obtain ⟨n1, n2⟩ := sat_new s
  let x : Own := fun i j => if i = w.heap.size ∧ j = 0 then some (.obj z) else none
  have dx : x.disj o := fun i j => by
    by_cases hi : i = w.heap.size
    · right
      subst hi
      cases ho : o w.heap.size j with
      | none => rfl
      | some c => exact (n1 _ _ ho).elim
    · left; simp [x, hi]
  have s' := sat_push s z
  have hself : ({ w with heap := w.heap.push z } : World).heap[w.heap.size]? = some z := by simp
  have hlow : ∀ k l c, x.add o k l = some c → r.bs.heap.size ≤ k := fun k l c e => by
    rcases Own.add_cases e with e | e
    · simp only [x] at e
      split at e
      · rename_i hk; rw [hk.1]; exact s.below.size
      · cases e
    · exact s.low _ _ _ e
  refine ⟨r, x.add o, ⟨s'.ro, fun i j v e => ?_, fun i j z e => ?_, fun i j v c e e' => ?_, s'.below, hlow, fun i j e => ?_⟩, x, o, dx, Own.le_refl _, ?_, hL⟩
  · rcases Own.add_cases e with e | e
    · simp only [x] at e; split at e <;> simp at e
    · exact s'.val _ _ _ e
  · rcases Own.add_cases e with e1 | e1
    · simp only [x] at e1
      split at e1
      · rename_i hij; obtain ⟨rfl, rfl⟩ := hij; cases e1; exact ⟨rfl, hself, hz⟩
      · cases e1
    · exact s'.obj _ _ _ e1
  · rcases Own.add_cases e' with e1 | e1
    · simp only [x] at e1
      split at e1
      · rename_i hij; obtain ⟨rfl, rfl⟩ := hij; exact n2 _ _ e
      · simp at e1
    · exact s.dis _ _ _ _ e e1
  · rcases Own.add_cases e with e1 | e1
    · simp only [x] at e1; split at e1 <;> simp at e1
    · exact s'.pl _ _ e1
  · show x w.heap.size 0 = _
    simp [x]
theorem St.setObj {b : Nat} {x z : Obj} (h : St w (ob b x :: L)) (hz : notCells z) : St { w with heap := w.heap.setIfInBounds b z } (ob b z :: L) := by
  obtain ⟨r, o, s, x', y, d, le, hp, hL⟩ := h
  have ho : o b 0 = some (.obj x) := le _ _ _ (Own.le_add_left _ _ _ _ _ hp)
  obtain ⟨_, hb, hx⟩ := s.obj _ _ _ ho
  have hlt : b < w.heap.size := by
    rcases Nat.lt_or_ge b w.heap.size with g | g
    · exact g
    · simp [Array.getElem?_eq_none g] at hb
  have hne : ∀ {i j v}, w.cell? ⟨i, j, none⟩ = some v → b ≠ i := fun {i j v} e he => by
    subst he
    obtain ⟨c, e, f, hh, _⟩ := cell_block e
    rw [hb] at hh; cases hh; exact hx
  have hcell : ∀ {i j v}, w.cell? ⟨i, j, none⟩ = some v → ({ w with heap := w.heap.setIfInBounds b z } : World).cell? ⟨i, j, none⟩ = some v := fun {i j v} e => by
    have := hne e
    unfold World.cell? at e ⊢
    simp only [Array.getElem?_setIfInBounds_ne this]; exact e
  have hfr : ∀ {i j v}, w.cell? ⟨i, j, none⟩ = some v → ({ w with heap := w.heap.setIfInBounds b z } : World).frozen? ⟨i, j, none⟩ = w.frozen? ⟨i, j, none⟩ := fun {i j v} e => by
    have := hne e
    unfold World.frozen?
    simp only [Array.getElem?_setIfInBounds_ne this]
  let put : Own → Own := fun u k l => if k = b ∧ l = 0 then some (.obj z) else u k l
  have hy : y b 0 = none := (d b 0).resolve_left (by rw [hp]; simp)
  have hlow : ∀ k l c, put o k l = some c → r.bs.heap.size ≤ k := fun k l c e => by
    simp only [put] at e
    split at e
    · rename_i hk; rw [hk.1]; exact s.low _ _ _ ho
    · exact s.low _ _ _ e
  have hbel : Go.RowKit.Below r.bs.heap.size r.bs { w with heap := w.heap.setIfInBounds b z } :=
    s.below.trans ⟨rfl, rfl, rfl, by simp, fun k hk => by
      have := s.low _ _ _ ho
      exact Array.getElem?_setIfInBounds_ne (by omega)⟩
  refine ⟨r, put o, ⟨fun k l u e => hcell (s.ro _ _ _ e), fun k l u e => ?_, fun k l u e => ?_, fun k l u c e e' => ?_, hbel, hlow, fun k l e => ?_⟩, put x', y, fun k l => ?_, fun k l c e => ?_, ?_, hL⟩
  · simp only [put] at e
    split at e
    · cases e
    · obtain ⟨h1, h2⟩ := s.val _ _ _ e
      exact ⟨hcell h1, by rw [hfr h1]; exact h2⟩
  · simp only [put] at e
    split at e
    · rename_i hk; obtain ⟨rfl, rfl⟩ := hk; cases e
      exact ⟨rfl, by simp [hlt], hz⟩
    · rename_i hk
      obtain ⟨h0, h1, h2⟩ := s.obj _ _ _ e
      refine ⟨h0, ?_, h2⟩
      have : b ≠ k := fun he => hk ⟨he.symm, h0⟩
      simp only [Array.getElem?_setIfInBounds_ne this]; exact h1
  · simp only [put] at e'
    split at e'
    · rename_i hk; obtain ⟨rfl, rfl⟩ := hk; exact s.dis _ _ _ _ e ho
    · exact s.dis _ _ _ _ e e'
  · simp only [put] at e
    split at e
    · cases e
    · obtain ⟨c, t, f, h1, h2, h3⟩ := s.pl _ _ e
      have hbk : b ≠ k := fun he => by subst he; rw [hb] at h1; cases h1; exact hx
      refine ⟨c, t, f, by simp only [Array.getElem?_setIfInBounds_ne hbk]; exact h1, h2, ?_⟩
      unfold World.frozen? at h3 ⊢
      simp only [Array.getElem?_setIfInBounds_ne hbk]; exact h3
  · simp only [put]
    split
    · rename_i hk; obtain ⟨rfl, rfl⟩ := hk; exact .inr hy
    · exact d k l
  · simp only [put, Own.add] at e ⊢
    split
    · rename_i hk; simp only [hk, and_self, if_true, Option.some_or] at e; exact e
    · rename_i hk; simp only [hk, if_false] at e; exact le _ _ _ e
  · show put x' b 0 = _
    simp [put]
theorem St.publish {b off : Nat} {vs : List Value} (h : St w (pts b off vs :: L)) : St w (rod b off vs :: L) := by
  obtain ⟨r, o, s, x, y, d, le, hp, hL⟩ := h
  let r' : Ro := ⟨fun i j => (r i j).or (match x i j with | some (.val v) => some v | _ => none), r.bs⟩
  have hle : r.le r' := ⟨rfl, fun i j v e => by simp [r', e]⟩
  have hr' : ∀ i j v, r' i j = some v → r i j = some v ∨ x i j = some (.val v) := fun i j v e => by
    simp only [r'] at e
    cases hr : r i j with
    | some u => left; simpa [hr] using e
    | none =>
      right
      simp only [hr, Option.none_or] at e
      split at e
      · rename_i u hx; cases e; exact hx
      · simp at e
  refine ⟨r', y, ⟨fun i j v e => ?_, fun i j v e => s.val _ _ _ (le _ _ _ (Own.le_add_right d _ _ _ e)), fun i j z e => s.obj _ _ _ (le _ _ _ (Own.le_add_right d _ _ _ e)), fun i j v c e e' => ?_, s.below, fun i j c e => s.low _ _ _ (le _ _ _ (Own.le_add_right d _ _ _ e)), fun i j e => s.pl _ _ (le _ _ _ (Own.le_add_right d _ _ _ e))⟩, fun _ _ => none, y, fun _ _ => .inl rfl, none_add, ?_, seps_up hle (Own.le_refl _) hL⟩
  · rcases hr' _ _ _ e with e | e
    · exact s.ro _ _ _ e
    · exact (s.val _ _ _ (le _ _ _ (Own.le_add_left _ _ _ _ _ e))).1
  · rcases hr' _ _ _ e with e | e
    · exact s.dis _ _ _ _ e (le _ _ _ (Own.le_add_right d _ _ _ e'))
    · rcases d i j with h | h
      · simp [h] at e
      · simp [h] at e'
  · intro i v hv
    have hx := hp i v hv
    have ho := le _ _ _ (Own.le_add_left _ _ _ _ _ hx)
    have hrn : r b (off + i) = none := by
      cases hr : r b (off + i) with
      | none => rfl
      | some u => exact (s.dis _ _ _ _ hr ho).elim
    simp [r', hrn, hx]
theorem St.drew (h : St w L) (n : Nat) : St { w with drawn := n } L :=
  let ⟨r, o, s, x⟩ := h
  ⟨r, o, ⟨s.ro, s.val, s.obj, s.dis, ⟨s.below.os, s.below.tape, s.below.output, s.below.size, s.below.block⟩, s.low, s.pl⟩, x⟩
theorem pts_split {b off : Nat} {us vs : List Value} : Ent (pts b off (us ++ vs) :: L) (pts b off us :: pts b (off + us.length) vs :: L) := by
  rintro r o ⟨x, y, d, le, hp, hL⟩
  let p : Nat → Nat → Prop := fun i j => i = b ∧ off + us.length ≤ j
  have hd : ∀ i j, Decidable (p i j) := fun i j => inferInstanceAs (Decidable (_ ∧ _))
  let x1 : Own := fun i j => if p i j then none else x i j
  let x2 : Own := fun i j => if p i j then x i j else none
  refine ⟨x1, x2.add y, fun i j => ?_, fun i j c e => ?_, ?_, x2, y, fun i j => ?_, Own.le_refl _, ?_, hL⟩
  · by_cases h : p i j
    · left; simp [x1, h]
    · rcases d i j with h' | h'
      · left; simp [x1, h']
      · right; simp [Own.add, x2, h, h']
  · rcases Own.add_cases e with e | e
    · simp only [x1] at e; split at e
      · simp at e
      · exact le _ _ _ (Own.le_add_left _ _ _ _ _ e)
    · rcases Own.add_cases e with e | e
      · simp only [x2] at e; split at e
        · exact le _ _ _ (Own.le_add_left _ _ _ _ _ e)
        · simp at e
      · exact le _ _ _ (Own.le_add_right d _ _ _ e)
  · intro i v hv
    have hi := row_lt hv
    have : ¬ p b (off + i) := fun h => by have := h.2; omega
    show x1 b (off + i) = _
    simp only [x1, this, if_false]
    exact hp i v (by rw [List.getElem?_append_left hi]; exact hv)
  · rcases d i j with h' | h'
    · left; simp [x2, h']
    · exact .inr h'
  · intro i v hv
    have : p b (off + us.length + i) := ⟨rfl, by omega⟩
    show x2 b (off + us.length + i) = _
    simp only [x2, this, if_true]
    have := hp (us.length + i) v (by rw [List.getElem?_append_right (by omega)]; simpa using hv)
    rwa [← Nat.add_assoc] at this
theorem pts_join {b off : Nat} {us vs : List Value} : Ent (pts b off us :: pts b (off + us.length) vs :: L) (pts b off (us ++ vs) :: L) := by
  rintro r o ⟨x, yz, d, le, hx, y, z, d', le', hy, hL⟩
  have dxz : x.disj z := fun i j => by
    rcases d i j with h | h
    · exact .inl h
    · right
      cases hz : z i j with
      | none => rfl
      | some c => have := le' _ _ _ (Own.le_add_right d' _ _ _ hz); simp [h] at this
  have dxy : x.disj y := fun i j => by
    rcases d i j with h | h
    · exact .inl h
    · right
      cases hz : y i j with
      | none => rfl
      | some c => have := le' _ _ _ (Own.le_add_left _ _ _ _ _ hz); simp [h] at this
  refine ⟨x.add y, z, fun i j => ?_, fun i j c e => ?_, ?_, hL⟩
  · rcases dxz i j with h | h
    · rcases d' i j with h' | h'
      · left; simp [Own.add, h, h']
      · exact .inr h'
    · exact .inr h
  · rcases Own.add_cases e with e | e
    · rcases Own.add_cases e with e | e
      · exact le _ _ _ (Own.le_add_left _ _ _ _ _ e)
      · exact le _ _ _ (Own.le_add_right d _ _ _ (le' _ _ _ (Own.le_add_left _ _ _ _ _ e)))
    · exact le _ _ _ (Own.le_add_right d _ _ _ (le' _ _ _ (Own.le_add_right d' _ _ _ e)))
  · intro i v hv
    rcases Nat.lt_or_ge i us.length with h | h
    · rw [List.getElem?_append_left h] at hv
      exact Own.le_add_left _ _ _ _ _ (hx i v hv)
    · rw [List.getElem?_append_right h] at hv
      have := hy _ _ hv
      rw [show off + us.length + (i - us.length) = off + i by omega] at this
      exact Own.le_add_right dxy _ _ _ this
end Go.Sl

set_option linter.unusedVariables false
namespace Go.Sl
abbrev TT := List (Nat × Value)
def TT.get : TT → Nat → Option Value
  | [], _ => none
  | (i, v) :: T, n => bif Nat.beq i n then some v else TT.get T n
theorem TT.get_cons (i : Nat) (v : Value) (T : TT) (n : Nat) : TT.get ((i, v) :: T) n = if i = n then some v else TT.get T n := by
  by_cases h : i = n
  · subst h; simp [TT.get]
  · have : Nat.beq i n = false := by cases hb : Nat.beq i n with
      | false => rfl
      | true => exact (h (Nat.eq_of_beq_eq_true hb)).elim
    simp [TT.get, this, h]
def mark (r : Nat) : Deferred := { target := .collected r, args := #[] }
def mkA (r : Nat) : HP := ob r (.deferred (some []))
structure Ok (F : HP) (N : Nat) (T : TT) (L : List HP) (a : Act) (w : World) : Prop where
  size : a.tmps.size = N
  get : ∀ i v, T.get i = some v → a.tmps[i]? = some v
  mem : ∃ D : List Nat, a.defers = D.map mark ∧ St w (big (F :: D.map mkA) :: L)
def evO (T : TT) : Operand → Option Value
  | .tmp t => T.get t
  | .const v => some v
  | .global g => some (.pointer (some ⟨g, 0, none⟩))
  | .func f => some (.func (.func f) #[] #[])
def evs (T : TT) : List Operand → Option (List Value)
  | [] => some []
  | x :: xs => match evO T x with
    | some v => match evs T xs with
      | some vs => some (v :: vs)
      | none => none
    | none => none
def Knows (T : TT) (ρ : Operand → Value) : Prop := ∀ x v, evO T x = some v → ρ x = v
theorem Ok.knows {F : HP} {N : Nat} {T : TT} {L : List HP} {a : Act} {w : World} (h : Ok F N T L a w) : Knows T a.eval := by
  intro x v e
  cases x with
  | tmp t => have := h.get t v e; simp [Act.eval, Array.getD_eq_getD_getElem?, this]
  | const u => simpa [evO, Act.eval] using e
  | global g => simpa [evO, Act.eval] using e
  | func f => simpa [evO, Act.eval] using e
theorem Knows.evs {T : TT} {ρ : Operand → Value} (h : Knows T ρ) : ∀ {xs : List Operand} {vs : List Value}, evs T xs = some vs → xs.map ρ = vs
  | [], vs, e => by simp [Sl.evs] at e; simp [e]
  | x :: xs, vs, e => by
    simp only [Sl.evs] at e
    cases hx : evO T x with
    | none => simp [hx] at e
    | some v =>
      cases hs : Sl.evs T xs with
      | none => simp [hx, hs] at e
      | some us =>
        simp [hx, hs] at e
        subst e
        simp [h _ _ hx, Knows.evs h hs]
theorem Ok.put {F : HP} {N : Nat} {T : TT} {L : List HP} {a : Act} {w : World} (h : Ok F N T L a w) {d : Nat} (hd : d < N) (v : Value) : Ok F N ((d, v) :: T) L (a.put (some d) v) w := by
  refine ⟨by simp [Act.put, h.size], fun i u e => ?_, h.mem⟩
  rw [TT.get_cons] at e
  simp only [Act.put]
  split at e
  · rename_i hi; subst hi; simp at e; subst e
    simp [h.size, hd]
  · rename_i hi
    rw [Array.getElem?_setIfInBounds_ne hi]; exact h.get i u e
theorem Ok.ent {F : HP} {N : Nat} {T : TT} {L L' : List HP} {a : Act} {w : World} (h : Ok F N T L a w) (e : Ent L L') : Ok F N T L' a w :=
  ⟨h.size, h.get, let ⟨D, h1, h2⟩ := h.mem; ⟨D, h1, h2.ent (Ent.cons e)⟩⟩
def Sub : TT → TT → Prop
  | _, [] => True
  | T, (i, v) :: T' => T.get i = some v ∧ Sub T T'
theorem Sub.get {T : TT} : ∀ {T' : TT}, Sub T T' → ∀ i v, T'.get i = some v → T.get i = some v
  | [], _, _, _, e => by simp [TT.get] at e
  | (j, u) :: T', h, i, v, e => by
    rw [TT.get_cons] at e
    split at e
    · rename_i hj; subst hj; cases e; exact h.1
    · exact Sub.get h.2 i v e
theorem Ok.sub {F : HP} {N : Nat} {T T' : TT} {L : List HP} {a : Act} {w : World} (h : Ok F N T L a w) (e : Sub T T') : Ok F N T' L a w :=
  ⟨h.size, fun i v g => h.get i v (e.get i v g), h.mem⟩
abbrev Post := Exit → TT → List HP → Prop
def lift (F : HP) (N : Nat) (Q : Post) : Exit → Act → World → Prop := fun e a w => ∃ T L, Ok F N T L a w ∧ Q e T L
abbrev FW (rd : Option Nat) : Fence := { Fence.wide with round := rd }
section
variable (P : Program) (rd : Option Nat) (N : Nat)
def SC (c : Code) (T : TT) (L : List HP) (Q : Post) : Prop := ∀ F a w, Ok F N T L a w → c.wpIn (FW rd) 0 P (lift F N Q) a w
inductive K where
  | code (c : Code)
  | blk (id : Nat)
  | inv (I : TT → List HP → Prop)
def findK (id : Nat) : List K → Option (List K)
  | [] => none
  | .blk j :: ks => bif Nat.beq j id then some ks else findK id ks
  | _ :: ks => findK id ks
theorem findK_len {id : Nat} : ∀ {ks ks' : List K}, findK id ks = some ks' → ks'.length < ks.length
  | [], _, e => by simp [findK] at e
  | .blk j :: ks, ks', e => by
    simp only [findK] at e
    cases hb : Nat.beq j id with
    | true => simp [hb] at e; subst e; simp
    | false => simp [hb] at e; have := findK_len e; simp; omega
  | .code c :: ks, ks', e => by simp only [findK] at e; have := findK_len e; simp; omega
  | .inv I :: ks, ks', e => by simp only [findK] at e; have := findK_len e; simp; omega
def SK (ks : List K) (T : TT) (L : List HP) (Q : Post) : Prop :=
  match ks with
  | [] => Q .normal T L
  | .blk _ :: ks => SK ks T L Q
  | .inv I :: _ => I T L
  | .code c :: ks => SC P rd N c T L fun e T L =>
    match e with
    | .normal => SK ks T L Q
    | .exit id => match h : findK id ks with
      | some ks' => SK ks' T L Q
      | none => Q (.exit id) T L
    | e => Q e T L
  termination_by ks.length
  decreasing_by
  all_goals simp
  have := findK_len h; omega
def postK (ks : List K) (Q : Post) : Post := fun e T L =>
    match e with
    | .normal => SK P rd N ks T L Q
    | .exit id => match findK id ks with
      | some ks' => SK P rd N ks' T L Q
      | none => Q (.exit id) T L
    | e => Q e T L
def SO (all : Array Oper) (ops : List Oper) (T : TT) (L : List HP) (ks : List K) (Q : Post) : Prop :=
  ∀ F a w, Ok F N T L a w → wpListIn (FW rd) 0 P all (lift F N (postK P rd N ks Q)) ops a w
end
section
variable {P : Program} {rd : Option Nat} {N : Nat} {T : TT} {L : List HP} {Q : Post} {ks : List K}
theorem SK_code {c : Code} : SK P rd N (.code c :: ks) T L Q ↔ SC P rd N c T L (postK P rd N ks Q) := by
  rw [SK]
  have : (fun (e : Exit) (T : TT) (L : List HP) =>
    match e with
    | .normal => SK P rd N ks T L Q
    | .exit id => match h : findK id ks with
      | some ks' => SK P rd N ks' T L Q
      | none => Q (.exit id) T L
    | e => Q e T L) = postK P rd N ks Q := by
    funext e T L
    cases e <;> simp only [postK]
    rename_i id
    split <;> simp_all
  rw [← this]
theorem SK.nil (h : Q .normal T L) : SK P rd N [] T L Q := by rw [SK]; exact h
theorem SK.blk {id : Nat} (h : SK P rd N ks T L Q) : SK P rd N (.blk id :: ks) T L Q := by rw [SK]; exact h
theorem SK.inv {I : TT → List HP → Prop} (h : I T L) : SK P rd N (.inv I :: ks) T L Q := by rw [SK]; exact h
theorem SK.skip (h : SK P rd N ks T L Q) : SK P rd N (.code .skip :: ks) T L Q :=
  SK_code.2 fun F a w ok => wpIn_skip ⟨T, L, ok, h⟩
theorem SK.ret (h : Q .ret T L) : SK P rd N (.code .ret :: ks) T L Q :=
  SK_code.2 fun F a w ok => wpIn_ret ⟨T, L, ok, h⟩
theorem SK.exit {id : Nat} {ks' : List K} (hf : findK id ks = some ks') (h : SK P rd N ks' T L Q) : SK P rd N (.code (.exit id) :: ks) T L Q :=
  SK_code.2 fun F a w ok => wpIn_exit ⟨T, L, ok, by simp only [postK, hf]; exact h⟩
theorem SK.exitOut {id : Nat} (hf : findK id ks = none) (h : Q (.exit id) T L) : SK P rd N (.code (.exit id) :: ks) T L Q :=
  SK_code.2 fun F a w ok => wpIn_exit ⟨T, L, ok, by simp only [postK, hf]; exact h⟩
theorem SK.seq {x y : Code} (h : SK P rd N (.code x :: .code y :: ks) T L Q) : SK P rd N (.code (.seq x y) :: ks) T L Q := by
  rw [SK_code] at h ⊢
  intro F a w ok
  refine wpIn_seq (wpIn_mono (h F a w ok) ?_)
  rintro e a w ⟨T, L, ok, hq⟩
  cases e with
  | normal => exact (SK_code.1 hq) F a w ok
  | exit id => exact ⟨T, L, ok, hq⟩
  | goto l => exact ⟨T, L, ok, hq⟩
  | ret => exact ⟨T, L, ok, hq⟩
  | panic c => exact ⟨T, L, ok, hq⟩
  | outgrown => exact ⟨T, L, ok, hq⟩
theorem SK.block {id : Nat} {c : Code} (h : SK P rd N (.code c :: .blk id :: ks) T L Q) : SK P rd N (.code (.block id c) :: ks) T L Q := by
  rw [SK_code] at h ⊢
  intro F a w ok
  refine wpIn_block (wpIn_mono (h F a w ok) ?_)
  rintro e a w ⟨T, L, ok, hq⟩
  cases e with
  | normal => simp only [postK] at hq; rw [SK] at hq; exact ⟨T, L, ok, hq⟩
  | exit j =>
    simp only [Exit.inBlock]
    simp only [postK, findK] at hq
    by_cases hj : j = id
    · subst hj
      have : Nat.beq j j = true := by simp
      simp only [this, cond_true] at hq
      simp only [if_true]; exact ⟨T, L, ok, hq⟩
    · have : Nat.beq id j = false := by cases hb : Nat.beq id j with
        | false => rfl
        | true => exact (hj (Nat.eq_of_beq_eq_true hb).symm).elim
      simp only [this, cond_false] at hq
      simp only [hj, if_false]; exact ⟨T, L, ok, hq⟩
  | goto l => exact ⟨T, L, ok, hq⟩
  | ret => exact ⟨T, L, ok, hq⟩
  | panic c => exact ⟨T, L, ok, hq⟩
  | outgrown => exact ⟨T, L, ok, hq⟩
theorem Ok.know {F : HP} {a : Act} {w : World} (ok : Ok F N T L a w) {t : Nat} {v : Value} (h : T.get t = some v) : Ok F N ((t, v) :: T) L a w :=
  ⟨ok.size, fun i u e => by
    rw [TT.get_cons] at e
    split at e
    · rename_i hi; subst hi; cases e; exact ok.get _ _ h
    · exact ok.get i u e, ok.mem⟩
theorem SK.cond {t : Nat} {x y : Code} {β : Bool} (hc : T.get t = some (.bool β)) (ht : β = true → SK P rd N (.code x :: ks) ((t, .bool true) :: T) L Q)
    (hf : β = false → SK P rd N (.code y :: ks) ((t, .bool false) :: T) L Q) : SK P rd N (.code (.cond (.tmp t) x y) :: ks) T L Q := by
  rw [SK_code]
  intro F a w ok
  refine wpIn_cond_split (t := β) (ok.knows _ _ hc) (fun h => ?_) (fun h => ?_)
  · exact SK_code.1 (ht h) F a w (ok.know (h ▸ hc))
  · exact SK_code.1 (hf h) F a w (ok.know (h ▸ hc))
theorem SK.condT {c : Operand} {x y : Code} (hc : evO T c = some (.bool true)) (h : SK P rd N (.code x :: ks) T L Q) : SK P rd N (.code (.cond c x y) :: ks) T L Q := by
  rw [SK_code] at h ⊢
  exact fun F a w ok => wpIn_cond_true (ok.knows _ _ hc) (h F a w ok)
theorem SK.condF {c : Operand} {x y : Code} (hc : evO T c = some (.bool false)) (h : SK P rd N (.code y :: ks) T L Q) : SK P rd N (.code (.cond c x y) :: ks) T L Q := by
  rw [SK_code] at h ⊢
  exact fun F a w ok => wpIn_cond_false (ok.knows _ _ hc) (h F a w ok)
theorem SK.weaken {T' : TT} {L' : List HP} (hT : Sub T T') (hL : Ent L L') {c : Code} (h : SK P rd N (.code c :: ks) T' L' Q) : SK P rd N (.code c :: ks) T L Q := by
  rw [SK_code] at h ⊢
  exact fun F a w ok => h F a w ((ok.sub hT).ent hL)
theorem SK.loop {c : Code} {X : Type} (TX : X → TT) (LX : X → List HP) (μ : X → Nat) (x0 : X) (hT : Sub T (TX x0)) (hL : Ent L (LX x0))
    (h : ∀ x, SK P rd N (.code c :: .inv (fun T' L' => ∃ x', μ x' < μ x ∧ Sub T' (TX x') ∧ Ent L' (LX x')) :: ks) (TX x) (LX x) Q) :
    SK P rd N (.code (.loop c) :: ks) T L Q := by
  rw [SK_code]
  intro F a w ok
  let I : Act → World → Prop := fun a w => ∃ x, Ok F N (TX x) (LX x) a w
  let m : Act → World → Nat → Prop := fun a w n => ∃ x, Ok F N (TX x) (LX x) a w ∧ μ x = n
  have dec : ∀ a w, I a w → ∃ n, m a w n ∧ ∀ k, m a w k → n ≤ k := by
    intro a w ⟨x, hx⟩
    have : ∀ n, m a w n → ∃ n, m a w n ∧ ∀ k, m a w k → n ≤ k := by
      intro n
      induction n using Nat.strongRecOn with
      | _ n ih =>
        intro hn
        by_cases hk : ∃ k, k < n ∧ m a w k
        · obtain ⟨k, hk, hm⟩ := hk; exact ih k hk hm
        · exact ⟨n, hn, fun k hm => Nat.le_of_not_lt fun hlt => hk ⟨k, hlt, hm⟩⟩
    exact this (μ x) ⟨x, hx, rfl⟩
  refine wpIn_loop I (fun a w => open Classical in if h : I a w then (dec a w h).choose else 0) ⟨x0, (ok.sub hT).ent hL⟩ ?_
  intro a w hI
  obtain ⟨⟨x, hx, hn⟩, hmin⟩ := (dec a w hI).choose_spec
  refine wpIn_mono (SK_code.1 (h x) F a w hx) ?_
  rintro e a' w' ⟨T', L', ok', hq⟩
  cases e with
  | normal =>
    simp only [postK] at hq
    rw [SK] at hq
    obtain ⟨x', hlt, hT', hL'⟩ := hq
    have hx' : Ok F N (TX x') (LX x') a' w' := (ok'.sub hT').ent hL'
    refine ⟨⟨x', hx'⟩, ?_⟩
    simp only [dif_pos (show I a' w' from ⟨x', hx'⟩), dif_pos hI]
    have h2 := (dec a' w' ⟨x', hx'⟩).choose_spec.2 (μ x') ⟨x', hx', rfl⟩
    omega
  | exit id => exact ⟨T', L', ok', hq⟩
  | goto l => exact ⟨T', L', ok', hq⟩
  | ret => exact ⟨T', L', ok', hq⟩
  | panic c => exact ⟨T', L', ok', hq⟩
  | outgrown => exact ⟨T', L', ok', hq⟩
theorem SK.region {id : Nat} {l : List Oper} (h : SO P rd N l.toArray l T L ks Q) : SK P rd N (.code (.region id l.toArray false) :: ks) T L Q :=
  SK_code.2 fun F a w ok => wpIn_region_lit (h F a w ok)
variable {all : Array Oper} {rest : List Oper} {o : Oper}
theorem SO.nil (h : SK P rd N ks T L Q) : SO P rd N all [] T L ks Q := fun F a w ok => wpListIn_nil ⟨T, L, ok, h⟩
def notDefer : Op → Bool
  | .defer _ => false
  | _ => true
theorem notDefer_spec {op : Op} (h : notDefer op = true) : ∀ c, op ≠ .defer c := fun c e => by subst e; simp [notDefer] at h
def putD (d : Option Tmp) (v : Value) (T : TT) : TT := match d with
  | some d => (d, v) :: T
  | none => T
def dstOk (N : Nat) : Option Tmp → Bool
  | some d => Nat.blt d N
  | none => true
theorem Ok.putD {F : HP} {a : Act} {w : World} (ok : Ok F N T L a w) {d : Option Tmp} (hd : dstOk N d = true) (v : Value) : Ok F N (Sl.putD d v T) L (a.put d v) w := by
  cases d with
  | none => exact ok
  | some d => exact ok.put (by simpa [dstOk, Nat.blt_eq] using hd) v
def Runs (P : Program) (T : TT) (L : List HP) (o : Oper) (R : Value → List HP → Prop) : Prop :=
  ∀ ρ, Knows T ρ → ∀ F w, St w (F :: L) → ∃ v w' L', ((execOp ρ o).run P w = .ok (.value v) w' ∨ ((execOp ρ o).run P w = .ok .skip w' ∧ v = undef)) ∧ R v L' ∧ St w' (F :: L')
theorem SO.run {R : Value → List HP → Prop} (hg : o.guard = none) (hn : notDefer o.op = true) (hd : dstOk N o.dst = true) (hr : Runs P T L o R)
    (h : ∀ v L', R v L' → SO P rd N all rest (putD o.dst v T) L' ks Q) : SO P rd N all (o :: rest) T L ks Q := by
  intro F a w ok
  refine wpListIn_plain hg fun next hnext => ⟨fun _ _ => trivial, ?_⟩
  obtain ⟨D, hD, hm⟩ := ok.mem
  obtain ⟨v, w', L', hrun, hR, hst⟩ := hr a.eval ok.knows _ w hm
  rw [Oper.semAt_eq _ _ _ (notDefer_spec hn)]
  have ok' : Ok F N (putD o.dst v T) L' (a.put o.dst v) w' := by
    have := ok.putD hd v
    refine ⟨this.size, this.get, D, ?_, hst⟩
    rw [← hD]; cases o.dst <;> rfl
  rcases hrun with hrun | ⟨hrun, rfl⟩
  · rw [hrun]; exact hnext _ _ (h v L' hR F _ _ ok')
  · rw [hrun]; exact hnext _ _ (h _ L' hR F _ _ ok')
theorem SO.guard {j : Nat} {want : Bool} {t : Nat} {β : Bool} {dst : Option Tmp} {op : Op} {ty : TypeId} {pos : String} {aft : Array Edge}
    (hj : (all[j]?).bind (·.dst) = some t) (ht : T.get t = some (.bool β)) (hd : dstOk N dst = true)
    (yes : β = want → SO P rd N all (⟨dst, op, ty, pos, aft, none⟩ :: rest) ((t, .bool want) :: T) L ks Q)
    (no : β = !want → SO P rd N all rest (putD dst undef ((t, .bool (!want)) :: T)) L ks Q) : SO P rd N all (⟨dst, op, ty, pos, aft, some (j, want)⟩ :: rest) T L ks Q := by
  intro F a w ok
  have hy : yielded all a.tmps j = some β := by
    simp only [yielded, hj, Option.bind_some, ok.get _ _ ht]
  by_cases hb : β = want
  · have hw : Region.wanted (⟨dst, op, ty, pos, aft, some (j, want)⟩ : Oper) (yielded all a.tmps) = true := by simp [Region.wanted, hy, hb]
    have h2 := yes hb F a w (ok.know (hb ▸ ht))
    simp only [wpListIn, hw, if_true]
    simp only [wpListIn, Region.wanted, if_true] at h2
    exact h2
  · have hw : Region.wanted (⟨dst, op, ty, pos, aft, some (j, want)⟩ : Oper) (yielded all a.tmps) = false := by simp [Region.wanted, hy, hb]
    have hb' : β = !want := by cases β <;> cases want <;> simp_all
    simp only [wpListIn, hw]
    exact ⟨fun _ _ => trivial, no hb' F _ _ ((ok.know (hb' ▸ ht)).putD hd undef)⟩
theorem SO.guardY {j : Nat} {want : Bool} {t : Nat} {dst : Option Tmp} {op : Op} {ty : TypeId} {pos : String} {aft : Array Edge}
    (hj : (all[j]?).bind (·.dst) = some t) (ht : T.get t = some (.bool want))
    (yes : SO P rd N all (⟨dst, op, ty, pos, aft, none⟩ :: rest) T L ks Q) : SO P rd N all (⟨dst, op, ty, pos, aft, some (j, want)⟩ :: rest) T L ks Q := by
  intro F a w ok
  have hy : yielded all a.tmps j = some want := by
    simp only [yielded, hj, Option.bind_some, ok.get _ _ ht]
  have hw : Region.wanted (⟨dst, op, ty, pos, aft, some (j, want)⟩ : Oper) (yielded all a.tmps) = true := by simp [Region.wanted, hy]
  have h2 := yes F a w ok
  simp only [wpListIn, hw, if_true]
  simp only [wpListIn, Region.wanted, if_true] at h2
  exact h2
theorem SO.guardN {j : Nat} {want : Bool} {t : Nat} {dst : Option Tmp} {op : Op} {ty : TypeId} {pos : String} {aft : Array Edge}
    (hj : (all[j]?).bind (·.dst) = some t) (ht : T.get t = some (.bool (!want))) (hd : dstOk N dst = true)
    (no : SO P rd N all rest (putD dst undef T) L ks Q) : SO P rd N all (⟨dst, op, ty, pos, aft, some (j, want)⟩ :: rest) T L ks Q := by
  intro F a w ok
  have hy : yielded all a.tmps j = some (!want) := by
    simp only [yielded, hj, Option.bind_some, ok.get _ _ ht]
  have hw : Region.wanted (⟨dst, op, ty, pos, aft, some (j, want)⟩ : Oper) (yielded all a.tmps) = false := by simp [Region.wanted, hy]
  simp only [wpListIn, hw]
  exact ⟨fun _ _ => trivial, no F _ _ (ok.putD hd undef)⟩
theorem SK.know {c : Code} {p : Prop} (h : ∀ r o, seps L r o → p) (k : p → SK P rd N (.code c :: ks) T L Q) : SK P rd N (.code c :: ks) T L Q := by
  rw [SK_code]
  intro F a w ok
  obtain ⟨D, hD, r, o, s, x, y, d, le, _, hL⟩ := ok.mem
  exact SK_code.1 (k (h r y hL)) F a w ok
theorem SO.guardYP {j : Nat} {want : Bool} {t : Nat} {β : Bool} {dst : Option Tmp} {op : Op} {ty : TypeId} {pos : String} {aft : Array Edge}
    (hj : (all[j]?).bind (·.dst) = some t) (ht : T.get t = some (.bool β)) (hb : β = want)
    (yes : SO P rd N all (⟨dst, op, ty, pos, aft, none⟩ :: rest) ((t, .bool want) :: T) L ks Q) : SO P rd N all (⟨dst, op, ty, pos, aft, some (j, want)⟩ :: rest) T L ks Q := by
  subst hb
  exact fun F a w ok => (SO.guardY (T := (t, .bool β) :: T) hj (by rw [TT.get_cons, if_pos rfl]) yes) F a w (ok.know ht)
theorem SO.guardNP {j : Nat} {want : Bool} {t : Nat} {β : Bool} {dst : Option Tmp} {op : Op} {ty : TypeId} {pos : String} {aft : Array Edge}
    (hj : (all[j]?).bind (·.dst) = some t) (ht : T.get t = some (.bool β)) (hd : dstOk N dst = true) (hb : β = !want)
    (no : SO P rd N all rest (putD dst undef ((t, .bool (!want)) :: T)) L ks Q) : SO P rd N all (⟨dst, op, ty, pos, aft, some (j, want)⟩ :: rest) T L ks Q := by
  subst hb
  exact fun F a w ok => (SO.guardN (T := (t, .bool (!want)) :: T) hj (by rw [TT.get_cons, if_pos rfl]) hd no) F a w (ok.know ht)
theorem SK.condTP {t : Nat} {x y : Code} {β : Bool} (hc : T.get t = some (.bool β)) (hb : β = true) (h : SK P rd N (.code x :: ks) ((t, .bool true) :: T) L Q) : SK P rd N (.code (.cond (.tmp t) x y) :: ks) T L Q :=
  SK.cond hc (fun _ => h) (fun e => by rw [hb] at e; cases e)
theorem SK.condFP {t : Nat} {x y : Code} {β : Bool} (hc : T.get t = some (.bool β)) (hb : β = false) (h : SK P rd N (.code y :: ks) ((t, .bool false) :: T) L Q) : SK P rd N (.code (.cond (.tmp t) x y) :: ks) T L Q :=
  SK.cond hc (fun e => by rw [hb] at e; cases e) (fun _ => h)
def Reads (P : Program) (T : TT) (L : List HP) (o : Oper) (R : Value → List HP → Prop) : Prop :=
  ∀ ρ, Knows T ρ → ∀ r oo F, seps (F :: L) r oo → ∃ v L', R v L' ∧ seps (F :: L') r oo ∧ ∀ w, Sat w r oo → (execOp ρ o).run P w = .ok (.value v) w
theorem Runs.of_reads {R : Value → List HP → Prop} (h : Reads P T L o R) : Runs P T L o R := by
  intro ρ hρ F w ⟨r, oo, s, hs⟩
  obtain ⟨v, L', hR, hs', hrun⟩ := h ρ hρ r oo F hs
  exact ⟨v, w, L', .inl (hrun w s), hR, r, oo, s, hs'⟩
theorem SO.reads {R : Value → List HP → Prop} (hr : Reads P T L o R) (hg : o.guard = none) (hn : notDefer o.op = true) (hd : dstOk N o.dst = true)
    (h : ∀ v L', R v L' → SO P rd N all rest (putD o.dst v T) L' ks Q) : SO P rd N all (o :: rest) T L ks Q := SO.run hg hn hd (Runs.of_reads hr) h
def Agr (N : Nat) (T : TT) (a : Act) : Prop := a.tmps.size = N ∧ ∀ i v, T.get i = some v → a.tmps[i]? = some v
theorem Agr.knows {a : Act} (h : Agr N T a) : Knows T a.eval := by
  intro x v e
  cases x with
  | tmp t => have := h.2 t v e; simp [Act.eval, Array.getD_eq_getD_getElem?, this]
  | const u => simpa [evO, Act.eval] using e
  | global g => simpa [evO, Act.eval] using e
  | func f => simpa [evO, Act.eval] using e
theorem Agr.putD {a : Act} (h : Agr N T a) {d : Option Tmp} (hd : dstOk N d = true) (v : Value) : Agr N (Sl.putD d v T) (a.put d v) := by
  have ok : Ok (big []) N T [] ⟨a.tmps, []⟩ default := ⟨h.1, h.2, [], rfl, ⟨(fun _ _ => none), default⟩, (fun _ _ => none), ⟨fun _ _ _ e => by simp at e, fun _ _ _ e => by simp at e, fun _ _ _ e => by simp at e, fun _ _ _ _ e => by simp at e, Go.RowKit.Below.refl _ _, fun _ _ _ e => by simp at e, fun _ _ e => by simp at e⟩, fun _ _ => none, fun _ _ => none, fun _ _ => .inl rfl, fun _ _ _ e => by simp [Own.add] at e, ⟨fun _ _ => none, fun _ _ => none, fun _ _ => .inl rfl, fun _ _ _ e => by simp [Own.add] at e, trivial, trivial⟩, trivial⟩
  have := ok.putD hd v
  cases d with
  | none => exact h
  | some d => exact ⟨this.size, this.get⟩
def SQ (P : Program) (N : Nat) (all : Array Oper) (ops : List Oper) (T : TT) (L : List HP) (R : TT → List HP → Prop) : Prop :=
  ∀ r oo F a, seps (F :: L) r oo → Agr N T a → wpQuiet P all (fun w => Sat w r oo) (fun a' => a'.defers = a.defers ∧ ∃ T' L', Agr N T' a' ∧ seps (F :: L') r oo ∧ R T' L') ops a
variable {RR : TT → List HP → Prop}
theorem SQ.nil (h : RR T L) : SQ P N all [] T L RR := fun r oo F a hs ha => ⟨rfl, T, L, ha, hs, h⟩
theorem wpQuiet_mono {C : World → Prop} {Q Q' : Act → Prop} (h : ∀ a, Q a → Q' a) : ∀ (ops : List Oper) (a : Act), wpQuiet P all C Q ops a → wpQuiet P all C Q' ops a
  | [], a, hq => h a hq
  | o :: ops, a, hq => by
    simp only [wpQuiet] at hq ⊢
    split
    · rename_i hw; rw [if_pos hw] at hq; exact Oper.quiet_mono (wpQuiet_mono h ops) hq
    · rename_i hw; rw [if_neg hw] at hq; exact wpQuiet_mono h ops _ hq
theorem put_defers_eq {a : Act} {d : Option Tmp} {v : Value} : (a.put d v).defers = a.defers := by cases d <;> rfl
theorem SQ.reads {R : Value → List HP → Prop} (hr : Reads P T L o R) (hg : o.guard = none) (hd : dstOk N o.dst = true)
    (h : ∀ v L', R v L' → SQ P N all rest (Sl.putD o.dst v T) L' RR) : SQ P N all (o :: rest) T L RR := by
  intro r oo F a hs ha
  obtain ⟨v, L', hR, hs', hrun⟩ := hr a.eval ha.knows r oo F hs
  simp only [wpQuiet, Region.wanted, hg, if_true]
  refine ⟨v, fun w hw => ?_, wpQuiet_mono ?_ rest _ (h v L' hR r oo F _ hs' (ha.putD hd v))⟩
  · unfold Oper.quietAt; rw [hrun w hw]; exact ⟨rfl, rfl⟩
  · rintro a' ⟨h1, h2⟩; exact ⟨by rw [h1, put_defers_eq], h2⟩
theorem Agr.know {a : Act} (ha : Agr N T a) {t : Nat} {v : Value} (h : T.get t = some v) : Agr N ((t, v) :: T) a :=
  ⟨ha.1, fun i u e => by
    rw [TT.get_cons] at e
    split at e
    · rename_i hi; subst hi; cases e; exact ha.2 _ _ h
    · exact ha.2 i u e⟩
theorem SQ.guard {j : Nat} {want : Bool} {t : Nat} {β : Bool} {dst : Option Tmp} {op : Op} {ty : TypeId} {pos : String} {aft : Array Edge}
    (hj : (all[j]?).bind (·.dst) = some t) (ht : T.get t = some (.bool β)) (hd : dstOk N dst = true)
    (yes : β = want → SQ P N all (⟨dst, op, ty, pos, aft, none⟩ :: rest) ((t, .bool want) :: T) L RR)
    (no : β = !want → SQ P N all rest (Sl.putD dst undef ((t, .bool (!want)) :: T)) L RR) : SQ P N all (⟨dst, op, ty, pos, aft, some (j, want)⟩ :: rest) T L RR := by
  intro r oo F a hs ha
  have hy : yielded all a.tmps j = some β := by
    simp only [yielded, hj, Option.bind_some, ha.2 _ _ ht]
  by_cases hb : β = want
  · have hw : Region.wanted (⟨dst, op, ty, pos, aft, some (j, want)⟩ : Oper) (yielded all a.tmps) = true := by simp [Region.wanted, hy, hb]
    have h2 := yes hb r oo F a hs (ha.know (hb ▸ ht))
    simp only [wpQuiet, hw, if_true]
    simp only [wpQuiet, Region.wanted, if_true] at h2
    exact h2
  · have hw : Region.wanted (⟨dst, op, ty, pos, aft, some (j, want)⟩ : Oper) (yielded all a.tmps) = false := by simp [Region.wanted, hy, hb]
    have hb' : β = !want := by cases β <;> cases want <;> simp_all
    simp only [wpQuiet, hw]
    have := no hb' r oo F _ hs ((ha.know (hb' ▸ ht)).putD hd undef)
    exact wpQuiet_mono (fun a' ⟨h1, h2⟩ => ⟨by rw [h1, put_defers_eq], h2⟩) rest _ this
theorem SQ.guardY {j : Nat} {want : Bool} {t : Nat} {dst : Option Tmp} {op : Op} {ty : TypeId} {pos : String} {aft : Array Edge}
    (hj : (all[j]?).bind (·.dst) = some t) (ht : T.get t = some (.bool want))
    (yes : SQ P N all (⟨dst, op, ty, pos, aft, none⟩ :: rest) T L RR) : SQ P N all (⟨dst, op, ty, pos, aft, some (j, want)⟩ :: rest) T L RR := by
  intro r oo F a hs ha
  have hy : yielded all a.tmps j = some want := by
    simp only [yielded, hj, Option.bind_some, ha.2 _ _ ht]
  have hw : Region.wanted (⟨dst, op, ty, pos, aft, some (j, want)⟩ : Oper) (yielded all a.tmps) = true := by simp [Region.wanted, hy]
  have h2 := yes r oo F a hs ha
  simp only [wpQuiet, hw, if_true]
  simp only [wpQuiet, Region.wanted, if_true] at h2
  exact h2
theorem SQ.guardN {j : Nat} {want : Bool} {t : Nat} {dst : Option Tmp} {op : Op} {ty : TypeId} {pos : String} {aft : Array Edge}
    (hj : (all[j]?).bind (·.dst) = some t) (ht : T.get t = some (.bool (!want))) (hd : dstOk N dst = true)
    (no : SQ P N all rest (Sl.putD dst undef T) L RR) : SQ P N all (⟨dst, op, ty, pos, aft, some (j, want)⟩ :: rest) T L RR := by
  intro r oo F a hs ha
  have hy : yielded all a.tmps j = some (!want) := by
    simp only [yielded, hj, Option.bind_some, ha.2 _ _ ht]
  have hw : Region.wanted (⟨dst, op, ty, pos, aft, some (j, want)⟩ : Oper) (yielded all a.tmps) = false := by simp [Region.wanted, hy]
  simp only [wpQuiet, hw]
  exact wpQuiet_mono (fun a' ⟨h1, h2⟩ => ⟨by rw [h1, put_defers_eq], h2⟩) rest _ (no r oo F _ hs (ha.putD hd undef))
theorem SQ.guardYP {j : Nat} {want : Bool} {t : Nat} {β : Bool} {dst : Option Tmp} {op : Op} {ty : TypeId} {pos : String} {aft : Array Edge}
    (hj : (all[j]?).bind (·.dst) = some t) (ht : T.get t = some (.bool β)) (hb : β = want)
    (yes : SQ P N all (⟨dst, op, ty, pos, aft, none⟩ :: rest) ((t, .bool want) :: T) L RR) : SQ P N all (⟨dst, op, ty, pos, aft, some (j, want)⟩ :: rest) T L RR := by
  subst hb
  exact fun r oo F a hs ha => (SQ.guardY (T := (t, .bool β) :: T) hj (by rw [TT.get_cons, if_pos rfl]) yes) r oo F a hs (ha.know ht)
theorem SQ.guardNP {j : Nat} {want : Bool} {t : Nat} {β : Bool} {dst : Option Tmp} {op : Op} {ty : TypeId} {pos : String} {aft : Array Edge}
    (hj : (all[j]?).bind (·.dst) = some t) (ht : T.get t = some (.bool β)) (hd : dstOk N dst = true) (hb : β = !want)
    (no : SQ P N all rest (Sl.putD dst undef ((t, .bool (!want)) :: T)) L RR) : SQ P N all (⟨dst, op, ty, pos, aft, some (j, want)⟩ :: rest) T L RR := by
  subst hb
  exact fun r oo F a hs ha => (SQ.guardN (T := (t, .bool (!want)) :: T) hj (by rw [TT.get_cons, if_pos rfl]) hd no) r oo F a hs (ha.know ht)
def noDefer (l : List Oper) : Bool := l.all fun o => notDefer o.op
theorem wpAnyIn_of_quiet {C : World → Prop} {QQ : Act → Prop} {Q' : Exit → Act → World → Prop} {ops : Array Oper} {md : Region.Mode} (hnd : ∀ (i : Nat) (o : Oper), ops[i]? = some o → notDefer o.op = true) (hQ : ∀ a w, C w → QQ a → Q' .normal a w) : ∀ (fuel : Nat) (listed : Array Bool) (a : Act) (w : World), C w →
    wpAnyQ P md ops C QQ fuel listed a → wpAnyIn (FW rd) 0 P md ops Q' fuel listed a w
  | 0, _, _, _, hw, h => ⟨h.1, hQ _ _ hw h.2⟩
  | fuel + 1, _, _, _, hw, h => by
    refine ⟨fun h0 => hQ _ _ hw (h.1 h0), fun i hi => ?_⟩
    have hq := h.2 i hi
    unfold qOp at hq
    unfold wpOpIn
    split
    · rename_i ho; simp only [ho] at hq; exact wpAnyIn_of_quiet hnd hQ fuel _ _ _ hw hq
    · rename_i o ho
      simp only [ho] at hq
      split
      · rename_i hwant
        simp only [hwant, if_true] at hq
        obtain ⟨v, h1, h2⟩ := hq
        have h3 := h1 _ hw
        unfold Oper.quietAt at h3
        refine ⟨fun _ _ => trivial, ?_⟩
        rw [Oper.semAt_eq _ _ _ (notDefer_spec (hnd i o ho))]
        revert h3
        generalize (execOp _ o).run P _ = res
        intro h3
        cases res with
        | ok n w' =>
          cases n <;> simp only [Oper.quietUpon] at h3 <;> simp only [Oper.uponIn]
          case value u =>
            obtain ⟨e1, e2⟩ := h3
            rw [e1, e2]
            exact wpAnyIn_of_quiet hnd hQ fuel _ _ _ hw h2
          case skip =>
            obtain ⟨e1, e2⟩ := h3
            rw [e1, ← e2]
            exact wpAnyIn_of_quiet hnd hQ fuel _ _ _ hw h2
          case enter f args =>
            obtain ⟨e1, hc⟩ := h3
            rw [e1]
            refine ⟨fun h => by simp [Fence.wide] at h, ?_⟩
            have hc2 : CallsIn Fence.wide 0 P f args _ _ := callsIn_wide.2 hc
            refine ⟨trivial, fun cs hroom => ?_⟩
            obtain ⟨e, w'', fr, ⟨he, hw''⟩, rest⟩ := hc2.2 cs hroom
            subst he
            exact ⟨.returned v, w'', fr, wpAnyIn_of_quiet hnd hQ fuel _ _ _ hw'' h2, rest⟩
        | halt x w' => simp only [Oper.quietUpon] at h3
      · rename_i hwant
        simp only [hwant] at hq
        exact ⟨fun _ _ => trivial, wpAnyIn_of_quiet hnd hQ fuel _ _ _ hw hq⟩
theorem SK.regionQ {id : Nat} {l : List Oper} (hm : P.follows .mixedOrders = true) (hB : Region.lexB .any l.toArray = true) (hnd : noDefer l = true) (h : SQ P N l.toArray l T L (fun T' L' => SK P rd N ks T' L' Q)) :
    SK P rd N (.code (.region id l.toArray true) :: ks) T L Q := by
  rw [SK_code]
  intro G a w ok
  obtain ⟨D, hD, r, oo, s, hs⟩ := ok.mem
  have hnd' : ∀ (i : Nat) (o : Oper), l.toArray[i]? = some o → notDefer o.op = true := fun i o ho => by
    have := List.all_eq_true.1 hnd o (by simpa using Array.mem_of_getElem? ho)
    exact this
  have h0 := h r oo _ a hs ⟨ok.size, ok.get⟩
  simp only [Region.lexB, Bool.and_eq_true] at hB
  refine wpIn_region_any hm (wpAnyIn_of_quiet (rd := rd) (C := fun w => Sat w r oo) (QQ := fun a' => a'.defers = a.defers ∧ ∃ T' L', Agr N T' a' ∧ seps (big (G :: D.map mkA) :: L') r oo ∧ SK P rd N ks T' L' Q) hnd' (fun a' w' hw' h => ?_) _ _ _ _ ⟨s.ro, s.val, s.obj, s.dis, s.below.drew, s.low, s.pl⟩ ?_)
  · obtain ⟨h1, T', L', h2, h3, h4⟩ := h
    exact ⟨T', L', ⟨h2.1, h2.2, D, by rw [h1, hD], r, oo, hw', h3⟩, h4⟩
  · have := wpAnyQ_lex (C := fun w => Sat w r oo) (md := .any) hB.1 l 0 (Array.replicate l.toArray.size false) a (by simp) (by simpa using hB.2) h0
    simpa using this
end
end Go.Sl

set_option linter.unusedVariables false
set_option linter.unusedSectionVars false
namespace Go.Sl
inductive TK where
  | int (k : IntKind)
  | bool
  | str
  | ptr
  | sl (e : Nat)
  | arr (n e : Nat)
  | map (k e : Nat)
  | fn
  | st (fs : List (Nat × Nat))
  | other
structure TI where
  k : TK
  size : Nat
  bytes : Nat
  zero : Value
def TK.ok (P : Program) (t : Nat) : TK → Prop
  | .int k => P.underlying t = some (.int k)
  | .bool => P.underlying t = some .bool
  | .str => P.underlying t = some .string
  | .ptr => ∃ e, P.underlying t = some (.pointer e)
  | .sl e => P.underlying t = some (.slice e)
  | .arr n e => P.underlying t = some (.array n e)
  | .map k e => P.underlying t = some (.map k e)
  | .fn => ∃ a b c, P.underlying t = some (.func a b c)
  | .st fs => ∃ F, P.underlying t = some (.struct F) ∧ F.toList.map (fun f => (f.offset, f.type)) = fs
  | .other => ∃ d, P.underlying t = some d ∧ (match d with | .struct _ => False | .array _ _ => False | _ => True)
def TK.agg : TK → Bool
  | .st _ => true
  | .arr _ _ => true
  | _ => false
structure TI.ok (P : Program) (t : Nat) (ti : TI) : Prop where
  k : ti.k.ok P t
  info : ∃ i, P.info? t = some i ∧ i.size = ti.size ∧ i.bytes = ti.bytes ∧ i.zero = some ti.zero
theorem info_of {P : Program} {t : Nat} {i : TypeInfo} {a b : Nat} {z : Value} (h : P.types[t]? = some i) (h1 : i.size = a) (h2 : i.bytes = b) (h3 : i.zero = some z) :
    ∃ i, P.info? t = some i ∧ i.size = a ∧ i.bytes = b ∧ i.zero = some z := ⟨i, by
    unfold Tables.info?; simp [h]
    intro hle; have := (Array.getElem?_eq_some_iff.1 h).1; omega, h1, h2, h3⟩
class Tab (P : Program) where
  tab : List TI
  ok : ∀ (t : Nat) (ti : TI), tab[t]? = some ti → ti.ok P t
def tget : List TI → Nat → Option TI
  | [], _ => none
  | x :: _, 0 => some x
  | _ :: l, n + 1 => tget l n
theorem tget_eq : ∀ (l : List TI) (n : Nat), tget l n = l[n]?
  | [], n => by simp [tget]
  | x :: l, 0 => by simp [tget]
  | x :: l, n + 1 => by simp [tget, tget_eq l n]
section
variable {P : Program} [tb : Tab P]
theorem tab_ok {t : Nat} {ti : TI} (h : tget tb.tab t = some ti) : ti.ok P t := tb.ok t ti (by rw [← tget_eq]; exact h)
theorem run_und {t : Nat} {d : TypeDesc} (h : P.underlying t = some d) (w : World) : (underlying t).run P w = .ok d w := by
  simp [underlying, program, Sem.run, bind, Sem.bind, h, pure]
theorem und_ok {t : Nat} {ti : TI} (h : ti.ok P t) : ∃ d, P.underlying t = some d := by
  have hk := h.k
  cases hkk : ti.k <;> simp only [hkk, TK.ok] at hk
  case ptr => obtain ⟨e, hk⟩ := hk; exact ⟨_, hk⟩
  case fn => obtain ⟨e, f, g, hk⟩ := hk; exact ⟨_, hk⟩
  case st => obtain ⟨e, hk, _⟩ := hk; exact ⟨_, hk⟩
  case other => obtain ⟨e, hk, hm⟩ := hk; exact ⟨_, hk⟩
  all_goals exact ⟨_, hk⟩
theorem isAgg_ok {t : Nat} {ti : TI} (h : ti.ok P t) (w : World) : (isAgg t).run P w = .ok ti.k.agg w := by
  have hk := h.k
  simp only [isAgg]
  rw [Sem.run_bind]
  cases hkk : ti.k <;> simp only [hkk, TK.ok] at hk
  case ptr => obtain ⟨e, hk⟩ := hk; rw [run_und hk]; rfl
  case fn => obtain ⟨e, f, g, hk⟩ := hk; rw [run_und hk]; rfl
  case st => obtain ⟨e, hk, _⟩ := hk; rw [run_und hk]; rfl
  case other => obtain ⟨e, hk, hm⟩ := hk; rw [run_und hk]; cases e <;> first | exact hm.elim | rfl
  all_goals (rw [run_und hk]; rfl)
theorem sizeOf_ok {t : Nat} {ti : TI} (h : ti.ok P t) (w : World) : (sizeOf t).run P w = .ok ti.size w := by
  obtain ⟨i, hi, hs, _⟩ := h.info
  simp [sizeOf, typeInfo, program, Sem.run, bind, Sem.bind, hi, pure, hs]
theorem zero_ok {t : Nat} {ti : TI} (h : ti.ok P t) (w : World) : (zeroValue t).run P w = .ok ti.zero w := by
  obtain ⟨i, hi, _, _, hz⟩ := h.info
  simp [zeroValue, typeInfo, program, Sem.run, bind, Sem.bind, hi, pure, hz]
theorem info_ok {t : Nat} {ti : TI} (h : ti.ok P t) (w : World) : ∃ i, (typeInfo t).run P w = .ok i w ∧ i.bytes = ti.bytes := by
  obtain ⟨i, hi, _, hb, hz⟩ := h.info
  exact ⟨i, by simp [typeInfo, program, Sem.run, bind, Sem.bind, hi, pure], hb⟩
def eqS (a b : ByteArray) : Bool := decide (a.data.toList = b.data.toList)
theorem eqS_iff {a b : ByteArray} : eqS a b = true ↔ a = b := by
  unfold eqS
  constructor
  · intro h
    have h := of_decide_eq_true h
    cases a with | mk x => cases b with | mk y =>
      simp at h; rw [h]
  · intro h; subst h; simp
theorem toList_eq (a b : ByteArray) : (a.toList == b.toList) = eqS a b := by
  rw [ByteArray.toList_eq, ByteArray.toList_eq]; unfold eqS
  rw [Bool.eq_iff_iff, beq_iff_eq, decide_eq_true_iff]
def intBin (op : BinOp) (k : IntKind) (a b : Int) : Option Value :=
  match op with
  | .add => some (.int k (k.wrap (a + b)))
  | .sub => some (.int k (k.wrap (a - b)))
  | .mul => some (.int k (k.wrap (a * b)))
  | .lss => some (.bool (decide (a < b)))
  | .leq => some (.bool (decide (a ≤ b)))
  | .gtr => some (.bool (decide (b < a)))
  | .geq => some (.bool (decide (b ≤ a)))
  | .eql => some (.bool (decide (a = b)))
  | .neq => some (.bool (!decide (a = b)))
  | _ => none
def strBin (op : BinOp) (a b : ByteArray) : Option Value :=
  match op with
  | .eql => some (.bool (eqS a b))
  | .neq => some (.bool (!eqS a b))
  | _ => none
def binV (op : BinOp) : Value → Value → Option Value
  | .int .i64 a, .int .i64 b => intBin op .i64 a b
  | .int .u8 a, .int .u8 b => intBin op .u8 a b
  | .int .i32 a, .int .i32 b => intBin op .i32 a b
  | .int .u16 a, .int .u16 b => intBin op .u16 a b
  | .int .u32 a, .int .u32 b => intBin op .u32 a b
  | .int .u64 a, .int .u64 b => intBin op .u64 a b
  | .string a, .string b => strBin op a b
  | _, _ => none
def pureOp (tab : List TI) (T : TT) : Op → Option Value
  | .move x => evO T x
  | .assign x => evO T x
  | .pick c a b => match evO T c with
    | some (.bool true) => evO T a
    | some (.bool false) => evO T b
    | _ => none
  | .binOp op _ x y _ => match evO T x with
    | some u => match evO T y with
      | some v => binV op u v
      | none => none
    | none => none
  | .unOp .not _ x => match evO T x with
    | some (.bool b) => some (.bool (!b))
    | _ => none
  | .unOp .neg _ x => match evO T x with
    | some (.int k n) => some (.int k (k.wrap (0 - n)))
    | _ => none
  | .convert src dst x => match tget tab src with
    | some _ => match evO T x with
      | some (.int _ n) => match tget tab dst with
        | some ⟨.int k, _, _, _⟩ => some (.int k (k.wrap n))
        | _ => none
      | some (.string s) => match tget tab dst with
        | some ⟨.str, _, _, _⟩ => some (.string s)
        | _ => none
      | _ => none
    | none => none
  | .nilCheck x => match evO T x with
    | some (.pointer (some a)) => some (.pointer (some a))
    | some (.func (.func f) a b) => some (.func (.func f) a b)
    | some (.func (.yield f) a b) => some (.func (.yield f) a b)
    | _ => none
  | .makeFunc fn first cap => match first.toList with
    | [] => match evs T cap.toList with
      | some vs => some (.func fn #[] vs.toArray)
      | none => none
    | _ => none
  | .extract x i => match evO T x with
    | some (.tuple vs) => vs.toList[i]?
    | _ => none
  | .call ⟨.builtin .len, args, tys⟩ => match args.toList with
    | [x] => match evO T x with
      | some (.slice _ n _) => match tys.toList with
        | [t] => match tget tab t with
          | some ⟨.sl _, _, _, _⟩ => some (.int .i64 n)
          | _ => none
        | _ => none
      | some (.string s) => match tys.toList with
        | [t] => match tget tab t with
          | some ⟨.str, _, _, _⟩ => some (.int .i64 s.size)
          | _ => none
        | _ => none
      | _ => none
    | _ => none
  | .fieldAddr t x i => match evO T x with
    | some (.pointer (some ⟨b, off, none⟩)) => match tget tab t with
      | some ⟨.st fs, _, _, _⟩ => match fs[i]? with
        | some (o, ty) => match tget tab ty with
          | some ⟨_, _ + 1, _, _⟩ => some (.pointer (some ⟨b, off + o, none⟩))
          | _ => none
        | none => none
      | _ => none
    | _ => none
  | _ => none
theorem eqGuard_ok {op : BinOp} {t : TypeId} {x y : Operand} {a b : Value} {v : Value} (h : binV op a b = some v) (w : World) : (eqGuard op t x y a b).run P w = .ok () w := by
  unfold eqGuard
  split <;> cases a <;> cases b <;> first | (simp [binV] at h; done) | simp
theorem binV_ok {op : BinOp} {t : TypeId} {a b v : Value} (h : binV op a b = some v) (w : World) : (binOp op t a b).run P w = .ok v w := by
  unfold binV at h
  split at h
  case h_7 a b =>
    unfold strBin at h
    split at h
    · cases h; simp only [binOp, Op.stringOp, toList_eq]; rfl
    · cases h; simp only [binOp, Op.stringOp, toList_eq]; rfl
    · cases h
  case h_8 => cases h
  all_goals
    unfold intBin at h
    split at h <;> first
      | (cases h; done)
      | (cases h; simp only [binOp, ne_eq, not_true_eq_false, if_false, Op.intArith, Op.intCmp]; first
          | rfl
          | (rename_i a b; by_cases hab : a = b <;> simp [hab, pure, Sem.run]))
theorem get1 {α : Type} {a : Array α} {x : α} (h : a.toList = [x]) : a = #[x] := by cases a; simp_all
theorem reads_pure {T : TT} {L : List HP} {o : Oper} {v : Value} (h : pureOp tb.tab T o.op = some v) : Reads P T L o (fun u L' => u = v ∧ L' = L) := by
  intro ρ hρ r oo F hst
  suffices hs : ∀ w, (execOp ρ o).run P w = .ok (.value v) w from ⟨v, L, ⟨rfl, rfl⟩, hst, fun w _ => hs w⟩
  intro w
  obtain ⟨dst, op, ty, pos, aft, g⟩ := o
  simp only at h
  unfold pureOp at h
  split at h
  case h_1 x => simp only [execOp, hρ _ _ h]; rfl
  case h_2 x => simp only [execOp, hρ _ _ h]; rfl
  case h_3 c a b =>
    split at h
    · rename_i hc; simp only [execOp, hρ _ _ hc, hρ _ _ h]; rfl
    · rename_i hc; simp only [execOp, hρ _ _ hc, hρ _ _ h]; rfl
    · cases h
  case h_4 op _ x y _ =>
    split at h
    · rename_i u hu
      split at h
      · rename_i u' hu'
        simp [execOp, hρ _ _ hu, hρ _ _ hu', eqGuard_ok h, binV_ok h]
      · cases h
    · cases h
  case h_5 =>
    split at h
    · rename_i hx; cases h; simp [execOp, hρ _ _ hx, Op.unary]
    · cases h
  case h_6 =>
    split at h
    · rename_i hx; cases h; simp [execOp, hρ _ _ hx, Op.unary, Op.intArith]
    · cases h
  case h_7 src dst x =>
    split at h
    case h_2 => cases h
    rename_i tsrc hsrc
    obtain ⟨dsrc, hds⟩ := und_ok (tab_ok hsrc)
    split at h
    · rename_i k n hx
      split at h
      · rename_i kk z1 z2 z3 ht
        cases h
        have := (tab_ok ht).k
        simp only [TK.ok] at this
        simp only [execOp, convert, hρ _ _ hx, Sem.run_bind, Sem.run_pure, run_und this, run_und hds, Result.andThen_ok]
        cases dsrc <;> simp [Conv.intToInt]
      · cases h
    · rename_i s hx
      split at h
      · rename_i z1 z2 z3 ht
        cases h
        have := (tab_ok ht).k
        simp only [TK.ok] at this
        simp only [execOp, convert, hρ _ _ hx, Sem.run_bind, Sem.run_pure, run_und this, run_und hds, Result.andThen_ok]
        all_goals (cases dsrc <;> simp)
      · cases h
    · cases h
  case h_8 x =>
    split at h
    · rename_i a hx; cases h; simp only [execOp, hρ _ _ hx]; rfl
    · rename_i f a b hx; cases h; simp only [execOp, hρ _ _ hx]; rfl
    · rename_i f a b hx; cases h; simp only [execOp, hρ _ _ hx]; rfl
    · cases h
  case h_9 fn first cap =>
    split at h
    · rename_i hfirst
      have hf : first = #[] := by cases first; subst hfirst; rfl
      subst hf
      split at h
      · rename_i vs hvs
        cases h
        have := hρ.evs hvs
        have h2 : cap.map ρ = vs.toArray := by rw [← this]; cases cap; simp
        simp [execOp, h2, Instr.makeFunc]
      · cases h
    · cases h
  case h_10 x i =>
    split at h
    · rename_i vs hx
      have h' : vs[i]? = some v := by simpa using h
      simp [execOp, hρ _ _ hx, Instr.extract, h']
    · cases h
  case h_11 args tys =>
    split at h
    · rename_i x hargs
      have ha := get1 hargs
      subst ha
      split at h
      · rename_i a n c hx
        split at h
        · rename_i t htys
          have hb := get1 htys
          subst hb
          split at h
          · rename_i e z1 z2 z3 ht
            cases h
            have := (tab_ok ht).k
            simp only [TK.ok] at this
            simp [execOp, resolve, invoke, builtin, Builtin.len_, hρ _ _ hx, run_und this, goInt]
          · cases h
        · cases h
      · rename_i s hx
        split at h
        · rename_i t htys
          have hb := get1 htys
          subst hb
          split at h
          · rename_i z1 z2 z3 ht
            cases h
            have := (tab_ok ht).k
            simp only [TK.ok] at this
            simp [execOp, resolve, invoke, builtin, Builtin.len_, hρ _ _ hx, run_und this, goInt]
          · cases h
        · cases h
      · cases h
    · cases h
  case h_12 t x i =>
    split at h
    · rename_i b off hx
      split at h
      · rename_i fs z1 z2 z3 ht
        split at h
        · rename_i oo ty' hi
          split at h
          · rename_i kk sz z4 z5 hty
            cases h
            have := (tab_ok ht).k
            simp only [TK.ok] at this
            obtain ⟨F, hF, hm⟩ := this
            have hf : ∃ f, F[i]? = some f ∧ f.offset = oo ∧ f.type = ty' := by
              rw [← hm] at hi
              simp only [List.getElem?_map, Option.map_eq_some_iff] at hi
              obtain ⟨f, h1, h2⟩ := hi
              cases h2
              exact ⟨f, by simpa using h1, rfl, rfl⟩
            obtain ⟨f, hf1, hf2, hf3⟩ := hf
            have hs := sizeOf_ok (tab_ok hty)
            simp only at hs
            subst hf2 hf3
            simp [execOp, Instr.fieldAt, hρ _ _ hx, run_und hF, hf1, Instr.sureAddr, fieldPlace, hs, Addr.add]
          · cases h
        · cases h
      · cases h
    · cases h
  case h_13 => cases h
end
end Go.Sl

set_option linter.unusedVariables false
set_option linter.unusedSectionVars false
namespace Go.Sl
section
variable {P : Program} [tb : Tab P] {rd : Option Nat} {N : Nat} {T : TT} {L L' L2 : List HP} {Q : Post} {ks : List K}
variable {all : Array Oper} {rest : List Oper} {o : Oper} {ty : TypeId} {pos : String} {aft : Array Edge} {d : Option Tmp}
theorem SO.pure {v : Value} (hg : o.guard = none) (h : pureOp tb.tab T o.op = some v) (hd : dstOk N o.dst = true)
    (k : SO P rd N all rest (putD o.dst v T) L ks Q) : SO P rd N all (o :: rest) T L ks Q := by
  refine SO.reads (reads_pure h) hg ?_ hd (by rintro _ _ ⟨rfl, rfl⟩; exact k)
  cases hop : o.op <;> first | rfl | (rw [hop] at h; simp [pureOp] at h)
theorem SQ.pure {v : Value} {RR : TT → List HP → Prop} (hg : o.guard = none) (h : pureOp tb.tab T o.op = some v) (hd : dstOk N o.dst = true)
    (k : SQ P N all rest (putD o.dst v T) L RR) : SQ P N all (o :: rest) T L RR := SQ.reads (reads_pure h) hg hd (by rintro _ _ ⟨rfl, rfl⟩; exact k)
def cut (vs : List Value) (i n : Nat) : List Value := (vs.drop i).take n
theorem cut_get {vs : List Value} {i n j : Nat} {v : Value} (h : (cut vs i n)[j]? = some v) : vs[i + j]? = some v ∧ j < n := by
  unfold cut at h
  rw [List.getElem?_take] at h
  split at h
  · rename_i hj; rw [List.getElem?_drop] at h; exact ⟨h, hj⟩
  · cases h
theorem loadCells_ok {w : World} {b off : Nat} : ∀ (cs : List Value) (i : Nat) (acc : Array Value), (∀ j v, cs[j]? = some v → w.cell? ⟨b, off + (i + j), none⟩ = some v) →
    (loadCellsFrom ⟨b, off, none⟩ i cs.length acc).run P w = .ok (acc ++ cs.toArray) w
  | [], i, acc, _ => by simp [loadCellsFrom]
  | c :: cs, i, acc, h => by
    have h0 := h 0 c rfl
    have hadd : (Addr.add ⟨b, off, none⟩ i) = ⟨b, off + i, none⟩ := by simp only [Addr.add]; split <;> simp_all
    simp only [List.length_cons, loadCellsFrom, Sem.run_bind, hadd]
    rw [Nat.add_zero] at h0
    simp only [run_load, h0, Result.andThen_ok]
    rw [loadCells_ok cs (i + 1) (acc.push c) (fun j v hj => by have := h (j + 1) v (by simpa using hj); rwa [show i + (j + 1) = i + 1 + j by omega] at this)]
    simp
def packV (ti : TI) (cs : List Value) : Value := match ti.k.agg with
  | true => .agg cs.toArray
  | false => match cs with
    | v :: _ => v
    | [] => undef
def packOk (ti : TI) (cs : List Value) : Prop := cs.length = ti.size ∧ (ti.k.agg = false → ti.size = 1)
theorem loadVar_ok {t : Nat} {ti : TI} (ht : tget tb.tab t = some ti) {w : World} {b off : Nat} {cs : List Value} (hc : packOk ti cs)
    (h : ∀ j v, cs[j]? = some v → w.cell? ⟨b, off + j, none⟩ = some v) : (loadVar t ⟨b, off, none⟩).run P w = .ok (packV ti cs) w := by
  simp only [loadVar, Sem.run_bind, isAgg_ok (tab_ok ht), Result.andThen_ok]
  obtain ⟨hl, h1⟩ := hc
  cases hk : ti.k.agg with
  | true =>
    simp only [if_true, Sem.run_bind, sizeOf_ok (tab_ok ht), Result.andThen_ok, loadCells, packV, hk, ← hl]
    rw [loadCells_ok cs 0 #[] (fun j v hj => by have := h j v hj; simpa using this)]
    simp
  | false =>
    have h1 := h1 hk
    rw [h1] at hl
    match cs, hl with
    | [v], _ =>
      have := h 0 v rfl
      rw [Nat.add_zero] at this
      simp [run_load, this, packV, hk]
theorem rd_load {x : Operand} {t b off o' : Nat} {vs : List Value} {ti : TI} (hx : evO T x = some (.pointer (some ⟨b, off, none⟩))) (htk : Take (pts b o' vs) L L')
    (ht : tget tb.tab t = some ti) (ho : Nat.ble o' off = true) (hp : packOk ti (cut vs (off - o') ti.size)) : Reads P T L ⟨d, .load t x, ty, pos, aft, none⟩ (fun v L' => v = packV ti (cut vs (off - o') ti.size) ∧ L' = L) := by
  intro ρ hρ rr oo F hs
  refine ⟨_, L, ⟨rfl, rfl⟩, hs, fun w sat => ?_⟩
  have hst : St w (F :: L) := ⟨rr, oo, sat, hs⟩
  have hst2 : St w (pts b o' vs :: F :: L') := hst.ent ((Ent.cons htk.ent).trans Ent.swap)
  have ho := Nat.le_of_ble_eq_true ho
  simp only [execOp, hρ _ _ hx, Instr.loadAt, Instr.sureAddr, Sem.run_bind, Sem.run_pure, Result.andThen_ok]
  rw [loadVar_ok ht hp (fun j v hj => by
    have := (hst2.cell (cut_get hj).1).1
    rwa [show o' + (off - o' + j) = off + j by omega] at this)]
  rfl
theorem SO.load {x : Operand} {t b off o' : Nat} {vs : List Value} {ti : TI} (hx : evO T x = some (.pointer (some ⟨b, off, none⟩))) (htk : Take (pts b o' vs) L L')
    (ht : tget tb.tab t = some ti) (ho : Nat.ble o' off = true) (hp : packOk ti (cut vs (off - o') ti.size)) (hd : dstOk N d = true)
    (k : SO P rd N all rest (putD d (packV ti (cut vs (off - o') ti.size)) T) L ks Q) : SO P rd N all (⟨d, .load t x, ty, pos, aft, none⟩ :: rest) T L ks Q :=
  SO.reads (rd_load hx htk ht ho hp) rfl rfl hd (by rintro _ _ ⟨rfl, rfl⟩; exact k)
theorem SQ.load {RR : TT → List HP → Prop} {x : Operand} {t b off o' : Nat} {vs : List Value} {ti : TI} (hx : evO T x = some (.pointer (some ⟨b, off, none⟩))) (htk : Take (pts b o' vs) L L')
    (ht : tget tb.tab t = some ti) (ho : Nat.ble o' off = true) (hp : packOk ti (cut vs (off - o') ti.size)) (hd : dstOk N d = true)
    (k : SQ P N all rest (putD d (packV ti (cut vs (off - o') ti.size)) T) L RR) : SQ P N all (⟨d, .load t x, ty, pos, aft, none⟩ :: rest) T L RR :=
  SQ.reads (rd_load hx htk ht ho hp) rfl hd (by rintro _ _ ⟨rfl, rfl⟩; exact k)
def one : Value → Bool
  | .agg _ => false
  | .tuple _ => false
  | _ => true
def lay : List Value → Nat → List Value → List Value
  | us, _, [] => us
  | [], _, _ => []
  | _ :: us, 0, c :: cs => c :: lay us 0 cs
  | u :: us, i + 1, c :: cs => u :: lay us i (c :: cs)
theorem lay_cons : ∀ (us : List Value) (i : Nat) (c : Value) (cs : List Value), lay us i (c :: cs) = lay (us.set i c) (i + 1) cs
  | [], i, c, cs => by cases cs <;> simp [lay]
  | u :: us, 0, c, [] => by cases us <;> simp [lay]
  | u :: us, 0, c, c' :: cs => by simp [lay]
  | u :: us, i + 1, c, [] => by simp only [lay, List.set_cons_succ]; have := lay_cons us i c []; simp only [lay] at this; rw [this]
  | u :: us, i + 1, c, c' :: cs => by simp only [lay, List.set_cons_succ]; rw [lay_cons us i c (c' :: cs)]
theorem run_store1 {w : World} {a : Addr} {u v : Value} (hv : one v = true) (hc : w.cell? a = some u) (hf : w.frozen? a = false) : (store a v).run P w = .ok () (w.setCell a v) := by
  cases v <;> first | (simp [one] at hv; done) | simp [store, Sem.run, hc, hf]
theorem storeCells_ok {b o' i : Nat} {A : HP} {L : List HP} : ∀ (cs vs : List Value) (w : World) (j n : Nat), St w (pts b o' vs :: L) → (∀ c ∈ cs, one c = true) → n + cs.length ≤ vs.length →
    (∃ w', (storeCells ⟨b, o' + n - j, none⟩ cs j).run P w = .ok () w' ∧ St w' (pts b o' (lay vs n cs) :: L)) ∨ j > o' + n
  | [], vs, w, j, n, hst, _, _ => .inl ⟨w, by simp [storeCells], by simpa [lay] using hst⟩
  | c :: cs, vs, w, j, n, hst, h1, hl => by
    by_cases hj : j > o' + n
    · exact .inr hj
    left
    simp only [List.length_cons] at hl
    have hn : n < vs.length := by omega
    obtain ⟨hc, hf⟩ := hst.cell (i := n) (v := vs[n]) (by simp [hn])
    have hadd : (Addr.add ⟨b, o' + n - j, none⟩ j) = ⟨b, o' + n, none⟩ := by
      simp only [Addr.add]
      split
      · rename_i h0; subst h0; simp
      · congr 1; omega
    have hst2 := hst.store hn c
    rcases storeCells_ok (A := A) (i := i) cs (vs.set n c) _ (j + 1) (n + 1) hst2 (fun c h => h1 c (by simp [h])) (by simp; omega) with ⟨w', hr, hs⟩ | h
    · refine ⟨w', ?_, by rw [lay_cons]; exact hs⟩
      simp only [storeCells, Sem.run_bind, hadd, run_store1 (h1 c (by simp)) hc hf, Result.andThen_ok]
      rw [show o' + (n + 1) - (j + 1) = o' + n - j by omega] at hr
      exact hr
    · exact absurd h (by omega)
theorem storeVar_ok {t : Nat} {ti : TI} (ht : tget tb.tab t = some ti) {w : World} {b o' n : Nat} {v : Value} {vs : List Value} {L : List HP} (hst : St w (pts b o' vs :: L))
    (h1 : ∀ c ∈ v.cells.toList, one c = true) (hs : v.cells.toList.length = ti.size) (hl : n + ti.size ≤ vs.length) :
    ∃ w', (storeVar t ⟨b, o' + n, none⟩ v).run P w = .ok () w' ∧ St w' (pts b o' (lay vs n v.cells.toList) :: L) := by
  have hs' : v.cells.size = ti.size := by simpa using hs
  rcases storeCells_ok (P := P) (A := pr True) (i := 0) v.cells.toList vs w 0 n hst h1 (by omega) with ⟨w', hr, hst'⟩ | h
  · refine ⟨w', ?_, hst'⟩
    simp only [storeVar, Sem.run_bind, sizeOf_ok (tab_ok ht), Result.andThen_ok, hs', ne_eq, not_true_eq_false, if_false]
    simpa using hr
  · exact absurd h (by omega)
theorem SO.store {x y : Operand} {t b off o' : Nat} {vs vs' : List Value} {v : Value} {ti : TI} (hx : evO T x = some (.pointer (some ⟨b, off, none⟩))) (hy : evO T y = some v) (htk : Take (pts b o' vs) L L')
    (ht : tget tb.tab t = some ti) (ho : Nat.ble o' off = true) (h1 : v.cells.toList.all one = true) (hs : Nat.beq v.cells.toList.length ti.size = true) (hl : Nat.ble (off - o' + ti.size) vs.length = true)
    (hv : lay vs (off - o') v.cells.toList = vs')
    (k : SO P rd N all rest T (pts b o' vs' :: L') ks Q) : SO P rd N all (⟨none, .store t x y, ty, pos, aft, none⟩ :: rest) T L ks Q := by
  refine SO.run (R := fun v L2 => L2 = pts b o' vs' :: L') rfl rfl rfl ?_ (by rintro v L2 rfl; exact k)
  intro ρ hρ F w hst
  have hst2 : St w (pts b o' vs :: F :: L') := hst.ent ((Ent.cons htk.ent).trans Ent.swap)
  have ho := Nat.le_of_ble_eq_true ho
  obtain ⟨w', hr, hst'⟩ := storeVar_ok ht (n := off - o') (v := v) hst2 (fun c hc => List.all_eq_true.1 h1 c hc) (Nat.eq_of_beq_eq_true hs) (Nat.le_of_ble_eq_true hl)
  refine ⟨undef, w', _, .inr ⟨?_, rfl⟩, rfl, ?_⟩
  · simp only [execOp, hρ _ _ hx, hρ _ _ hy, Instr.storeAt, Instr.sureAddr, Sem.run_bind, Sem.run_pure, Result.andThen_ok]
    rw [show o' + (off - o') = off by omega] at hr
    rw [hr]; rfl
  · rw [hv] at hst'; exact hst'.ent Ent.swap
theorem SO.alloc {t : Nat} {ti : TI} {cs : List Value} (ht : tget tb.tab t = some ti) (hc : ti.zero.cells.toList = cs) (hd : dstOk N d = true)
    (k : ∀ b, SO P rd N all rest (putD d (.pointer (some ⟨b, 0, none⟩)) T) (pts b 0 cs :: L) ks Q) : SO P rd N all (⟨d, .alloc t, ty, pos, aft, none⟩ :: rest) T L ks Q := by
  refine SO.run (R := fun v L2 => ∃ b, v = .pointer (some ⟨b, 0, none⟩) ∧ L2 = pts b 0 cs :: L) rfl rfl hd ?_ (by rintro _ _ ⟨b, rfl, rfl⟩; exact k b)
  intro ρ hρ F w hst
  refine ⟨_, _, _, .inl ?_, ⟨w.heap.size, rfl, rfl⟩, ((hst.alloc ti.zero.cells t).ent Ent.swap).ent ?_⟩
  · simp only [execOp, Instr.alloc, Sem.run_bind, zero_ok (tab_ok ht), Result.andThen_ok, newVar, newRow]
    rfl
  · rw [hc]; exact Ent.refl _
theorem SO.box {x : Operand} {t : Nat} {v : Value} {cs : List Value} (hx : evO T x = some v) (hc : v.cells.toList = cs) (hd : dstOk N d = true)
    (k : ∀ b, SO P rd N all rest (putD d (.pointer (some ⟨b, 0, none⟩)) T) (pts b 0 cs :: L) ks Q) : SO P rd N all (⟨d, .box t x, ty, pos, aft, none⟩ :: rest) T L ks Q := by
  refine SO.run (R := fun v L2 => ∃ b, v = .pointer (some ⟨b, 0, none⟩) ∧ L2 = pts b 0 cs :: L) rfl rfl hd ?_ (by rintro _ _ ⟨b, rfl, rfl⟩; exact k b)
  intro ρ hρ F w hst
  refine ⟨_, _, _, .inl ?_, ⟨w.heap.size, rfl, rfl⟩, ((hst.alloc v.cells t).ent Ent.swap).ent ?_⟩
  · simp only [execOp, hρ _ _ hx, Instr.box, Sem.run_bind, newVar, newRow]
    rfl
  · rw [hc]; exact Ent.refl _
theorem rd_field {x : Operand} {t i off : Nat} {cs : List Value} {fs : List (Nat × Nat)} {n1 n2 : Nat} {z : Value} {tf : Nat} {ti : TI} (hx : evO T x = some (.agg cs.toArray))
    (ht : tget tb.tab t = some ⟨.st fs, n1, n2, z⟩) (hf : fs[i]? = some (off, tf)) (hti : tget tb.tab tf = some ti) (hp : packOk ti (cut cs off ti.size)) : Reads P T L ⟨d, .field t x i, ty, pos, aft, none⟩ (fun v L' => v = packV ti (cut cs off ti.size) ∧ L' = L) := by
  intro ρ hρ rr oo F hs
  refine ⟨_, L, ⟨rfl, rfl⟩, hs, fun w sat => ?_⟩
  have hst : St w (F :: L) := ⟨rr, oo, sat, hs⟩
  have hk := (tab_ok ht).k
  simp only [TK.ok] at hk
  obtain ⟨G, hG, hm⟩ := hk
  have hf' : ∃ f, G[i]? = some f ∧ f.offset = off ∧ f.type = tf := by
    rw [← hm] at hf
    simp only [List.getElem?_map, Option.map_eq_some_iff] at hf
    obtain ⟨f, h1, h2⟩ := hf
    cases h2
    exact ⟨f, by simpa using h1, rfl, rfl⟩
  obtain ⟨f, hf1, hf2, hf3⟩ := hf'
  subst hf2 hf3
  obtain ⟨hl, h1⟩ := hp
  simp only [execOp, hρ _ _ hx, Instr.field, Sem.run_bind, run_und hG, Result.andThen_ok, hf1, asAgg, Sem.run_pure, part, isAgg_ok (tab_ok hti)]
  cases hk : ti.k.agg with
  | true =>
    simp only [if_true, Sem.run_bind, sizeOf_ok (tab_ok hti), Result.andThen_ok, Sem.run_pure, packV, hk, cut]
    simp only [List.extract_toArray, List.extract_eq_take_drop, Nat.add_sub_cancel_left]
  | false =>
    have h1 := h1 hk
    rw [h1] at hl
    have : cs[f.offset]? = (cut cs f.offset 1)[0]? := by
      simp only [cut]; rw [List.getElem?_take_of_lt (by omega), List.getElem?_drop]; simp
    match hcc : cut cs f.offset 1, (by rw [← h1]; rw [h1]; exact hl : (cut cs f.offset 1).length = 1) with
    | [v], _ =>
      rw [hcc] at this
      simp [packV, hk, h1, hcc, this]
theorem SO.field {x : Operand} {t i off : Nat} {cs : List Value} {fs : List (Nat × Nat)} {n1 n2 : Nat} {z : Value} {tf : Nat} {ti : TI} (hx : evO T x = some (.agg cs.toArray))
    (ht : tget tb.tab t = some ⟨.st fs, n1, n2, z⟩) (hf : fs[i]? = some (off, tf)) (hti : tget tb.tab tf = some ti) (hp : packOk ti (cut cs off ti.size)) (hd : dstOk N d = true)
    (k : SO P rd N all rest (putD d (packV ti (cut cs off ti.size)) T) L ks Q) : SO P rd N all (⟨d, .field t x i, ty, pos, aft, none⟩ :: rest) T L ks Q :=
  SO.reads (rd_field hx ht hf hti hp) rfl rfl hd (by rintro _ _ ⟨rfl, rfl⟩; exact k)
theorem SQ.field {RR : TT → List HP → Prop} {x : Operand} {t i off : Nat} {cs : List Value} {fs : List (Nat × Nat)} {n1 n2 : Nat} {z : Value} {tf : Nat} {ti : TI} (hx : evO T x = some (.agg cs.toArray))
    (ht : tget tb.tab t = some ⟨.st fs, n1, n2, z⟩) (hf : fs[i]? = some (off, tf)) (hti : tget tb.tab tf = some ti) (hp : packOk ti (cut cs off ti.size)) (hd : dstOk N d = true)
    (k : SQ P N all rest (putD d (packV ti (cut cs off ti.size)) T) L RR) : SQ P N all (⟨d, .field t x i, ty, pos, aft, none⟩ :: rest) T L RR :=
  SQ.reads (rd_field hx ht hf hti hp) rfl hd (by rintro _ _ ⟨rfl, rfl⟩; exact k)
def buildV (tab : List TI) (fs : List (Nat × Nat)) (T : TT) : List Value → List (Nat × Operand) → Option (List Value)
  | cs, [] => some cs
  | cs, (i, x) :: ps => match fs[i]? with
    | some (off, tf) => match evO T x with
      | some v => match tget tab tf with
        | some ti => bif Nat.beq v.cells.toList.length ti.size && Nat.ble (off + ti.size) cs.length then buildV tab fs T (lay cs off v.cells.toList) ps else none
        | none => none
      | none => none
    | none => none
theorem fold_lay : ∀ (cs : List Value) (us : Array Value) (off : Nat), ((cs.zipIdx).foldl (fun (a : Array Value) (cj : Value × Nat) => a.setIfInBounds (off + cj.2) cj.1) us).toList = lay us.toList off cs := by
  have key : ∀ (cs : List Value) (us : Array Value) (off m : Nat), ((cs.zipIdx m).foldl (fun (a : Array Value) (cj : Value × Nat) => a.setIfInBounds (off + cj.2) cj.1) us).toList = lay us.toList (off + m) cs := by
    intro cs
    induction cs with
    | nil => intro us off m; simp [lay]
    | cons c cs ih =>
      intro us off m
      simp only [List.zipIdx_cons, List.foldl_cons]
      rw [ih, lay_cons]
      simp [Nat.add_assoc]
  intro cs us off
  exact key cs us off 0
theorem fill_ok {F : Array Field} {fs : List (Nat × Nat)} (hm : F.toList.map (fun f => (f.offset, f.type)) = fs) {places : Array (Nat × Nat)}
    (hpl : ∀ (i off tf : Nat) (ti : TI), fs[i]? = some (off, tf) → tget tb.tab tf = some ti → places[i]? = some (off, ti.size)) {ρ : Operand → Value} (hρ : Knows T ρ) :
    ∀ (ps : List (Nat × Operand)) (cs : List Value) (us : Array Value) (r : List Value), us.toList = cs → buildV tb.tab fs T cs ps = some r → Instr.fill (places[·]?) us (ps.map fun p => (p.1, ρ p.2)) = some r.toArray
  | [], cs, us, r, hus, h => by simp only [buildV] at h; cases h; subst hus; simp [Instr.fill]
  | (i, x) :: ps, cs, us, r, hus, h => by
    simp only [buildV] at h
    split at h
    · rename_i off tf hfi
      split at h
      · rename_i v hv
        split at h
        · rename_i ti hti
          cases hb : (Nat.beq v.cells.toList.length ti.size && Nat.ble (off + ti.size) cs.length) with
          | false => rw [hb] at h; cases h
          | true =>
            rw [hb] at h
            simp only [cond_true] at h
            rw [Bool.and_eq_true] at hb
            have h1 := Nat.eq_of_beq_eq_true hb.1
            have h2 := Nat.le_of_ble_eq_true hb.2
            simp only [List.map_cons, Instr.fill, hpl i off tf ti hfi hti, hρ _ _ hv]
            have h1' : v.cells.size = ti.size := by simpa using h1
            have h2' : us.size = cs.length := by rw [← hus]; simp
            rw [if_neg (by rw [h1', h2']; simp; omega)]
            refine fill_ok hm hpl hρ ps _ _ r ?_ h
            rw [← hus, ← fold_lay, ← Array.toList_zipIdx, Array.foldl_toList]
        · cases h
      · cases h
    · cases h
theorem mapM_places {fs : List (Nat × Nat)} (hall : ∀ (i off tf : Nat), fs[i]? = some (off, tf) → ∃ ti, tget tb.tab tf = some ti) :
    ∀ (F : List Field), (∀ f ∈ F, ∃ ti, tget tb.tab f.type = some ti) → ∀ w, ∃ r : List (Nat × Nat), (F.mapM (m := Sem) fun f => do pure (f.offset, ← sizeOf f.type)).run P w = .ok r w ∧
      r.length = F.length ∧ ∀ (i : Nat) (f : Field) (ti : TI), F[i]? = some f → tget tb.tab f.type = some ti → r[i]? = some (f.offset, ti.size)
  | [], _, w => ⟨[], by simp, rfl, fun i f ti h => by simp at h⟩
  | f :: F, h, w => by
    obtain ⟨ti, hti⟩ := h f (by simp)
    obtain ⟨r, hr, hlen, hp⟩ := mapM_places hall F (fun g hg => h g (by simp [hg])) w
    refine ⟨(f.offset, ti.size) :: r, ?_, by simp [hlen], fun i g tj hi hj => ?_⟩
    · simp only [List.mapM_cons, Sem.run_bind, sizeOf_ok (tab_ok hti), Result.andThen_ok, Sem.run_pure, hr]
    · cases i with
      | zero => simp at hi; subst hi; rw [hti] at hj; cases hj; simp
      | succ i => simp at hi; simpa using hp i g tj hi hj
def allTab (tab : List TI) : List (Nat × Nat) → Bool
  | [] => true
  | (_, t) :: fs => (match tget tab t with | some _ => true | none => false) && allTab tab fs
theorem allTab_ok : ∀ {fs : List (Nat × Nat)}, allTab tb.tab fs = true → ∀ p ∈ fs, ∃ ti, tget tb.tab p.2 = some ti
  | [], _, p, hp => by cases hp
  | (a, t) :: fs, h, p, hp => by
    simp only [allTab, Bool.and_eq_true] at h
    rcases List.mem_cons.1 hp with rfl | hp
    · cases ht : tget tb.tab t with
      | some ti => exact ⟨ti, rfl⟩
      | none => rw [ht] at h; cases h.1
    · exact allTab_ok h.2 p hp
theorem rd_build {t : Nat} {ps : List (Nat × Operand)} {fs : List (Nat × Nat)} {n1 n2 : Nat} {z : Value} {r : List Value}
    (ht : tget tb.tab t = some ⟨.st fs, n1, n2, z⟩) (ha : allTab tb.tab fs = true) (hb : buildV tb.tab fs T z.cells.toList ps = some r) : Reads P T L ⟨d, .build t ps.toArray, ty, pos, aft, none⟩ (fun v L' => v = .agg r.toArray ∧ L' = L) := by
  intro ρ hρ rr oo F hs
  refine ⟨_, L, ⟨rfl, rfl⟩, hs, fun w sat => ?_⟩
  have hst : St w (F :: L) := ⟨rr, oo, sat, hs⟩
  have hk := (tab_ok ht).k
  simp only [TK.ok] at hk
  obtain ⟨G, hG, hm⟩ := hk
  have hall : ∀ f ∈ G.toList, ∃ ti, tget tb.tab f.type = some ti := fun f hf => allTab_ok ha (f.offset, f.type) (by rw [← hm]; exact List.mem_map.2 ⟨f, hf, rfl⟩)
  obtain ⟨pl, hpl, hlen, hp⟩ := mapM_places (fs := fs) (fun i off tf h => allTab_ok ha _ (List.mem_of_getElem? h)) G.toList hall w
  have hz := zero_ok (tab_ok ht) w
  simp only [execOp, Instr.build, Sem.run_bind, hz, Result.andThen_ok, run_und hG, List.map_toArray]
  have hmm : (G.mapM (m := Sem) fun f => do Pure.pure (f.offset, ← sizeOf f.type)).run P w = .ok pl.toArray w := by
    rw [Array.mapM_eq_mapM_toList]
    simp only [Sem.run_map, hpl, Result.andThen_ok]
  rw [hmm]
  simp only [Result.andThen_ok]
  have hfill := fill_ok (tb := tb) (T := T) hm (places := pl.toArray) (fun i off tf ti hi hti => by
    rw [← hm] at hi
    simp only [List.getElem?_map, Option.map_eq_some_iff] at hi
    obtain ⟨f, h1, h2⟩ := hi
    cases h2
    simpa using hp i f ti h1 hti) hρ ps z.cells.toList z.cells r rfl hb
  simp only [hfill]
  rfl
theorem SO.build {t : Nat} {ps : List (Nat × Operand)} {fs : List (Nat × Nat)} {n1 n2 : Nat} {z : Value} {r : List Value}
    (ht : tget tb.tab t = some ⟨.st fs, n1, n2, z⟩) (ha : allTab tb.tab fs = true) (hb : buildV tb.tab fs T z.cells.toList ps = some r) (hd : dstOk N d = true)
    (k : SO P rd N all rest (putD d (.agg r.toArray) T) L ks Q) : SO P rd N all (⟨d, .build t ps.toArray, ty, pos, aft, none⟩ :: rest) T L ks Q :=
  SO.reads (rd_build ht ha hb) rfl rfl hd (by rintro _ _ ⟨rfl, rfl⟩; exact k)
theorem SQ.build {RR : TT → List HP → Prop} {t : Nat} {ps : List (Nat × Operand)} {fs : List (Nat × Nat)} {n1 n2 : Nat} {z : Value} {r : List Value}
    (ht : tget tb.tab t = some ⟨.st fs, n1, n2, z⟩) (ha : allTab tb.tab fs = true) (hb : buildV tb.tab fs T z.cells.toList ps = some r) (hd : dstOk N d = true)
    (k : SQ P N all rest (putD d (.agg r.toArray) T) L RR) : SQ P N all (⟨d, .build t ps.toArray, ty, pos, aft, none⟩ :: rest) T L RR :=
  SQ.reads (rd_build ht ha hb) rfl hd (by rintro _ _ ⟨rfl, rfl⟩; exact k)
end
end Go.Sl

set_option linter.unusedVariables false
set_option linter.unusedSectionVars false
namespace Go.Sl
def VCall (P : Program) (fv : Value) (args : List Value) (w : World) (R : Ending → World → Prop) : Prop :=
  ∃ d w1, (Deferred.ofValue fv args.toArray).run P w = .ok d w1 ∧
    ((∃ f as w2, (invoke d.target d.args).run P w1 = .ok (.enter f as) w2 ∧ CallsIn Fence.wide 0 P f as w2 R) ∨
     (∃ l fn tmps assign body w2, (invoke d.target d.args).run P w1 = .ok (.round l fn tmps assign body) w2 ∧ RoundIn Fence.wide 0 P l fn tmps assign body w2 R))
structure VDoes (P : Program) (fv : Value) (args : List Value) (pers own : List HP) (X : Type) (ok : X → Prop) (ret : X → Value) (out : X → List HP) : Prop where
  hpers : ∀ A ∈ pers, Pers A
  calls : ∀ F w, St w (F :: (pers ++ own)) → VCall P fv args w fun e w' => ∃ x, ok x ∧ e = .returned (ret x) ∧ St w' (F :: out x)
structure Does (P : Program) (f : FuncId) (args : List Value) (pers own : List HP) (X : Type) (ok : X → Prop) (ret : X → Value) (out : X → List HP) : Prop where
  entry : ∀ as w, (callFunc f as).run P w = .ok (.enter f as) w
  hpers : ∀ A ∈ pers, Pers A
  calls : ∀ F w, St w (F :: (pers ++ own)) → Calls P f args.toArray w fun e w' => ∃ x, ok x ∧ e = .returned (ret x) ∧ St w' (F :: out x)
theorem Does.toF {P : Program} {f : FuncId} {as vs : List Value} {caps : Array Value} {pers own : List HP} {X : Type} {ok : X → Prop} {ret : X → Value} {out : X → List HP}
    (s : Does P f as pers own X ok ret out) (h : vs ++ caps.toList = as) : VDoes P (.func (.func f) #[] caps) vs pers own X ok ret out := by
  refine ⟨s.hpers, fun F w hst => ⟨{ target := .fn (.func f) caps, args := #[] ++ vs.toArray }, w, rfl, .inl ⟨f, vs.toArray ++ caps, w, ?_, ?_⟩⟩⟩
  · have : #[] ++ vs.toArray = vs.toArray := by simp
    rw [this]
    exact s.entry _ w
  · refine callsIn_wide.2 ?_
    have := s.calls F w hst
    rw [← h] at this
    have e : (vs ++ caps.toList).toArray = vs.toArray ++ caps := by cases caps; simp
    rw [e] at this
    exact this
class Triv (A : HP) : Prop where
  h : ∀ r o, A.h r o
inductive Has : HP → List HP → Prop
  | here {A : HP} {L : List HP} : Has A (A :: L)
  | there {A B : HP} {L : List HP} (h : Has A L) : Has A (B :: L)
  | triv {A : HP} {L : List HP} [t : Triv A] : Has A L
theorem Has.ent {A : HP} {L : List HP} (p : Pers A) (h : Has A L) : Ent L (A :: L) := by
  induction h with
  | here => exact Ent.dup p
  | there _ ih => exact (Ent.cons ih).trans Ent.swap
  | triv => exact fun r o h => ⟨fun _ _ => none, o, fun _ _ => .inl rfl, none_add, Triv.h _ _, h⟩
inductive HasAll : List HP → List HP → Prop
  | nil {L : List HP} : HasAll [] L
  | cons {A : HP} {As L : List HP} (h : Has A L) (t : HasAll As L) : HasAll (A :: As) L
theorem HasAll.ent {As L : List HP} (p : ∀ A ∈ As, Pers A) (h : HasAll As L) : Ent L (As ++ L) := by
  induction h with
  | nil => exact Ent.refl _
  | cons h _ ih =>
    have h1 := h.ent (p _ (by simp))
    have h2 := ih (fun A hA => p A (by simp [hA]))
    exact h1.trans (Ent.cons h2)
theorem ent_app_comm {A B : List HP} : Ent (A ++ B) (B ++ A) := by
  have : ∀ (A B : List HP), Ent (A ++ B) (B ++ A) := by
    intro A
    induction A with
    | nil => intro B; simp; exact Ent.refl _
    | cons a A ih =>
      intro B
      have h1 : Ent (a :: (A ++ B)) (a :: (B ++ A)) := Ent.cons (ih B)
      refine h1.trans ?_
      clear h1 ih
      induction B with
      | nil => exact Ent.refl _
      | cons b B ih => exact Ent.swap.trans (Ent.cons ih)
  exact this A B
section
variable {P : Program} {rd : Option Nat} {N : Nat} {T : TT} {L L1 : List HP} {Q : Post} {ks : List K}
variable {all : Array Oper} {rest : List Oper} {ty : TypeId} {pos : String} {aft : Array Edge} {d : Option Tmp}
theorem SO.callF {fx : Operand} {args : Array Operand} {tys : Array TypeId} {fv : Value} {vs : List Value} {pers own : List HP} {X : Type} {ok : X → Prop} {ret : X → Value} {out : X → List HP}
    (hf : evO T fx = some fv) (ha : evs T args.toList = some vs) (sp : VDoes P fv vs pers own X ok ret out) (hp : HasAll pers L) (ho : Takes own L L1) (hd : dstOk N d = true)
    (k : ∀ x, ok x → SO P rd N all rest (putD d (ret x) T) (out x ++ L1) ks Q) : SO P rd N all (⟨d, .call ⟨.value fx, args, tys⟩, ty, pos, aft, none⟩ :: rest) T L ks Q := by
  intro G a w hok
  refine wpListIn_plain rfl fun next hnext => ⟨fun _ _ => trivial, ?_⟩
  obtain ⟨D, hD, hm⟩ := hok.mem
  have hkn := hok.knows
  rw [Oper.semAt_eq _ _ _ (fun c e => by cases e)]
  have hst : St w (big (big (G :: D.map mkA) :: L1) :: (pers ++ own)) := by
    refine hm.ent ?_
    have e1 : Ent L (pers ++ (own ++ L1)) := (hp.ent sp.hpers).trans (Ent.app ho.ent)
    refine (Ent.cons e1).trans ?_
    have e2 : Ent (big (G :: D.map mkA) :: (pers ++ (own ++ L1))) ((big (G :: D.map mkA) :: L1) ++ (pers ++ own)) := by
      have : Ent (pers ++ (own ++ L1)) (L1 ++ (pers ++ own)) := by rw [← List.append_assoc]; exact ent_app_comm
      exact Ent.cons this
    exact e2.trans big_ent
  obtain ⟨df, w1, hr1, hr2⟩ := sp.calls _ w hst
  have hargs : args.map a.eval = vs.toArray := by
    have := hkn.evs ha
    rw [← this]; cases args; simp
  have hrun : ∀ r, (invoke df.target df.args).run P w1 = r → (execOp a.eval ⟨d, .call ⟨.value fx, args, tys⟩, ty, pos, aft, none⟩).run P w = r := by
    intro r hr
    simp only [execOp, resolve, hargs, hkn _ _ hf, Sem.run_bind, hr1, Result.andThen_ok, hr]
  have fin : ∀ x w', ok x → St w' (big (big (G :: D.map mkA) :: L1) :: out x) → next (a.put d (ret x)) w' := by
    intro x w' hx hst'
    refine hnext _ _ (k x hx G _ _ ?_)
    have h1 : St w' (big (G :: D.map mkA) :: (out x ++ L1)) := by
      refine hst'.ent ?_
      refine ent_big.trans ?_
      exact Ent.cons ent_app_comm
    have h2 := hok.putD hd (ret x)
    refine ⟨h2.size, h2.get, D, ?_, h1⟩
    rw [← hD]; cases d <;> rfl
  rcases hr2 with ⟨f, as, w2, hinv, hc⟩ | ⟨l, fn, tmps, assign, body, w2, hinv, hc⟩
  · rw [hrun _ hinv, Oper.uponIn_enter]
    refine ⟨fun h => by simp [Fence.wide] at h, ?_⟩
    refine ⟨hc.1, fun cs hroom => ?_⟩
    obtain ⟨e, w', fr, ⟨x, hx, rfl, hs⟩, rest⟩ := hc.2 cs hroom
    exact ⟨.returned (ret x), w', fr, fin x w' hx hs, rest⟩
  · rw [hrun _ hinv, Oper.uponIn_round]
    refine ⟨fun h => by simp [Fence.wide] at h, ?_⟩
    refine ⟨hc.1, fun c cs hroom => ?_⟩
    obtain ⟨e, w', ⟨x, hx, rfl, hs⟩, rest⟩ := hc.2 c cs hroom
    exact ⟨.returned (ret x), w', fin x w' hx hs, rest⟩
theorem SO.call {fx : Operand} {args : Array Operand} {tys : Array TypeId} {f : FuncId} {caps : Array Value} {vs as : List Value} {pers own : List HP} {X : Type} {ok : X → Prop} {ret : X → Value} {out : X → List HP}
    (sp : Does P f as pers own X ok ret out) (hf : evO T fx = some (.func (.func f) #[] caps)) (ha : evs T args.toList = some vs) (he : vs ++ caps.toList = as) (hp : HasAll pers L) (ho : Takes own L L1) (hd : dstOk N d = true)
    (k : ∀ x, ok x → SO P rd N all rest (putD d (ret x) T) (out x ++ L1) ks Q) : SO P rd N all (⟨d, .call ⟨.value fx, args, tys⟩, ty, pos, aft, none⟩ :: rest) T L ks Q :=
  SO.callF hf ha (sp.toF he) hp ho hd k
def pin (r : Ro) (o : Own) : HP := ⟨fun r' o' => r.le r' ∧ o.le o', fun _ _ _ _ hr ho ⟨h1, h2⟩ => ⟨Ro.le_trans h1 hr, Own.le_trans h2 ho⟩⟩
theorem SQ.call {RR : TT → List HP → Prop} {fx : Operand} {args : Array Operand} {tys : Array TypeId} {f : FuncId} {caps : Array Value} {vs as : List Value} {pers : List HP} {X : Type} {ok : X → Prop} {ret : X → Value} {out : X → List HP} {v : Value}
    (sp : Does P f as pers [] X ok ret out) (hf : evO T fx = some (.func (.func f) #[] caps)) (ha : evs T args.toList = some vs) (he : vs ++ caps.toList = as) (hv : ∀ x, ok x → ret x = v) (hp : HasAll pers L) (hd : dstOk N d = true)
    (k : SQ P N all rest (putD d v T) L RR) : SQ P N all (⟨d, .call ⟨.value fx, args, tys⟩, ty, pos, aft, none⟩ :: rest) T L RR := by
  intro r oo F a hs hagr
  have hkn := hagr.knows
  simp only [wpQuiet, Region.wanted, if_true]
  have hargs : args.map a.eval = vs.toArray := by
    have := hkn.evs ha
    rw [← this]; cases args; simp
  refine ⟨v, fun w hw => ?_, wpQuiet_mono ?_ rest _ (k r oo F _ hs (hagr.putD hd v))⟩
  · have hrun : (execOp a.eval ⟨d, .call ⟨.value fx, args, tys⟩, ty, pos, aft, none⟩).run P w = .ok (.enter f as.toArray) w := by
      have e : vs.toArray ++ caps = as.toArray := by rw [← he]; cases caps; simp
      simp only [execOp, resolve, hargs, hkn _ _ hf, Sem.run_bind, Deferred.ofValue, Sem.run_pure, Result.andThen_ok, invoke]
      rw [show (#[] : Array Value) ++ vs.toArray = vs.toArray by simp, e]
      exact sp.entry _ w
    unfold Oper.quietAt
    rw [hrun]
    refine ⟨rfl, ?_⟩
    have hst : St w (pin r oo :: (pers ++ [])) := by
      refine ⟨r, oo, hw, oo, fun _ _ => none, fun _ _ => .inr rfl, fun i j c e => ?_, ⟨Ro.le_refl _, Own.le_refl _⟩, ?_⟩
      · rcases Own.add_cases e with e | e
        · exact e
        · simp at e
      · rw [List.append_nil]
        have h1 := (hp.ent sp.hpers) r _ (show seps L r _ from hs.choose_spec.choose_spec.2.2.2)
        have : ∀ (A B : List HP) (o : Own), (∀ X ∈ A, Pers X) → seps (A ++ B) r o → seps A r (fun _ _ => none) := by
          intro A
          induction A with
          | nil => intros; trivial
          | cons X A ih =>
            rintro B o hp ⟨a, b, d, le, hA, hL⟩
            exact ⟨_, _, fun _ _ => .inl rfl, none_add, hp X (by simp) _ _ hA, ih B b (fun Y hY => hp Y (by simp [hY])) hL⟩
        exact this pers L _ sp.hpers h1
    refine (sp.calls _ w hst).mono ?_
    rintro e w' ⟨x, hx, rfl, r', o', s', a1, b1, d1, le1, ⟨h1, h2⟩, _⟩
    refine ⟨by rw [hv x hx], ?_⟩
    have s2 := s'.weaken (Own.le_trans h2 (Own.le_trans (Own.le_add_left a1 b1) le1))
    exact ⟨fun i j v e => s2.ro _ _ _ (h1.le _ _ _ e), s2.val, s2.obj, fun i j v c e e' => s2.dis _ _ _ _ (h1.le _ _ _ e) e', h1.bs ▸ s2.below, fun i j c e => h1.bs ▸ s2.low i j c e, s2.pl⟩
  · rintro a' ⟨h1, h2⟩; exact ⟨by rw [h1, put_defers_eq], h2⟩
def tupV : List Value → Value
  | [v] => v
  | vs => .tuple vs.toArray
inductive ResOk (P : Program) [tb : Tab P] (T : TT) (L : List HP) : List ResultVar → List Value → Prop
  | nil : ResOk P T L [] []
  | tmp {t : Nat} {v : Value} {rs : List ResultVar} {vs : List Value} (h : T.get t = some v) (r : ResOk P T L rs vs) : ResOk P T L (.tmp t :: rs) (v :: vs)
  | cell {t b off o' ty : Nat} {us : List Value} {L' : List HP} {ti : TI} {rs : List ResultVar} {vs : List Value} (h : T.get t = some (.pointer (some ⟨b, off, none⟩))) (tk : Take (pts b o' us) L L') (ht : tget tb.tab ty = some ti)
      (ho : Nat.ble o' off = true) (hp : packOk ti (cut us (off - o') ti.size)) (r : ResOk P T L rs vs) : ResOk P T L (.cell t ty :: rs) (packV ti (cut us (off - o') ti.size) :: vs)
theorem results_ok [tb : Tab P] {fn : Func} {vs : List Value} (h : ResOk P T L fn.results.toList vs) {a : Act} {w : World} {F : HP} (hst : St w (F :: L)) (hg : ∀ i v, T.get i = some v → a.tmps[i]? = some v) :
    (results fn a.tmps).run P w = .ok (tupV vs) w := by
  have key : ∀ (rs : List ResultVar) (vs : List Value), ResOk P T L rs vs →
      (rs.mapM (m := Sem) fun | .tmp t => pure (a.tmps.getD t undef) | .cell x t => do loadVar t (← asAddr (a.tmps.getD x undef))).run P w = .ok vs w := by
    intro rs vs h
    induction h with
    | nil => simp
    | tmp ht r ih =>
      rename_i t v rs us
      have h1 : a.tmps.getD t undef = v := by rw [Array.getD_eq_getD_getElem?, hg _ _ ht]; rfl
      rw [List.mapM_cons, Sem.run_bind, Sem.run_pure, Result.andThen_ok, Sem.run_bind, ih, Result.andThen_ok, Sem.run_pure, h1]
    | cell hp tk ht ho hpk r ih =>
      rename_i t b off o' ty us L' ti rs vs
      have h1 : a.tmps.getD t undef = .pointer (some ⟨b, off, none⟩) := by rw [Array.getD_eq_getD_getElem?, hg _ _ hp]; rfl
      have hst2 : St w (pts b o' us :: F :: L') := hst.ent ((Ent.cons tk.ent).trans Ent.swap)
      have ho := Nat.le_of_ble_eq_true ho
      have hl := loadVar_ok ht hpk (w := w) (b := b) (off := off) (fun j v hj => by
        have := (hst2.cell (cut_get hj).1).1
        rwa [show o' + (off - o' + j) = off + j by omega] at this)
      have ha : (asAddr (.pointer (some ⟨b, off, none⟩))).run P w = .ok ⟨b, off, none⟩ w := rfl
      rw [List.mapM_cons, Sem.run_bind, Sem.run_bind, h1, ha, Result.andThen_ok, hl, Result.andThen_ok, Sem.run_bind, ih, Result.andThen_ok, Sem.run_pure]
  simp only [results, Sem.run_bind]
  rw [Array.mapM_eq_mapM_toList]
  simp only [Sem.run_map, Sem.run_pure]
  refine (congrArg (fun r : Result (List Value) => (r.andThen fun (a : List Value) w' => Result.ok a.toArray w').andThen fun (a : Array Value) w' => Result.ok (if h : a.size = 1 then a[0] else Value.tuple a) w') (key _ _ h)).trans ?_
  match vs with
  | [] => rfl
  | [v] => rfl
  | v :: u :: vs => rfl
def T0 : Nat → List Value → TT
  | _, [] => []
  | i, v :: vs => (i, v) :: T0 (i + 1) vs
theorem T0_get : ∀ (vs : List Value) (i n : Nat) (v : Value), (T0 i vs).get n = some v → i ≤ n ∧ vs[n - i]? = some v
  | [], i, n, v, h => by simp [T0, TT.get] at h
  | u :: vs, i, n, v, h => by
    simp only [T0] at h
    rw [TT.get_cons] at h
    split at h
    · rename_i hi; subst hi; cases h; simp
    · obtain ⟨h1, h2⟩ := T0_get vs (i + 1) n v h
      refine ⟨by omega, ?_⟩
      rw [show n - i = (n - (i + 1)) + 1 by omega]; simpa using h2
theorem leaves_marks {fn : Func} {tmps : Array Value} {R : Ending → World → Prop} {v : Value} {L : List HP} : ∀ (D : List Nat) (w : World), St w (D.map mkA ++ L) →
    (∀ w, St w L → (results fn tmps).run P w = .ok v w ∧ R (.returned v) w) → LeavesInM Fence.wide 0 P fn tmps R (D.map mark) .returning w
  | [], w, hst, h => by
    obtain ⟨h1, h2⟩ := h w (by simpa using hst)
    simp only [List.map_nil, LeavesInM, LeavesIn]
    exact ⟨v, h1, h2⟩
  | r :: D, w, hst, h => by
    simp only [List.map_cons, LeavesInM]
    refine ⟨by simp, .inl ⟨r, { w with heap := w.heap.setIfInBounds r (.deferred none) }, rfl, ?_, ?_⟩⟩
    · obtain ⟨ho, _⟩ := hst.obj
      simp [Instr.takeDeferred, getObj, setObj, Sem.run, bind, Sem.bind, ho, pure]
    · refine leaves_marks D _ ?_ h
      have := hst.setObj (z := .deferred none) trivial
      exact this.ent Ent.drop
def retQ (P : Program) [tb : Tab P] (rs : List ResultVar) (X : Type) (ok : X → Prop) (ret : X → Value) (out : X → List HP) : Post := fun e T L =>
  match e with
  | .normal => ∃ vs, ResOk P T L rs vs ∧ ∃ x, ok x ∧ tupV vs = ret x ∧ Ent L (out x)
  | .ret => ∃ vs, ResOk P T L rs vs ∧ ∃ x, ok x ∧ tupV vs = ret x ∧ Ent L (out x)
  | _ => False
theorem Does.of [tb : Tab P] {f : FuncId} {fn : Func} {c : Code} {args : List Value} {pers own : List HP} {X : Type} {ok : X → Prop} {ret : X → Value} {out : X → List HP}
    (he : ∀ as w, (callFunc f as).run P w = .ok (.enter f as) w) (hf : P.funcs[f]? = some fn) (hb : fn.body = some c) {N : Nat} (hN : fn.ntmps = N) {rs : List ResultVar} (hrs : fn.results.toList = rs) (hp : ∀ A ∈ pers, Pers A) (hn : Nat.ble args.length N = true)
    (h : SK P none N [.code c] (T0 0 args) (pers ++ own) (retQ P rs X ok ret out)) : Does P f args pers own X ok ret out := by
  subst hN hrs
  refine ⟨he, hp, fun F w hst => ?_⟩
  rw [← callsIn_wide (n := 0)]
  have hlen := Nat.le_of_ble_eq_true hn
  refine callsIn_of_wp_marks hf hb trivial ?_ rfl
  have hk := SK_code.1 h
  refine wpIn_mono (hk F _ w ⟨?_, fun i v e => ?_, [], rfl, ?_⟩) ?_
  · simp; omega
  · obtain ⟨_, h2⟩ := T0_get args 0 i v e
    simp only [Nat.sub_zero] at h2
    have := row_lt h2
    rw [Array.getElem?_append_left (by simpa using this)]
    simpa using h2
  · exact hst.ent (big_ent (A := [F]))
  · rintro e a w ⟨T, L, hok, hq⟩
    have fin : (∃ vs, ResOk P T L fn.results.toList vs ∧ ∃ x, ok x ∧ tupV vs = ret x ∧ Ent L (out x)) →
        LeavesInM Fence.wide 0 P fn a.tmps (fun e w' => ∃ x, ok x ∧ e = .returned (ret x) ∧ St w' (F :: out x)) a.defers .returning w := by
      rintro ⟨vs, hvs, x, hx, hret, hent⟩
      obtain ⟨D, hD, hm⟩ := hok.mem
      rw [hD]
      have e1 : Ent (big (F :: D.map mkA) :: L) (D.map mkA ++ (F :: L)) := by
        refine ent_big.trans ?_
        show Ent (F :: (D.map mkA ++ L)) _
        have h2 : Ent (F :: (D.map mkA ++ L)) ((D.map mkA ++ L) ++ [F]) := ent_app_comm (A := [F])
        refine h2.trans ?_
        rw [List.append_assoc]
        exact Ent.app ent_app_comm
      refine leaves_marks (v := ret x) D w (hm.ent e1) fun w' hst' => ⟨?_, x, hx, rfl, hst'.ent (Ent.cons hent)⟩
      rw [← hret]
      exact results_ok hvs hst' hok.get
    cases e with
    | normal => simp only [postK] at hq; rw [SK] at hq; exact fin hq
    | ret => exact fin hq
    | exit id => exact hq.elim
    | goto l => exact hq.elim
    | panic ch => exact hq.elim
    | outgrown => exact hq.elim
theorem SK.retX [tb : Tab P] {L' : List HP} {rs : List ResultVar} {X : Type} {ok : X → Prop} {ret : X → Value} {out : X → List HP} {vs : List Value} (hv : ResOk P T L rs vs) (x : X) (hx : ok x) (he : tupV vs = ret x) (ht : Takes (out x) L L') :
    SK P rd N (.code .ret :: ks) T L (retQ P rs X ok ret out) := SK.ret ⟨vs, hv, x, hx, he, ent_append_of_takes ht⟩
theorem SK.endX [tb : Tab P] {L' : List HP} {rs : List ResultVar} {X : Type} {ok : X → Prop} {ret : X → Value} {out : X → List HP} {vs : List Value} (hv : ResOk P T L rs vs) (x : X) (hx : ok x) (he : tupV vs = ret x) (ht : Takes (out x) L L') :
    SK P rd N [] T L (retQ P rs X ok ret out) := SK.nil ⟨vs, hv, x, hx, he, ent_append_of_takes ht⟩
theorem all_nil {p : HP → Prop} : ∀ A ∈ ([] : List HP), p A := fun _ h => by cases h
theorem all_cons {p : HP → Prop} {A : HP} {L : List HP} (h : p A) (t : ∀ B ∈ L, p B) : ∀ B ∈ A :: L, p B := fun B hB => by
  rcases List.mem_cons.1 hB with rfl | hB
  · exact h
  · exact t B hB
end
end Go.Sl

set_option linter.unusedVariables false
set_option linter.unusedSectionVars false
namespace Go.Sl
structure Rep (α : Type) where
  V : Type
  sz : Nat
  agg : Bool
  cells : α → V → List Value
  atoms : α → V → List HP
  len : ∀ x h, (cells x h).length = sz
  pers : ∀ x h, ∀ A ∈ atoms x h, Pers A
  pos : 0 < sz
  sc : agg = false → sz = 1
  one : ∀ x h, ∀ v ∈ cells x h, one v = true
  wit : ∀ x : α, (V → False) → False
def Rep.val {α : Type} (ρ : Rep α) (x : α) (h : ρ.V) : Value := match ρ.agg with
  | true => .agg (ρ.cells x h).toArray
  | false => match ρ.cells x h with
    | v :: _ => v
    | [] => undef
def flat {α : Type} (ρ : Rep α) : List (α × ρ.V) → List Value
  | [] => []
  | (x, h) :: l => ρ.cells x h ++ flat ρ l
theorem flat_length {α : Type} {ρ : Rep α} : ∀ (l : List (α × ρ.V)), (flat ρ l).length = l.length * ρ.sz
  | [] => by simp [flat]
  | (x, h) :: l => by simp [flat, ρ.len, flat_length l, Nat.add_mul, Nat.add_comm]
theorem flat_append {α : Type} {ρ : Rep α} : ∀ (a b : List (α × ρ.V)), flat ρ (a ++ b) = flat ρ a ++ flat ρ b
  | [], b => rfl
  | (x, h) :: a, b => by simp [flat, flat_append a b]
theorem flat_get {α : Type} {ρ : Rep α} : ∀ (l : List (α × ρ.V)) (i j : Nat) (x : α) (h : ρ.V), l[i]? = some (x, h) → j < ρ.sz → (flat ρ l)[i * ρ.sz + j]? = (ρ.cells x h)[j]?
  | [], i, j, x, h, e, _ => by simp at e
  | (y, k) :: l, 0, j, x, h, e, hj => by
    simp at e; obtain ⟨rfl, rfl⟩ := e
    simp only [flat, Nat.zero_mul, Nat.zero_add]
    rw [List.getElem?_append_left (by rw [ρ.len]; exact hj)]
  | (y, k) :: l, i + 1, j, x, h, e, hj => by
    simp only [flat]
    rw [List.getElem?_append_right (by rw [ρ.len, Nat.add_mul]; omega), ρ.len, Nat.add_mul, Nat.one_mul]
    rw [show i * ρ.sz + ρ.sz + j - ρ.sz = i * ρ.sz + j by omega]
    exact flat_get l i j x h (by simpa using e) hj
abbrev lim : Nat := 2147483648
def memS {α : Type} (ρ : Rep α) (l : List (α × ρ.V)) (r : Ro) : Prop := ∀ (i : Nat) (x : α) (h : ρ.V), l[i]? = some (x, h) → seps (ρ.atoms x h) r (fun _ _ => none)
theorem memS.up {α : Type} {ρ : Rep α} {l : List (α × ρ.V)} {r r' : Ro} (hr : r.le r') (m : memS ρ l r) : memS ρ l r' :=
  fun i x h e => seps_up hr (Own.le_refl _) (m i x h e)
def slAt {α : Type} (ρ : Rep α) (A : Option Addr) (n : Nat) (l : List α) : HP :=
  ⟨fun r _ => n = l.length ∧ n ≤ lim ∧ (A = none → l = []) ∧ ∀ a, A = some a → (n ≠ 0 → a.spot = none) ∧ ∃ z : List (α × ρ.V), z.map (·.1) = l ∧ (∀ i v, (flat ρ z)[i]? = some v → r a.block (a.off + i) = some v) ∧ memS ρ z r,
   fun r r' o o' hr ho ⟨h0, h1, h2, h3⟩ => ⟨h0, h1, h2, fun a ha => let ⟨hs, z, hz, hc, hm⟩ := h3 a ha; ⟨hs, z, hz, fun i v e => hr.le _ _ _ (hc i v e), hm.up hr⟩⟩⟩
theorem pers_slAt {α : Type} (ρ : Rep α) (A : Option Addr) (n : Nat) (l : List α) : Pers (slAt ρ A n l) := fun _ _ h => h
instance {α : Type} (ρ : Rep α) : Triv (slAt ρ none 0 []) := ⟨fun r o => ⟨rfl, by simp [lim], fun _ => rfl, fun a h => by cases h⟩⟩
def sqAt {α : Type} (w : Bool) (ρ : Rep α) (A : Option Addr) (n c : Nat) (l : List α) : HP :=
  ⟨fun r o => n = l.length ∧ n ≤ lim ∧ n ≤ c ∧ (A = none → l = [] ∧ c = 0) ∧ ∀ a, A = some a → a.spot = none ∧ ∃ (z : List (α × ρ.V)) (sp : List Value), z.map (·.1) = l ∧ sp.length = (c - n) * ρ.sz ∧
      (∀ i v, (flat ρ z)[i]? = some v → if w = true then o a.block (a.off + i) = some (.val v) else r a.block (a.off + i) = some v) ∧
      (∀ i v, sp[i]? = some v → o a.block (a.off + n * ρ.sz + i) = some (.val v)) ∧ memS ρ z r,
   fun r r' o o' hr ho ⟨h0, h1, h2, h3, h4⟩ => ⟨h0, h1, h2, h3, fun a ha => let ⟨hs, z, sp, hz, hsp, hc, hd, hm⟩ := h4 a ha; ⟨hs, z, sp, hz, hsp,
      fun i v e => by
        have := hc i v e
        split
        · rename_i hw; rw [if_pos hw] at this; exact ho _ _ _ this
        · rename_i hw; rw [if_neg hw] at this; exact hr.le _ _ _ this, fun i v e => ho _ _ _ (hd i v e), hm.up hr⟩⟩⟩
instance {α : Type} (w : Bool) (ρ : Rep α) : Triv (sqAt w ρ none 0 0 []) := ⟨fun r o => ⟨rfl, by simp [lim], Nat.le_refl _, fun _ => ⟨rfl, rfl⟩, fun a h => by cases h⟩⟩
theorem sl_of_sq {α : Type} {ρ : Rep α} {A : Option Addr} {n c : Nat} {l : List α} {L : List HP} : Ent (sqAt false ρ A n c l :: L) (slAt ρ A n l :: sqAt false ρ A n c l :: L) := by
  rintro r o ⟨a, b, d, le, hA, hL⟩
  refine ⟨fun _ _ => none, a.add b, fun _ _ => .inl rfl, fun i j c e => ?_, ?_, a, b, d, Own.le_refl _, hA, hL⟩
  · rcases Own.add_cases e with e | e
    · simp at e
    · exact le _ _ _ e
  · obtain ⟨h0, h1, h2, h3, h4⟩ := hA
    refine ⟨h0, h1, fun h => (h3 h).1, fun a ha => ?_⟩
    obtain ⟨hs, z, sp, hz, hsp, hc, hd, hm⟩ := h4 a ha
    exact ⟨fun _ => hs, z, hz, fun i v e => by have := hc i v e; rw [if_neg (by simp)] at this; exact this, hm⟩
def memA {α : Type} (ρ : Rep α) (z : List (α × ρ.V)) : HP := ⟨fun r _ => memS ρ z r, fun _ _ _ _ hr _ h => h.up hr⟩
theorem pers_memA {α : Type} (ρ : Rep α) (z : List (α × ρ.V)) : Pers (memA ρ z) := fun _ _ h => h
theorem addr_eta {a : Addr} (h : a.spot = none) : a = ⟨a.block, a.off, none⟩ := by cases a; simp at h; simp [h]
def headA (w : Bool) (b off : Nat) (vs : List Value) : HP := match w with
  | true => pts b off vs
  | false => rod b off vs
theorem sq_open {α : Type} {ρ : Rep α} {w : Bool} {a : Addr} {n c : Nat} {l : List α} {L : List HP} {W : World} (h : St W (sqAt w ρ (some a) n c l :: L)) :
    n = l.length ∧ n ≤ lim ∧ n ≤ c ∧ a.spot = none ∧ ∃ (z : List (α × ρ.V)) (sp : List Value), z.map (·.1) = l ∧ sp.length = (c - n) * ρ.sz ∧
      St W (headA w a.block a.off (flat ρ z) :: pts a.block (a.off + n * ρ.sz) sp :: memA ρ z :: L) := by
  obtain ⟨r, o, s, x, y, d, le, hA, hL⟩ := h
  obtain ⟨h0, h1, h2, h3, h4⟩ := hA
  obtain ⟨hs, z, sp, hz, hsp, hc, hd, hm⟩ := h4 a rfl
  refine ⟨h0, h1, h2, hs, z, sp, hz, hsp, ?_⟩
  have hlen : (flat ρ z).length = n * ρ.sz := by rw [flat_length, h0, ← hz]; simp
  have hm' : ∀ y', seps L r y' → seps (memA ρ z :: L) r y' := fun y' hL => ⟨fun _ _ => none, y', fun _ _ => .inl rfl, none_add, hm, hL⟩
  cases w with
  | false =>
    refine ⟨r, o, s, fun _ _ => none, o, fun _ _ => .inl rfl, none_add, fun i v e => by have := hc i v e; rwa [if_neg (by simp)] at this, x, y, d, le, hd, hm' _ hL⟩
  | true =>
    have h5 : St W (pts a.block a.off (flat ρ z ++ sp) :: memA ρ z :: L) := by
      refine ⟨r, o, s, x, y, d, le, ?_, hm' _ hL⟩
      intro i v hv
      rcases Nat.lt_or_ge i (flat ρ z).length with hi | hi
      · rw [List.getElem?_append_left hi] at hv
        have := hc i v hv
        rwa [if_pos rfl] at this
      · rw [List.getElem?_append_right hi] at hv
        have := hd _ _ hv
        rw [show a.off + n * ρ.sz + (i - (flat ρ z).length) = a.off + i by omega] at this
        exact this
    have h6 := h5.ent pts_split
    rw [hlen] at h6
    exact h6
theorem sq_shut {α : Type} {ρ : Rep α} {w : Bool} {a : Addr} {n c : Nat} {l : List α} {L : List HP} {z : List (α × ρ.V)} {sp : List Value} (h0 : n = l.length) (h1 : n ≤ lim) (h2 : n ≤ c) (hs : a.spot = none)
    (hz : z.map (·.1) = l) (hsp : sp.length = (c - n) * ρ.sz) :
    Ent (headA w a.block a.off (flat ρ z) :: pts a.block (a.off + n * ρ.sz) sp :: memA ρ z :: L) (sqAt w ρ (some a) n c l :: L) := by
  rintro r o ⟨x, y1, d, le, hA, y, y2, d', le', hd, y3, y4, d3, le3, hm, hL⟩
  have dxy : x.disj y := fun i j => by
    rcases d i j with h | h
    · exact .inl h
    · right
      cases hb : y i j with
      | none => rfl
      | some u => have := le' i j u (Own.le_add_left _ _ _ _ _ hb); simp [h] at this
  have dx2 : x.disj y2 := fun i j => by
    rcases d i j with h | h
    · exact .inl h
    · right
      cases hb : y2 i j with
      | none => rfl
      | some u => have := le' i j u (Own.le_add_right d' _ _ _ hb); simp [h] at this
  refine ⟨x.add y, y2, fun i j => ?_, fun i j u e => ?_, ⟨h0, h1, h2, fun h => by (cases h), fun a' ha => ?_⟩, seps_up (Ro.le_refl _) (Own.le_trans (Own.le_add_right d3) le3) hL⟩
  · rcases dx2 i j with h | h
    · rcases d' i j with h' | h'
      · left; simp [Own.add, h, h']
      · exact .inr h'
    · exact .inr h
  · rcases Own.add_cases e with e | e
    · rcases Own.add_cases e with e | e
      · exact le _ _ _ (Own.le_add_left _ _ _ _ _ e)
      · exact le _ _ _ (Own.le_add_right d _ _ _ (le' _ _ _ (Own.le_add_left _ _ _ _ _ e)))
    · exact le _ _ _ (Own.le_add_right d _ _ _ (le' _ _ _ (Own.le_add_right d' _ _ _ e)))
  · cases ha
    refine ⟨hs, z, sp, hz, hsp, fun i v e => ?_, fun i v e => Own.le_add_right dxy _ _ _ (hd i v e), hm⟩
    cases w with
    | true => exact Own.le_add_left _ _ _ _ _ (hA i v e)
    | false => exact hA i v e
theorem St.shut {α : Type} {ρ : Rep α} {A : Option Addr} {n c : Nat} {l : List α} {L : List HP} {w : World} (h : St w (sqAt true ρ A n c l :: L)) : St w (sqAt false ρ A n c l :: L) := by
  cases A with
  | none =>
    obtain ⟨r, o, s, x, y, d, le, ⟨h0, h1, h2, h3, h4⟩, hL⟩ := h
    exact ⟨r, o, s, x, y, d, le, ⟨h0, h1, h2, h3, fun a ha => by cases ha⟩, hL⟩
  | some a =>
    obtain ⟨h0, h1, h2, hs, z, sp, hz, hsp, h5⟩ := sq_open h
    exact h5.publish.ent (sq_shut (w := false) h0 h1 h2 hs hz hsp)
theorem sl_open {α : Type} {ρ : Rep α} {A : Option Addr} {n : Nat} {l : List α} {L : List HP} {W : World} (h : St W (slAt ρ A n l :: L)) :
    n = l.length ∧ n ≤ lim ∧ (A = none → l = []) ∧ ∀ a, A = some a → (n ≠ 0 → a.spot = none) ∧ ∃ (z : List (α × ρ.V)), z.map (·.1) = l ∧ St W (rod a.block a.off (flat ρ z) :: memA ρ z :: L) := by
  obtain ⟨r, o, s, x, y, d, le, hA, hL⟩ := h
  obtain ⟨h0, h1, h2, h3⟩ := hA
  refine ⟨h0, h1, h2, fun a ha => ?_⟩
  obtain ⟨hs, z, hz, hc, hm⟩ := h3 a ha
  exact ⟨hs, z, hz, r, o, s, fun _ _ => none, o, fun _ _ => .inl rfl, none_add, hc, fun _ _ => none, o, fun _ _ => .inl rfl, none_add, hm, seps_up (Ro.le_refl _) (Own.le_trans (Own.le_add_right d) le) hL⟩
theorem sl_shut {α : Type} {ρ : Rep α} {a : Addr} {n : Nat} {l : List α} {L : List HP} {z : List (α × ρ.V)} (h0 : n = l.length) (h1 : n ≤ lim) (hs : a.spot = none) (hz : z.map (·.1) = l) :
    Ent (rod a.block a.off (flat ρ z) :: memA ρ z :: L) (slAt ρ (some a) n l :: L) := by
  rintro r o ⟨x, y1, d, le, hA, y, y2, d', le', hm, hL⟩
  exact ⟨fun _ _ => none, o, fun _ _ => .inl rfl, none_add, ⟨h0, h1, fun h => by (cases h), fun a' ha => by cases ha; exact ⟨fun _ => hs, z, hz, hA, hm⟩⟩, seps_up (Ro.le_refl _) (Own.le_trans (Own.le_add_right d') (Own.le_trans le' (Own.le_trans (Own.le_add_right d) le))) hL⟩
theorem sl_len {α : Type} {ρ : Rep α} {A : Option Addr} {n : Nat} {l : List α} {L : List HP} (h : Has (slAt ρ A n l) L) (r : Ro) (o : Own) (hs : seps L r o) : n = l.length ∧ n ≤ lim ∧ (A = none → l = []) := by
  obtain ⟨x, y, _, _, hA, _⟩ := h.ent (pers_slAt _ _ _ _) r o hs
  exact ⟨hA.1, hA.2.1, hA.2.2.1⟩
theorem sq_len {α : Type} {ρ : Rep α} {w : Bool} {A : Option Addr} {n c : Nat} {l : List α} {L L' : List HP} (h : Take (sqAt w ρ A n c l) L L') (r : Ro) (o : Own) (hs : seps L r o) : n = l.length ∧ n ≤ lim ∧ n ≤ c ∧ (A = none → l = [] ∧ c = 0) := by
  obtain ⟨x, y, _, _, hA, _⟩ := h.ent r o hs
  exact ⟨hA.1, hA.2.1, hA.2.2.1, hA.2.2.2.1⟩
def eadr (A : Option Addr) (i sz o : Nat) : Addr := (A.getD ⟨0, 0, none⟩).add (i * sz + o)
theorem eadr_some {a : Addr} {i sz o : Nat} (h : a.spot = none) : eadr (some a) i sz o = ⟨a.block, a.off + (i * sz + o), none⟩ := by
  simp only [eadr, Option.getD_some, Addr.add]
  split
  · rename_i h0; rw [addr_eta h]; simp [h0]
  · rfl
theorem map_get {α β : Type} {z : List (α × β)} {l : List α} (hz : z.map (·.1) = l) {i : Nat} {x : α} (hx : l[i]? = some x) : ∃ h, z[i]? = some (x, h) := by
  rw [← hz] at hx
  simp only [List.getElem?_map, Option.map_eq_some_iff] at hx
  obtain ⟨⟨y, h⟩, h1, h2⟩ := hx
  simp at h2; subst h2
  exact ⟨h, h1⟩
section
variable {P : Program} [tb : Tab P] {rd : Option Nat} {N : Nat} {T : TT} {L L' L1 L2 : List HP} {Q : Post} {ks : List K}
variable {all : Array Oper} {rest : List Oper} {ty : TypeId} {pos : String} {aft : Array Edge} {d : Option Tmp} {α : Type} {ρ : Rep α}
theorem run_indexAt {t e : Nat} {sz n1 n2 b1 : Nat} {z z2 : Value} {ke : TK} (ht : tget tb.tab t = some ⟨.sl e, n1, n2, z⟩) (hte : tget tb.tab e = some ⟨ke, sz, b1, z2⟩) {a : Addr} {n c i : Nat} {k : IntKind} (hi : i < n) (w : World) :
    (Instr.indexAt t (.slice (some a) n c) (.int k i)).run P w = .ok (.pointer (some (eadr (some a) i sz 0))) w := by
  have hk := (tab_ok ht).k
  simp only [TK.ok] at hk
  have hs := sizeOf_ok (tab_ok hte) w
  simp only at hs
  have hb : (0 : Int) ≤ (i : Int) ∧ (i : Int) < (n : Int) := ⟨by omega, by omega⟩
  simp only [Instr.indexAt, asIntOf, Sem.run_bind, Sem.run_pure, run_und hk, Result.andThen_ok]
  simp [hb, hs, eadr]
theorem rd_index {x y : Operand} {t e : Nat} {sz n1 n2 b1 : Nat} {z z2 : Value} {ke : TK} {A : Option Addr} {n c i : Nat} {k : IntKind} {j : Int} {l : List α} (hx : evO T x = some (.slice A n c)) (hy : evO T y = some (.int k j))
    (hh : Has (slAt ρ A n l) L) (ht : tget tb.tab t = some ⟨.sl e, n1, n2, z⟩) (hte : tget tb.tab e = some ⟨ke, sz, b1, z2⟩) (hj : Int.ofNat i = j) (hi : i < n) : Reads P T L ⟨d, .indexAddr t x y, ty, pos, aft, none⟩ (fun v L' => v = .pointer (some (eadr A i sz 0)) ∧ L' = L ∧ ∃ u, l[i]? = some u) := by
  intro q hq rr oo F hs
  have hs1 := (show seps L rr _ from hs.choose_spec.choose_spec.2.2.2)
  obtain ⟨h0, h1, h2⟩ := sl_len hh rr _ hs1
  have hl : i < l.length := by omega
  cases A with
  | none => rw [h2 rfl] at hl; simp at hl
  | some a =>
    refine ⟨_, L, ⟨rfl, rfl, l[i], by simp [hl]⟩, hs, fun w sat => ?_⟩
    have hj' : j = (i : Int) := hj.symm
    subst hj'
    simp only [execOp, hq _ _ hx, hq _ _ hy, Sem.run_bind, run_indexAt ht hte hi, Result.andThen_ok]
    rfl
theorem SO.index {x y : Operand} {t e : Nat} {sz n1 n2 b1 : Nat} {z z2 : Value} {ke : TK} {A : Option Addr} {n c i : Nat} {k : IntKind} {j : Int} {l : List α} (hx : evO T x = some (.slice A n c)) (hy : evO T y = some (.int k j))
    (hh : Has (slAt ρ A n l) L) (ht : tget tb.tab t = some ⟨.sl e, n1, n2, z⟩) (hte : tget tb.tab e = some ⟨ke, sz, b1, z2⟩) (hj : Int.ofNat i = j) (hd : dstOk N d = true) (hi : i < n)
    (kk : ∀ v, l[i]? = some v → SO P rd N all rest (putD d (.pointer (some (eadr A i sz 0))) T) L ks Q) : SO P rd N all (⟨d, .indexAddr t x y, ty, pos, aft, none⟩ :: rest) T L ks Q :=
  SO.reads (rd_index hx hy hh ht hte hj hi) rfl rfl hd (by rintro _ _ ⟨rfl, rfl, u, hu⟩; exact kk u hu)
theorem SQ.index {RR : TT → List HP → Prop} {x y : Operand} {t e : Nat} {sz n1 n2 b1 : Nat} {z z2 : Value} {ke : TK} {A : Option Addr} {n c i : Nat} {k : IntKind} {j : Int} {l : List α} (hx : evO T x = some (.slice A n c)) (hy : evO T y = some (.int k j))
    (hh : Has (slAt ρ A n l) L) (ht : tget tb.tab t = some ⟨.sl e, n1, n2, z⟩) (hte : tget tb.tab e = some ⟨ke, sz, b1, z2⟩) (hj : Int.ofNat i = j) (hd : dstOk N d = true) (hi : i < n)
    (kk : ∀ v, l[i]? = some v → SQ P N all rest (putD d (.pointer (some (eadr A i sz 0))) T) L RR) : SQ P N all (⟨d, .indexAddr t x y, ty, pos, aft, none⟩ :: rest) T L RR :=
  SQ.reads (rd_index hx hy hh ht hte hj hi) rfl hd (by rintro _ _ ⟨rfl, rfl, u, hu⟩; exact kk u hu)
theorem rd_indexW {x y : Operand} {t e : Nat} {sz n1 n2 b1 : Nat} {z z2 : Value} {ke : TK} {A : Option Addr} {n c c' i : Nat} {k : IntKind} {j : Int} {l : List α} {w' : Bool} (hx : evO T x = some (.slice A n c)) (hy : evO T y = some (.int k j))
    (hh : Take (sqAt w' ρ A n c' l) L L') (ht : tget tb.tab t = some ⟨.sl e, n1, n2, z⟩) (hte : tget tb.tab e = some ⟨ke, sz, b1, z2⟩) (hj : Int.ofNat i = j) (hi : i < n) : Reads P T L ⟨d, .indexAddr t x y, ty, pos, aft, none⟩ (fun v L' => v = .pointer (some (eadr A i sz 0)) ∧ L' = L ∧ ∃ u, l[i]? = some u) := by
  intro q hq rr oo F hs
  have hs1 := (show seps L rr _ from hs.choose_spec.choose_spec.2.2.2)
  obtain ⟨h0, h1, h2, h3⟩ := sq_len hh rr _ hs1
  have hl : i < l.length := by omega
  cases A with
  | none => rw [(h3 rfl).1] at hl; simp at hl
  | some a =>
    refine ⟨_, L, ⟨rfl, rfl, l[i], by simp [hl]⟩, hs, fun w sat => ?_⟩
    have hj' : j = (i : Int) := hj.symm
    subst hj'
    simp only [execOp, hq _ _ hx, hq _ _ hy, Sem.run_bind, run_indexAt ht hte hi, Result.andThen_ok]
    rfl
theorem SO.indexW {x y : Operand} {t e : Nat} {sz n1 n2 b1 : Nat} {z z2 : Value} {ke : TK} {A : Option Addr} {n c c' i : Nat} {k : IntKind} {j : Int} {l : List α} {w' : Bool} (hx : evO T x = some (.slice A n c)) (hy : evO T y = some (.int k j))
    (hh : Take (sqAt w' ρ A n c' l) L L') (ht : tget tb.tab t = some ⟨.sl e, n1, n2, z⟩) (hte : tget tb.tab e = some ⟨ke, sz, b1, z2⟩) (hj : Int.ofNat i = j) (hd : dstOk N d = true) (hi : i < n)
    (kk : ∀ v, l[i]? = some v → SO P rd N all rest (putD d (.pointer (some (eadr A i sz 0))) T) L ks Q) : SO P rd N all (⟨d, .indexAddr t x y, ty, pos, aft, none⟩ :: rest) T L ks Q :=
  SO.reads (rd_indexW hx hy hh ht hte hj hi) rfl rfl hd (by rintro _ _ ⟨rfl, rfl, u, hu⟩; exact kk u hu)
theorem SQ.indexW {RR : TT → List HP → Prop} {x y : Operand} {t e : Nat} {sz n1 n2 b1 : Nat} {z z2 : Value} {ke : TK} {A : Option Addr} {n c c' i : Nat} {k : IntKind} {j : Int} {l : List α} {w' : Bool} (hx : evO T x = some (.slice A n c)) (hy : evO T y = some (.int k j))
    (hh : Take (sqAt w' ρ A n c' l) L L') (ht : tget tb.tab t = some ⟨.sl e, n1, n2, z⟩) (hte : tget tb.tab e = some ⟨ke, sz, b1, z2⟩) (hj : Int.ofNat i = j) (hd : dstOk N d = true) (hi : i < n)
    (kk : ∀ v, l[i]? = some v → SQ P N all rest (putD d (.pointer (some (eadr A i sz 0))) T) L RR) : SQ P N all (⟨d, .indexAddr t x y, ty, pos, aft, none⟩ :: rest) T L RR :=
  SQ.reads (rd_indexW hx hy hh ht hte hj hi) rfl hd (by rintro _ _ ⟨rfl, rfl, u, hu⟩; exact kk u hu)
theorem rd_efield {x : Operand} {t f : Nat} {A : Option Addr} {i sz o off tf n1 n2 s1 s2 : Nat} {z z2 : Value} {k2 : TK} {fs : List (Nat × Nat)} (hx : evO T x = some (.pointer (some (eadr A i sz o))))
    (ht : tget tb.tab t = some ⟨.st fs, n1, n2, z⟩) (hf : fs[f]? = some (off, tf)) (htf : tget tb.tab tf = some ⟨k2, s1 + 1, s2, z2⟩) : Reads P T L ⟨d, .fieldAddr t x f, ty, pos, aft, none⟩ (fun v L' => v = .pointer (some (eadr A i sz (o + off))) ∧ L' = L) := by
  intro q hq rr oo F hs
  refine ⟨_, L, ⟨rfl, rfl⟩, hs, fun w sat => ?_⟩
  have hk := (tab_ok ht).k
  simp only [TK.ok] at hk
  obtain ⟨G, hG, hm⟩ := hk
  have hf' : ∃ g, G[f]? = some g ∧ g.offset = off ∧ g.type = tf := by
    rw [← hm] at hf
    simp only [List.getElem?_map, Option.map_eq_some_iff] at hf
    obtain ⟨g, h1, h2⟩ := hf
    cases h2
    exact ⟨g, by simpa using h1, rfl, rfl⟩
  obtain ⟨g, hg1, hg2, hg3⟩ := hf'
  subst hg2 hg3
  have hs := sizeOf_ok (tab_ok htf) w
  simp only at hs
  have hadd : (eadr A i sz o).add g.offset = eadr A i sz (o + g.offset) := by
    simp only [eadr, Addr.add]
    split <;> split <;> (try split) <;> simp_all <;> omega
  simp [execOp, Instr.fieldAt, hq _ _ hx, run_und hG, hg1, Instr.sureAddr, fieldPlace, hs, hadd]
theorem SO.efield {x : Operand} {t f : Nat} {A : Option Addr} {i sz o off tf n1 n2 s1 s2 : Nat} {z z2 : Value} {k2 : TK} {fs : List (Nat × Nat)} (hx : evO T x = some (.pointer (some (eadr A i sz o))))
    (ht : tget tb.tab t = some ⟨.st fs, n1, n2, z⟩) (hf : fs[f]? = some (off, tf)) (htf : tget tb.tab tf = some ⟨k2, s1 + 1, s2, z2⟩) (hd : dstOk N d = true)
    (kk : SO P rd N all rest (putD d (.pointer (some (eadr A i sz (o + off)))) T) L ks Q) : SO P rd N all (⟨d, .fieldAddr t x f, ty, pos, aft, none⟩ :: rest) T L ks Q :=
  SO.reads (rd_efield hx ht hf htf) rfl rfl hd (by rintro _ _ ⟨rfl, rfl⟩; exact kk)
theorem SQ.efield {RR : TT → List HP → Prop} {x : Operand} {t f : Nat} {A : Option Addr} {i sz o off tf n1 n2 s1 s2 : Nat} {z z2 : Value} {k2 : TK} {fs : List (Nat × Nat)} (hx : evO T x = some (.pointer (some (eadr A i sz o))))
    (ht : tget tb.tab t = some ⟨.st fs, n1, n2, z⟩) (hf : fs[f]? = some (off, tf)) (htf : tget tb.tab tf = some ⟨k2, s1 + 1, s2, z2⟩) (hd : dstOk N d = true)
    (kk : SQ P N all rest (putD d (.pointer (some (eadr A i sz (o + off)))) T) L RR) : SQ P N all (⟨d, .fieldAddr t x f, ty, pos, aft, none⟩ :: rest) T L RR :=
  SQ.reads (rd_efield hx ht hf htf) rfl hd (by rintro _ _ ⟨rfl, rfl⟩; exact kk)
theorem rd_eload {x : Operand} {t : Nat} {ti : TI} {A : Option Addr} {n i sz o : Nat} {l : List α} {u : α} (hx : evO T x = some (.pointer (some (eadr A i sz o)))) (hh : Has (slAt ρ A n l) L) (hu : l[i]? = some u)
    (ht : tget tb.tab t = some ti) (hsz : Nat.beq ρ.sz sz = true) (hp : ∀ h, packOk ti (cut (ρ.cells u h) o ti.size)) : Reads P T L ⟨d, .load t x, ty, pos, aft, none⟩ (fun v L' => ∃ h, v = packV ti (cut (ρ.cells u h) o ti.size) ∧ L' = ρ.atoms u h ++ L) := by
  intro q hq rr oo F hs
  have hszz := Nat.eq_of_beq_eq_true hsz
  subst hszz
  have hs1 := ((Ent.cons (hh.ent (pers_slAt _ _ _ _))).trans Ent.swap) rr oo hs
  obtain ⟨x1, y1, d1, le1, hA, hL⟩ := hs1
  obtain ⟨h0, h1, h2, h3⟩ := hA
  cases A with
  | none => rw [h2 rfl] at hu; simp at hu
  | some a =>
    obtain ⟨hsp, z, hz, hc, hm⟩ := h3 a rfl
    obtain ⟨h, hzh⟩ := map_get hz hu
    refine ⟨_, _, ⟨h, rfl, rfl⟩, ?_, fun w sat => ?_⟩
    · have hat := hm i u h hzh
      have h7 : seps (big (ρ.atoms u h) :: F :: L) rr oo :=
        ⟨fun _ _ => none, oo, fun _ _ => .inl rfl, none_add, hat, seps_up (Ro.le_refl _) (Own.le_trans (Own.le_add_right d1) le1) hL⟩
      exact (Ent.swap.trans (Ent.cons ent_big)) rr oo h7
    · simp only [execOp, hq _ _ hx, Instr.loadAt, Instr.sureAddr, Sem.run_bind, Sem.run_pure, Result.andThen_ok]
      have hi0 : n ≠ 0 := by have := (List.getElem?_eq_some_iff.1 hu).1; omega
      rw [eadr_some (hsp hi0)]
      rw [loadVar_ok ht (hp h) (fun j v hj => by
        obtain ⟨h5, h6⟩ := cut_get hj
        have hlt : o + j < ρ.sz := by rw [← ρ.len u h]; exact row_lt h5
        have := sat.ro _ _ _ (hc (i * ρ.sz + (o + j)) v (by rw [flat_get z i (o + j) u h hzh hlt]; exact h5))
        rwa [show a.off + (i * ρ.sz + (o + j)) = a.off + (i * ρ.sz + o) + j by omega] at this)]
      rfl
theorem SO.eload {x : Operand} {t : Nat} {ti : TI} {A : Option Addr} {n i sz o : Nat} {l : List α} {u : α} (hx : evO T x = some (.pointer (some (eadr A i sz o)))) (hh : Has (slAt ρ A n l) L) (hu : l[i]? = some u)
    (ht : tget tb.tab t = some ti) (hsz : Nat.beq ρ.sz sz = true) (hp : ∀ h, packOk ti (cut (ρ.cells u h) o ti.size)) (hd : dstOk N d = true)
    (kk : ∀ h, SO P rd N all rest (putD d (packV ti (cut (ρ.cells u h) o ti.size)) T) (ρ.atoms u h ++ L) ks Q) : SO P rd N all (⟨d, .load t x, ty, pos, aft, none⟩ :: rest) T L ks Q :=
  SO.reads (rd_eload hx hh hu ht hsz hp) rfl rfl hd (by rintro _ _ ⟨h, rfl, rfl⟩; exact kk h)
theorem SQ.eload {RR : TT → List HP → Prop} {x : Operand} {t : Nat} {ti : TI} {A : Option Addr} {n i sz o : Nat} {l : List α} {u : α} (hx : evO T x = some (.pointer (some (eadr A i sz o)))) (hh : Has (slAt ρ A n l) L) (hu : l[i]? = some u)
    (ht : tget tb.tab t = some ti) (hsz : Nat.beq ρ.sz sz = true) (hp : ∀ h, packOk ti (cut (ρ.cells u h) o ti.size)) (hd : dstOk N d = true)
    (kk : ∀ h, SQ P N all rest (putD d (packV ti (cut (ρ.cells u h) o ti.size)) T) (ρ.atoms u h ++ L) RR) : SQ P N all (⟨d, .load t x, ty, pos, aft, none⟩ :: rest) T L RR :=
  SQ.reads (rd_eload hx hh hu ht hsz hp) rfl hd (by rintro _ _ ⟨h, rfl, rfl⟩; exact kk h)
end
end Go.Sl

set_option linter.unusedVariables false
set_option linter.unusedSectionVars false
namespace Go.Sl
structure Enc (α : Type) where
  V : Type
  args : α → V → List Value
  atoms : α → V → List HP
  pers : ∀ x h, ∀ A ∈ atoms x h, Pers A
abbrev yv (l : Nat) : Value := .func (.yield l) #[] #[]
def Iter {α : Type} (P : Program) (f : FuncId) (caps : List Value) (e : Enc α) (xs : List α) (pers K0 : List HP) (Kb : Nat → List HP) (Ke : List HP) : Prop :=
  ∀ (l : Nat) (J Jx : Nat → HP),
    (∀ (i : Nat) (x : α) (h : e.V), xs[i]? = some x → VDoes P (yv l) (e.args x h) (e.atoms x h) [J i] Bool (fun _ => True) (fun b => .bool b) (fun b => [bif b then J (i + 1) else Jx i])) →
    Does P f (yv l :: caps) pers (J 0 :: K0) (Option Nat) (fun o => ∀ i, o = some i → i < xs.length) (fun _ => .tuple #[])
      (fun o => match o with | none => J xs.length :: Ke | some i => Jx i :: Kb i)
def busyA (l : Nat) (R : Loop) : HP := ob l (.loop { R with state := .busy })
def zipT : List Nat → List Value → TT → TT
  | t :: ts, v :: vs, T => zipT ts vs ((t, v) :: T)
  | _, _, T => T
def roundQ (l : Nat) (R : Loop) (next : List HP) (Y : Type) (LX : Y → List HP) (cX : Y → Code) : Post := fun e T L =>
  match e with
  | .normal => Ent L (busyA l R :: next)
  | .ret => ∃ y, cX y = .ret ∧ Ent L (busyA l R :: LX y)
  | .exit id => ∃ y, cX y = .exit id ∧ Ent L (busyA l R :: LX y)
  | _ => False
section
variable {P : Program} {rd : Option Nat} {N : Nat} {T : TT} {L L1 : List HP} {Q : Post} {ks : List K}
theorem Ok.zip {F : HP} {w : World} : ∀ (ts : List Nat) (vs : List Value) (T : TT) (tmps : Array Value), (∀ t ∈ ts, t < N) → Ok F N T L { tmps := tmps, defers := [] } w →
    Ok F N (zipT ts vs T) L { tmps := (ts.zip vs).foldl (fun tmps (p : Nat × Value) => tmps.setIfInBounds p.1 p.2) tmps, defers := [] } w
  | [], vs, T, tmps, _, h => by cases vs <;> exact h
  | t :: ts, [], T, tmps, _, h => h
  | t :: ts, v :: vs, T, tmps, ht, h => by
    simp only [zipT, List.zip_cons_cons, List.foldl_cons]
    refine Ok.zip ts vs _ _ (fun t h => ht t (by simp [h])) ?_
    exact h.put (ht t (by simp)) v
def ltAll (N : Nat) : List Nat → Bool
  | [] => true
  | t :: ts => Nat.blt t N && ltAll N ts
theorem ltAll_ok : ∀ {ts : List Nat}, ltAll N ts = true → ∀ t ∈ ts, t < N
  | [], _, t, h => by cases h
  | u :: ts, h, t, ht => by
    simp only [ltAll, Bool.and_eq_true] at h
    rcases List.mem_cons.1 ht with rfl | ht
    · simpa [Nat.blt_eq] using h.1
    · exact ltAll_ok h.2 t ht
theorem run_getLoop {w : World} {l : Nat} {R : Loop} (h : w.heap[l]? = some (.loop R)) : (Instr.getLoop l).run P w = .ok R w := by
  simp [Instr.getLoop, getObj, Sem.run, bind, Sem.bind, h, pure]
theorem run_setLoop {w : World} {l : Nat} {R R' : Loop} (h : w.heap[l]? = some (.loop R)) : (setObj l (.loop R')).run P w = .ok () { w with heap := w.heap.setIfInBounds l (.loop R') } := by
  simp [setObj, Sem.run, h]
theorem yield_does {l : Nat} {R : Loop} {ps : List Nat} {asg body : Code} {α : Type} {e : Enc α} {x : α} {h : e.V} {LI LN : List HP} {Y : Type} {LX : Y → List HP} {cX : Y → Code} {tmps : Array Value}
    (hR1 : R.params = ps.toArray) (hR2 : R.assign = asg) (hR3 : R.body = body) (hR4 : R.tmps = tmps) (hR5 : R.state = .ready) (hR6 : R.pending = none) (hT : ∀ i v, T.get i = some v → tmps[i]? = some v) (hN : tmps.size = N)
    (hps : ltAll N ps = true) (hlen : Nat.beq (e.args x h).length ps.length = true)
    (round : SK P (some l) N [.code asg, .inv (fun T' L' => SK P (some l) N [.code body] T' (busyA l R :: L') (roundQ l R LN Y LX cX))] (zipT ps (e.args x h) T) (e.atoms x h ++ LI) (fun _ _ _ => False)) :
    VDoes P (yv l) (e.args x h) (e.atoms x h) [big (ob l (.loop R) :: LI)] Bool (fun _ => True) (fun b => .bool b)
      (fun b => [bif b then big (ob l (.loop R) :: LN) else ex fun y : Y => big (ob l (.loop { R with state := .done, pending := some (cX y) }) :: LX y)]) := by
  have hsz : (e.args x h).length = ps.length := Nat.eq_of_beq_eq_true hlen
  refine ⟨e.pers x h, fun F w hst => ⟨{ target := .fn (.yield l) #[], args := #[] ++ (e.args x h).toArray }, w, rfl, .inr ?_⟩⟩
  have hst1 : St w (ob l (.loop R) :: F :: (e.atoms x h ++ LI)) := by
    refine hst.ent ?_
    have e1 : Ent (F :: (e.atoms x h ++ [big (ob l (.loop R) :: LI)])) (F :: (big (ob l (.loop R) :: LI) :: e.atoms x h)) := Ent.cons ent_app_comm
    refine e1.trans ?_
    have e2 : Ent (F :: (big (ob l (.loop R) :: LI) :: e.atoms x h)) (F :: (ob l (.loop R) :: LI ++ e.atoms x h)) := Ent.cons ent_big
    refine e2.trans ?_
    refine Ent.swap.trans (Ent.cons (Ent.cons ent_app_comm))
  obtain ⟨hl, _⟩ := hst1.obj
  refine ⟨l, R.fn, ((ps.zip (e.args x h)).foldl (fun tmps (p : Nat × Value) => tmps.setIfInBounds p.1 p.2) tmps), asg, body, w, ?_, ?_⟩
  · have h0 : #[] ++ (e.args x h).toArray = (e.args x h).toArray := by simp
    rw [h0]
    simp only [invoke, Instr.yield, Sem.run_bind, run_getLoop hl, Result.andThen_ok]
    rw [hR1, hR2, hR3, hR4]
    simp only [List.size_toArray, hsz, ne_eq, not_true_eq_false, if_false, Sem.run_pure]
    have : (ps.toArray.zip (e.args x h).toArray).foldl (fun (tmps : Array Value) (x : Nat × Value) => match x with | (t, a) => tmps.setIfInBounds t a) tmps = (ps.zip (e.args x h)).foldl (fun (tmps : Array Value) (p : Nat × Value) => tmps.setIfInBounds p.1 p.2) tmps := by
      simp [List.zip_toArray]
    rw [← this]
  · refine roundIn_of_wpIn trivial ?_
    have hok0 : Ok (big [ob l (.loop R), F]) N T (e.atoms x h ++ LI) { tmps := tmps, defers := [] } w :=
      ⟨hN, hT, [], rfl, hst1.ent ((big_ent (A := [ob l (.loop R), F])).trans (big_ent (A := [_])))⟩
    have hok1 := Ok.zip ps (e.args x h) T tmps (ltAll_ok hps) hok0
    refine wpIn_mono (SK_code.1 round _ _ w hok1) ?_
    rintro e1 a1 w1 ⟨T1, L1, ok1, hq1⟩
    cases e1 with
    | normal =>
      simp only [postK] at hq1
      rw [SK] at hq1
      obtain ⟨D, hD, hm⟩ := ok1.mem
      have hm1 : St w1 (ob l (.loop R) :: F :: (D.map mkA ++ L1)) := by
        refine hm.ent ?_
        refine (ent_big (A := big [ob l (.loop R), F] :: D.map mkA)).trans ?_
        exact (ent_big (A := [ob l (.loop R), F]) (L := D.map mkA ++ L1))
      obtain ⟨hl1, _⟩ := hm1.obj
      have hm2 := hm1.setObj (z := .loop { R with state := .busy }) trivial
      have e2 : Ent (ob l (.loop { R with state := .busy }) :: F :: (D.map mkA ++ L1)) (F :: (D.map mkA ++ (ob l (.loop { R with state := .busy }) :: L1))) := by
        refine Ent.swap.trans (Ent.cons ?_)
        have : Ent (ob l (.loop { R with state := .busy }) :: (D.map mkA ++ L1)) ((D.map mkA ++ L1) ++ [ob l (.loop { R with state := .busy })]) := ent_app_comm (A := [_])
        refine this.trans ?_
        rw [List.append_assoc]
        exact Ent.app ent_app_comm
      refine ⟨_, ?_, wpIn_mono (SK_code.1 hq1 F a1 _ ⟨ok1.size, ok1.get, D, hD, hm2.ent (e2.trans (big_ent (A := F :: D.map mkA)))⟩) ?_⟩
      · simp only [Instr.beginRound, Sem.run_bind, run_getLoop hl1, run_setLoop hl1, Result.andThen_ok, hR5, Sem.run_pure]
      · rintro e2 a2 w2 ⟨T2, L2, ok2, hq2⟩
        obtain ⟨D2, hD2, hm2⟩ := ok2.mem
        have fin : ∀ {LL : List HP} (jump : Option Code), Ent L2 (busyA l R :: LL) → ∃ w', (Instr.endRound l jump).run P w2 = .ok (.bool jump.isNone) w' ∧
            St w' (F :: (ob l (.loop { R with state := if jump.isNone then .ready else .done, pending := jump }) :: LL)) := by
          intro LL jump he
          have h3 : St w2 (ob l (.loop { R with state := .busy }) :: F :: LL) := by
            refine (hm2.ent (Ent.cons he)).ent ?_
            refine Ent.swap.trans (Ent.cons ?_)
            refine (ent_big (A := F :: D2.map mkA)).trans ?_
            refine Ent.cons ?_
            have : ∀ (D : List Nat) (LL : List HP), Ent (D.map mkA ++ LL) LL := by
              intro D LL
              induction D with
              | nil => exact Ent.refl _
              | cons d D ih => exact Ent.drop.trans ih
            exact this D2 LL
          obtain ⟨hl3, _⟩ := h3.obj
          refine ⟨_, ?_, (h3.setObj (z := .loop { R with state := if jump.isNone then .ready else .done, pending := jump }) trivial).ent Ent.swap⟩
          simp only [Instr.endRound, Sem.run_bind, run_getLoop hl3, run_setLoop hl3, Result.andThen_ok, Sem.run_pure]
        cases e2 with
        | normal =>
          simp only [postK] at hq2; rw [SK] at hq2
          obtain ⟨w', hr, hs⟩ := fin none hq2
          refine ⟨_, w', hr, true, trivial, rfl, hs.ent (Ent.cons ?_)⟩
          have : ({ R with state := .ready, pending := none } : Loop) = R := by cases R; simp at hR5 hR6; simp [hR5, hR6]
          simp only [Option.isNone_none, if_true, this]
          have := big_ent (A := ob l (.loop R) :: LN) (L := [])
          simpa using this
        | ret =>
          obtain ⟨y, hy, he⟩ := hq2
          obtain ⟨w', hr, hs⟩ := fin (some .ret) he
          refine ⟨_, w', hr, false, trivial, rfl, hs.ent (Ent.cons ?_)⟩
          have := big_ent (A := ob l (.loop { R with state := .done, pending := some .ret }) :: LX y) (L := [])
          rw [List.append_nil] at this
          refine this.trans ?_
          rw [← hy]
          exact ent_ex (A := fun y : Y => big (ob l (.loop { R with state := .done, pending := some (cX y) }) :: LX y)) y
        | exit id =>
          simp only [postK, findK] at hq2
          obtain ⟨y, hy, he⟩ := hq2
          obtain ⟨w', hr, hs⟩ := fin (some (.exit id)) he
          refine ⟨_, w', hr, false, trivial, rfl, hs.ent (Ent.cons ?_)⟩
          have := big_ent (A := ob l (.loop { R with state := .done, pending := some (.exit id) }) :: LX y) (L := [])
          rw [List.append_nil] at this
          refine this.trans ?_
          rw [← hy]
          exact ent_ex (A := fun y : Y => big (ob l (.loop { R with state := .done, pending := some (cX y) }) :: LX y)) y
        | goto t => exact hq2.elim
        | panic c => exact hq2.elim
        | outgrown => exact hq2.elim
    | exit id => simp only [postK, findK] at hq1
    | goto t => exact hq1
    | ret => exact hq1
    | panic c => exact hq1
    | outgrown => exact hq1
theorem ent_of_swap {A : HP} {B C : List HP} : Ent (A :: (B ++ C)) (B ++ (A :: C)) := by
  have h : Ent (A :: (B ++ C)) ((B ++ C) ++ [A]) := ent_app_comm (A := [A])
  refine h.trans ?_
  rw [List.append_assoc]
  exact Ent.app ent_app_comm
theorem SK.range_core {α : Type} {e : Enc α} {xs : List α} {pers K0 Ke : List HP} {Kb : Nat → List HP} {f : FuncId} {caps : Array Value} (it : Iter P f caps.toList e xs pers K0 Kb Ke)
    (Y : Type) (LJ : Nat → List HP) (LX : Y → List HP) (cX : Y → Code) {fx : Operand} {ps : List Nat} {asg body : Code} (hf : evO T fx = some (.func (.func f) #[] caps)) (hp : HasAll pers L) (ho : Takes (LJ 0 ++ K0) L L1)
    (hps : ltAll N ps = true) (hlen : ∀ x h, Nat.beq (e.args x h).length ps.length = true)
    (round : ∀ (i : Nat) (x : α) (h : e.V) (l : Nat) (R : Loop), xs[i]? = some x →
      SK P (some l) N [.code asg, .inv (fun T' L' => SK P (some l) N [.code body] T' (busyA l R :: L') (roundQ l R (LJ (i + 1)) Y LX cX))] (zipT ps (e.args x h) T) (e.atoms x h ++ LJ i) (fun _ _ _ => False))
    (done : SK P rd N ks T (LJ xs.length ++ (Ke ++ L1)) Q)
    (stop : ∀ (y : Y) (i : Nat), i < xs.length → SK P rd N (.code (cX y) :: ks) T (LX y ++ (Kb i ++ L1)) Q)
    {G : HP} {a : Act} {w : World} (ok : Ok G N T L a w)
    (enter : ∀ fn, ∃ (l : Nat) (mk : List Deferred) (w1 : World) (R : Loop) (D : List Nat),
      (Instr.enterLoop fn a.tmps ps.toArray asg body rd).run P w = .ok (l, mk) w1 ∧ mk ++ a.defers = D.map mark ∧ R.params = ps.toArray ∧ R.assign = asg ∧ R.body = body ∧ R.tmps = a.tmps ∧ R.state = .ready ∧ R.pending = none ∧
      St w1 (big (G :: D.map mkA) :: ob l (.loop R) :: L)) :
    (Code.rangeFunc fx ps.toArray asg body).wpIn (FW rd) 0 P (lift G N (postK P rd N ks Q)) a w := by
  refine wpIn_rangeFunc fun fn hfn => ?_
  obtain ⟨l, mk, w1, R, D, hr, hmk, hR1, hR2, hR3, hR4, hR5, hR6, hst⟩ := enter fn
  have hkn := ok.knows
  let J : Nat → HP := fun i => big (ob l (.loop R) :: LJ i)
  let Jx : Nat → HP := fun _ => ex fun y : Y => big (ob l (.loop { R with state := .done, pending := some (cX y) }) :: LX y)
  have hit := it l J Jx (fun i x h hx => by
    have := yield_does (P := P) (N := N) (T := T) (e := e) (x := x) (h := h) (LI := LJ i) (LN := LJ (i + 1)) (LX := LX) (cX := cX) hR1 hR2 hR3 hR4 hR5 hR6 ok.get ok.size hps (hlen x h) (round i x h l R hx)
    exact this)
  have hst1 : St w1 (big (big (G :: D.map mkA) :: L1) :: (pers ++ (J 0 :: K0))) := by
    refine hst.ent ?_
    have e1 : Ent L (pers ++ ((LJ 0 ++ K0) ++ L1)) := (hp.ent hit.hpers).trans (Ent.app ho.ent)
    refine (Ent.cons (Ent.cons e1)).trans ?_
    have e2 : Ent (ob l (.loop R) :: (pers ++ ((LJ 0 ++ K0) ++ L1))) (L1 ++ (pers ++ (J 0 :: K0))) := by
      have e3 : Ent (ob l (.loop R) :: (pers ++ ((LJ 0 ++ K0) ++ L1))) (pers ++ (ob l (.loop R) :: ((LJ 0 ++ K0) ++ L1))) := ent_of_swap
      refine e3.trans ?_
      have e4 : Ent (ob l (.loop R) :: ((LJ 0 ++ K0) ++ L1)) ((J 0 :: K0) ++ L1) := by
        rw [List.append_assoc]
        exact big_ent (A := ob l (.loop R) :: LJ 0) (L := K0 ++ L1)
      refine (Ent.app e4).trans ?_
      rw [← List.append_assoc]
      exact ent_app_comm
    refine (Ent.cons e2).trans ?_
    exact big_ent (A := big (G :: D.map mkA) :: L1)
  refine ⟨l, mk, w1, { target := .fn (.func f) caps, args := #[] ++ #[yv l] }, w1, f, #[yv l] ++ caps, w1, hr, ?_, fun _ _ => trivial, ?_, fun h => by simp [Fence.wide] at h, ?_⟩
  · simp only [resolve, hkn _ _ hf]
    simp [Act.eval, Deferred.ofValue]
  · have := hit.entry (#[yv l] ++ caps) w1
    simpa [invoke] using this
  · have hc := hit.calls _ w1 hst1
    have hargs : (yv l :: caps.toList).toArray = #[yv l] ++ caps := by cases caps; simp
    rw [hargs, ← callsIn_wide (n := 0)] at hc
    refine ⟨trivial, fun cs hroom => ?_⟩
    obtain ⟨ee, w', fr, ⟨o, ho', rfl, hs⟩, rest⟩ := hc.2 cs hroom
    refine ⟨.returned (.tuple #[]), w', fr, ?_, rest⟩
    have fin : ∀ (R' : Loop) (L' : List HP), R'.state ≠ .busy → St w' (big (big (G :: D.map mkA) :: L1) :: ob l (.loop R') :: L') →
        ∃ w4, (Instr.endLoop l).run P w' = .ok R'.pending w4 ∧ St w4 (big (G :: D.map mkA) :: (L' ++ L1)) := by
      intro R' L' hb hs
      have h1 : St w' (ob l (.loop R') :: big (big (G :: D.map mkA) :: L1) :: L') := hs.ent Ent.swap
      obtain ⟨hl, _⟩ := h1.obj
      refine ⟨_, ?_, ((h1.setObj (z := .loop { R' with state := .exhausted }) trivial).ent Ent.drop).ent ?_⟩
      · simp only [Instr.endLoop, Sem.run_bind, run_getLoop hl, Result.andThen_ok]
        have : (R'.state == LoopState.busy) = false := by cases hh : R'.state <;> simp_all
        simp only [this, Bool.false_eq_true, if_false, Sem.run_pure, Sem.run_bind, run_setLoop hl, Result.andThen_ok]
      · refine (ent_big (A := big (G :: D.map mkA) :: L1) (L := L')).trans ?_
        exact Ent.cons ent_app_comm
    cases o with
    | none =>
      have h2 : St w' (big (big (G :: D.map mkA) :: L1) :: ob l (.loop R) :: (LJ xs.length ++ Ke)) := by
        refine hs.ent (Ent.cons ?_)
        exact ent_big (A := ob l (.loop R) :: LJ xs.length) (L := Ke)
      obtain ⟨w4, hr4, hs4⟩ := fin R _ (by rw [hR5]; simp) h2
      refine ⟨none, w4, by rw [hr4, hR6], ?_⟩
      rw [List.append_assoc] at hs4
      exact ⟨T, _, ⟨ok.size, ok.get, D, by rw [← hmk], hs4⟩, done⟩
    | some i =>
      have h2 := hs.ent Ent.swap
      obtain ⟨y, h2⟩ := St.ex h2
      have h3 : St w' (big (big (G :: D.map mkA) :: L1) :: ob l (.loop { R with state := .done, pending := some (cX y) }) :: (LX y ++ Kb i)) := by
        refine (h2.ent Ent.swap).ent (Ent.cons ?_)
        exact ent_big (A := ob l (.loop { R with state := .done, pending := some (cX y) }) :: LX y) (L := Kb i)
      obtain ⟨w4, hr4, hs4⟩ := fin _ _ (by simp) h3
      refine ⟨some (cX y), w4, hr4, ?_⟩
      rw [List.append_assoc] at hs4
      exact (SK_code.1 (stop y i (ho' i rfl))) G _ w4 ⟨ok.size, ok.get, D, by rw [← hmk], hs4⟩
theorem SK.range {α : Type} {e : Enc α} {xs : List α} {pers K0 Ke : List HP} {Kb : Nat → List HP} {f : FuncId} {caps : Array Value} (it : Iter P f caps.toList e xs pers K0 Kb Ke)
    (Y : Type) (LJ : Nat → List HP) (LX : Y → List HP) (cX : Y → Code) {fx : Operand} {ps : List Nat} {asg body : Code} (hf : evO T fx = some (.func (.func f) #[] caps)) (hp : HasAll pers L) (ho : Takes (LJ 0 ++ K0) L L1)
    (hps : ltAll N ps = true) (hlen : ∀ x h, Nat.beq (e.args x h).length ps.length = true)
    (round : ∀ (i : Nat) (x : α) (h : e.V) (l : Nat) (R : Loop), xs[i]? = some x →
      SK P (some l) N [.code asg, .inv (fun T' L' => SK P (some l) N [.code body] T' (busyA l R :: L') (roundQ l R (LJ (i + 1)) Y LX cX))] (zipT ps (e.args x h) T) (e.atoms x h ++ LJ i) (fun _ _ _ => False))
    (done : SK P none N ks T (LJ xs.length ++ (Ke ++ L1)) Q)
    (stop : ∀ (y : Y) (i : Nat), i < xs.length → SK P none N (.code (cX y) :: ks) T (LX y ++ (Kb i ++ L1)) Q) :
    SK P none N (.code (.rangeFunc fx ps.toArray asg body) :: ks) T L Q := by
  rw [SK_code]
  intro G a w ok
  refine SK.range_core it Y LJ LX cX hf hp ho hps hlen round done stop ok fun fn => ?_
  obtain ⟨D, hD, hm⟩ := ok.mem
  have h1 := hm.allocObj (.deferred (some [])) trivial
  have h2 := h1.allocObj (.loop { state := .ready, pending := none, fn := fn, tmps := a.tmps, params := ps.toArray, assign := asg, body := body, defers := w.heap.size }) trivial
  refine ⟨_, _, _, { state := .ready, pending := none, fn := fn, tmps := a.tmps, params := ps.toArray, assign := asg, body := body, defers := w.heap.size }, w.heap.size :: D, by simp only [Instr.enterLoop, newObj, bind, Sem.bind, Sem.run, pure]; rfl, ?_, rfl, rfl, rfl, rfl, rfl, rfl, h2.ent ?_⟩
  · rw [hD]; rfl
  ·
    refine Ent.swap.trans ?_
    have : Ent (ob w.heap.size (.deferred (some [])) :: big (G :: D.map mkA) :: L) (big (G :: (w.heap.size :: D).map mkA) :: L) := by
      refine (Ent.cons ent_big).trans ?_
      show Ent (mkA w.heap.size :: G :: (D.map mkA ++ L)) _
      refine Ent.swap.trans ?_
      exact big_ent (A := G :: (w.heap.size :: D).map mkA)
    refine (Ent.cons (Ent.refl _)).trans ?_
    refine Ent.swap.trans ?_
    refine (Ent.cons this).trans Ent.swap
end
end Go.Sl

set_option linter.unusedVariables false
set_option linter.unusedSectionVars false
namespace Go.Sl
section
variable {P : Program} [tb : Tab P] {rd : Option Nat} {N : Nat} {T : TT} {L L' L1 L2 : List HP} {Q : Post} {ks : List K}
variable {all : Array Oper} {rest : List Oper} {ty : TypeId} {pos : String} {aft : Array Edge} {d : Option Tmp} {α : Type} {ρ : Rep α}
def buildSV (T : TT) (sz : Nat) : List Value → List (Nat × Operand) → Option (List Value)
  | cs, [] => some cs
  | cs, (i, x) :: ps => match evO T x with
      | some v => bif Nat.beq v.cells.toList.length sz && Nat.ble (i * sz + sz) cs.length then buildSV T sz (lay cs (i * sz) v.cells.toList) ps else none
      | none => none
theorem fillS_ok {sz : Nat} {ρ : Operand → Value} (hρ : Knows T ρ) :
    ∀ (ps : List (Nat × Operand)) (cs : List Value) (us : Array Value) (r : List Value), us.toList = cs → buildSV T sz cs ps = some r → Instr.fill (fun i => some (i * sz, sz)) us (ps.map fun p => (p.1, ρ p.2)) = some r.toArray
  | [], cs, us, r, hus, h => by simp only [buildSV] at h; cases h; subst hus; simp [Instr.fill]
  | (i, x) :: ps, cs, us, r, hus, h => by
    simp only [buildSV] at h
    split at h
    · rename_i v hv
      cases hb : (Nat.beq v.cells.toList.length sz && Nat.ble (i * sz + sz) cs.length) with
      | false => rw [hb] at h; cases h
      | true =>
        rw [hb] at h
        simp only [cond_true] at h
        rw [Bool.and_eq_true] at hb
        have h1 := Nat.eq_of_beq_eq_true hb.1
        have h2 := Nat.le_of_ble_eq_true hb.2
        simp only [List.map_cons, Instr.fill, hρ _ _ hv]
        have h1' : v.cells.size = sz := by simpa using h1
        have h2' : us.size = cs.length := by rw [← hus]; simp
        rw [if_neg (by rw [h1', h2']; simp; omega)]
        refine fillS_ok hρ ps _ _ r ?_ h
        rw [← hus, ← fold_lay, ← Array.toList_zipIdx, Array.foldl_toList]
    · cases h
def zeros (z : List Value) : Nat → List Value
  | 0 => []
  | n + 1 => z ++ zeros z n
theorem zeros_length (z : List Value) : ∀ n, (zeros z n).length = n * z.length
  | 0 => by simp [zeros]
  | n + 1 => by simp [zeros, zeros_length z n, Nat.add_mul, Nat.add_comm]
theorem zeros_get (z : List Value) : ∀ (n i : Nat), i < n * z.length → (zeros z n)[i]? = z[i % z.length]?
  | 0, i, h => by simp at h
  | n + 1, i, h => by
    simp only [zeros]
    rcases Nat.lt_or_ge i z.length with hi | hi
    · rw [List.getElem?_append_left hi, Nat.mod_eq_of_lt hi]
    · rw [List.getElem?_append_right hi, zeros_get z n (i - z.length) (by rw [Nat.add_mul] at h; omega), Nat.mod_eq_sub_mod hi]
theorem range_zeros (z : Array Value) (n : Nat) (hz : 0 < z.size) : ((Array.range (n * z.size)).map (z[· % z.size]!)).toList = zeros z.toList n := by
  apply List.ext_getElem?
  intro i
  rcases Nat.lt_or_ge i (n * z.size) with h | h
  · rw [zeros_get _ _ _ (by simpa using h)]
    have hm : i % z.size < z.size := Nat.mod_lt _ hz
    simp [h, getElem!_pos z (i % z.size) hm, Array.getElem?_eq_getElem hm]
  · rw [List.getElem?_eq_none (by simpa using h), List.getElem?_eq_none (by rw [zeros_length]; simpa using h)]
theorem SO.buildSlice {t e len sz n1 n2 b1 : Nat} {z z2 : Value} {ke : TK} {ps : List (Nat × Operand)} {cs : List Value} (ht : tget tb.tab t = some ⟨.sl e, n1, n2, z⟩) (hte : tget tb.tab e = some ⟨ke, sz + 1, b1, z2⟩)
    (hz : Nat.beq z2.cells.toList.length (sz + 1) = true) (hb : buildSV T (sz + 1) (zeros z2.cells.toList len) ps = some cs) (hbig : Nat.ble (len * (sz + 1)) 16777216 = true) (hd : dstOk N d = true)
    (kk : ∀ b, SO P rd N all rest (putD d (.slice (some ⟨b, 0, none⟩) len len) T) (pts b 0 cs :: L) ks Q) : SO P rd N all (⟨d, .buildSlice t len ps.toArray, ty, pos, aft, none⟩ :: rest) T L ks Q := by
  refine SO.run (R := fun v L2 => ∃ b, v = .slice (some ⟨b, 0, none⟩) len len ∧ L2 = pts b 0 cs :: L) rfl rfl hd ?_ (by rintro _ _ ⟨b, rfl, rfl⟩; exact kk b)
  intro q hq F w hst
  have hk := (tab_ok ht).k
  simp only [TK.ok] at hk
  have hs := sizeOf_ok (tab_ok hte) w
  have hzz := zero_ok (tab_ok hte) w
  simp only at hs hzz
  have hzs : z2.cells.size = sz + 1 := by have := Nat.eq_of_beq_eq_true hz; simpa using this
  have hfill := fillS_ok hq ps (zeros z2.cells.toList len) ((Array.range (len * z2.cells.size)).map (z2.cells[· % z2.cells.size]!)) cs (range_zeros _ _ (by omega)) hb
  rw [hzs] at hfill
  have hbig := Nat.le_of_ble_eq_true hbig
  refine ⟨_, _, _, .inl ?_, ⟨w.heap.size, rfl, rfl⟩, ((hst.alloc cs.toArray e).ent Ent.swap)⟩
  simp only [execOp, Instr.buildSlice, Sem.run_bind, run_und hk, Result.andThen_ok, hs]
  rw [if_neg (by simp; omega)]
  by_cases h0 : len = 0
  · subst h0
    have he : (Array.range (0 * (sz + 1))).map (z2.cells[· % (sz + 1)]!) = #[] := by simp
    rw [he] at hfill
    have he2 : ∀ f : Nat → Value, (Array.range (0 * (sz + 1))).map f = #[] := by simp
    simp only [Nat.zero_mul, if_true, Sem.run_pure, Result.andThen_ok, Sem.run_bind, List.map_toArray]
    rw [Nat.zero_mul] at he2
    rw [he2, hfill]
    rfl
  · have : ¬ (len * (sz + 1) = 0) := by intro h; rcases Nat.mul_eq_zero.1 h with h | h <;> omega
    simp only [this, if_false, Sem.run_bind, hzz, Result.andThen_ok, Sem.run_pure, List.map_toArray, hzs]
    rw [hfill]
    rfl
def Src (ρ : Rep α) (L : List HP) (B : Option Addr) (m : Nat) (ys : List α) : Prop :=
  ∀ F w, St w (F :: L) → m = ys.length ∧ (B = none → ys = []) ∧ ∀ b, B = some b → (m ≠ 0 → b.spot = none) ∧ ∃ z : List (α × ρ.V), z.map (·.1) = ys ∧ (∀ j v, (flat ρ z)[j]? = some v → w.cell? ⟨b.block, b.off + j, none⟩ = some v) ∧ St w (memA ρ z :: F :: L)
theorem Src.sl {A : Option Addr} {n : Nat} {l : List α} (h : Has (slAt ρ A n l) L) : Src ρ L A n l := by
  intro F w hst
  obtain ⟨h0, h1, h2, h3⟩ := sl_open ((hst.ent (Ent.cons (h.ent (pers_slAt _ _ _ _)))).ent Ent.swap)
  refine ⟨h0, h2, fun b hb => ?_⟩
  obtain ⟨hs, z, hz, hst2⟩ := h3 b hb
  exact ⟨hs, z, hz, fun j v hj => hst2.rcell hj, hst2.ent Ent.drop⟩
theorem Src.one {b : Nat} {cs : List Value} {x : α} {h : ρ.V} (ht : Take (pts b 0 cs) L L') (he : ρ.cells x h = cs) (ha : HasAll (ρ.atoms x h) L) : Src ρ L (some ⟨b, 0, none⟩) 1 [x] := by
  intro F w hst
  refine ⟨rfl, (fun h => by cases h), fun b' hb => ?_⟩
  cases hb
  have h2 : St w (pts b 0 cs :: F :: L') := (hst.ent (Ent.cons ht.ent)).ent Ent.swap
  have hf : flat ρ [(x, h)] = cs := by simp [flat, he]
  refine ⟨fun _ => rfl, [(x, h)], rfl, fun j v hj => ?_, ?_⟩
  · rw [hf] at hj
    have := (h2.cell hj).1
    exact this
  · have h3 : St w (ρ.atoms x h ++ (F :: L)) := by
      refine hst.ent ?_
      refine (Ent.cons (ha.ent (ρ.pers x h))).trans ?_
      exact ent_of_swap
    obtain ⟨r, o, s, hL⟩ := h3
    have h4 := (big_ent (A := ρ.atoms x h) (L := F :: L)) r o hL
    obtain ⟨a, b2, d2, le, hA, hL2⟩ := h4
    have : seps (ρ.atoms x h) r (fun _ _ => none) := by
      have : ∀ (L : List HP), (∀ A ∈ L, Pers A) → ∀ o, seps L r o → seps L r (fun _ _ => none) := by
        intro L
        induction L with
        | nil => intros; trivial
        | cons A L ih =>
          rintro hp o ⟨a, b, d, le, hA, hL⟩
          exact ⟨_, _, fun _ _ => .inl rfl, none_add, hp A (by simp) _ _ hA, ih (fun B hB => hp B (by simp [hB])) _ hL⟩
      exact this _ (ρ.pers x h) _ hA
    refine ⟨r, o, s, fun _ _ => none, o, fun _ _ => .inl rfl, none_add, ?_, seps_up (Ro.le_refl _) (Own.le_trans (Own.le_add_right d2) le) hL2⟩
    intro i y k hy
    cases i with
    | zero => simp at hy; obtain ⟨rfl, rfl⟩ := hy; exact this
    | succ i => simp at hy
theorem memS_append {z1 z2 : List (α × ρ.V)} {r : Ro} (h1 : memS ρ z1 r) (h2 : memS ρ z2 r) : memS ρ (z1 ++ z2) r := by
  intro i x h e
  rcases Nat.lt_or_ge i z1.length with hi | hi
  · rw [List.getElem?_append_left hi] at e; exact h1 i x h e
  · rw [List.getElem?_append_right hi] at e; exact h2 _ x h e
theorem memA_append {z1 z2 : List (α × ρ.V)} : Ent (memA ρ z1 :: memA ρ z2 :: L) (memA ρ (z1 ++ z2) :: L) := by
  rintro r o ⟨a, b, d, le, h1, a2, b2, d2, le2, h2, hL⟩
  exact ⟨fun _ _ => none, o, fun _ _ => .inl rfl, none_add, memS_append h1 h2, seps_up (Ro.le_refl _) (Own.le_trans (Own.le_add_right d2) (Own.le_trans le2 (Own.le_trans (Own.le_add_right d) le))) hL⟩
theorem nextcap_le (need old : Nat) (h : old < need) : Builtin.nextslicecap need old ≤ 2 * need + 2000 := by
  unfold Builtin.nextslicecap
  split
  · omega
  · split
    · omega
    · have key : ∀ (k c : Nat), c ≤ need + need / 2 + 192 * 4 → Builtin.growBy need k c ≤ 2 * need + 2000 := by
        intro k
        induction k with
        | zero => intro c hc; simp only [Builtin.growBy]; omega
        | succ k ih =>
          intro c hc
          simp only [Builtin.growBy]
          split
          · omega
          · exact ih _ (by omega)
      exact key 4 old (by omega)
theorem run_first {w : World} {b : Addr} (hs : b.spot = none) {cs : List Value} {n sz c : Nat} (hl : cs.length = n * sz) (h : ∀ j v, cs[j]? = some v → w.cell? ⟨b.block, b.off + j, none⟩ = some v) {k : Nat} :
    (Builtin.firstCells sz n (.slice (some b) k c)).run P w = .ok cs.toArray w := by
  simp only [Builtin.firstCells, loadCells]
  rw [addr_eta hs, ← hl]
  have := loadCells_ok (P := P) (w := w) (b := b.block) (off := b.off) cs 0 #[] (fun j v hj => by have := h j v hj; simpa using this)
  simpa using this
theorem run_first' {w : World} {b : Addr} {cs : List Value} {n sz c : Nat} (hs : n ≠ 0 → b.spot = none) (hl : cs.length = n * sz) (h : ∀ j v, cs[j]? = some v → w.cell? ⟨b.block, b.off + j, none⟩ = some v) {k : Nat} :
    (Builtin.firstCells sz n (.slice (some b) k c)).run P w = .ok cs.toArray w := by
  by_cases hn : n = 0
  · subst hn
    have : cs = [] := List.length_eq_zero_iff.1 (by omega)
    subst this
    simp [Builtin.firstCells, loadCells]
    rfl
  · exact run_first (hs hn) hl h
theorem zeroCells_len (z : Array Value) (n : Nat) : (Builtin.zeroCells z n).size = n * z.size := by simp [Builtin.zeroCells]
theorem eadr_base {a : Addr} (hs : a.spot = none) (k : Nat) : a.add k = ⟨a.block, a.off + k, none⟩ := by
  rw [addr_eta hs]; simp only [Addr.add]; split <;> simp_all
theorem runs_append {w : Bool} {A B : Option Addr} {n c m c2 t t2 e e2 sz n1 n2 n3 n4 b1 : Nat} {z z2 z3 : Value} {ke : TK} {l ys : List α} (hs : Take (sqAt w ρ A n c l) L L1) (src : Src ρ L B m ys)
    (ht : tget tb.tab t = some ⟨.sl e, n1, n2, z⟩) (ht2 : tget tb.tab t2 = some ⟨.sl e2, n3, n4, z3⟩) (hte : tget tb.tab e = some ⟨ke, sz, b1, z2⟩) (hzz : Nat.beq z2.cells.toList.length sz = true) (hsz : Nat.beq ρ.sz sz = true)
    (hlim : n + m ≤ lim) (hb : Nat.ble b1 32768 = true) {F : HP} {W : World} (hst : St W (F :: L)) (ty : TypeId) :
    ∃ A' c' W', (Builtin.append_ #[t, t2] ty #[.slice A n c, .slice B m c2]).run P W = .ok (.slice A' (n + m) c') W' ∧ St W' (F :: sqAt w ρ A' (n + m) c' (l ++ ys) :: L1) := by
  have hk := (tab_ok ht).k
  have hk2 := (tab_ok ht2).k
  simp only [TK.ok] at hk hk2
  have hsize := fun w => sizeOf_ok (tab_ok hte) w
  have hzero := fun w => zero_ok (tab_ok hte) w
  obtain ⟨ti, hti0, htib⟩ := info_ok (tab_ok hte) W
  have hti : ∀ w, (typeInfo e).run P w = .ok ti w := by
    intro w
    obtain ⟨i, hi, _⟩ := (tab_ok hte).info
    have h1 : (typeInfo e).run P w = .ok i w := by simp [typeInfo, program, Sem.run, bind, Sem.bind, hi, pure]
    have h2 : (typeInfo e).run P W = .ok i W := by simp [typeInfo, program, Sem.run, bind, Sem.bind, hi, pure]
    rw [h2] at hti0; cases hti0; exact h1
  simp only at hsize hzero htib
  have hsz := Nat.eq_of_beq_eq_true hsz
  subst hsz
  have hzs : z2.cells.size = ρ.sz := by have := Nat.eq_of_beq_eq_true hzz; simpa using this
  have hb := Nat.le_of_ble_eq_true hb
  have hsp := ρ.pos
  obtain ⟨hm, hB0, hB⟩ := src F W hst
  have hst1 : St W (sqAt w ρ A n c l :: F :: L1) := (hst.ent (Ent.cons hs.ent)).ent Ent.swap
  obtain ⟨hn, hnl, hnc, hA0⟩ := (fun (h : St W (sqAt w ρ A n c l :: F :: L1)) => let ⟨r, o, s, x, y, d, le, hA, hL⟩ := h; (⟨hA.1, hA.2.1, hA.2.2.1, hA.2.2.2.1⟩ : n = l.length ∧ n ≤ lim ∧ n ≤ c ∧ (A = none → l = [] ∧ c = 0))) hst1
  obtain ⟨zn, hzn, hfirst, hstn⟩ : ∃ zn : List (α × ρ.V), zn.map (·.1) = ys ∧ (∀ k w', (∀ b v j, W.cell? ⟨b, j, none⟩ = some v → w'.cell? ⟨b, j, none⟩ = some v) → (Builtin.firstCells ρ.sz m (.slice B k c2)).run P w' = .ok (flat ρ zn).toArray w') ∧ St W (memA ρ zn :: F :: L) := by
    cases hBB : B with
    | none =>
      have hy := hB0 hBB
      subst hy
      refine ⟨[], rfl, fun k w' _ => rfl, ?_⟩
      obtain ⟨r, o, s, hL⟩ := hst
      exact ⟨r, o, s, fun _ _ => none, o, fun _ _ => .inl rfl, none_add, (fun i x h e => by simp at e), hL⟩
    | some b =>
      obtain ⟨hbs, zn, h1, h2, h3⟩ := hB b hBB
      refine ⟨zn, h1, fun k w' hw => ?_, h3⟩
      exact run_first' hbs (by rw [flat_length, hm, ← h1]; simp) (fun j v hj => hw _ _ _ (h2 j v hj))
  have hfl : (flat ρ zn).length = m * ρ.sz := by rw [flat_length, hm, ← hzn]; simp
  have hone : ∀ v ∈ flat ρ zn, one v = true := by
    have : ∀ (z : List (α × ρ.V)), ∀ v ∈ flat ρ z, one v = true := by
      intro z
      induction z with
      | nil => intro v hv; simp [flat] at hv
      | cons p z ih =>
        obtain ⟨x, h⟩ := p
        intro v hv
        simp only [flat, List.mem_append] at hv
        rcases hv with hv | hv
        · exact ρ.one x h v hv
        · exact ih v hv
    exact this zn
  have hst2 : St W (sqAt w ρ A n c l :: memA ρ zn :: F :: L1) := by
    refine hstn.ent ?_
    refine (Ent.cons (Ent.cons hs.ent)).trans ?_
    refine (Ent.cons Ent.swap).trans Ent.swap
  have hlen : l.length + ys.length = n + m := by omega
  by_cases hroom : n + m ≤ c
  ·
    cases hAA : A with
    | none =>
      obtain ⟨rfl, rfl⟩ := hA0 hAA
      have hn0 : n = 0 := by omega
      have hm0 : m = 0 := by omega
      subst hn0 hm0
      have hz0 : zn = [] := by cases zn with
        | nil => rfl
        | cons a l => rw [← hzn] at hm; simp at hm
      subst hz0
      have hy : ys = [] := by rw [← hzn]; rfl
      subst hy
      refine ⟨none, 0, W, ?_, ?_⟩
      · simp [Builtin.append_, run_und hk, run_und hk2, hsize, Builtin.lenOf, hfirst 0 W (fun _ _ _ h => h), flat]
      · subst hAA
        exact ((hst2.ent (Ent.cons Ent.drop)).ent Ent.swap)
    | some a =>
      subst hAA
      obtain ⟨_, _, _, has, zo, sp, hzo, hspl, hst3⟩ := sq_open hst2
      have hmc : m * ρ.sz ≤ sp.length := by rw [hspl]; exact Nat.mul_le_mul_right _ (by omega)
      have hst4 : St W (pts a.block (a.off + n * ρ.sz) sp :: headA w a.block a.off (flat ρ zo) :: memA ρ zo :: memA ρ zn :: F :: L1) := hst3.ent Ent.swap
      rcases storeCells_ok (P := P) (A := pr True) (i := 0) (flat ρ zn) sp W 0 0 hst4 hone (by omega) with ⟨W', hr, hst5⟩ | h
      · have hlay : lay sp 0 (flat ρ zn) = flat ρ zn ++ sp.drop (m * ρ.sz) := by
          have : ∀ (cs us : List Value), cs.length ≤ us.length → lay us 0 cs = cs ++ us.drop cs.length := by
            intro cs
            induction cs with
            | nil => intro us _; simp [lay]
            | cons c cs ih =>
              intro us hu
              cases us with
              | nil => simp at hu
              | cons u us => simp only [lay, List.length_cons, List.drop_succ_cons, List.cons_append]; rw [ih us (by simpa using hu)]
          rw [this _ _ (by omega), hfl]
        rw [hlay] at hst5
        have hst6 := hst5.ent pts_split
        rw [hfl] at hst6
        refine ⟨some a, c, W', ?_, ?_⟩
        · have e1 : a.off + n * ρ.sz + 0 - 0 = a.off + n * ρ.sz := by omega
          rw [e1] at hr
          simp [Builtin.append_, Builtin.lenOf, hroom, eadr_base has, run_und hk, run_und hk2, hsize]
          rw [hfirst m W (fun _ _ _ h => h)]
          simp [hr]
        ·
          have hst7 : St W' (headA w a.block a.off (flat ρ (zo ++ zn)) :: pts a.block (a.off + (n + m) * ρ.sz) (sp.drop (m * ρ.sz)) :: memA ρ (zo ++ zn) :: F :: L1) := by
            have hoff : a.off + n * ρ.sz + m * ρ.sz = a.off + (n + m) * ρ.sz := by rw [Nat.add_mul]; omega
            rw [hoff] at hst6
            have hzl : (flat ρ zo).length = n * ρ.sz := by rw [flat_length, hn, ← hzo]; simp
            cases w with
            | true =>
              have h1 : St W' (pts a.block a.off (flat ρ zo) :: pts a.block (a.off + (flat ρ zo).length) (flat ρ zn) :: pts a.block (a.off + (n + m) * ρ.sz) (sp.drop (m * ρ.sz)) :: memA ρ zo :: memA ρ zn :: F :: L1) := by
                rw [hzl]
                exact hst6.ent ((Ent.cons Ent.swap).trans Ent.swap)
              have h2 := h1.ent pts_join
              rw [← flat_append] at h2
              exact h2.ent (Ent.cons (Ent.cons memA_append))
            | false =>
              have h1 := hst6.publish
              have h2 : St W' (rod a.block a.off (flat ρ zo) :: rod a.block (a.off + (flat ρ zo).length) (flat ρ zn) :: pts a.block (a.off + (n + m) * ρ.sz) (sp.drop (m * ρ.sz)) :: memA ρ zo :: memA ρ zn :: F :: L1) := by
                rw [hzl]
                exact h1.ent ((Ent.cons Ent.swap).trans Ent.swap)
              have h3 : Ent (rod a.block a.off (flat ρ zo) :: rod a.block (a.off + (flat ρ zo).length) (flat ρ zn) :: pts a.block (a.off + (n + m) * ρ.sz) (sp.drop (m * ρ.sz)) :: memA ρ zo :: memA ρ zn :: F :: L1)
                  (rod a.block a.off (flat ρ (zo ++ zn)) :: pts a.block (a.off + (n + m) * ρ.sz) (sp.drop (m * ρ.sz)) :: memA ρ (zo ++ zn) :: F :: L1) := by
                rintro r o ⟨x, y, d, le, hx, x2, y2, d2, le2, hx2, hL⟩
                refine (Ent.cons (Ent.cons memA_append)) r o ⟨fun _ _ => none, o, fun _ _ => .inl rfl, none_add, ?_, seps_up (Ro.le_refl _) (Own.le_trans (Own.le_add_right d2) (Own.le_trans le2 (Own.le_trans (Own.le_add_right d) le))) hL⟩
                intro i v hv
                rw [flat_append] at hv
                rcases Nat.lt_or_ge i (flat ρ zo).length with hi | hi
                · rw [List.getElem?_append_left hi] at hv; exact hx i v hv
                · rw [List.getElem?_append_right hi] at hv
                  have := hx2 _ _ hv
                  rwa [show a.off + (flat ρ zo).length + (i - (flat ρ zo).length) = a.off + i by omega] at this
              exact h2.ent h3
          have := sq_shut (w := w) (L := F :: L1) (a := a) (c := c) (z := zo ++ zn) (sp := sp.drop (m * ρ.sz)) (n := n + m) (l := l ++ ys) (by simp; omega) hlim hroom has (by simp [hzo, hzn]) (by rw [List.length_drop, hspl, ← Nat.sub_mul]; congr 1; omega)
          exact (hst7.ent this).ent Ent.swap
      · exact absurd h (by omega)
  ·
    have hold : ∃ zo : List (α × ρ.V), zo.map (·.1) = l ∧ (∀ w', (∀ b v j, W.cell? ⟨b, j, none⟩ = some v → w'.cell? ⟨b, j, none⟩ = some v) → (Builtin.firstCells ρ.sz n (.slice A n c)).run P w' = .ok (flat ρ zo).toArray w') ∧
        St W (memA ρ zo :: memA ρ zn :: F :: L1) := by
      cases hAA : A with
      | none =>
        obtain ⟨rfl, rfl⟩ := hA0 hAA
        obtain ⟨r, o, s, hL⟩ := hst2.ent Ent.drop
        exact ⟨[], rfl, fun w' _ => rfl, r, o, s, fun _ _ => none, o, fun _ _ => .inl rfl, none_add, (fun i x h e => by simp at e), hL⟩
      | some a =>
        subst hAA
        obtain ⟨_, _, _, has, zo, sp, hzo, hspl, hst3⟩ := sq_open hst2
        refine ⟨zo, hzo, fun w' hw => ?_, (hst3.ent Ent.drop).ent Ent.drop⟩
        refine run_first has (by rw [flat_length, hn, ← hzo]; simp) (fun j v hj => hw _ _ _ ?_)
        cases w with
        | true => exact (St.cell hst3 hj).1
        | false => exact St.rcell hst3 hj
    obtain ⟨zo, hzo, hofirst, hst3⟩ := hold
    have hzl : (flat ρ zo).length = n * ρ.sz := by rw [flat_length, hn, ← hzo]; simp
    have hno : ¬ (((n + m : Nat) : Int) > IntKind.i64.max ∧ (false = true ∨ ti.bytes = 0)) := by
      rintro ⟨h, _⟩
      have : IntKind.i64.max = 9223372036854775807 := by decide
      rw [this] at h; simp only [lim] at hlim; omega
    have hcap : ¬ (Builtin.nextslicecap (n + m) c * ti.bytes > 2 ^ 48) := by
      have h1 := nextcap_le (n + m) c (by omega)
      have h2 : Builtin.nextslicecap (n + m) c * ti.bytes ≤ (2 * (n + m) + 2000) * 32768 := Nat.mul_le_mul h1 (by rw [htib]; exact hb)
      have h3 : (2 * (n + m) + 2000) * 32768 ≤ (2 * 2147483648 + 2000) * 32768 := Nat.mul_le_mul_right _ (by simp only [lim] at hlim; omega)
      intro h
      have h4 := Nat.lt_of_lt_of_le h (Nat.le_trans h2 h3)
      omega
    let cap := (Question.appendCap (n + m) c e).cut (W.tape W.drawn (.appendCap (n + m) c e))
    have hcap1 : n + m ≤ cap := by simp only [cap, Question.cut]; omega
    have hmark : ∀ (k : Nat) (w : World), (askRoom k).run P w = .ok () w := by
      intro k w; unfold askRoom; split <;> rfl
    have hchoose : (choose (.appendCap (n + m) c e)).run P W = .ok cap { W with drawn := W.drawn + 1 } := by
      simp [choose, Sem.run, Question.forced, cap]
    have hW1 : ∀ b v j, W.cell? ⟨b, j, none⟩ = some v → ({ W with drawn := W.drawn + 1 } : World).cell? ⟨b, j, none⟩ = some v := fun _ _ _ h => h
    have hst4 := (hst3.drew (W.drawn + 1)).alloc ((flat ρ zo).toArray ++ (flat ρ zn).toArray ++ Builtin.zeroCells z2.cells (cap - (n + m))) e
    refine ⟨some ⟨W.heap.size, 0, none⟩, cap, { W with drawn := W.drawn + 1, heap := W.heap.push (.cells ((flat ρ zo).toArray ++ (flat ρ zn).toArray ++ Builtin.zeroCells z2.cells (cap - (n + m))) e) }, ?_, ?_⟩
    · have hno' : ¬ ((9223372036854775807 : Int) < ((n : Int) + (m : Int)) ∧ ti.bytes = 0) := by
        rintro ⟨h1, h2⟩; simp only [lim] at hlim; omega
      have hW1 : ∀ b v j, W.cell? ⟨b, j, none⟩ = some v → W.drew.cell? ⟨b, j, none⟩ = some v := fun _ _ _ h => h
      have hforced : (Question.appendCap (n + m) c e).forced = false := rfl
      simp [Builtin.append_, Builtin.lenOf, hroom, run_und hk, run_und hk2, hsize, hti, hno', hcap, hmark, hforced]
      rw [hofirst _ hW1]
      simp only [Result.andThen_ok]
      rw [hfirst m _ hW1]
      simp [hzero, newRow, newObj, Sem.run]
      refine ⟨rfl, ?_⟩
      rw [← List.append_toArray, Array.append_assoc]
      rfl
    ·
      have hl1 : ((flat ρ zo).toArray ++ (flat ρ zn).toArray ++ Builtin.zeroCells z2.cells (cap - (n + m))).toList = flat ρ (zo ++ zn) ++ (Builtin.zeroCells z2.cells (cap - (n + m))).toList := by
        simp [flat_append]
      rw [hl1] at hst4
      have hst5 := hst4.ent pts_split
      have hlen2 : (flat ρ (zo ++ zn)).length = (n + m) * ρ.sz := by rw [flat_append, List.length_append, hzl, hfl, Nat.add_mul]
      rw [hlen2] at hst5
      have hst6 : St { W with drawn := W.drawn + 1, heap := W.heap.push (.cells ((flat ρ zo).toArray ++ (flat ρ zn).toArray ++ Builtin.zeroCells z2.cells (cap - (n + m))) e) } (headA w W.heap.size 0 (flat ρ (zo ++ zn)) :: pts W.heap.size (0 + (n + m) * ρ.sz) (Builtin.zeroCells z2.cells (cap - (n + m))).toList :: memA ρ zo :: memA ρ zn :: F :: L1) := by
        cases w with
        | true => exact hst5
        | false => exact hst5.publish
      have hst7 := hst6.ent (Ent.cons (Ent.cons memA_append))
      have := sq_shut (w := w) (L := F :: L1) (a := ⟨W.heap.size, 0, none⟩) (c := cap) (z := zo ++ zn) (sp := (Builtin.zeroCells z2.cells (cap - (n + m))).toList) (n := n + m) (l := l ++ ys) (by simp; omega) hlim hcap1 rfl (by simp [hzo, hzn]) (by simp [zeroCells_len, hzs])
      exact (hst7.ent this).ent Ent.swap
theorem SO.append {w : Bool} {x y : Operand} {A B : Option Addr} {n c m c2 t t2 e e2 sz n1 n2 n3 n4 b1 : Nat} {z z2 z3 : Value} {ke : TK} {l ys : List α} (hx : evO T x = some (.slice A n c)) (hy : evO T y = some (.slice B m c2))
    (hs : Take (sqAt w ρ A n c l) L L1) (src : Src ρ L B m ys)
    (ht : tget tb.tab t = some ⟨.sl e, n1, n2, z⟩) (ht2 : tget tb.tab t2 = some ⟨.sl e2, n3, n4, z3⟩) (hte : tget tb.tab e = some ⟨ke, sz, b1, z2⟩) (hzz : Nat.beq z2.cells.toList.length sz = true) (hsz : Nat.beq ρ.sz sz = true) (hb : Nat.ble b1 32768 = true) (hd : dstOk N d = true)
    (hlim : n + m ≤ lim)
    (kk : ∀ A' c', SO P rd N all rest (putD d (.slice A' (n + m) c') T) (sqAt w ρ A' (n + m) c' (l ++ ys) :: L1) ks Q) : SO P rd N all (⟨d, .call ⟨.builtin .append, #[x, y], #[t, t2]⟩, ty, pos, aft, none⟩ :: rest) T L ks Q := by
  refine SO.run (R := fun v L2 => ∃ A' c', v = .slice A' (n + m) c' ∧ L2 = sqAt w ρ A' (n + m) c' (l ++ ys) :: L1) rfl rfl hd ?_ (by rintro _ _ ⟨A', c', rfl, rfl⟩; exact kk A' c')
  intro q hq F W hst
  obtain ⟨A', c', W', hr, hst'⟩ := runs_append hs src ht ht2 hte hzz hsz hlim hb hst ty
  refine ⟨_, W', _, .inl ?_, ⟨A', c', rfl, rfl⟩, hst'⟩
  simp [execOp, resolve, invoke, builtin, hq _ _ hx, hq _ _ hy]
  rw [hr]; rfl
theorem slAt_part {A A' : Option Addr} {n i k : Nat} {l : List α} (hi : i + k ≤ n) (hA : ∀ a, A = some a → (n ≠ 0 → a.spot = none) → ∃ a', A' = some a' ∧ (k ≠ 0 → a'.spot = none) ∧ (k = 0 ∨ a'.block = a.block) ∧ (k = 0 ∨ a'.off = a.off + i * ρ.sz)) (hA0 : A = none → A' = none) :
    Ent (slAt ρ A n l :: L) (slAt ρ A' k ((l.drop i).take k) :: L) := by
  rintro r o ⟨x, y, d, le, ⟨h0, h1, h2, h3⟩, hL⟩
  refine ⟨fun _ _ => none, o, fun _ _ => .inl rfl, none_add, ⟨by simp; omega, Nat.le_trans (by omega) h1, fun h => ?_, fun a' ha' => ?_⟩, seps_up (Ro.le_refl _) (Own.le_trans (Own.le_add_right d) le) hL⟩
  · cases hAA : A with
    | none => rw [h2 hAA]; simp
    | some a => obtain ⟨a', h5, _⟩ := hA a hAA (h3 a hAA).1; rw [h5] at h; cases h
  · cases hAA : A with
    | none => rw [hA0 hAA] at ha'; cases ha'
    | some a =>
      obtain ⟨hs, z, hz, hc, hm⟩ := h3 a hAA
      obtain ⟨a2, h5, h6, h7, h8⟩ := hA a hAA hs
      rw [h5] at ha'; cases ha'
      refine ⟨h6, (z.drop i).take k, by rw [List.map_take, List.map_drop, hz], fun j v hj => ?_, fun j u h e => ?_⟩
      ·
        have hk : k ≠ 0 := by rintro rfl; simp [flat] at hj
        have h8 := h8.resolve_left hk
        have h7 := h7.resolve_left hk
        have key : flat ρ z = flat ρ (z.take i) ++ (flat ρ ((z.drop i).take k) ++ flat ρ ((z.drop i).drop k)) := by
          rw [← flat_append, List.take_append_drop, ← flat_append, List.take_append_drop]
        have hzl : z.length = n := by rw [h0, ← hz]; simp
        have hl1 : (flat ρ (z.take i)).length = i * ρ.sz := by rw [flat_length, List.length_take, hzl, Nat.min_eq_left (by omega)]
        have : (flat ρ z)[i * ρ.sz + j]? = some v := by
          rw [key, List.getElem?_append_right (by omega), hl1, Nat.add_sub_cancel_left, List.getElem?_append_left (row_lt hj)]; exact hj
        have := hc _ _ this
        rw [h7, h8]
        rwa [← Nat.add_assoc] at this
      · have e2 : z[i + j]? = some (u, h) := by
          rw [List.getElem?_take] at e
          split at e
          · rwa [List.getElem?_drop] at e
          · cases e
        exact hm _ u h e2
theorem run_slice_lo {t e sz n1 n2 b1 : Nat} {z z2 : Value} {ke : TK} (ht : tget tb.tab t = some ⟨.sl e, n1, n2, z⟩) (hte : tget tb.tab e = some ⟨ke, sz, b1, z2⟩) {A : Option Addr} {n c lo hi : Nat} (h1 : lo ≤ hi) (h2 : hi ≤ c) (h3 : n ≤ c) {vl vh : Option Value} {k1 k2 : IntKind}
    (hl : vl = some (.int k1 lo) ∨ (vl = none ∧ lo = 0)) (hh : vh = some (.int k2 hi) ∨ (vh = none ∧ hi = n)) (w : World) :
    (Instr.sliceAt t (.slice A n c) vl vh none).run P w = .ok (.slice (if c = lo then A else A.map (·.add (lo * sz))) (hi - lo) (c - lo)) w := by
  have hk := (tab_ok ht).k
  simp only [TK.ok] at hk
  have hs := sizeOf_ok (tab_ok hte) w
  simp only at hs
  have b1 : (0 : Int) ≤ (lo : Int) ∧ (lo : Int) ≤ ((hi : Nat) : Int) := ⟨by omega, by omega⟩
  have b2 : (0 : Int) ≤ (hi : Int) ∧ (hi : Int) ≤ ((c : Nat) : Int) := ⟨by omega, by omega⟩
  rcases hl with rfl | ⟨rfl, rfl⟩ <;> rcases hh with rfl | ⟨rfl, rfl⟩ <;>
    simp [Instr.sliceAt, Instr.slice, Instr.sliceBounds, Instr.sliceBound, asIntOf, run_und hk, hs, b1, b2, h1, h2, Int.ofNat_le]
def evOo (T : TT) : Option Operand → Option (Option Value)
  | none => some none
  | some x => match evO T x with
    | some v => some (some v)
    | none => none
theorem evOo_ok {q : Operand → Value} (hq : Knows T q) {x : Option Operand} {v : Option Value} (h : evOo T x = some v) : x.map q = v := by
  cases x with
  | none => simp only [evOo] at h; cases h; rfl
  | some x =>
    simp only [evOo] at h
    split at h
    · rename_i u hu; cases h; simp [hq _ _ hu]
    · cases h
theorem rd_slice {x : Operand} {lo hi : Option Operand} {A : Option Addr} {n c i j t e sz n1 n2 b1 : Nat} {z z2 : Value} {ke : TK} {l : List α} (hx : evO T x = some (.slice A n c)) {vl vh : Option Value} {k1 k2 : IntKind}
    (hlo : evOo T lo = some vl) (hhi : evOo T hi = some vh)
    (hh : Has (slAt ρ A n l) L) (ht : tget tb.tab t = some ⟨.sl e, n1, n2, z⟩) (hte : tget tb.tab e = some ⟨ke, sz, b1, z2⟩) (hsz : Nat.beq ρ.sz sz = true) (hl : vl = some (.int k1 i) ∨ (vl = none ∧ i = 0)) (hv : vh = some (.int k2 j) ∨ (vh = none ∧ j = n)) (h1 : i ≤ j) (h2 : j ≤ n) (h3 : n ≤ c) : Reads P T L ⟨d, .slice t x lo hi none, ty, pos, aft, none⟩ (fun v L2 => ∃ A' c', j - i ≤ c' ∧ v = .slice A' (j - i) c' ∧ L2 = slAt ρ A' (j - i) ((l.drop i).take (j - i)) :: L) := by
  intro q hq rr oo F hs
  have hszz := Nat.eq_of_beq_eq_true hsz
  subst hszz
  refine ⟨_, _, ⟨if c = i then A else A.map (·.add (i * ρ.sz)), c - i, by omega, rfl, rfl⟩, ?_, fun w sat => ?_⟩
  · refine (Ent.cons ?_) rr oo hs
    refine (hh.ent (pers_slAt _ _ _ _)).trans ?_
    refine slAt_part (by omega) (fun a ha has => ?_) (fun ha => ?_)
    · subst ha
      by_cases hc : c = i
      · rw [if_pos hc]; exact ⟨a, rfl, fun hk => has (by omega), .inr rfl, .inl (by omega)⟩
      · rw [if_neg hc]
        by_cases hk : j - i = 0
        · exact ⟨a.add (i * ρ.sz), rfl, fun h => absurd hk h, .inl hk, .inl hk⟩
        · have has := has (by omega)
          exact ⟨a.add (i * ρ.sz), rfl, fun _ => by rw [eadr_base has], .inr (by rw [eadr_base has]), .inr (by rw [eadr_base has])⟩
    · subst ha; split <;> rfl
  · simp only [execOp, hq _ _ hx, evOo_ok hq hlo, evOo_ok hq hhi, Option.map_none, Sem.run_bind, run_slice_lo ht hte h1 (by omega : j ≤ c) h3 hl hv, Result.andThen_ok]
    rfl
theorem SO.slice {x : Operand} {lo hi : Option Operand} {A : Option Addr} {n c i j t e sz n1 n2 b1 : Nat} {z z2 : Value} {ke : TK} {l : List α} (hx : evO T x = some (.slice A n c)) {vl vh : Option Value} {k1 k2 : IntKind}
    (hlo : evOo T lo = some vl) (hhi : evOo T hi = some vh)
    (hh : Has (slAt ρ A n l) L) (ht : tget tb.tab t = some ⟨.sl e, n1, n2, z⟩) (hte : tget tb.tab e = some ⟨ke, sz, b1, z2⟩) (hsz : Nat.beq ρ.sz sz = true) (hd : dstOk N d = true) (hl : vl = some (.int k1 i) ∨ (vl = none ∧ i = 0)) (hv : vh = some (.int k2 j) ∨ (vh = none ∧ j = n)) (h1 : i ≤ j) (h2 : j ≤ n) (h3 : n ≤ c)
    (kk : ∀ A' c', j - i ≤ c' → SO P rd N all rest (putD d (.slice A' (j - i) c') T) (slAt ρ A' (j - i) ((l.drop i).take (j - i)) :: L) ks Q) : SO P rd N all (⟨d, .slice t x lo hi none, ty, pos, aft, none⟩ :: rest) T L ks Q :=
  SO.reads (rd_slice hx hlo hhi hh ht hte hsz hl hv h1 h2 h3) rfl rfl hd (by rintro _ _ ⟨A', c', hc, rfl, rfl⟩; exact kk A' c' hc)
theorem SQ.slice {RR : TT → List HP → Prop} {x : Operand} {lo hi : Option Operand} {A : Option Addr} {n c i j t e sz n1 n2 b1 : Nat} {z z2 : Value} {ke : TK} {l : List α} (hx : evO T x = some (.slice A n c)) {vl vh : Option Value} {k1 k2 : IntKind}
    (hlo : evOo T lo = some vl) (hhi : evOo T hi = some vh)
    (hh : Has (slAt ρ A n l) L) (ht : tget tb.tab t = some ⟨.sl e, n1, n2, z⟩) (hte : tget tb.tab e = some ⟨ke, sz, b1, z2⟩) (hsz : Nat.beq ρ.sz sz = true) (hd : dstOk N d = true) (hl : vl = some (.int k1 i) ∨ (vl = none ∧ i = 0)) (hv : vh = some (.int k2 j) ∨ (vh = none ∧ j = n)) (h1 : i ≤ j) (h2 : j ≤ n) (h3 : n ≤ c)
    (kk : ∀ A' c', j - i ≤ c' → SQ P N all rest (putD d (.slice A' (j - i) c') T) (slAt ρ A' (j - i) ((l.drop i).take (j - i)) :: L) RR) : SQ P N all (⟨d, .slice t x lo hi none, ty, pos, aft, none⟩ :: rest) T L RR :=
  SQ.reads (rd_slice hx hlo hhi hh ht hte hsz hl hv h1 h2 h3) rfl hd (by rintro _ _ ⟨A', c', hc, rfl, rfl⟩; exact kk A' c' hc)
end
end Go.Sl

set_option linter.unusedVariables false
set_option linter.unusedSectionVars false
namespace Go.Sl
structure OpS where
  need : List Nat
  own : List Nat
  tok : Value → HP
  init : HP := pr True
  see : List Nat := []
def emp : HP := pr True
def tokAt (S : List OpS) (j : Nat) (v : Value) : HP := match S[j]? with
  | some s => s.tok v
  | none => emp
def toks (S : List OpS) (s : OpS) (ev : Nat → Value) : List HP := s.init :: ((s.own.map fun j => tokAt S j (ev j)) ++ (s.see.map fun j => tokAt S j (ev j)))
def sees : List OpS → List Nat
  | [] => []
  | s :: S => s.see ++ sees S
def needT (l : List Oper) : List Nat → (Nat → Value) → TT
  | [], _ => []
  | j :: js, ev => match (l[j]?).bind (·.dst) with
    | some d => (d, ev j) :: needT l js ev
    | none => needT l js ev
def subN : List Nat → List Nat → Bool
  | [], _ => true
  | x :: xs, ys => ys.elem x && subN xs ys
theorem subN_ok : ∀ {xs ys : List Nat}, subN xs ys = true → ∀ x ∈ xs, x ∈ ys
  | [], ys, _, x, h => by cases h
  | y :: xs, ys, h, x, hx => by
    simp only [subN, Bool.and_eq_true] at h
    rcases List.mem_cons.1 hx with rfl | hx
    · simpa using h.1
    · exact subN_ok h.2 x hx
def nodupN : List Nat → Bool
  | [] => true
  | x :: xs => !xs.elem x && nodupN xs
theorem nodupN_ok : ∀ {xs : List Nat}, nodupN xs = true → xs.Nodup
  | [], _ => List.nodup_nil
  | x :: xs, h => by
    simp only [nodupN, Bool.and_eq_true] at h
    exact List.nodup_cons.2 ⟨by simpa using h.1, nodupN_ok h.2⟩
def aft (o : Oper) : List Nat := (o.after.toList.filter (Region.binds .any)).map (·.on)
def keys : TT → List Nat
  | [] => []
  | (i, _) :: T => i :: keys T
section
variable {P : Program} {rd : Option Nat} {N : Nat} {T T1 : TT} {L L1 Sh : List HP} {Q : Post} {ks : List K}
def Each (P : Program) (rd : Option Nat) (N : Nat) (l : List Oper) (S : List OpS) (T1 : TT) (Sh : List HP) : List Oper → List OpS → Prop
  | o :: os, s :: ss => (∀ ev : Nat → Value, SO P rd N l.toArray [o] (needT l s.need ev ++ T1) (Sh ++ toks S s ev)
      [.inv fun T' L' => ∃ v, (match o.dst with | some d => T'.get d = some v | none => v = undef) ∧ Ent L' (s.tok v :: Sh)] (fun _ _ _ => False)) ∧ Each P rd N l S T1 Sh os ss
  | _, _ => True
theorem Each.get {l : List Oper} {S : List OpS} : ∀ {os : List Oper} {ss : List OpS}, Each P rd N l S T1 Sh os ss → ∀ (i : Nat) (o : Oper) (s : OpS), os[i]? = some o → ss[i]? = some s →
    ∀ ev : Nat → Value, SO P rd N l.toArray [o] (needT l s.need ev ++ T1) (Sh ++ toks S s ev)
      [.inv fun T' L' => ∃ v, (match o.dst with | some d => T'.get d = some v | none => v = undef) ∧ Ent L' (s.tok v :: Sh)] (fun _ _ _ => False)
  | [], _, _, i, o, s, h, _ => by simp at h
  | _ :: _, [], _, i, o, s, _, h => by simp at h
  | o' :: os, s' :: ss, h, i, o, s, ho, hs => by
    cases i with
    | zero => simp at ho hs; subst ho hs; exact h.1
    | succ i => exact Each.get h.2 i o s (by simpa using ho) (by simpa using hs)
structure DagInv (N : Nat) (l : List Oper) (S : List OpS) (T1 : TT) (Sh : List HP) (G : HP) (listed : Array Bool) (a : Act) (w : World) : Prop where
  size : a.tmps.size = N
  base : ∀ i v, T1.get i = some v → a.tmps[i]? = some v
  lsize : listed.size = l.length
  mem : ∃ (D : List Nat) (ev : Nat → Value) (Z : List HP), a.defers = D.map mark ∧ Z.length = l.length ∧ (∀ j o d, l[j]? = some o → listed.getD j false = true → o.dst = some d → a.tmps[d]? = some (ev j)) ∧
    (∀ j, j < l.length → listed.getD j false = true → (∀ k t, S[k]? = some t → j ∈ t.own → listed.getD k false = false) → Z[j]? = some (tokAt S j (ev j))) ∧ (∀ j s, S[j]? = some s → listed.getD j false = false → Z[j]? = some s.init) ∧ St w (big (G :: D.map mkA) :: (Sh ++ Z))
def unl (n : Nat) (listed : Array Bool) : List Nat := (List.range n).filter fun j => !listed.getD j true
theorem unl_set {n : Nat} {listed : Array Bool} {i : Nat} (hi : i ∈ unl n listed) : (unl n (listed.setIfInBounds i true)).length < (unl n listed).length := by
  have h1 : unl n (listed.setIfInBounds i true) = (unl n listed).filter (fun j => !(j == i)) := by
    unfold unl
    rw [List.filter_filter]
    apply List.filter_congr
    intro j hj
    by_cases h : i = j
    · subst h
      have : listed.getD i true = false := by simp only [unl, List.mem_filter] at hi; simpa using hi.2
      have hlt : i < listed.size := by
        rcases Nat.lt_or_ge i listed.size with h' | h'
        · exact h'
        · simp [Array.getElem?_eq_none h'] at this
      simp [hlt]
    · rw [getD_set_ne true h]
      have : (j == i) = false := by simp; exact fun e => h e.symm
      simp [this]
  rw [h1]
  exact List.length_filter_lt_length_iff_exists.2 ⟨i, hi, by simp⟩
theorem getD_tf {listed : Array Bool} {j : Nat} (hj : j < listed.size) : listed.getD j true = listed.getD j false := by simp [hj]
theorem getD_rep (m j : Nat) : (Array.replicate m false).getD j false = false := by
  rw [Array.getD_eq_getD_getElem?, Array.getElem?_replicate]; split <;> rfl
end
end Go.Sl

set_option linter.unusedVariables false
set_option linter.unusedSectionVars false
namespace Go.Sl
def eqV : TK → Value → Value → Option Bool
  | .bool, .bool a, .bool b => some (a == b)
  | .fn, .nilFunc, .nilFunc => some true
  | .fn, .func _ _ _, .nilFunc => some false
  | .fn, .nilFunc, .func _ _ _ => some false
  | .sl _, .slice none _ _, .slice none _ _ => some true
  | .sl _, .slice (some _) _ _, .slice none _ _ => some false
  | .map _ _, .map none, .map none => some true
  | .map _ _, .map (some _), .map none => some false
  | .ptr, .pointer none, .pointer none => some true
  | .ptr, .pointer (some _), .pointer none => some false
  | _, _, _ => none
def divV (op : BinOp) (k : IntKind) (a b : Int) : Option Value :=
  match op with
  | .quo => if b = 0 then none else some (.int k (k.wrap (a.tdiv b)))
  | .rem => if b = 0 then none else some (.int k (a.tmod b))
  | _ => none
def bin2 (tab : List TI) (op : BinOp) (t : Nat) (u v : Value) : Option Value :=
  match u, v with
  | .int .i64 a, .int .i64 b => divV op .i64 a b
  | .int .u8 a, .int .u8 b => divV op .u8 a b
  | .int .i32 a, .int .i32 b => divV op .i32 a b
  | .int _ _, .int _ _ => none
  | u, v => match tget tab t with
    | some ti => match eqV ti.k u v with
      | some b => match op with
        | .eql => some (.bool b)
        | .neq => some (.bool (!b))
        | _ => none
      | none => none
    | none => none
def pureOp2 (tab : List TI) (T : TT) : Op → Option Value
  | .binOp op t x y _ => match evO T x with
    | some u => match evO T y with
      | some v => bin2 tab op t u v
      | none => none
    | none => none
  | .call ⟨.builtin .max, args, _⟩ => match args.toList with
    | [x, y] => match evO T x with
      | some (.int k a) => match evO T y with
        | some (.int _ b) => some (.int k (if a < b then b else a))
        | _ => none
      | _ => none
    | _ => none
  | .call ⟨.builtin .min, args, _⟩ => match args.toList with
    | [x, y] => match evO T x with
      | some (.int k a) => match evO T y with
        | some (.int _ b) => some (.int k (if b < a then b else a))
        | _ => none
      | _ => none
    | _ => none
  | _ => none
section
variable {P : Program} [tb : Tab P]
theorem eqV_in {t : Nat} {ti : TI} (ht : ti.ok P t) {u v : Value} {b : Bool} (h : eqV ti.k u v = some b) (d : Nat) (w : World) : (Op.equalIn (d + 1) t u v).run P w = .ok b w := by
  obtain ⟨k, n1, n2, z⟩ := ti
  have hk := ht.k
  simp only at h
  unfold eqV at h
  split at h <;> first | (cases h; done) | skip
  all_goals (cases h; simp only [TK.ok] at hk)
  case h_1 => exact run_equalIn_bool w d t _ _ hk
  case h_2 => obtain ⟨a, b, c, hk⟩ := hk; simp [Op.equalIn, Sem.run_bind, run_und hk]
  case h_3 => obtain ⟨a, b, c, hk⟩ := hk; simp [Op.equalIn, Sem.run_bind, run_und hk]
  case h_4 => obtain ⟨a, b, c, hk⟩ := hk; simp [Op.equalIn, Sem.run_bind, run_und hk]
  case h_5 => simp [Op.equalIn, Sem.run_bind, run_und hk]
  case h_6 => simp [Op.equalIn, Sem.run_bind, run_und hk]
  case h_7 => simp [Op.equalIn, Sem.run_bind, run_und hk]
  case h_8 => simp [Op.equalIn, Sem.run_bind, run_und hk]
  case h_9 => obtain ⟨a, hk⟩ := hk; simp [Op.equalIn, Sem.run_bind, run_und hk]
  case h_10 => obtain ⟨a, hk⟩ := hk; simp [Op.equalIn, Sem.run_bind, run_und hk]
theorem eqV_ok {t : Nat} {ti : TI} (ht : ti.ok P t) {u v : Value} {b : Bool} (h : eqV ti.k u v = some b) (w : World) : (Op.equal t u v).run P w = .ok b w := eqV_in ht h 9999 w
theorem divV_ok {op : BinOp} {k : IntKind} {a b : Int} {v : Value} (h : divV op k a b = some v) (t : Nat) (w : World) : (binOp op t (.int k a) (.int k b)).run P w = .ok v w := by
  unfold divV at h
  split at h
  · split at h
    · cases h
    · rename_i hb; cases h; simp [binOp, Op.intDiv, hb]
  · split at h
    · cases h
    · rename_i hb; cases h; simp [binOp, Op.intDiv, hb]
  · cases h
theorem bin2_ok {op : BinOp} {t : Nat} {u v r : Value} (h : bin2 tb.tab op t u v = some r) (x y : Operand) (w : World) : (do eqGuard op t x y u v; binOp op t u v).run P w = .ok r w := by
  have key : (eqGuard op t x y u v).run P w = .ok () w ∧ (binOp op t u v).run P w = .ok r w := by
    unfold bin2 at h
    split at h
    · exact ⟨by unfold eqGuard; split <;> simp, divV_ok h t w⟩
    · exact ⟨by unfold eqGuard; split <;> simp, divV_ok h t w⟩
    · exact ⟨by unfold eqGuard; split <;> simp, divV_ok h t w⟩
    · cases h
    · rename_i u v h1 h2 h3 h4
      split at h
      · rename_i ti hti
        split at h
        · rename_i b hb
          have he := eqV_ok (tab_ok hti) hb w
          split at h
          · cases h
            unfold eqV at hb
            split at hb <;> first | (cases hb; done) | skip
            all_goals (cases hb; refine ⟨by unfold eqGuard; split <;> simp, ?_⟩; simp only [binOp, Sem.run_bind, he, Result.andThen_ok, Sem.run_pure])
          · cases h
            unfold eqV at hb
            split at hb <;> first | (cases hb; done) | skip
            all_goals (cases hb; refine ⟨by unfold eqGuard; split <;> simp, ?_⟩; simp only [binOp, Sem.run_bind, he, Result.andThen_ok, Sem.run_pure])
          · cases h
        · cases h
      · cases h
  rw [Sem.run_bind, key.1, Result.andThen_ok, key.2]
theorem get2 {α : Type} {a : Array α} {x y : α} (h : a.toList = [x, y]) : a = #[x, y] := by cases a; simp_all
theorem reads_pure2 {T : TT} {L : List HP} {o : Oper} {v : Value} (h : pureOp2 tb.tab T o.op = some v) : Reads P T L o (fun u L' => u = v ∧ L' = L) := by
  intro ρ hρ r oo F hst
  suffices hs : ∀ w, (execOp ρ o).run P w = .ok (.value v) w from ⟨v, L, ⟨rfl, rfl⟩, hst, fun w _ => hs w⟩
  intro w
  obtain ⟨dst, op, ty, pos, aft, g⟩ := o
  simp only at h
  unfold pureOp2 at h
  split at h
  case h_1 op t x y cx =>
    split at h
    · rename_i u hu
      split at h
      · rename_i u' hu'
        have := bin2_ok h x y w
        simp only [execOp, hρ _ _ hu, hρ _ _ hu']
        rw [Sem.run_bind] at this
        simp only [Sem.run_bind]
        revert this
        generalize (eqGuard op t x y u u').run P w = res
        intro this
        cases res with
        | ok a w1 =>
          simp only [Result.andThen_ok] at this ⊢
          rw [this]; rfl
        | halt e w1 => simp at this
      · cases h
    · cases h
  case h_2 args tys =>
    split at h
    · rename_i x y hargs
      have ha := get2 hargs
      subst ha
      split at h
      · rename_i k a hx
        split at h
        · rename_i k' b hy
          cases h
          simp [execOp, resolve, invoke, builtin, hρ _ _ hx, hρ _ _ hy, run_max_int2]
        · cases h
      · cases h
    · cases h
  case h_3 args tys =>
    split at h
    · rename_i x y hargs
      have ha := get2 hargs
      subst ha
      split at h
      · rename_i k a hx
        split at h
        · rename_i k' b hy
          cases h
          simp [execOp, resolve, invoke, builtin, hρ _ _ hx, hρ _ _ hy, run_min_int2]
        · cases h
      · cases h
    · cases h
  case h_4 => cases h
variable {rd : Option Nat} {N : Nat} {T : TT} {L L' L2 : List HP} {Q : Post} {ks : List K}
variable {all : Array Oper} {rest : List Oper} {o : Oper}
theorem SO.pure2 {v : Value} (hg : o.guard = none) (h : pureOp2 tb.tab T o.op = some v) (hd : dstOk N o.dst = true)
    (k : SO P rd N all rest (putD o.dst v T) L ks Q) : SO P rd N all (o :: rest) T L ks Q := by
  refine SO.reads (reads_pure2 h) hg ?_ hd (by rintro _ _ ⟨rfl, rfl⟩; exact k)
  cases hop : o.op <;> first | rfl | (rw [hop] at h; simp [pureOp2] at h)
theorem SQ.pure2 {v : Value} {RR : TT → List HP → Prop} (hg : o.guard = none) (h : pureOp2 tb.tab T o.op = some v) (hd : dstOk N o.dst = true)
    (k : SQ P N all rest (putD o.dst v T) L RR) : SQ P N all (o :: rest) T L RR := SQ.reads (reads_pure2 h) hg hd (by rintro _ _ ⟨rfl, rfl⟩; exact k)
theorem whole {α : Type} {ρ : Rep α} {ti : TI} {u : α} {h : ρ.V} (h1 : ti.k.agg = ρ.agg) (h2 : Nat.beq ti.size ρ.sz = true) : packV ti (cut (ρ.cells u h) 0 ti.size) = ρ.val u h ∧ packOk ti (cut (ρ.cells u h) 0 ti.size) := by
  have h2 := Nat.eq_of_beq_eq_true h2
  have hc : cut (ρ.cells u h) 0 ti.size = ρ.cells u h := by
    unfold cut; rw [h2, ← ρ.len u h]; simp
  rw [hc]
  refine ⟨?_, by rw [ρ.len, h2], fun he => by rw [h2]; exact ρ.sc (by rw [← h1]; exact he)⟩
  unfold packV Rep.val; rw [h1]
  all_goals (generalize ρ.cells u h = cs; cases ρ.agg <;> cases cs <;> rfl)
theorem SO.eloadW {ty : TypeId} {pos : String} {aft : Array Edge} {d : Option Tmp} {α : Type} {ρ : Rep α} {x : Operand} {t : Nat} {ti : TI} {A : Option Addr} {n i sz : Nat} {l : List α} {u : α} (hx : evO T x = some (.pointer (some (eadr A i sz 0)))) (hh : Has (slAt ρ A n l) L) (hu : l[i]? = some u)
    (ht : tget tb.tab t = some ti) (hsz : Nat.beq ρ.sz sz = true) (hk : ti.k.agg = ρ.agg) (h2 : Nat.beq ti.size ρ.sz = true) (hd : dstOk N d = true)
    (kk : ∀ h, SO P rd N all rest (putD d (ρ.val u h) T) (ρ.atoms u h ++ L) ks Q) : SO P rd N all (⟨d, .load t x, ty, pos, aft, none⟩ :: rest) T L ks Q :=
  SO.eload hx hh hu ht hsz (fun h => (whole hk h2).2) hd (fun h => by rw [(whole hk h2).1]; exact kk h)
theorem SQ.eloadW {RR : TT → List HP → Prop} {ty : TypeId} {pos : String} {aft : Array Edge} {d : Option Tmp} {α : Type} {ρ : Rep α} {x : Operand} {t : Nat} {ti : TI} {A : Option Addr} {n i sz : Nat} {l : List α} {u : α} (hx : evO T x = some (.pointer (some (eadr A i sz 0)))) (hh : Has (slAt ρ A n l) L) (hu : l[i]? = some u)
    (ht : tget tb.tab t = some ti) (hsz : Nat.beq ρ.sz sz = true) (hk : ti.k.agg = ρ.agg) (h2 : Nat.beq ti.size ρ.sz = true) (hd : dstOk N d = true)
    (kk : ∀ h, SQ P N all rest (putD d (ρ.val u h) T) (ρ.atoms u h ++ L) RR) : SQ P N all (⟨d, .load t x, ty, pos, aft, none⟩ :: rest) T L RR :=
  SQ.eload hx hh hu ht hsz (fun h => (whole hk h2).2) hd (fun h => by rw [(whole hk h2).1]; exact kk h)
theorem SK.shift {c : Code} (hs : ∀ F w, St w (F :: L) → St w (F :: L')) (h : SK P rd N (.code c :: ks) T L' Q) : SK P rd N (.code c :: ks) T L Q := by
  rw [SK_code] at h ⊢
  exact fun F a w ok => h F a w ⟨ok.size, ok.get, let ⟨D, h1, h2⟩ := ok.mem; ⟨D, h1, hs _ _ h2⟩⟩
theorem SK.publish {c : Code} {b off : Nat} {vs : List Value} (hh : Take (pts b off vs) L L') (h : SK P rd N (.code c :: ks) T (rod b off vs :: L') Q) : SK P rd N (.code c :: ks) T L Q :=
  SK.shift (fun F w hst => ((hst.ent ((Ent.cons hh.ent).trans Ent.swap)).publish).ent Ent.swap) h
theorem lay_all : ∀ (us cs : List Value), us.length = cs.length → lay us 0 cs = cs
  | [], [], _ => rfl
  | [], c :: cs, h => by simp at h
  | u :: us, [], h => by simp at h
  | u :: us, c :: cs, h => by simp only [lay]; rw [lay_all us cs (by simpa using h)]
theorem SO.storeW {ty : TypeId} {pos : String} {aft : Array Edge} {x y : Operand} {t b off : Nat} {vs : List Value} {v : Value} {ti : TI} (hx : evO T x = some (.pointer (some ⟨b, off, none⟩))) (hy : evO T y = some v) (htk : Take (pts b off vs) L L')
    (ht : tget tb.tab t = some ti) (h1 : v.cells.toList.all one = true) (hs : Nat.beq v.cells.toList.length ti.size = true) (hl : Nat.beq vs.length ti.size = true)
    (k : SO P rd N all rest T (pts b off v.cells.toList :: L') ks Q) : SO P rd N all (⟨none, .store t x y, ty, pos, aft, none⟩ :: rest) T L ks Q := by
  have e1 := Nat.eq_of_beq_eq_true hs
  have e2 := Nat.eq_of_beq_eq_true hl
  refine SO.store hx hy htk ht (by simp) h1 hs (by rw [Nat.sub_self, Nat.zero_add, e2]; simp) ?_ k
  rw [Nat.sub_self, lay_all _ _ (by rw [e1, e2])]
def isAggV : Value → Bool
  | .agg _ => true
  | _ => false
theorem wholeV {ti : TI} {v : Value} (h1 : ti.k.agg = true) (h2 : isAggV v = true) (h3 : Nat.beq v.cells.toList.length ti.size = true) (off : Nat) : packV ti (cut v.cells.toList (off - off) ti.size) = v ∧ packOk ti (cut v.cells.toList (off - off) ti.size) := by
  have h3 := Nat.eq_of_beq_eq_true h3
  have hc : cut v.cells.toList (off - off) ti.size = v.cells.toList := by unfold cut; rw [Nat.sub_self, ← h3, List.drop_zero, List.take_length]
  rw [hc]
  refine ⟨?_, h3, fun h => by rw [h1] at h; cases h⟩
  unfold packV; rw [h1]
  cases v <;> first | (cases h2; done) | (simp [Value.cells])
theorem SO.loadW {ty : TypeId} {pos : String} {aft : Array Edge} {d : Option Tmp} {x : Operand} {t b off : Nat} {v : Value} {ti : TI} (hx : evO T x = some (.pointer (some ⟨b, off, none⟩))) (htk : Take (pts b off v.cells.toList) L L')
    (ht : tget tb.tab t = some ti) (h1 : ti.k.agg = true) (h2 : isAggV v = true) (h3 : Nat.beq v.cells.toList.length ti.size = true) (hd : dstOk N d = true)
    (k : SO P rd N all rest (putD d v T) L ks Q) : SO P rd N all (⟨d, .load t x, ty, pos, aft, none⟩ :: rest) T L ks Q :=
  SO.load hx htk ht (by simp) (wholeV h1 h2 h3 off).2 hd (by rw [(wholeV h1 h2 h3 off).1]; exact k)
theorem SQ.loadW {RR : TT → List HP → Prop} {ty : TypeId} {pos : String} {aft : Array Edge} {d : Option Tmp} {x : Operand} {t b off : Nat} {v : Value} {ti : TI} (hx : evO T x = some (.pointer (some ⟨b, off, none⟩))) (htk : Take (pts b off v.cells.toList) L L')
    (ht : tget tb.tab t = some ti) (h1 : ti.k.agg = true) (h2 : isAggV v = true) (h3 : Nat.beq v.cells.toList.length ti.size = true) (hd : dstOk N d = true)
    (k : SQ P N all rest (putD d v T) L RR) : SQ P N all (⟨d, .load t x, ty, pos, aft, none⟩ :: rest) T L RR :=
  SQ.load hx htk ht (by simp) (wholeV h1 h2 h3 off).2 hd (by rw [(wholeV h1 h2 h3 off).1]; exact k)
theorem no_has {L : List HP} (h : Has (pr False) L) (r : Ro) (o : Own) (hs : seps L r o) : False := by
  obtain ⟨x, y, _, _, hA, _⟩ := h.ent (pers_pr False) r o hs
  exact hA
theorem SK.absurd {c : Code} (h : Has (pr False) L) : SK P rd N (.code c :: ks) T L Q := SK.know (no_has h) fun h => h.elim
theorem ent_triv {A : HP} [t : Triv A] : Ent L (A :: L) := fun r o h => ⟨fun _ _ => none, o, fun _ _ => .inl rfl, none_add, Triv.h _ _, h⟩
theorem SK.readable {c : Code} {α : Type} {ρ : Rep α} {A : Option Addr} {n m : Nat} {l : List α} (hh : Take (sqAt false ρ A n m l) L L') (h : SK P rd N (.code c :: ks) T (slAt ρ A n l :: sqAt false ρ A n m l :: L') Q) : SK P rd N (.code c :: ks) T L Q :=
  SK.shift (fun F w hst => hst.ent (Ent.cons (hh.ent.trans sl_of_sq))) h
end
end Go.Sl

set_option linter.unusedVariables false
set_option linter.unusedSectionVars false
namespace Go.Sl
section
variable {P : Program} [tb : Tab P] {rd : Option Nat} {N : Nat} {T : TT} {L L' L1 : List HP} {Q : Post} {ks : List K}
variable {all : Array Oper} {rest : List Oper}
theorem SK.openEx {c : Code} {α : Type} {A : α → HP} (hh : Take (ex A) L L') (h : ∀ x, SK P rd N (.code c :: ks) T (A x :: L') Q) : SK P rd N (.code c :: ks) T L Q := by
  rw [SK_code]
  intro F a w ok
  obtain ⟨D, h1, h2⟩ := ok.mem
  obtain ⟨x, h3⟩ := St.ex (h2.ent ((Ent.cons hh.ent).trans Ent.swap))
  exact SK_code.1 (h x) F a w ⟨ok.size, ok.get, D, h1, h3.ent Ent.swap⟩
theorem SK.openBig {c : Code} {M : List HP} (hh : Take (big M) L L') (h : SK P rd N (.code c :: ks) T (M ++ L') Q) : SK P rd N (.code c :: ks) T L Q :=
  SK.shift (fun F w hst => hst.ent (Ent.cons (hh.ent.trans ent_big))) h
theorem SO.know {o : Oper} {p : Prop} (h : ∀ r o, seps L r o → p) (k : p → SO P rd N all (o :: rest) T L ks Q) : SO P rd N all (o :: rest) T L ks Q := by
  intro F a w ok
  obtain ⟨D, hD, r, o, s, x, y, d, le, _, hL⟩ := ok.mem
  exact k (h r y hL) F a w ok
theorem ent_close {α : Type} {A : α → HP} {M R : List HP} (x : α) (hA : A x = big M) (h : Takes (M ++ R) L L1) : Ent L (ex A :: R) := by
  refine (ent_append_of_takes h).trans ((big_ent).trans ?_)
  rw [← hA]; exact ent_ex x
theorem ent_prs {p : Prop} {R : List HP} (hp : p) (h : Ent L R) : Ent L (pr p :: R) := h.trans (ent_pr hp)
theorem ent_closeR {α : Type} {A : α → HP} {M R : List HP} (x : α) (hA : A x = big M) (h : Takes (M ++ R) L L1) : Ent L (ex A :: (R ++ L1)) := by
  refine h.ent.trans ?_
  rw [List.append_assoc]
  refine (big_ent).trans ?_
  rw [← hA]; exact ent_ex x
theorem SO.shift {ops : List Oper} (hs : ∀ F w, St w (F :: L) → St w (F :: L')) (h : SO P rd N all ops T L' ks Q) : SO P rd N all ops T L ks Q :=
  fun F a w ok => h F a w ⟨ok.size, ok.get, let ⟨D, h1, h2⟩ := ok.mem; ⟨D, h1, hs _ _ h2⟩⟩
theorem SO.openEx {ops : List Oper} {α : Type} {A : α → HP} (hh : Take (ex A) L L') (h : ∀ x, SO P rd N all ops T (A x :: L') ks Q) : SO P rd N all ops T L ks Q := by
  intro F a w ok
  obtain ⟨D, h1, h2⟩ := ok.mem
  obtain ⟨x, h3⟩ := St.ex (h2.ent ((Ent.cons hh.ent).trans Ent.swap))
  exact h x F a w ⟨ok.size, ok.get, D, h1, h3.ent Ent.swap⟩
theorem SO.openBig {ops : List Oper} {M : List HP} (hh : Take (big M) L L') (h : SO P rd N all ops T (M ++ L') ks Q) : SO P rd N all ops T L ks Q :=
  SO.shift (fun F w hst => hst.ent (Ent.cons (hh.ent.trans ent_big))) h
theorem SO.openPr {ops : List Oper} {p : Prop} (hh : Take (pr p) L L') (h : p → SO P rd N all ops T L' ks Q) : SO P rd N all ops T L ks Q := by
  intro F a w ok
  obtain ⟨D, h1, h2⟩ := ok.mem
  obtain ⟨hp, h3⟩ := St.pr (h2.ent ((Ent.cons hh.ent).trans Ent.swap))
  exact h hp F a w ⟨ok.size, ok.get, D, h1, h3⟩
theorem SK.openPr {c : Code} {p : Prop} (hh : Take (pr p) L L') (h : p → SK P rd N (.code c :: ks) T L' Q) : SK P rd N (.code c :: ks) T L Q := by
  rw [SK_code]
  intro F a w ok
  obtain ⟨D, h1, h2⟩ := ok.mem
  obtain ⟨hp, h3⟩ := St.pr (h2.ent ((Ent.cons hh.ent).trans Ent.swap))
  exact SK_code.1 (h hp) F a w ⟨ok.size, ok.get, D, h1, h3⟩
def allAtoms {α : Type} (ρ : Rep α) : List (α × ρ.V) → List HP
  | [] => []
  | (x, h) :: z => ρ.atoms x h ++ allAtoms ρ z
theorem ent_memA {α : Type} {ρ : Rep α} {z : List (α × ρ.V)} (h : HasAll (allAtoms ρ z) L) : Ent L (memA ρ z :: L) := by
  have hp : ∀ (z : List (α × ρ.V)), ∀ A ∈ allAtoms ρ z, Pers A := by
    intro z
    induction z with
    | nil => intro A h; cases h
    | cons p z ih =>
      obtain ⟨x, h⟩ := p
      intro A hA
      simp only [allAtoms, List.mem_append] at hA
      rcases hA with hA | hA
      · exact ρ.pers x h A hA
      · exact ih A hA
  refine (h.ent (hp z)).trans ?_
  refine big_ent.trans ?_
  intro r o hs
  obtain ⟨a, b, d, le, hA, hL⟩ := hs
  refine ⟨a, b, d, le, ?_, hL⟩
  have : ∀ (z : List (α × ρ.V)) (a : Own), seps (allAtoms ρ z) r a → memS ρ z r := by
    intro z
    induction z with
    | nil => intro a _ i x h e; simp at e
    | cons p z ih =>
      obtain ⟨y, hy⟩ := p
      intro a hs i x h e
      have hs2 := ent_big r a (big_ent (A := ρ.atoms y hy) (L := allAtoms ρ z) r a hs)
      obtain ⟨a1, a2, d, le, h1, h2⟩ := big_ent (A := ρ.atoms y hy) (L := allAtoms ρ z) r a hs
      cases i with
      | zero =>
        simp at e; obtain ⟨rfl, rfl⟩ := e
        have : ∀ (M : List HP) (o : Own), (∀ X ∈ M, Pers X) → seps M r o → seps M r (fun _ _ => none) := by
          intro M
          induction M with
          | nil => intros; trivial
          | cons X M ih =>
            rintro o hp ⟨p, q, d, le, hX, hM⟩
            exact ⟨_, _, fun _ _ => .inl rfl, none_add, hp X (by simp) _ _ hX, ih q (fun Y hY => hp Y (by simp [hY])) hM⟩
        exact this _ a1 (ρ.pers y hy) h1
      | succ i => exact ih a2 h2 i x h (by simpa using e)
  exact this z a hA
theorem toSl {α : Type} {ρ : Rep α} {b n : Nat} {cs : List Value} {l : List α} (z : List (α × ρ.V)) (hh : Take (pts b 0 cs) L L') (hz : z.map (·.1) = l) (hc : flat ρ z = cs) (hn : n = l.length) (hl : Nat.ble n lim = true) (ha : HasAll (allAtoms ρ z) L') (F : HP) (w : World) (hst : St w (F :: L)) :
    St w (F :: slAt ρ (some ⟨b, 0, none⟩) n l :: L') := by
  have h1 : St w (pts b 0 cs :: F :: L') := hst.ent ((Ent.cons hh.ent).trans Ent.swap)
  have h2 := h1.publish
  subst hc
  have h3 : St w (rod b 0 (flat ρ z) :: memA ρ z :: F :: L') := h2.ent (Ent.cons ((Ent.cons (ent_memA ha)).trans Ent.swap))
  have := h3.ent (sl_shut (a := ⟨b, 0, none⟩) hn (Nat.le_of_ble_eq_true hl) rfl hz)
  exact this.ent Ent.swap
theorem ent_nil : Ent L [] := fun _ _ _ => trivial
end
end Go.Sl

set_option linter.unusedVariables false
set_option linter.unusedSectionVars false
namespace Go.Sl
def some1 {α : Type} (p : α → Prop) (M : α → List HP) : HP := ex fun x => big (pr (p x) :: M x)
section
variable {P : Program} [tb : Tab P] {rd : Option Nat} {N : Nat} {T : TT} {L L' L1 : List HP} {Q : Post} {ks : List K}
variable {all : Array Oper}
theorem ent_tok {α : Type} {p : α → Prop} {M : α → List HP} {R : List HP} (x : α) (hp : p x) (h : Takes (M x ++ R) L L1) : Ent L (some1 p M :: R) :=
  (ent_prs hp (ent_append_of_takes h)).trans ((big_ent (A := pr (p x) :: M x)).trans (ent_ex (A := fun x => big (pr (p x) :: M x)) x))
theorem SO.tok {ops : List Oper} {α : Type} {p : α → Prop} {M : α → List HP} (hh : Take (some1 p M) L L') (h : ∀ x, p x → SO P rd N all ops T (M x ++ L') ks Q) : SO P rd N all ops T L ks Q := by
  refine SO.openEx (A := fun x => big (pr (p x) :: M x)) hh fun x => ?_
  refine SO.openBig .here ?_
  exact SO.openPr .here (h x)
theorem SK.tok {c : Code} {α : Type} {p : α → Prop} {M : α → List HP} (hh : Take (some1 p M) L L') (h : ∀ x, p x → SK P rd N (.code c :: ks) T (M x ++ L') Q) : SK P rd N (.code c :: ks) T L Q := by
  refine SK.openEx (A := fun x => big (pr (p x) :: M x)) hh fun x => ?_
  refine SK.openBig .here ?_
  exact SK.openPr .here (h x)
end
end Go.Sl

set_option linter.unusedVariables false
set_option linter.unusedSectionVars false
namespace Go.Sl
section
variable {P : Program} [tb : Tab P] {rd : Option Nat} {N : Nat} {T : TT} {L L' L1 : List HP} {Q : Post} {ks : List K}
variable {all : Array Oper}
theorem toSq {α : Type} {ρ : Rep α} {b n : Nat} {cs : List Value} {l : List α} (z : List (α × ρ.V)) (hh : Take (pts b 0 cs) L L') (hz : z.map (·.1) = l) (hc : flat ρ z = cs) (hn : n = l.length) (hl : Nat.ble n lim = true) (ha : HasAll (allAtoms ρ z) L') (F : HP) (w : World) (hst : St w (F :: L)) :
    St w (F :: sqAt true ρ (some ⟨b, 0, none⟩) n n l :: L') := by
  have h1 : St w (pts b 0 cs :: F :: L') := hst.ent ((Ent.cons hh.ent).trans Ent.swap)
  subst hc
  have hm : St w (pts b 0 (flat ρ z) :: memA ρ z :: F :: L') := h1.ent (Ent.cons ((Ent.cons (ent_memA ha)).trans Ent.swap))
  have h2 : Ent (memA ρ z :: F :: L') (pts b (0 + n * ρ.sz) [] :: memA ρ z :: F :: L') :=
    fun r o h => ⟨fun _ _ => none, o, fun _ _ => .inl rfl, none_add, fun i v e => by simp at e, h⟩
  have h3 := hm.ent (Ent.cons h2)
  have := h3.ent (sq_shut (w := true) (a := ⟨b, 0, none⟩) hn (Nat.le_of_ble_eq_true hl) (Nat.le_refl n) rfl hz (by simp))
  exact this.ent Ent.swap
theorem toSqR {α : Type} {ρ : Rep α} {b n : Nat} {cs : List Value} {l : List α} (z : List (α × ρ.V)) (hh : Take (pts b 0 cs) L L') (hz : z.map (·.1) = l) (hc : flat ρ z = cs) (hn : n = l.length) (hl : Nat.ble n lim = true) (ha : HasAll (allAtoms ρ z) L') (F : HP) (w : World) (hst : St w (F :: L)) :
    St w (F :: sqAt false ρ (some ⟨b, 0, none⟩) n n l :: L') :=
  (((toSq z hh hz hc hn hl ha F w hst).ent Ent.swap).shut).ent Ent.swap
theorem SO.readable {ops : List Oper} {α : Type} {ρ : Rep α} {A : Option Addr} {n m : Nat} {l : List α} (hh : Take (sqAt false ρ A n m l) L L') (h : SO P rd N all ops T (slAt ρ A n l :: sqAt false ρ A n m l :: L') ks Q) : SO P rd N all ops T L ks Q :=
  SO.shift (fun F w hst => hst.ent (Ent.cons (hh.ent.trans sl_of_sq))) h
end
end Go.Sl

set_option linter.unusedVariables false
set_option linter.unusedSectionVars false
namespace Go.Sl
open Go.ChangeShapes Go.WideShapes Go.RowKit
def ro0 (W : World) : Ro := ⟨fun i j => W.cell? ⟨i, j, none⟩, W⟩
def own0 : Own := fun _ _ => none
theorem sat0 (W : World) : Sat W (ro0 W) own0 :=
  ⟨fun i j v e => e, fun i j v e => (by cases e), fun i j x e => (by cases e), fun i j v c e e' => (by cases e'), Below.refl _ _, fun i j c e => (by cases e), fun i j e => (by cases e)⟩
theorem seps_nil_own {L : List HP} : ∀ {r : Ro}, (∀ A ∈ L, A.h r own0) → seps L r own0 := by
  induction L with
  | nil => intros; trivial
  | cons A L ih => intro r h; exact ⟨own0, own0, fun _ _ => .inl rfl, none_add, h A (by simp), ih fun B hB => h B (by simp [hB])⟩
theorem Does.law {P : Program} {f : FuncId} {args : List Value} {pers : List HP} {X : Type} {ok : X → Prop} {v : Value} {out : X → List HP} (h : Does P f args pers [] X ok (fun _ => v) out) (W : World) (hp : ∀ A ∈ pers, A.h (ro0 W) own0) :
    Calls P f args.toArray W fun e W' => e = .returned v ∧ Below W.heap.size W W' := by
  have hst : St W (pin (ro0 W) own0 :: (pers ++ [])) := by
    refine ⟨ro0 W, own0, sat0 W, own0, own0, fun _ _ => .inl rfl, none_add, ⟨Ro.le_refl _, Own.le_refl _⟩, ?_⟩
    rw [List.append_nil]
    exact seps_nil_own hp
  refine (h.calls _ W hst).mono ?_
  rintro e W' ⟨x, hx, rfl, r', o', s', a1, b1, d1, le1, ⟨h1, h2⟩, _⟩
  refine ⟨rfl, ?_⟩
  have := s'.below
  rw [h1.bs] at this
  exact this
section
variable {H : Type} {enc : TypeId × Value → H} {P : Program}
theorem trodAll_stays (hl : laidOutB P = true) {W W' : World} (hb : Below W.heap.size W W') {sp : Nat → Bool} : ∀ {ts : List TypeId} {vs : List Value} {ds : List (DataW H)} {ps : List MemPlace}, (∀ t ∈ ts, P.readableRec t = true ∧ t < P.types.size) →
    DataW.TrodAll enc P W 0 (fun _ => true) true ts vs ds ps → (∀ x ∈ ps, x.block < W.heap.size) → (∀ x ∈ ps, sp x.block = true) → DataW.TrodAll enc P W' 0 sp true ts vs ds ps
  | [], _, _, _, _, h, _, _ => by
    obtain ⟨rfl, rfl, rfl⟩ := trodAll_nil h
    exact trodAll_mk0
  | t :: ts, _, _, _, hr, h, hlt, hs => by
    obtain ⟨v, vs, d, ds, p, q, rfl, rfl, rfl, h1, h2⟩ := trodAll_cons h
    refine ⟨p, q, WideElems.Trod_stays hl (hr t (by simp)).1 (hr t (by simp)).2 h1 (fun x hx => hb.same (hlt x (by simp [hx]))) (fun x hx => hs x (by simp [hx])), ?_, rfl⟩
    exact trodAll_stays hl hb (fun t ht => hr t (by simp [ht])) h2 (fun x hx => hlt x (by simp [hx])) (fun x hx => hs x (by simp [hx]))
def typesOk (P : Program) (ts : List TypeId) : Bool := ts.all fun t => P.readableRec t && decide (t < P.types.size)
theorem typesOk_all {ts : List TypeId} (h : typesOk P ts = true) : ∀ t ∈ ts, P.readableRec t = true ∧ t < P.types.size := fun t ht => by
  have := List.all_eq_true.1 h t ht
  simpa using this
theorem law_post {fn : Func} {s : ChangeSpec} {apart fresh handsOn again : Bool} {W W' : World} {args : Array Value} {ds : List (DataW H)} {before : List MemPlace} {tb : TypeId} (hl : laidOutB P = true) (ht : typesOk P fn.params.toList = true) (hr : fn.resultTypes = #[tb]) (hbool : P.underlying tb = some .bool)
    (hv : s.vars = []) (hfn : s.fn H ds = { results := [.lit (.bool true)], args := ds }) (hW : DataW.Whole enc P fn.params.toList s.vars apart W args.toList ds [] before) (hb : Below W.heap.size W W') :
    s.post enc P fn apart fresh handsOn again W args (.bool true) W' := by
  have hW0 := hW
  obtain ⟨p, q, hA, hV, rfl, hfz, hnd⟩ := hW
  have hlt : ∀ x ∈ p ++ q, x.block < W.heap.size := fun x hx => hW0.lt x hx
  rw [hv] at hV
  obtain rfl : q = [] := hV
  have hold : ∀ x ∈ p ++ [], (fun b => decide (b < W.heap.size)) x.block = true := fun x hx => by simpa using hlt x hx
  have hargs : ∀ sp : Nat → Bool, (∀ x ∈ p ++ [], sp x.block = true) → DataW.TrodAll enc P W' 0 sp true fn.params.toList args.toList (s.fn H (ds ++ [])).args p := fun sp hsp => by
    rw [List.append_nil, hfn]
    exact trodAll_stays hl hb (typesOk_all ht) hA (fun x hx => hlt x (by simp [hx])) (fun x hx => hsp x (by simp [hx]))
  have hres : ∀ (b : Nat) (sp : Nat → Bool) (hd : Bool), DataW.TrodAll enc P W' b sp hd fn.resultTypes.toList ((Value.bool true).resultList fn.resultTypes.size) (s.fn H (ds ++ [])).results [] := fun b sp hd => by
    rw [List.append_nil, hfn, hr]
    exact trodAll_mk1 ⟨1, by simp [DataW.trod, Value.cells, hbool]⟩
  have hvars : ∀ sp : Nat → Bool, DataW.TrodVars enc P W' sp s.vars (s.fn H (ds ++ [])).vars [] := fun sp => by
    rw [List.append_nil, hfn, hv]; rfl
  refine ⟨ds, [], p ++ [], [], p, [], hW0, hres _ _ _, hargs _ hold, hvars _, hb.frame _, fun _ => ?_⟩
  refine ⟨?_, _, _, ([] ++ p) ++ [], ⟨[] ++ p, [], trodAll_append (hargs _ (fun _ _ => rfl)) (hres _ _ _), hvars _, rfl, ?_, ?_⟩, ?_⟩
  · exact ok_one hr rfl (by simp [Value.okWide, Cell.okWide, Cell.ok, hbool])
  · intro b off hp
    have hp' : MemPlace.cell b off ∈ p ++ [] := by simpa using hp
    have hlt' : b < W.heap.size := hlt _ hp'
    rw [hb.frozen (p := ⟨b, off, none⟩) hlt']
    exact hfz b off hp'
  · intro ha
    have := hnd ha
    simpa using this
  · intro x hx _
    simpa using hx
end
end Go.Sl

set_option linter.unusedVariables false
set_option linter.unusedSectionVars false
namespace Go.Sl
open Go.ChangeShapes Go.WideShapes Go.RowKit
section
variable {H : Type} {enc : TypeId × Value → H} {P : Program} {W : World}
def Rd {α : Type} (enc : TypeId × Value → H) (P : Program) (W : World) (t : TypeId) (ρ : Rep α) (p : α → Prop) : Prop :=
  ∀ fuel cs x, DataW.trod enc P W 0 (fun _ => true) true fuel t cs = some x → ∃ a h, p a ∧ cs = ρ.cells a h ∧ seps (ρ.atoms a h) (ro0 W) own0
theorem slot_ok {P : Program} {t e : TypeId} {r : Reach} {b0 : Nat} {v : Value} (ht : P.underlying t = some (.slice e)) (h : Value.okWide P W r b0 t v) : ∃ A n c, v = .slice A n c ∧ (∀ a, A = some a → a.spot = none) := by
  obtain ⟨A, n, c, rfl⟩ := okWide_slice ht h
  refine ⟨A, n, c, rfl, ?_⟩
  rintro a rfl
  simp only [Value.okWide, ht, Cell.okWide, Cell.ok] at h
  exact h.2.2.2.1
theorem flat_cell {α : Type} {ρ : Rep α} (z : List (α × ρ.V)) {i : Nat} {v : Value} (h : (flat ρ z)[i]? = some v) : ∃ k j x y, z[k]? = some (x, y) ∧ i = k * ρ.sz + j ∧ j < ρ.sz ∧ (ρ.cells x y)[j]? = some v := by
  have hi : i < z.length * ρ.sz := by rw [← flat_length]; exact row_lt h
  have hp := ρ.pos
  have hk : i / ρ.sz < z.length := Nat.div_lt_of_lt_mul (by rw [Nat.mul_comm]; exact hi)
  have hj : i % ρ.sz < ρ.sz := Nat.mod_lt _ hp
  have he : i = i / ρ.sz * ρ.sz + i % ρ.sz := by rw [Nat.mul_comm]; exact (Nat.div_add_mod i ρ.sz).symm
  obtain ⟨⟨x, y⟩, hz'⟩ : ∃ xy, z[i / ρ.sz]? = some xy := ⟨_, List.getElem?_eq_getElem hk⟩
  refine ⟨_, _, x, y, hz', he, hj, ?_⟩
  rw [← flat_get z _ _ x y hz' hj, ← he]; exact h
theorem read_slice {α : Type} {ρ : Rep α} {p : α → Prop} {t e : TypeId} {r : Reach} {b0 : Nat} {v : Value} {d : DataW H} {ps : List MemPlace} (ht : P.underlying t = some (.slice e)) (hsz : P.cellsOf e = ρ.sz) (he : Rd enc P W e ρ p)
    (hok : Value.okWide P W r b0 t v) (h : DataW.Trod enc P W 0 (fun _ => true) true t v d ps) :
    ∃ A n c, ∃ l : List α, v = .slice A n c ∧ n = l.length ∧ n ≤ c ∧ (∀ x ∈ l, p x) ∧ (n ≤ lim → (slAt ρ A n l).h (ro0 W) own0) := by
  obtain ⟨A, n, c, rfl, hspot⟩ := slot_ok ht hok
  obtain ⟨fuel, hf⟩ := h
  rcases DataW.trod_slice ht hf with ⟨hcs, hx⟩ | ⟨a, len, cap, elems, rest, m, _, hcs, hx, hb, hl, hm, hlen, hel, _, _⟩
  · simp only [Value.cells] at hcs
    obtain ⟨rfl, rfl, rfl⟩ : A = none ∧ n = 0 ∧ c = 0 := by simpa using hcs
    exact ⟨none, 0, 0, [], rfl, rfl, Nat.le_refl _, by simp, fun h => ⟨rfl, h, fun _ => rfl, fun a h => by cases h⟩⟩
  · simp only [Value.cells] at hcs
    obtain ⟨rfl, rfl, rfl⟩ : A = some a ∧ n = len ∧ c = cap := by simpa using hcs
    have hs := hspot a rfl
    have each : ∀ i : Fin n, ∃ xy : α × ρ.V, p xy.1 ∧ (∀ j v, (ρ.cells xy.1 xy.2)[j]? = some v → W.cell? ⟨a.block, a.off + (i.1 * ρ.sz + j), none⟩ = some v) ∧ seps (ρ.atoms xy.1 xy.2) (ro0 W) own0 := by
      intro i
      have hi := hel i.1 i.2
      have he' : i.1 < elems.length := by rw [hlen]; exact i.2
      rw [List.getElem?_eq_getElem he', Option.bind_eq_some_iff] at hi
      obtain ⟨cs, hcs, htr⟩ := hi
      obtain ⟨x, y, hp, rfl, hat⟩ := he m cs _ htr
      refine ⟨(x, y), hp, fun j v hv => ?_, hat⟩
      obtain ⟨_, hlc, hc⟩ := World.cells?_some hcs
      have hj := row_lt hv
      rw [hsz] at hc
      have := hc j (by rw [ρ.len] at hj; exact hj)
      rw [hv, eadr_base hs, Addr.add] at this
      split at this
      · rename_i h0; rw [h0, Nat.add_zero]; exact this
      · rw [← Nat.add_assoc]; exact this
    let f : Fin n → α × ρ.V := fun i => (each i).choose
    have hfp : ∀ i, _ := fun i => (each i).choose_spec
    have hget : ∀ (k : Nat) x, (List.ofFn f)[k]? = some x → ∃ hk : k < n, x = f ⟨k, hk⟩ := fun k x hx => by
      have hk := row_lt hx
      simp at hk
      refine ⟨hk, ?_⟩
      rw [List.getElem?_ofFn] at hx
      simpa [hk] using hx.symm
    refine ⟨some a, n, c, (List.ofFn f).map (·.1), rfl, by simp, hl, ?_, fun hlim => ⟨by simp, hlim, fun h => (by cases h), fun a' ha => ?_⟩⟩
    · intro x hx
      obtain ⟨y, hy, rfl⟩ := List.mem_map.1 hx
      obtain ⟨k, hk⟩ := List.getElem?_of_mem hy
      obtain ⟨hk', rfl⟩ := hget k y hk
      exact (hfp ⟨k, hk'⟩).1
    · cases ha
      refine ⟨fun _ => hs, List.ofFn f, rfl, fun i v hv => ?_, fun i x y hx => ?_⟩
      · obtain ⟨k, j, x, y, hz, hi, hj, hv⟩ := flat_cell _ hv
        obtain ⟨hk, hxy⟩ := hget k _ hz
        have := (hfp ⟨k, hk⟩).2.1 j v (by show (ρ.cells (f ⟨k, hk⟩).1 (f ⟨k, hk⟩).2)[j]? = _; rw [← hxy]; exact hv)
        rw [hi]; exact this
      · obtain ⟨hk, hxy⟩ := hget i _ hx
        have := (hfp ⟨i, hk⟩).2.2
        change seps (ρ.atoms (f ⟨i, hk⟩).1 (f ⟨i, hk⟩).2) _ _ at this
        rw [← hxy] at this
        exact this
end
end Go.Sl

set_option linter.unusedVariables false
set_option linter.unusedSectionVars false
set_option linter.unusedSimpArgs false
namespace Go.Sl
theorem run_und' {P : Program} {t : Nat} {d : TypeDesc} (h : P.underlying t = some d) (w : World) : (underlying t).run P w = .ok d w := by
  simp [underlying, program, Sem.run, bind, Sem.bind, h, pure]
def kdOf : TK → Option TypeDesc
  | .int k => some (.int k)
  | .str => some .string
  | .bool => some .bool
  | _ => none
theorem kdOf_ok {P : Program} {t : Nat} {ti : TI} (h : ti.ok P t) {d : TypeDesc} (e : kdOf ti.k = some d) : P.underlying t = some d := by
  have hk := h.k
  revert hk e
  cases ti.k <;> simp only [kdOf, TK.ok] <;> intro e hk <;> first | (cases e; done) | (cases e; exact hk)
structure KR (κ : Type) where
  tk : Program → Nat → TK → Prop
  v : κ → Value
  bits : ∀ a, Instr.sameBits 10000 (v a) (v a) = true
  chk : ∀ (P : Program) (t : Nat) (ti : TI), ti.ok P t → tk P t ti.k → ∀ (e : Bool) (a : κ) (w : World), (Instr.checkKey e 10000 t (v a)).run P w = .ok () w
  find0 : ∀ (P : Program) (t : Nat) (ti : TI), ti.ok P t → tk P t ti.k → ∀ (k : κ) (es : List MapEntry) (w : World), (∀ e ∈ es, ∃ j, e.key = v j ∧ j ≠ k) → (Instr.findKey t (v k) es).run P w = .ok none w
  find1 : ∀ (P : Program) (t : Nat) (ti : TI), ti.ok P t → tk P t ti.k → ∀ (k : κ) (es : List MapEntry) (e : MapEntry) (es2 : List MapEntry) (w : World), (∀ e ∈ es, ∃ j, e.key = v j ∧ j ≠ k) → e.key = v k →
    (Instr.findKey t (v k) (es ++ e :: es2)).run P w = .ok (some (es.length, e.val)) w
structure KN (κ : Type) where
  kd : TypeDesc
  v : κ → Value
  now : ∀ a b, (a = b ∧ Instr.sameNow kd (v a) (v b) = some true) ∨ (a ≠ b ∧ Instr.sameNow kd (v a) (v b) = some false)
  bits : ∀ a, Instr.sameBits 10000 (v a) (v a) = true
  chk : ∀ (P : Program) (t : Nat) (e : Bool) (a : κ) (w : World), P.underlying t = some kd → (Instr.checkKey e 10000 t (v a)).run P w = .ok () w
theorem KN.none_ {κ : Type} (n : KN κ) {k : κ} : ∀ {es : List MapEntry} {i : Nat}, (∀ e ∈ es, ∃ j, e.key = n.v j ∧ j ≠ k) → Instr.findNow n.kd (n.v k) es i = some none
  | [], i, _ => rfl
  | p :: z, i, h => by
    obtain ⟨j, e1, e2⟩ := h p (by simp)
    have h2 : Instr.sameNow n.kd (n.v k) p.key = some false := by
      rw [e1]
      rcases n.now k j with ⟨e, _⟩ | ⟨_, e⟩
      · exact absurd e.symm e2
      · exact e
    simp only [Instr.findNow, h2]
    exact n.none_ fun q hq => h q (by simp [hq])
theorem KN.some_ {κ : Type} (n : KN κ) {k : κ} {p : MapEntry} {z2 : List MapEntry} (hp : p.key = n.v k) : ∀ {es : List MapEntry} {i : Nat}, (∀ e ∈ es, ∃ j, e.key = n.v j ∧ j ≠ k) → Instr.findNow n.kd (n.v k) (es ++ p :: z2) i = some (some (i + es.length, p.val))
  | [], i, _ => by
    have h2 : Instr.sameNow n.kd (n.v k) p.key = some true := by
      rw [hp]
      rcases n.now k k with ⟨_, e⟩ | ⟨e, _⟩
      · exact e
      · exact absurd rfl e
    simp only [List.nil_append, Instr.findNow, h2]
    simp
  | q :: z1, i, h => by
    obtain ⟨j, e1, e2⟩ := h q (by simp)
    have h2 : Instr.sameNow n.kd (n.v k) q.key = some false := by
      rw [e1]
      rcases n.now k j with ⟨e, _⟩ | ⟨_, e⟩
      · exact absurd e.symm e2
      · exact e
    have := n.some_ (z2 := z2) hp (es := z1) (i := i + 1) (fun r hr => h r (by simp [hr]))
    simp only [List.cons_append, Instr.findNow, h2]
    rw [show i + (q :: z1).length = i + 1 + z1.length by simp; omega]
    exact this
theorem run_findKey {P : Program} {kd : TypeDesc} {t : Nat} (ht : P.underlying t = some kd) {k : Value} {es : List MapEntry} {res : Option (Nat × Value)} (h : Instr.findNow kd k es 0 = some res) (w : World) : (Instr.findKey t k es).run P w = .ok res w := by
  unfold Instr.findKey
  simp [Sem.run_bind, run_und' ht, h]
def KN.kr {κ : Type} (n : KN κ) : KR κ where
  tk := fun _ _ k => kdOf k = some n.kd
  v := n.v
  bits := n.bits
  chk := fun P t ti h e b a w => n.chk P t b a w (kdOf_ok h e)
  find0 := fun P t ti h e k es w hes => run_findKey (kdOf_ok h e) (n.none_ hes) w
  find1 := fun P t ti h e k es p es2 w hes hp => by
    rw [run_findKey (kdOf_ok h e) (n.some_ hp hes (z2 := es2)) w, Nat.zero_add]
def KIn (k : IntKind) : KN Int where
  kd := .int k
  v := fun n => .int k n
  now := fun a b => by
    by_cases h : a = b
    · left; exact ⟨h, by simp [Instr.sameNow, h]⟩
    · right; exact ⟨h, by simp [Instr.sameNow, h]⟩
  bits := fun a => by simp [Instr.sameBits]
  chk := fun P t e a w h => by
    unfold Instr.checkKey
    simp [Sem.run_bind, run_und' h]
def KI (k : IntKind) : KR Int := { (KIn k).kr with v := fun n => .int k n }
section
variable {κ α : Type} [DecidableEq κ]
def mget : List (κ × α) → κ → Option α
  | [], _ => none
  | (k', v) :: l, k => if k' = k then some v else mget l k
def mput : List (κ × α) → κ → α → List (κ × α)
  | [], k, v => [(k, v)]
  | (k', v') :: l, k, v => if k' = k then (k, v) :: l else (k', v') :: mput l k v
def mdel : List (κ × α) → κ → List (κ × α)
  | [], _ => []
  | (k', v') :: l, k => if k' = k then l else (k', v') :: mdel l k
def keysM (l : List (κ × α)) : List κ := l.map (·.1)
theorem mget_none : ∀ {l : List (κ × α)} {k : κ}, (∀ p ∈ l, p.1 ≠ k) → mget l k = none
  | [], _, _ => rfl
  | (k', v) :: l, k, h => by
    simp only [mget]; rw [if_neg (h (k', v) (by simp))]
    exact mget_none fun p hp => h p (by simp [hp])
theorem mget_some : ∀ {l1 l2 : List (κ × α)} {k : κ} {v : α}, (∀ p ∈ l1, p.1 ≠ k) → mget (l1 ++ (k, v) :: l2) k = some v
  | [], l2, k, v, _ => by simp [mget]
  | (k', v') :: l1, l2, k, v, h => by
    simp only [mget, List.cons_append]; rw [if_neg (h (k', v') (by simp))]
    exact mget_some fun p hp => h p (by simp [hp])
theorem mput_new : ∀ {l : List (κ × α)} {k : κ} {v : α}, (∀ p ∈ l, p.1 ≠ k) → mput l k v = l ++ [(k, v)]
  | [], _, _, _ => rfl
  | (k', v') :: l, k, v, h => by
    simp only [mput, List.cons_append]; rw [if_neg (h (k', v') (by simp)), mput_new fun p hp => h p (by simp [hp])]
theorem mput_old : ∀ {l1 l2 : List (κ × α)} {k : κ} {v v' : α}, (∀ p ∈ l1, p.1 ≠ k) → mput (l1 ++ (k, v') :: l2) k v = l1 ++ (k, v) :: l2
  | [], l2, k, v, v', _ => by simp [mput]
  | (k1, v1) :: l1, l2, k, v, v', h => by
    simp only [mput, List.cons_append]; rw [if_neg (h (k1, v1) (by simp)), mput_old fun p hp => h p (by simp [hp])]
theorem mdel_none : ∀ {l : List (κ × α)} {k : κ}, (∀ p ∈ l, p.1 ≠ k) → mdel l k = l
  | [], _, _ => rfl
  | (k', v') :: l, k, h => by
    simp only [mdel]; rw [if_neg (h (k', v') (by simp)), mdel_none fun p hp => h p (by simp [hp])]
theorem mdel_old : ∀ {l1 l2 : List (κ × α)} {k : κ} {v : α}, (∀ p ∈ l1, p.1 ≠ k) → mdel (l1 ++ (k, v) :: l2) k = l1 ++ l2
  | [], l2, k, v, _ => by simp [mdel]
  | (k1, v1) :: l1, l2, k, v, h => by
    simp only [mdel, List.cons_append]; rw [if_neg (h (k1, v1) (by simp)), mdel_old fun p hp => h p (by simp [hp])]
theorem mget_mput (l : List (κ × α)) (k j : κ) (v : α) : mget (mput l k v) j = if j = k then some v else mget l j := by
  induction l with
  | nil => simp only [mput, mget]; by_cases h : k = j <;> simp [h, eq_comm]
  | cons p l ih =>
    obtain ⟨k', v'⟩ := p
    simp only [mput]
    by_cases h : k' = k
    · subst h; rw [if_pos rfl]; simp only [mget]; by_cases hj : k' = j
      · simp [hj]
      · rw [if_neg hj, if_neg (fun e => hj e.symm), if_neg hj]
    · rw [if_neg h]; simp only [mget, ih]
      by_cases hj : k' = j
      · subst hj; simp [h]
      · simp [hj]
theorem keys_mput (l : List (κ × α)) (k : κ) (v : α) : keysM (mput l k v) = if k ∈ keysM l then keysM l else keysM l ++ [k] := by
  induction l with
  | nil => simp [mput, keysM]
  | cons p l ih =>
    obtain ⟨k', v'⟩ := p
    simp only [mput]
    by_cases h : k' = k
    · subst h; simp [keysM]
    · rw [if_neg h]
      simp only [keysM, List.map_cons, List.mem_cons] at ih ⊢
      rw [ih]
      by_cases hk : k ∈ l.map (·.1)
      · simp [hk]
      · simp [hk]; exact fun e => h e.symm
theorem nodup_mput {l : List (κ × α)} (hn : (keysM l).Nodup) (k : κ) (v : α) : (keysM (mput l k v)).Nodup := by
  rw [keys_mput]
  split
  · exact hn
  · rename_i h
    rw [List.nodup_append]
    exact ⟨hn, by simp, fun a ha b hb => by simp at hb; subst hb; intro e; subst e; exact h ha⟩
theorem mdel_sub : ∀ (l : List (κ × α)) (k : κ), (mdel l k).Sublist l
  | [], _ => List.Sublist.slnil
  | (k', v') :: l, k => by
    simp only [mdel]
    split
    · exact List.sublist_cons_self _ _
    · exact (mdel_sub l k).cons_cons _
theorem nodup_mdel {l : List (κ × α)} (hn : (keysM l).Nodup) (k : κ) : (keysM (mdel l k)).Nodup := hn.sublist ((mdel_sub l k).map _)
theorem mget_isSome {l : List (κ × α)} {k : κ} : (mget l k).isSome = true ↔ k ∈ keysM l := by
  induction l with
  | nil => simp [mget, keysM]
  | cons p l ih =>
    obtain ⟨k', v'⟩ := p
    simp only [mget, keysM, List.map_cons, List.mem_cons]
    by_cases h : k' = k
    · simp [h]
    · rw [if_neg h, ih]; simp only [keysM]; exact ⟨fun h' => .inr h', fun h' => h'.resolve_left (fun e => h e.symm)⟩
end
section
variable {κ α : Type} [DecidableEq κ]
abbrev ZM (κ : Type) {α : Type} (ρ : Rep α) := (κ × α) × (ρ.V × Nat)
def entM (kr : KR κ) (ρ : Rep α) (p : ZM κ ρ) : MapEntry := { key := kr.v p.1.1, val := ρ.val p.1.2 p.2.1, born := p.2.2 }
def mpAt (kr : KR κ) (ρ : Rep α) (b : Nat) (l : List (κ × α)) : HP :=
  ⟨fun r o => ∃ (z : List (ZM κ ρ)) (clock : Nat), z.map (·.1) = l ∧ (keysM l).Nodup ∧ ((z.map fun p : ZM κ ρ => p.2.2).Pairwise (· < ·) ∧ ∀ p ∈ z, p.2.2 < clock) ∧ o b 0 = some (.obj (.map (z.map (entM kr ρ)).toArray clock)) ∧ ∀ p ∈ z, seps (ρ.atoms p.1.2 p.2.1) r own0,
   fun r r' o o' hr ho ⟨z, clock, h1, h2, h3, h4, h5⟩ => ⟨z, clock, h1, h2, h3, ho _ _ _ h4, fun p hp => seps_up hr (Own.le_refl _) (h5 p hp)⟩⟩
theorem split_key (ρ : Rep α) (z : List (ZM κ ρ)) (k : κ) : (∀ p ∈ z, p.1.1 ≠ k) ∨ ∃ z1 p z2, z = z1 ++ p :: z2 ∧ (∀ q ∈ z1, q.1.1 ≠ k) ∧ p.1.1 = k := by
  induction z with
  | nil => left; simp
  | cons p z ih =>
    by_cases h : p.1.1 = k
    · right; exact ⟨[], p, z, rfl, by simp, h⟩
    · rcases ih with h' | ⟨z1, q, z2, rfl, h1, h2⟩
      · left; intro q hq
        rcases List.mem_cons.1 hq with rfl | hq
        · exact h
        · exact h' q hq
      · right
        refine ⟨p :: z1, q, z2, rfl, fun r hr => ?_, h2⟩
        rcases List.mem_cons.1 hr with rfl | hr
        · exact h
        · exact h1 r hr
theorem mfind_none {P : Program} {kr : KR κ} {ρ : Rep α} {t : Nat} {ti : TI} (ht : ti.ok P t) (hk : kr.tk P t ti.k) {k : κ} {z : List (ZM κ ρ)} (h : ∀ p ∈ z, p.1.1 ≠ k) (w : World) : (Instr.findKey t (kr.v k) (z.map (entM kr ρ))).run P w = .ok none w :=
  kr.find0 P t ti ht hk k _ w fun e he => by
    obtain ⟨p, hp, rfl⟩ := List.mem_map.1 he
    exact ⟨p.1.1, rfl, h p hp⟩
theorem mfind_some {P : Program} {kr : KR κ} {ρ : Rep α} {t : Nat} {ti : TI} (ht : ti.ok P t) (hk : kr.tk P t ti.k) {p : ZM κ ρ} {z1 z2 : List (ZM κ ρ)} (h : ∀ q ∈ z1, q.1.1 ≠ p.1.1) (w : World) : (Instr.findKey t (kr.v p.1.1) ((z1 ++ p :: z2).map (entM kr ρ))).run P w = .ok (some (z1.length, ρ.val p.1.2 p.2.1)) w := by
  rw [List.map_append, List.map_cons]
  have := kr.find1 P t ti ht hk p.1.1 (z1.map (entM kr ρ)) (entM kr ρ p) (z2.map (entM kr ρ)) w (fun e he => by
    obtain ⟨q, hq, rfl⟩ := List.mem_map.1 he
    exact ⟨q.1.1, rfl, h q hq⟩) rfl
  rw [List.length_map] at this
  exact this
theorem run_getMap {P : Program} {w : World} {b : Nat} {x : Obj} (h : w.heap[b]? = some x) (hx : notCells x) : (getObj b).run P w = .ok x w := by
  cases x <;> first | exact hx.elim | simp [getObj, Sem.run, h]
end
theorem run_setObj_some {P : Program} {w : World} {b : Nat} {x o : Obj} (h : w.heap[b]? = some x) (hx : notCells x) : (setObj b o).run P w = .ok () { w with heap := w.heap.setIfInBounds b o } := by
  cases x <;> first | exact hx.elim | simp [setObj, Sem.run, h]
section
variable {P : Program} [tb : Tab P] {rd : Option Nat} {N : Nat} {T : TT} {L L' L1 : List HP} {Q : Post} {ks : List K}
variable {all : Array Oper} {rest : List Oper} {d : Option Tmp} {ty : TypeId} {pos : String} {aft : Array Edge}
variable {κ α : Type} [DecidableEq κ] {kr : KR κ} {ρ : Rep α}
def lookV (ok : Bool) (v : Value) (is : Bool) : Value := if ok then .tuple #[v, .bool is] else v
theorem rd_lookup {x y : Operand} {t e kt b n1 n2 : Nat} {z0 : Value} {tik tie : TI} {l : List (κ × α)} {key : κ} {ok : Bool} (hx : evO T x = some (.map (some b))) (htk : Take (mpAt kr ρ b l) L L') (hy : evO T y = some (kr.v key))
    (ht : tget tb.tab t = some ⟨.map kt e, n1, n2, z0⟩) (hkt : tget tb.tab kt = some tik) (hkk : kr.tk P kt tik.k) (hte : tget tb.tab e = some tie) :
    Reads P T L ⟨d, .lookup t x y ok, ty, pos, aft, none⟩ (fun v L2 => (∃ u h, mget l key = some u ∧ v = lookV ok (ρ.val u h) true ∧ L2 = ρ.atoms u h ++ L) ∨ (mget l key = none ∧ v = lookV ok tie.zero false ∧ L2 = L)) := by
  intro q hq rr oo F hs
  have hs1 := ((Ent.cons htk.ent).trans Ent.swap) rr oo hs
  obtain ⟨x1, y1, d1, le1, ⟨z, clock, rfl, hn, hb, ho, hm⟩, hL⟩ := hs1
  have hmt := (tab_ok ht).k
  have hkd := tab_ok hkt
  have hobj : ∀ w, Sat w rr oo → w.heap[b]? = some (.map (z.map (entM kr ρ)).toArray clock) := fun w sat => (sat.obj _ _ _ (le1 _ _ _ (Own.le_add_left _ _ _ _ _ ho))).2.1
  simp only [TK.ok] at hmt
  rcases split_key ρ z key with hno | ⟨z1, p, z2, rfl, h1, rfl⟩
  · refine ⟨_, L, .inr ⟨mget_none (fun p hp => by obtain ⟨p', hp', rfl⟩ := List.mem_map.1 hp; exact hno p' hp'), rfl, rfl⟩, hs, fun w sat => ?_⟩
    simp only [execOp, hq _ _ hx, hq _ _ hy, Instr.lookup, Sem.run_bind, run_und hmt, Result.andThen_ok, run_getMap (hobj w sat) trivial, Sem.run_pure, kr.chk P kt _ hkd hkk _ key,
      mfind_none hkd hkk hno, zero_ok (tab_ok hte)]
    cases ok <;> rfl
  · have hget : mget ((z1 ++ p :: z2).map (·.1)) p.1.1 = some p.1.2 := by
      rw [List.map_append, List.map_cons]
      exact mget_some (k := p.1.1) (v := p.1.2) (fun q hq => by obtain ⟨q', hq', rfl⟩ := List.mem_map.1 hq; exact h1 q' hq')
    refine ⟨_, _, .inl ⟨p.1.2, p.2.1, hget, rfl, rfl⟩, ?_, fun w sat => ?_⟩
    · have hat := hm p (by simp)
      have hA : (mpAt kr ρ b ((z1 ++ p :: z2).map (·.1))).h rr x1 := ⟨_, clock, rfl, hn, hb, ho, hm⟩
      have h7 : seps (big (ρ.atoms p.1.2 p.2.1) :: F :: L) rr oo := ⟨fun _ _ => none, oo, fun _ _ => .inl rfl, none_add, hat, hs⟩
      exact (Ent.swap.trans (Ent.cons ent_big)) rr oo h7
    · have := fun w => mfind_some hkd hkk (p := p) (z2 := z2) h1 w
      simp only [execOp, hq _ _ hx, hq _ _ hy, Instr.lookup, Sem.run_bind, run_und hmt, Result.andThen_ok, run_getMap (hobj w sat) trivial, Sem.run_pure, kr.chk P kt _ hkd hkk _ p.1.1,
        this]
      cases ok <;> rfl
theorem SO.lookup {x y : Operand} {t e kt b n1 n2 : Nat} {z0 : Value} {tik tie : TI} {l : List (κ × α)} {key : κ} {ok : Bool} (hx : evO T x = some (.map (some b))) (htk : Take (mpAt kr ρ b l) L L') (hy : evO T y = some (kr.v key))
    (ht : tget tb.tab t = some ⟨.map kt e, n1, n2, z0⟩) (hkt : tget tb.tab kt = some tik) (hkk : kr.tk P kt tik.k) (hte : tget tb.tab e = some tie) (hd : dstOk N d = true)
    (yes : ∀ u h, mget l key = some u → SO P rd N all rest (putD d (lookV ok (ρ.val u h) true) T) (ρ.atoms u h ++ L) ks Q) (no : mget l key = none → SO P rd N all rest (putD d (lookV ok tie.zero false) T) L ks Q) :
    SO P rd N all (⟨d, .lookup t x y ok, ty, pos, aft, none⟩ :: rest) T L ks Q :=
  SO.reads (rd_lookup hx htk hy ht hkt hkk hte) rfl rfl hd (by rintro _ _ (⟨u, h, hg, rfl, rfl⟩ | ⟨hg, rfl, rfl⟩) <;> first | exact yes _ _ (by assumption) | exact no (by assumption))
theorem SQ.lookup {RR : TT → List HP → Prop} {x y : Operand} {t e kt b n1 n2 : Nat} {z0 : Value} {tik tie : TI} {l : List (κ × α)} {key : κ} {ok : Bool} (hx : evO T x = some (.map (some b))) (htk : Take (mpAt kr ρ b l) L L') (hy : evO T y = some (kr.v key))
    (ht : tget tb.tab t = some ⟨.map kt e, n1, n2, z0⟩) (hkt : tget tb.tab kt = some tik) (hkk : kr.tk P kt tik.k) (hte : tget tb.tab e = some tie) (hd : dstOk N d = true)
    (yes : ∀ u h, mget l key = some u → SQ P N all rest (putD d (lookV ok (ρ.val u h) true) T) (ρ.atoms u h ++ L) RR) (no : mget l key = none → SQ P N all rest (putD d (lookV ok tie.zero false) T) L RR) :
    SQ P N all (⟨d, .lookup t x y ok, ty, pos, aft, none⟩ :: rest) T L RR :=
  SQ.reads (rd_lookup hx htk hy ht hkt hkk hte) rfl hd (by rintro _ _ (⟨u, h, hg, rfl, rfl⟩ | ⟨hg, rfl, rfl⟩) <;> first | exact yes _ _ (by assumption) | exact no (by assumption))
theorem SO.makeMap {t : Nat} (hd : dstOk N d = true) (kk : ∀ b, SO P rd N all rest (putD d (.map (some b)) T) (mpAt kr ρ b [] :: L) ks Q) : SO P rd N all (⟨d, .makeMap t none, ty, pos, aft, none⟩ :: rest) T L ks Q := by
  refine SO.run (R := fun v L2 => ∃ b, v = .map (some b) ∧ L2 = mpAt kr ρ b [] :: L) rfl rfl hd ?_ (by rintro _ _ ⟨b, rfl, rfl⟩; exact kk b)
  intro q hq F w hst
  refine ⟨_, _, _, .inl rfl, ⟨w.heap.size, rfl, rfl⟩, ?_⟩
  have := hst.allocObj (.map #[] 0) trivial
  refine (this.ent Ent.swap).ent (Ent.cons ?_)
  rintro r o ⟨x, y, d1, le, hA, hL⟩
  exact ⟨x, y, d1, le, ⟨[], 0, rfl, List.nodup_nil, ⟨List.Pairwise.nil, by simp⟩, hA, by simp⟩, hL⟩
theorem map_open {b : Nat} {l : List (κ × α)} {w : World} (h : St w (mpAt kr ρ b l :: L)) : ∃ (z : List (ZM κ ρ)) (clock : Nat), z.map (·.1) = l ∧ (keysM l).Nodup ∧ ((z.map fun p : ZM κ ρ => p.2.2).Pairwise (· < ·) ∧ ∀ p ∈ z, p.2.2 < clock) ∧
    St w (ob b (.map (z.map (entM kr ρ)).toArray clock) :: memA ρ (z.map fun p => (p.1.2, p.2.1)) :: L) := by
  obtain ⟨r, o, s, x, y, d1, le, ⟨z, clock, h1, h2, h3, h4, h5⟩, hL⟩ := h
  refine ⟨z, clock, h1, h2, h3, r, o, s, x, y, d1, le, h4, own0, y, fun _ _ => .inl rfl, none_add, ?_, hL⟩
  intro i u h e
  rw [List.getElem?_map, Option.map_eq_some_iff] at e
  obtain ⟨p, hp, e⟩ := e
  cases e
  exact h5 p (List.mem_of_getElem? hp)
theorem map_shut {b : Nat} {l : List (κ × α)} (z : List (ZM κ ρ)) (clock : Nat) (h1 : z.map (·.1) = l) (h2 : (keysM l).Nodup) (h3 : (z.map fun p : ZM κ ρ => p.2.2).Pairwise (· < ·) ∧ ∀ p ∈ z, p.2.2 < clock) :
    Ent (ob b (.map (z.map (entM kr ρ)).toArray clock) :: memA ρ (z.map fun p => (p.1.2, p.2.1)) :: L) (mpAt kr ρ b l :: L) := by
  rintro r o ⟨x, y, d1, le, h4, x2, y2, d2, le2, h5, hL⟩
  refine ⟨x, y2, fun i j => ?_, fun i j c e => ?_, ⟨z, clock, h1, h2, h3, h4, fun p hp => ?_⟩, hL⟩
  · rcases d1 i j with h | h
    · exact .inl h
    · right
      cases hb : y2 i j with
      | none => rfl
      | some u => have := le2 i j u (Own.le_add_right d2 _ _ _ hb); simp [h] at this
  · rcases Own.add_cases e with e | e
    · exact le _ _ _ (Own.le_add_left _ _ _ _ _ e)
    · exact le _ _ _ (Own.le_add_right d1 _ _ _ (le2 _ _ _ (Own.le_add_right d2 _ _ _ e)))
  · obtain ⟨i, hi⟩ := List.getElem?_of_mem hp
    exact h5 i p.1.2 p.2.1 (by rw [List.getElem?_map, hi]; rfl)
theorem ext_modify {β : Type} (l1 l2 : List β) (p : β) (f : β → β) (n : Nat) (hn : n = l1.length) : (l1 ++ p :: l2).toArray.modify n f = (l1 ++ f p :: l2).toArray := by
  subst hn
  apply Array.ext'
  apply List.ext_getElem?
  intro i
  rw [Array.getElem?_toList, Array.getElem?_modify]
  simp only [List.getElem?_toArray]
  rcases Nat.lt_trichotomy i l1.length with h | h | h
  · rw [if_neg (by omega), List.getElem?_append_left h, List.getElem?_append_left h]
  · subst h; simp
  · rw [if_neg (by omega), List.getElem?_append_right (by omega), List.getElem?_append_right (by omega)]
    obtain ⟨k, hk⟩ : ∃ k, i - l1.length = k + 1 := ⟨i - l1.length - 1, by omega⟩
    rw [hk]; simp
theorem ext_erase {β : Type} (l1 l2 : List β) (p : β) (n : Nat) (hn : n = l1.length) : (l1 ++ p :: l2).toArray.eraseIdxIfInBounds n = (l1 ++ l2).toArray := by
  subst hn
  apply Array.ext'
  simp [List.eraseIdx_append_of_length_le]
theorem stay (kr : KR κ) (a : κ) (w : World) : (Instr.keyThatStays (kr.v a) (kr.v a)).run P w = .ok (kr.v a) w := by
  unfold Instr.keyThatStays
  rw [if_pos (kr.bits a)]; rfl
theorem SO.mapUpdate {x y v : Operand} {t e kt b n1 n2 : Nat} {z0 : Value} {tik : TI} {l : List (κ × α)} {key : κ} {u : α} {h : ρ.V} (hx : evO T x = some (.map (some b))) (htk : Take (mpAt kr ρ b l) L L') (hy : evO T y = some (kr.v key)) (hv : evO T v = some (ρ.val u h)) (hat : HasAll (ρ.atoms u h) L')
    (ht : tget tb.tab t = some ⟨.map kt e, n1, n2, z0⟩) (hkt : tget tb.tab kt = some tik) (hkk : kr.tk P kt tik.k)
    (k : SO P rd N all rest T (mpAt kr ρ b (mput l key u) :: L') ks Q) : SO P rd N all (⟨none, .mapUpdate t x y v, ty, pos, aft, none⟩ :: rest) T L ks Q := by
  refine SO.run (R := fun _ L2 => L2 = mpAt kr ρ b (mput l key u) :: L') rfl rfl rfl ?_ (by rintro _ _ rfl; exact k)
  intro q hq F w hst
  have h1 : St w (mpAt kr ρ b l :: F :: L') := hst.ent ((Ent.cons htk.ent).trans Ent.swap)
  obtain ⟨z, clock, hl, hn, ⟨hb1, hb2⟩, h2⟩ := map_open h1
  obtain ⟨ho, _⟩ := h2.obj
  have hmt := (tab_ok ht).k
  simp only [TK.ok] at hmt
  have hkd := tab_ok hkt
  have hatS : ∀ {r o}, seps (memA ρ (z.map fun p => (p.1.2, p.2.1)) :: F :: L') r o → seps (ρ.atoms u h) r own0 := by
    intro r o hs
    obtain ⟨_, y1, _, _, _, _, y2, _, _, _, hL⟩ := hs
    have := (hat.ent (ρ.pers u h)) r y2 hL
    have key : ∀ (A B : List HP) (o : Own), (∀ X ∈ A, Pers X) → seps (A ++ B) r o → seps A r own0 := by
      intro A
      induction A with
      | nil => intros; trivial
      | cons X A ih =>
        rintro B o hp ⟨a, b, d, le, hA, hL⟩
        exact ⟨_, _, fun _ _ => .inl rfl, none_add, hp X (by simp) _ _ hA, ih B b (fun Y hY => hp Y (by simp [hY])) hL⟩
    exact key _ _ _ (ρ.pers u h) this
  have hshut : ∀ (z' : List (ZM κ ρ)) (clock' : Nat), (∀ p ∈ z', p ∈ z ∨ (p.1.2, p.2.1) = ((u, h) : α × ρ.V)) → Ent (ob b (.map (z'.map (entM kr ρ)).toArray clock') :: memA ρ (z.map fun p => (p.1.2, p.2.1)) :: F :: L') (ob b (.map (z'.map (entM kr ρ)).toArray clock') :: memA ρ (z'.map fun p => (p.1.2, p.2.1)) :: F :: L') := by
    intro z' clock' hz'
    refine Ent.cons ?_
    intro r o hs
    have hu := hatS hs
    obtain ⟨x1, y1, d1, le1, hm, hL⟩ := hs
    refine ⟨x1, y1, d1, le1, ?_, hL⟩
    intro i a c e
    rw [List.getElem?_map, Option.map_eq_some_iff] at e
    obtain ⟨p, hp, e⟩ := e
    rcases hz' p (List.mem_of_getElem? hp) with hin | he
    · cases e
      obtain ⟨j, hj⟩ := List.getElem?_of_mem hin
      exact hm j p.1.2 p.2.1 (by rw [List.getElem?_map, hj]; rfl)
    · rw [e] at he; cases he; exact hu
  have hrun : ∀ (res : Option (Nat × Value)), (∀ w, (Instr.findKey kt (kr.v key) (z.map (entM kr ρ))).run P w = .ok res w) → (execOp q ⟨none, .mapUpdate t x y v, ty, pos, aft, none⟩).run P w =
      (do (match res with
        | some (i, _) => do
          let k' ← Instr.keyThatStays ((((z.map (entM kr ρ)).toArray[i]?).map (·.key)).getD (kr.v key)) (kr.v key)
          setObj b (.map ((z.map (entM kr ρ)).toArray.modify i fun e => { e with key := k', val := ρ.val u h }) clock)
        | none => setObj b (.map ((z.map (entM kr ρ)).toArray.push { key := kr.v key, val := ρ.val u h, born := clock }) (clock + 1))) ; Pure.pure Next.skip : Sem Next).run P w := by
    intro res hres
    simp only [execOp, hq _ _ hx, hq _ _ hy, hq _ _ hv, Instr.mapUpdate, Sem.run_bind, run_und hmt, Result.andThen_ok, run_getMap ho trivial, kr.chk P kt _ hkd hkk _ key, hres]
    cases res <;> rfl
  rcases split_key ρ z key with hno | ⟨z1, p, z2, rfl, hz1, rfl⟩
  ·
    have hrun := hrun none (mfind_none hkd hkk hno)
    have h3 := h2.setObj (z := .map ((z ++ [((key, u), (h, clock))]).map (entM kr ρ)).toArray (clock + 1)) trivial
    refine ⟨undef, _, _, .inr ⟨?_, rfl⟩, rfl, h3.ent (((hshut _ _ ?_).trans (map_shut (l := mput l key u) _ _ ?_ (nodup_mput hn _ _) ?_)).trans Ent.swap)⟩
    · rw [hrun]
      have : (z.map (entM kr ρ)).toArray.push { key := kr.v key, val := ρ.val u h, born := clock } = ((z ++ [((key, u), (h, clock))]).map (entM kr ρ)).toArray := by simp [entM]
      rw [this]
      simp [run_setObj_some ho trivial]
    · intro p hp
      rcases List.mem_append.1 hp with hp | hp
      · exact .inl hp
      · simp at hp; subst hp; exact .inr rfl
    · rw [List.map_append, hl]
      exact (mput_new (fun p hp => by rw [← hl] at hp; obtain ⟨p', hp', rfl⟩ := List.mem_map.1 hp; exact hno p' hp')).symm
    · refine ⟨?_, fun p hp => ?_⟩
      · rw [List.map_append, List.pairwise_append]
        refine ⟨hb1, by simp, fun a ha c hc => ?_⟩
        obtain ⟨p', hp', rfl⟩ := List.mem_map.1 ha
        simp at hc; subst hc; exact hb2 p' hp'
      · rcases List.mem_append.1 hp with hp | hp
        · have := hb2 p hp; omega
        · simp at hp; subst hp; show clock < clock + 1; omega
  · have hrun := hrun _ (mfind_some hkd hkk (p := p) (z2 := z2) hz1)
    have h3 := h2.setObj (z := .map ((z1 ++ ((p.1.1, u), (h, p.2.2)) :: z2).map (entM kr ρ)).toArray clock) trivial
    refine ⟨undef, _, _, .inr ⟨?_, rfl⟩, rfl, h3.ent (((hshut _ _ ?_).trans (map_shut (l := mput l p.1.1 u) _ _ ?_ (nodup_mput hn _ _) ?_)).trans Ent.swap)⟩
    · rw [hrun]
      have hi : (((z1 ++ p :: z2).map (entM kr ρ)).toArray[z1.length]?).map (·.key) = some (kr.v p.1.1) := by
        simp [entM]
      simp only [hi, Option.getD_some]
      have : ((z1 ++ p :: z2).map (entM kr ρ)).toArray.modify z1.length (fun e => { e with key := kr.v p.1.1, val := ρ.val u h }) = ((z1 ++ ((p.1.1, u), (h, p.2.2)) :: z2).map (entM kr ρ)).toArray := by
        rw [List.map_append, List.map_cons, ext_modify _ _ _ _ _ (by simp), List.map_append, List.map_cons]
        rfl
      simp only [Sem.run_bind, stay kr p.1.1, Result.andThen_ok, this, run_setObj_some ho trivial]
      rfl
    · intro q hq
      rcases List.mem_append.1 hq with hq | hq
      · exact .inl (by simp [hq])
      · rcases List.mem_cons.1 hq with rfl | hq
        · exact .inr rfl
        · exact .inl (by simp [hq])
    · rw [List.map_append, List.map_cons, ← hl, List.map_append, List.map_cons]
      exact (mput_old (l1 := z1.map (·.1)) (l2 := z2.map (·.1)) (k := p.1.1) (v' := p.1.2) (fun p hp => by obtain ⟨p', hp', rfl⟩ := List.mem_map.1 hp; exact hz1 p' hp')).symm
    · refine ⟨?_, fun q hq => ?_⟩
      · simpa using hb1
      · rcases List.mem_append.1 hq with hq | hq
        · exact hb2 q (by simp [hq])
        · rcases List.mem_cons.1 hq with rfl | hq
          · exact hb2 p (by simp)
          · exact hb2 q (by simp [hq])
theorem SO.delete {x y : Operand} {t t2 e kt b n1 n2 : Nat} {z0 : Value} {tik : TI} {l : List (κ × α)} {key : κ} (hx : evO T x = some (.map (some b))) (htk : Take (mpAt kr ρ b l) L L') (hy : evO T y = some (kr.v key))
    (ht : tget tb.tab t = some ⟨.map kt e, n1, n2, z0⟩) (hkt : tget tb.tab kt = some tik) (hkk : kr.tk P kt tik.k) (hd : dstOk N d = true)
    (k : SO P rd N all rest (putD d (.tuple #[]) T) (mpAt kr ρ b (mdel l key) :: L') ks Q) : SO P rd N all (⟨d, .call ⟨.builtin .delete, #[x, y], #[t, t2]⟩, ty, pos, aft, none⟩ :: rest) T L ks Q := by
  refine SO.run (R := fun v L2 => v = .tuple #[] ∧ L2 = mpAt kr ρ b (mdel l key) :: L') rfl rfl hd ?_ (by rintro _ _ ⟨rfl, rfl⟩; exact k)
  intro q hq F w hst
  have h1 : St w (mpAt kr ρ b l :: F :: L') := hst.ent ((Ent.cons htk.ent).trans Ent.swap)
  obtain ⟨z, clock, hl, hn, ⟨hb1, hb2⟩, h2⟩ := map_open h1
  obtain ⟨ho, _⟩ := h2.obj
  have hmt := (tab_ok ht).k
  simp only [TK.ok] at hmt
  have hkd := tab_ok hkt
  have hshut : ∀ (z' : List (ZM κ ρ)) (clock' : Nat), (∀ p ∈ z', p ∈ z) → Ent (ob b (.map (z'.map (entM kr ρ)).toArray clock') :: memA ρ (z.map fun p => (p.1.2, p.2.1)) :: F :: L') (ob b (.map (z'.map (entM kr ρ)).toArray clock') :: memA ρ (z'.map fun p => (p.1.2, p.2.1)) :: F :: L') := by
    intro z' clock' hz'
    refine Ent.cons ?_
    rintro r o ⟨x1, y1, d1, le1, hm, hL⟩
    refine ⟨x1, y1, d1, le1, ?_, hL⟩
    intro i a c e
    rw [List.getElem?_map, Option.map_eq_some_iff] at e
    obtain ⟨p, hp, e⟩ := e
    cases e
    obtain ⟨j, hj⟩ := List.getElem?_of_mem (hz' p (List.mem_of_getElem? hp))
    exact hm j p.1.2 p.2.1 (by rw [List.getElem?_map, hj]; rfl)
  rcases split_key ρ z key with hno | ⟨z1, p, z2, rfl, hz1, rfl⟩
  · have h3 := h2.setObj (z := .map (z.map (entM kr ρ)).toArray clock) trivial
    refine ⟨.tuple #[], _, _, .inl ?_, ⟨rfl, rfl⟩, h3.ent ((map_shut (l := mdel l key) z clock ?_ (nodup_mdel hn _) ⟨hb1, hb2⟩).trans Ent.swap)⟩
    · simp [execOp, resolve, invoke, builtin, hq _ _ hx, hq _ _ hy, Builtin.delete_, run_und hmt, run_getMap ho trivial, kr.chk P kt _ hkd hkk _ key, mfind_none hkd hkk hno, run_setObj_some ho trivial]
    · rw [hl]; exact (mdel_none (fun p hp => by rw [← hl] at hp; obtain ⟨p', hp', rfl⟩ := List.mem_map.1 hp; exact hno p' hp')).symm
  · have h3 := h2.setObj (z := .map ((z1 ++ z2).map (entM kr ρ)).toArray clock) trivial
    refine ⟨.tuple #[], _, _, .inl ?_, ⟨rfl, rfl⟩, h3.ent (((hshut _ _ ?_).trans (map_shut (l := mdel l p.1.1) (z1 ++ z2) clock ?_ (nodup_mdel hn _) ⟨?_, ?_⟩)).trans Ent.swap)⟩
    · have hf := fun w => mfind_some hkd hkk (p := p) (z2 := z2) hz1 w
      have he : ((z1 ++ p :: z2).map (entM kr ρ)).toArray.eraseIdxIfInBounds z1.length = ((z1 ++ z2).map (entM kr ρ)).toArray := by
        rw [List.map_append, List.map_cons, ext_erase _ _ _ _ (by simp), List.map_append]
      simp only [execOp, resolve, invoke, builtin, Array.map, hq _ _ hx, hq _ _ hy, Sem.run_bind, Sem.run_pure, Result.andThen_ok]
      have : (Builtin.delete_ #[t, t2] ty #[.map (some b), kr.v p.1.1]).run P w = .ok (.tuple #[]) { w with heap := w.heap.setIfInBounds b (.map ((z1 ++ z2).map (entM kr ρ)).toArray clock) } := by
        unfold Builtin.delete_
        simp only [List.getElem?_toArray, List.getElem?_cons_zero, List.getElem?_cons_succ, Sem.run_bind, run_und hmt, Result.andThen_ok, run_getMap ho trivial, kr.chk P kt _ hkd hkk _ p.1.1, hf, he, run_setObj_some ho trivial]
        rfl
      simp [hq _ _ hx, hq _ _ hy, this]
    · intro q hq
      rcases List.mem_append.1 hq with hq | hq
      · simp [hq]
      · simp [hq]
    · rw [List.map_append, ← hl, List.map_append, List.map_cons]
      exact (mdel_old (l1 := z1.map (·.1)) (l2 := z2.map (·.1)) (k := p.1.1) (v := p.1.2) (fun p hp => by obtain ⟨p', hp', rfl⟩ := List.mem_map.1 hp; exact hz1 p' hp')).symm
    · rw [List.map_append, List.map_cons] at hb1
      rw [List.map_append]
      exact hb1.sublist (List.Sublist.append (List.Sublist.refl _) (List.sublist_cons_self _ _))
    · intro q hq
      rcases List.mem_append.1 hq with hq | hq
      · exact hb2 q (by simp [hq])
      · exact hb2 q (by simp [hq])
end
end Go.Sl
