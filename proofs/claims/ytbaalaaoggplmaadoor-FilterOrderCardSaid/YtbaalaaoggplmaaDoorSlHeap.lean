/- A part of a proof: a walk over the model by a small separation logic. -/
import Derived.RangeFuncLeaves
import Derived.TacticsIn
import Derived.OrdersIn
import Derived.Below
/-! Separation logic over the model's heap: what is read alone ('Ro') and what is one's own ('Own'), cell by cell. -/
set_option linter.unusedVariables false
namespace Go.Sl

inductive Cel where
  | val (v : Value)
  | obj (o : Obj)

abbrev Own := Nat → Nat → Option Cel
/-- What is read alone; 'bs': the world at the very start: what lay there stays as it was. -/
structure Ro where
  rd : Nat → Nat → Option Value
  bs : World
instance : CoeFun Ro (fun _ => Nat → Nat → Option Value) := ⟨Ro.rd⟩

structure Ro.le (r r' : Ro) : Prop where
  bs : r'.bs = r.bs
  le : ∀ i j v, r i j = some v → r' i j = some v
def Own.le (o o' : Own) : Prop := ∀ i j c, o i j = some c → o' i j = some c
def Own.disj (a b : Own) : Prop := ∀ i j, a i j = none ∨ b i j = none
def Own.add (a b : Own) : Own := fun i j => (a i j).or (b i j)

theorem Ro.le_refl (r : Ro) : r.le r := ⟨rfl, fun _ _ _ h => h⟩
theorem Ro.le_trans {a b c : Ro} (h : a.le b) (h' : b.le c) : a.le c := ⟨h'.bs.trans h.bs, fun i j v e => h'.le i j v (h.le i j v e)⟩
theorem Own.le_refl (o : Own) : o.le o := fun _ _ _ h => h
theorem Own.le_trans {a b c : Own} (h : a.le b) (h' : b.le c) : a.le c := fun i j v e => h' i j v (h i j v e)
theorem Own.le_add_left (a b : Own) : a.le (a.add b) := fun i j c h => by simp [Own.add, h]
theorem Own.le_add_right {a b : Own} (d : a.disj b) : b.le (a.add b) := fun i j c h => by
  rcases d i j with h' | h'
  · simp [Own.add, h', h]
  · simp [h'] at h
theorem Own.add_cases {a b : Own} {i j : Nat} {c : Cel} (h : a.add b i j = some c) : a i j = some c ∨ b i j = some c := by
  simp only [Own.add] at h
  cases ha : a i j with
  | none => right; simpa [ha] using h
  | some x => left; simpa [ha] using h

/-- A statement on what is read alone and what is one's own; more of either does no harm. -/
structure HP where
  h : Ro → Own → Prop
  up : ∀ r r' o o', Ro.le r r' → Own.le o o' → h r o → h r' o'

def seps : List HP → Ro → Own → Prop
  | [], _, _ => True
  | A :: L, r, o => ∃ a b, Own.disj a b ∧ Own.le (a.add b) o ∧ A.h r a ∧ seps L r b

theorem seps_up {L : List HP} : ∀ {r r' : Ro} {o o' : Own}, r.le r' → o.le o' → seps L r o → seps L r' o' := by
  induction L with
  | nil => intros; trivial
  | cons A L ih =>
    rintro r r' o o' hr ho ⟨a, b, d, le, hA, hL⟩
    exact ⟨a, b, d, Own.le_trans le ho, A.up _ _ _ _ hr (Own.le_refl _) hA, ih hr (Own.le_refl _) hL⟩

/-- Is the object no row of cells? -/
def notCells : Obj → Prop
  | .cells .. => False
  | _ => True

structure Sat (w : World) (r : Ro) (o : Own) : Prop where
  ro : ∀ i j v, r i j = some v → w.cell? ⟨i, j, none⟩ = some v
  val : ∀ i j v, o i j = some (.val v) → w.cell? ⟨i, j, none⟩ = some v ∧ w.frozen? ⟨i, j, none⟩ = false
  obj : ∀ i j x, o i j = some (.obj x) → j = 0 ∧ w.heap[i]? = some x ∧ notCells x
  dis : ∀ i j v c, r i j = some v → o i j = some c → False
  below : Go.RowKit.Below r.bs.heap.size r.bs w
  low : ∀ i j c, o i j = some c → r.bs.heap.size ≤ i

theorem Sat.weaken {w : World} {r : Ro} {o o' : Own} (h : Sat w r o) (le : o'.le o) : Sat w r o' :=
  ⟨h.ro, fun i j v e => h.val i j v (le _ _ _ e), fun i j x e => h.obj i j x (le _ _ _ e), fun i j v c e e' => h.dis i j v c e (le _ _ _ e'), h.below, fun i j c e => h.low i j c (le _ _ _ e)⟩

def St (w : World) (L : List HP) : Prop := ∃ r o, Sat w r o ∧ seps L r o

/-- What is told of L is told of L' too. -/
def Ent (L L' : List HP) : Prop := ∀ r o, seps L r o → seps L' r o
theorem Ent.refl (L : List HP) : Ent L L := fun _ _ h => h
theorem Ent.trans {A B C : List HP} (h : Ent A B) (h' : Ent B C) : Ent A C := fun r o x => h' r o (h r o x)
theorem St.ent {w : World} {L L' : List HP} (e : Ent L L') (h : St w L) : St w L' := let ⟨r, o, s, x⟩ := h; ⟨r, o, s, e r o x⟩

theorem Ent.cons {A : HP} {L L' : List HP} (e : Ent L L') : Ent (A :: L) (A :: L') :=
  fun _ _ ⟨a, b, d, le, hA, hL⟩ => ⟨a, b, d, le, hA, e _ _ hL⟩
theorem Ent.drop {A : HP} {L : List HP} : Ent (A :: L) L :=
  fun _ _ ⟨_, _, d, le, _, hL⟩ => seps_up (Ro.le_refl _) (Own.le_trans (Own.le_add_right d) le) hL

theorem disj_comm {a b : Own} (h : a.disj b) : b.disj a := fun i j => (h i j).symm
theorem add_le_comm {a b o : Own} (d : a.disj b) (h : (a.add b).le o) : (b.add a).le o := fun i j c e => by
  rcases Own.add_cases e with e | e
  · exact h _ _ _ (Own.le_add_right d _ _ _ e)
  · exact h _ _ _ (Own.le_add_left _ _ _ _ _ e)

theorem Ent.swap {A B : HP} {L : List HP} : Ent (A :: B :: L) (B :: A :: L) := by
  rintro r o ⟨a, bc, d, le, hA, b, c, d', le', hB, hL⟩
  have dab : a.disj b := fun i j => by
    rcases d i j with h | h
    · exact .inl h
    · right
      cases hb : b i j with
      | none => rfl
      | some x => have := le' i j x (Own.le_add_left _ _ _ _ _ hb); simp [h] at this
  have dac : a.disj c := fun i j => by
    rcases d i j with h | h
    · exact .inl h
    · right
      cases hb : c i j with
      | none => rfl
      | some x => have := le' i j x (Own.le_add_right d' _ _ _ hb); simp [h] at this
  refine ⟨b, a.add c, fun i j => ?_, ?_, hB, a, c, dac, Own.le_refl _, hA, hL⟩
  · cases hb : b i j with
    | none => exact .inl rfl
    | some x =>
      right
      have h1 := (dab i j).resolve_right (by simp [hb])
      have h2 := (d' i j).resolve_left (by simp [hb])
      simp [Own.add, h1, h2]
  · intro i j x e
    rcases Own.add_cases e with e | e
    · exact le _ _ _ (Own.le_add_right d _ _ _ (le' _ _ _ (Own.le_add_left _ _ _ _ _ e)))
    · rcases Own.add_cases e with e | e
      · exact le _ _ _ (Own.le_add_left _ _ _ _ _ e)
      · exact le _ _ _ (Own.le_add_right d _ _ _ (le' _ _ _ (Own.le_add_right d' _ _ _ e)))

/-- 'L' is A and L'': A stands somewhere in L. -/
inductive Take : HP → List HP → List HP → Prop
  | here {A : HP} {L : List HP} : Take A (A :: L) L
  | there {A B : HP} {L L' : List HP} (h : Take A L L') : Take A (B :: L) (B :: L')

theorem Take.ent {A : HP} {L L' : List HP} (h : Take A L L') : Ent L (A :: L') := by
  induction h with
  | here => exact Ent.refl _
  | there _ ih => exact (Ent.cons ih).trans Ent.swap
theorem Take.back {A : HP} {L L' : List HP} (h : Take A L L') : Ent (A :: L') L := by
  induction h with
  | here => exact Ent.refl _
  | there _ ih => exact Ent.swap.trans (Ent.cons ih)
theorem Take.drop {A : HP} {L L' : List HP} (h : Take A L L') : Ent L L' := h.ent.trans Ent.drop

inductive Takes : List HP → List HP → List HP → Prop
  | nil {L : List HP} : Takes [] L L
  | cons {A : HP} {As L L1 L2 : List HP} (h : Take A L L1) (t : Takes As L1 L2) : Takes (A :: As) L L2

theorem Takes.ent {As L L' : List HP} (h : Takes As L L') : Ent L (As ++ L') := by
  induction h with
  | nil => exact Ent.refl _
  | cons h _ ih => exact h.ent.trans (Ent.cons ih)

theorem Ent.app {A B C : List HP} (e : Ent B C) : Ent (A ++ B) (A ++ C) := by
  induction A with
  | nil => exact e
  | cons a A ih => exact Ent.cons ih

theorem ent_append_of_takes {As L L' : List HP} (h : Takes As L L') : Ent L As := by
  induction h with
  | nil => exact fun _ _ _ => trivial
  | cons h _ ih => exact h.ent.trans (Ent.cons ih)

/-! ### The statements there are -/

/-- 'p' is so. -/
def pr (p : Prop) : HP := ⟨fun _ _ => p, fun _ _ _ _ _ _ h => h⟩
def ex {α : Type} (A : α → HP) : HP := ⟨fun r o => ∃ x, (A x).h r o, fun _ _ _ _ hr ho ⟨x, h⟩ => ⟨x, (A x).up _ _ _ _ hr ho h⟩⟩
/-- Own cells. -/
def pts (b off : Nat) (vs : List Value) : HP :=
  ⟨fun _ o => ∀ i v, vs[i]? = some v → o b (off + i) = some (.val v), fun _ _ _ _ _ ho h i v e => ho _ _ _ (h i v e)⟩
/-- Cells that nobody writes any more. -/
def rod (b off : Nat) (vs : List Value) : HP :=
  ⟨fun r _ => ∀ i v, vs[i]? = some v → r b (off + i) = some v, fun _ _ _ _ hr _ h i v e => hr.le _ _ _ (h i v e)⟩
/-- An own object that is no row of cells. -/
def ob (b : Nat) (x : Obj) : HP := ⟨fun _ o => o b 0 = some (.obj x), fun _ _ _ _ _ ho h => ho _ _ _ h⟩
/-- Several at once. -/
def big (L : List HP) : HP := ⟨fun r o => seps L r o, fun _ _ _ _ hr ho h => seps_up hr ho h⟩

/-- Does a statement lean on no own cell? -/
def Pers (A : HP) : Prop := ∀ r o, A.h r o → A.h r (fun _ _ => none)
theorem pers_pr (p : Prop) : Pers (pr p) := fun _ _ h => h
theorem pers_rod (b off : Nat) (vs : List Value) : Pers (rod b off vs) := fun _ _ h => h
theorem pers_ex {α : Type} {A : α → HP} (h : ∀ x, Pers (A x)) : Pers (ex A) := fun r o ⟨x, hx⟩ => ⟨x, h x r o hx⟩

theorem Ent.dup {A : HP} (p : Pers A) {L : List HP} : Ent (A :: L) (A :: A :: L) := by
  rintro r o ⟨a, b, d, le, hA, hL⟩
  refine ⟨fun _ _ => none, a.add b, fun i j => .inl rfl, ?_, p _ _ hA, a, b, d, Own.le_refl _, hA, hL⟩
  intro i j c e
  rcases Own.add_cases e with e | e
  · simp at e
  · exact le _ _ _ e

theorem none_add {o : Own} : Own.le (Own.add (fun _ _ => none) o) o := fun i j c e => by
  rcases Own.add_cases e with e | e
  · simp at e
  · exact e

theorem ent_pr {p : Prop} {L : List HP} (h : p) : Ent L (pr p :: L) := fun r o x =>
  ⟨fun _ _ => none, o, fun i j => .inl rfl, none_add, h, x⟩
theorem St.pr {w : World} {p : Prop} {L : List HP} (h : St w (pr p :: L)) : p ∧ St w L := by
  obtain ⟨r, o, s, a, b, d, le, hp, hL⟩ := h
  exact ⟨hp, r, o, s, seps_up (Ro.le_refl _) (Own.le_trans (Own.le_add_right d) le) hL⟩
theorem St.ex {w : World} {α : Type} {A : α → HP} {L : List HP} (h : St w (ex A :: L)) : ∃ x, St w (A x :: L) := by
  obtain ⟨r, o, s, a, b, d, le, ⟨x, hx⟩, hL⟩ := h
  exact ⟨x, r, o, s, a, b, d, le, hx, hL⟩
theorem ent_ex {α : Type} {A : α → HP} {L : List HP} (x : α) : Ent (A x :: L) (Sl.ex A :: L) :=
  fun _ _ ⟨a, b, d, le, hA, hL⟩ => ⟨a, b, d, le, ⟨x, hA⟩, hL⟩

theorem ent_big {A L : List HP} : Ent (big A :: L) (A ++ L) := by
  intro r o h
  obtain ⟨a, b, d, le, hA, hL⟩ := h
  induction A generalizing a b o with
  | nil => exact seps_up (Ro.le_refl _) (Own.le_trans (Own.le_add_right d) le) hL
  | cons X A ih =>
    obtain ⟨x, y, d', le', hX, hA'⟩ := hA
    have dxb : x.disj b := fun i j => by
      rcases d i j with h | h
      · left
        cases hx : x i j with
        | none => rfl
        | some c => have := le' _ _ _ (Own.le_add_left x y _ _ _ hx); simp [h] at this
      · exact .inr h
    have dyb : y.disj b := fun i j => by
      rcases d i j with h | h
      · left
        cases hx : y i j with
        | none => rfl
        | some c => have := le' _ _ _ (Own.le_add_right d' _ _ _ hx); simp [h] at this
      · exact .inr h
    refine ⟨x, y.add b, fun i j => ?_, ?_, hX, ih (y.add b) y b dyb (Own.le_refl _) hA' hL⟩
    · cases hx : x i j with
      | none => exact .inl rfl
      | some c =>
        right
        have h1 := (d' i j).resolve_left (by simp [hx])
        have h2 := (dxb i j).resolve_left (by simp [hx])
        simp [Own.add, h1, h2]
    · intro i j c e
      rcases Own.add_cases e with e | e
      · exact le _ _ _ (Own.le_add_left _ _ _ _ _ (le' _ _ _ (Own.le_add_left _ _ _ _ _ e)))
      · rcases Own.add_cases e with e | e
        · exact le _ _ _ (Own.le_add_left _ _ _ _ _ (le' _ _ _ (Own.le_add_right d' _ _ _ e)))
        · exact le _ _ _ (Own.le_add_right d _ _ _ e)

theorem big_ent {A L : List HP} : Ent (A ++ L) (big A :: L) := by
  intro r o h
  induction A generalizing o with
  | nil => exact ⟨fun _ _ => none, o, fun _ _ => .inl rfl, none_add, trivial, h⟩
  | cons X A ih =>
    obtain ⟨x, y, d, le, hX, h'⟩ := h
    obtain ⟨a, b, d', le', hA, hL⟩ := ih y h'
    have dxa : x.disj a := fun i j => by
      rcases d i j with h | h
      · exact .inl h
      · right
        cases hx : a i j with
        | none => rfl
        | some c => have := le' _ _ _ (Own.le_add_left a b _ _ _ hx); simp [h] at this
    have dxb : x.disj b := fun i j => by
      rcases d i j with h | h
      · exact .inl h
      · right
        cases hx : b i j with
        | none => rfl
        | some c => have := le' _ _ _ (Own.le_add_right d' _ _ _ hx); simp [h] at this
    refine ⟨x.add a, b, fun i j => ?_, ?_, ⟨x, a, dxa, Own.le_refl _, hX, hA⟩, hL⟩
    · cases hb : b i j with
      | none => exact .inr rfl
      | some c =>
        left
        have h1 := (dxb i j).resolve_right (by simp [hb])
        have h2 := (d' i j).resolve_right (by simp [hb])
        simp [Own.add, h1, h2]
    · intro i j c e
      rcases Own.add_cases e with e | e
      · rcases Own.add_cases e with e | e
        · exact le _ _ _ (Own.le_add_left _ _ _ _ _ e)
        · exact le _ _ _ (Own.le_add_right d _ _ _ (le' _ _ _ (Own.le_add_left _ _ _ _ _ e)))
      · exact le _ _ _ (Own.le_add_right d _ _ _ (le' _ _ _ (Own.le_add_right d' _ _ _ e)))

end Go.Sl
