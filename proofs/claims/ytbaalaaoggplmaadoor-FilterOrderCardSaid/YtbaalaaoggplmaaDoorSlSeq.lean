/- A part of a proof: a walk over the model by a small separation logic. -/
import Derived.Test.YtbaalaaoggplmaaDoorSlCall
/-! Slices: what they hold; reading them, writing them, adding to them. -/
set_option linter.unusedVariables false
set_option linter.unusedSectionVars false
namespace Go.Sl

/-- How data of a kind lie in cells: 'V': what is hidden (the places of what they lead to). -/
structure Rep (α : Type) where
  V : Type
  sz : Nat
  agg : Bool
  cells : α → V → List Value
  atoms : α → V → List HP
  len : ∀ x h, (cells x h).length = sz
  pers : ∀ x h, ∀ A ∈ atoms x h, Pers A
  pos : 0 < sz
  sc : agg = false → sz = 1
  one : ∀ x h, ∀ v ∈ cells x h, one v = true
  wit : ∀ x : α, (V → False) → False

def Rep.val {α : Type} (ρ : Rep α) (x : α) (h : ρ.V) : Value := match ρ.agg with
  | true => .agg (ρ.cells x h).toArray
  | false => match ρ.cells x h with
    | v :: _ => v
    | [] => undef

/-- The cells of some. -/
def flat {α : Type} (ρ : Rep α) : List (α × ρ.V) → List Value
  | [] => []
  | (x, h) :: l => ρ.cells x h ++ flat ρ l
theorem flat_length {α : Type} {ρ : Rep α} : ∀ (l : List (α × ρ.V)), (flat ρ l).length = l.length * ρ.sz
  | [] => by simp [flat]
  | (x, h) :: l => by simp [flat, ρ.len, flat_length l, Nat.add_mul, Nat.add_comm]
theorem flat_append {α : Type} {ρ : Rep α} : ∀ (a b : List (α × ρ.V)), flat ρ (a ++ b) = flat ρ a ++ flat ρ b
  | [], b => rfl
  | (x, h) :: a, b => by simp [flat, flat_append a b]
theorem flat_get {α : Type} {ρ : Rep α} : ∀ (l : List (α × ρ.V)) (i j : Nat) (x : α) (h : ρ.V), l[i]? = some (x, h) → j < ρ.sz → (flat ρ l)[i * ρ.sz + j]? = (ρ.cells x h)[j]?
  | [], i, j, x, h, e, _ => by simp at e
  | (y, k) :: l, 0, j, x, h, e, hj => by
    simp at e; obtain ⟨rfl, rfl⟩ := e
    simp only [flat, Nat.zero_mul, Nat.zero_add]
    rw [List.getElem?_append_left (by rw [ρ.len]; exact hj)]
  | (y, k) :: l, i + 1, j, x, h, e, hj => by
    simp only [flat]
    rw [List.getElem?_append_right (by rw [ρ.len, Nat.add_mul]; omega), ρ.len, Nat.add_mul, Nat.one_mul]
    rw [show i * ρ.sz + ρ.sz + j - ρ.sz = i * ρ.sz + j by omega]
    exact flat_get l i j x h (by simpa using e) hj

/-- No list is longer. -/
abbrev lim : Nat := 2147483648

def memS {α : Type} (ρ : Rep α) (l : List (α × ρ.V)) (r : Ro) : Prop := ∀ (i : Nat) (x : α) (h : ρ.V), l[i]? = some (x, h) → seps (ρ.atoms x h) r (fun _ _ => none)
theorem memS.up {α : Type} {ρ : Rep α} {l : List (α × ρ.V)} {r r' : Ro} (hr : r.le r') (m : memS ρ l r) : memS ρ l r' :=
  fun i x h e => seps_up hr (Own.le_refl _) (m i x h e)

/-- A slice that is read alone. -/
def slAt {α : Type} (ρ : Rep α) (A : Option Addr) (n : Nat) (l : List α) : HP :=
  ⟨fun r _ => n = l.length ∧ n ≤ lim ∧ (A = none → l = []) ∧ ∀ a, A = some a → a.spot = none ∧ ∃ z : List (α × ρ.V), z.map (·.1) = l ∧ (∀ i v, (flat ρ z)[i]? = some v → r a.block (a.off + i) = some v) ∧ memS ρ z r,
   fun r r' o o' hr ho ⟨h0, h1, h2, h3⟩ => ⟨h0, h1, h2, fun a ha => let ⟨hs, z, hz, hc, hm⟩ := h3 a ha; ⟨hs, z, hz, fun i v e => hr.le _ _ _ (hc i v e), hm.up hr⟩⟩⟩
theorem pers_slAt {α : Type} (ρ : Rep α) (A : Option Addr) (n : Nat) (l : List α) : Pers (slAt ρ A n l) := fun _ _ h => h
instance {α : Type} (ρ : Rep α) : Triv (slAt ρ none 0 []) := ⟨fun r o => ⟨rfl, by simp [lim], fun _ => rfl, fun a h => by cases h⟩⟩

/-- A slice of one's own: its spare room, too; 'w': its elements, too (else they are read alone). -/
def sqAt {α : Type} (w : Bool) (ρ : Rep α) (A : Option Addr) (n c : Nat) (l : List α) : HP :=
  ⟨fun r o => n = l.length ∧ n ≤ lim ∧ n ≤ c ∧ (A = none → l = [] ∧ c = 0) ∧ ∀ a, A = some a → a.spot = none ∧ ∃ (z : List (α × ρ.V)) (sp : List Value), z.map (·.1) = l ∧ sp.length = (c - n) * ρ.sz ∧
      (∀ i v, (flat ρ z)[i]? = some v → if w = true then o a.block (a.off + i) = some (.val v) else r a.block (a.off + i) = some v) ∧
      (∀ i v, sp[i]? = some v → o a.block (a.off + n * ρ.sz + i) = some (.val v)) ∧ memS ρ z r,
   fun r r' o o' hr ho ⟨h0, h1, h2, h3, h4⟩ => ⟨h0, h1, h2, h3, fun a ha => let ⟨hs, z, sp, hz, hsp, hc, hd, hm⟩ := h4 a ha; ⟨hs, z, sp, hz, hsp,
      fun i v e => by
        have := hc i v e
        split
        · rename_i hw; rw [if_pos hw] at this; exact ho _ _ _ this
        · rename_i hw; rw [if_neg hw] at this; exact hr.le _ _ _ this, fun i v e => ho _ _ _ (hd i v e), hm.up hr⟩⟩⟩
instance {α : Type} (w : Bool) (ρ : Rep α) : Triv (sqAt w ρ none 0 0 []) := ⟨fun r o => ⟨rfl, by simp [lim], Nat.le_refl _, fun _ => ⟨rfl, rfl⟩, fun a h => by cases h⟩⟩

theorem sl_of_sq {α : Type} {ρ : Rep α} {A : Option Addr} {n c : Nat} {l : List α} {L : List HP} : Ent (sqAt false ρ A n c l :: L) (slAt ρ A n l :: sqAt false ρ A n c l :: L) := by
  rintro r o ⟨a, b, d, le, hA, hL⟩
  refine ⟨fun _ _ => none, a.add b, fun _ _ => .inl rfl, fun i j c e => ?_, ?_, a, b, d, Own.le_refl _, hA, hL⟩
  · rcases Own.add_cases e with e | e
    · simp at e
    · exact le _ _ _ e
  · obtain ⟨h0, h1, h2, h3, h4⟩ := hA
    refine ⟨h0, h1, fun h => (h3 h).1, fun a ha => ?_⟩
    obtain ⟨hs, z, sp, hz, hsp, hc, hd, hm⟩ := h4 a ha
    exact ⟨hs, z, hz, fun i v e => by have := hc i v e; rw [if_neg (by simp)] at this; exact this, hm⟩

def memA {α : Type} (ρ : Rep α) (z : List (α × ρ.V)) : HP := ⟨fun r _ => memS ρ z r, fun _ _ _ _ hr _ h => h.up hr⟩
theorem pers_memA {α : Type} (ρ : Rep α) (z : List (α × ρ.V)) : Pers (memA ρ z) := fun _ _ h => h

theorem addr_eta {a : Addr} (h : a.spot = none) : a = ⟨a.block, a.off, none⟩ := by cases a; simp at h; simp [h]

/-- Own cells, or cells that are read alone. -/
def headA (w : Bool) (b off : Nat) (vs : List Value) : HP := match w with
  | true => pts b off vs
  | false => rod b off vs
/-- A slice of one's own, laid open. -/
theorem sq_open {α : Type} {ρ : Rep α} {w : Bool} {a : Addr} {n c : Nat} {l : List α} {L : List HP} {W : World} (h : St W (sqAt w ρ (some a) n c l :: L)) :
    n = l.length ∧ n ≤ lim ∧ n ≤ c ∧ a.spot = none ∧ ∃ (z : List (α × ρ.V)) (sp : List Value), z.map (·.1) = l ∧ sp.length = (c - n) * ρ.sz ∧
      St W (headA w a.block a.off (flat ρ z) :: pts a.block (a.off + n * ρ.sz) sp :: memA ρ z :: L) := by
  obtain ⟨r, o, s, x, y, d, le, hA, hL⟩ := h
  obtain ⟨h0, h1, h2, h3, h4⟩ := hA
  obtain ⟨hs, z, sp, hz, hsp, hc, hd, hm⟩ := h4 a rfl
  refine ⟨h0, h1, h2, hs, z, sp, hz, hsp, ?_⟩
  have hlen : (flat ρ z).length = n * ρ.sz := by rw [flat_length, h0, ← hz]; simp
  have hm' : ∀ y', seps L r y' → seps (memA ρ z :: L) r y' := fun y' hL => ⟨fun _ _ => none, y', fun _ _ => .inl rfl, none_add, hm, hL⟩
  cases w with
  | false =>
    refine ⟨r, o, s, fun _ _ => none, o, fun _ _ => .inl rfl, none_add, fun i v e => by have := hc i v e; rwa [if_neg (by simp)] at this, x, y, d, le, hd, hm' _ hL⟩
  | true =>
    have h5 : St W (pts a.block a.off (flat ρ z ++ sp) :: memA ρ z :: L) := by
      refine ⟨r, o, s, x, y, d, le, ?_, hm' _ hL⟩
      intro i v hv
      rcases Nat.lt_or_ge i (flat ρ z).length with hi | hi
      · rw [List.getElem?_append_left hi] at hv
        have := hc i v hv
        rwa [if_pos rfl] at this
      · rw [List.getElem?_append_right hi] at hv
        have := hd _ _ hv
        rw [show a.off + n * ρ.sz + (i - (flat ρ z).length) = a.off + i by omega] at this
        exact this
    have h6 := h5.ent pts_split
    rw [hlen] at h6
    exact h6

theorem sq_shut {α : Type} {ρ : Rep α} {w : Bool} {a : Addr} {n c : Nat} {l : List α} {L : List HP} {z : List (α × ρ.V)} {sp : List Value} (h0 : n = l.length) (h1 : n ≤ lim) (h2 : n ≤ c) (hs : a.spot = none)
    (hz : z.map (·.1) = l) (hsp : sp.length = (c - n) * ρ.sz) :
    Ent (headA w a.block a.off (flat ρ z) :: pts a.block (a.off + n * ρ.sz) sp :: memA ρ z :: L) (sqAt w ρ (some a) n c l :: L) := by
  rintro r o ⟨x, y1, d, le, hA, y, y2, d', le', hd, y3, y4, d3, le3, hm, hL⟩
  have dxy : x.disj y := fun i j => by
    rcases d i j with h | h
    · exact .inl h
    · right
      cases hb : y i j with
      | none => rfl
      | some u => have := le' i j u (Own.le_add_left _ _ _ _ _ hb); simp [h] at this
  have dx2 : x.disj y2 := fun i j => by
    rcases d i j with h | h
    · exact .inl h
    · right
      cases hb : y2 i j with
      | none => rfl
      | some u => have := le' i j u (Own.le_add_right d' _ _ _ hb); simp [h] at this
  refine ⟨x.add y, y2, fun i j => ?_, fun i j u e => ?_, ⟨h0, h1, h2, fun h => by (cases h), fun a' ha => ?_⟩, seps_up (Ro.le_refl _) (Own.le_trans (Own.le_add_right d3) le3) hL⟩
  · rcases dx2 i j with h | h
    · rcases d' i j with h' | h'
      · left; simp [Own.add, h, h']
      · exact .inr h'
    · exact .inr h
  · rcases Own.add_cases e with e | e
    · rcases Own.add_cases e with e | e
      · exact le _ _ _ (Own.le_add_left _ _ _ _ _ e)
      · exact le _ _ _ (Own.le_add_right d _ _ _ (le' _ _ _ (Own.le_add_left _ _ _ _ _ e)))
    · exact le _ _ _ (Own.le_add_right d _ _ _ (le' _ _ _ (Own.le_add_right d' _ _ _ e)))
  · cases ha
    refine ⟨hs, z, sp, hz, hsp, fun i v e => ?_, fun i v e => Own.le_add_right dxy _ _ _ (hd i v e), hm⟩
    cases w with
    | true => exact Own.le_add_left _ _ _ _ _ (hA i v e)
    | false => exact hA i v e

/-- What is one's own is read alone from now on. -/
theorem St.shut {α : Type} {ρ : Rep α} {A : Option Addr} {n c : Nat} {l : List α} {L : List HP} {w : World} (h : St w (sqAt true ρ A n c l :: L)) : St w (sqAt false ρ A n c l :: L) := by
  cases A with
  | none =>
    obtain ⟨r, o, s, x, y, d, le, ⟨h0, h1, h2, h3, h4⟩, hL⟩ := h
    exact ⟨r, o, s, x, y, d, le, ⟨h0, h1, h2, h3, fun a ha => by cases ha⟩, hL⟩
  | some a =>
    obtain ⟨h0, h1, h2, hs, z, sp, hz, hsp, h5⟩ := sq_open h
    exact h5.publish.ent (sq_shut (w := false) h0 h1 h2 hs hz hsp)

/-- A slice read alone, laid open. -/
theorem sl_open {α : Type} {ρ : Rep α} {A : Option Addr} {n : Nat} {l : List α} {L : List HP} {W : World} (h : St W (slAt ρ A n l :: L)) :
    n = l.length ∧ n ≤ lim ∧ (A = none → l = []) ∧ ∀ a, A = some a → a.spot = none ∧ ∃ (z : List (α × ρ.V)), z.map (·.1) = l ∧ St W (rod a.block a.off (flat ρ z) :: memA ρ z :: L) := by
  obtain ⟨r, o, s, x, y, d, le, hA, hL⟩ := h
  obtain ⟨h0, h1, h2, h3⟩ := hA
  refine ⟨h0, h1, h2, fun a ha => ?_⟩
  obtain ⟨hs, z, hz, hc, hm⟩ := h3 a ha
  exact ⟨hs, z, hz, r, o, s, fun _ _ => none, o, fun _ _ => .inl rfl, none_add, hc, fun _ _ => none, o, fun _ _ => .inl rfl, none_add, hm, seps_up (Ro.le_refl _) (Own.le_trans (Own.le_add_right d) le) hL⟩

theorem sl_shut {α : Type} {ρ : Rep α} {a : Addr} {n : Nat} {l : List α} {L : List HP} {z : List (α × ρ.V)} (h0 : n = l.length) (h1 : n ≤ lim) (hs : a.spot = none) (hz : z.map (·.1) = l) :
    Ent (rod a.block a.off (flat ρ z) :: memA ρ z :: L) (slAt ρ (some a) n l :: L) := by
  rintro r o ⟨x, y1, d, le, hA, y, y2, d', le', hm, hL⟩
  exact ⟨fun _ _ => none, o, fun _ _ => .inl rfl, none_add, ⟨h0, h1, fun h => by (cases h), fun a' ha => by cases ha; exact ⟨hs, z, hz, hA, hm⟩⟩, seps_up (Ro.le_refl _) (Own.le_trans (Own.le_add_right d') (Own.le_trans le' (Own.le_trans (Own.le_add_right d) le))) hL⟩

theorem sl_len {α : Type} {ρ : Rep α} {A : Option Addr} {n : Nat} {l : List α} {L : List HP} (h : Has (slAt ρ A n l) L) (r : Ro) (o : Own) (hs : seps L r o) : n = l.length ∧ n ≤ lim ∧ (A = none → l = []) := by
  obtain ⟨x, y, _, _, hA, _⟩ := h.ent (pers_slAt _ _ _ _) r o hs
  exact ⟨hA.1, hA.2.1, hA.2.2.1⟩
theorem sq_len {α : Type} {ρ : Rep α} {w : Bool} {A : Option Addr} {n c : Nat} {l : List α} {L L' : List HP} (h : Take (sqAt w ρ A n c l) L L') (r : Ro) (o : Own) (hs : seps L r o) : n = l.length ∧ n ≤ lim ∧ n ≤ c ∧ (A = none → l = [] ∧ c = 0) := by
  obtain ⟨x, y, _, _, hA, _⟩ := h.ent r o hs
  exact ⟨hA.1, hA.2.1, hA.2.2.1, hA.2.2.2.1⟩

/-- Where the so-many-th element's part lies. -/
def eadr (A : Option Addr) (i sz o : Nat) : Addr := (A.getD ⟨0, 0, none⟩).add (i * sz + o)
theorem eadr_some {a : Addr} {i sz o : Nat} (h : a.spot = none) : eadr (some a) i sz o = ⟨a.block, a.off + (i * sz + o), none⟩ := by
  simp only [eadr, Option.getD_some, Addr.add]
  split
  · rename_i h0; rw [addr_eta h]; simp [h0]
  · rfl

theorem map_get {α β : Type} {z : List (α × β)} {l : List α} (hz : z.map (·.1) = l) {i : Nat} {x : α} (hx : l[i]? = some x) : ∃ h, z[i]? = some (x, h) := by
  rw [← hz] at hx
  simp only [List.getElem?_map, Option.map_eq_some_iff] at hx
  obtain ⟨⟨y, h⟩, h1, h2⟩ := hx
  simp at h2; subst h2
  exact ⟨h, h1⟩

section
variable {P : Program} [tb : Tab P] {rd : Option Nat} {N : Nat} {T : TT} {L L' L1 L2 : List HP} {Q : Post} {ks : List K}
variable {all : Array Oper} {rest : List Oper} {ty : TypeId} {pos : String} {aft : Array Edge} {d : Option Tmp} {α : Type} {ρ : Rep α}

theorem run_indexAt {t e : Nat} {sz n1 n2 b1 : Nat} {z z2 : Value} {ke : TK} (ht : tget tb.tab t = some ⟨.sl e, n1, n2, z⟩) (hte : tget tb.tab e = some ⟨ke, sz, b1, z2⟩) {a : Addr} {n c i : Nat} {k : IntKind} (hi : i < n) (w : World) :
    (Instr.indexAt t (.slice (some a) n c) (.int k i)).run P w = .ok (.pointer (some (eadr (some a) i sz 0))) w := by
  have hk := (tab_ok ht).k
  simp only [TK.ok] at hk
  have hs := sizeOf_ok (tab_ok hte) w
  simp only at hs
  have hb : (0 : Int) ≤ (i : Int) ∧ (i : Int) < (n : Int) := ⟨by omega, by omega⟩
  simp only [Instr.indexAt, asIntOf, Sem.run_bind, Sem.run_pure, run_und hk, Result.andThen_ok]
  simp [hb, hs, eadr]

/-- An element's place, of a slice that is read alone. -/
theorem rd_index {x y : Operand} {t e : Nat} {sz n1 n2 b1 : Nat} {z z2 : Value} {ke : TK} {A : Option Addr} {n c i : Nat} {k : IntKind} {j : Int} {l : List α} (hx : evO T x = some (.slice A n c)) (hy : evO T y = some (.int k j))
    (hh : Has (slAt ρ A n l) L) (ht : tget tb.tab t = some ⟨.sl e, n1, n2, z⟩) (hte : tget tb.tab e = some ⟨ke, sz, b1, z2⟩) (hj : Int.ofNat i = j) (hi : i < n) : Reads P T L ⟨d, .indexAddr t x y, ty, pos, aft, none⟩ (fun v L' => v = .pointer (some (eadr A i sz 0)) ∧ L' = L ∧ ∃ u, l[i]? = some u) := by
  intro q hq rr oo F hs
  have hs1 := (show seps L rr _ from hs.choose_spec.choose_spec.2.2.2)
  obtain ⟨h0, h1, h2⟩ := sl_len hh rr _ hs1
  have hl : i < l.length := by omega
  cases A with
  | none => rw [h2 rfl] at hl; simp at hl
  | some a =>
    refine ⟨_, L, ⟨rfl, rfl, l[i], by simp [hl]⟩, hs, fun w sat => ?_⟩
    have hj' : j = (i : Int) := hj.symm
    subst hj'
    simp only [execOp, hq _ _ hx, hq _ _ hy, Sem.run_bind, run_indexAt ht hte hi, Result.andThen_ok]
    rfl
theorem SO.index {x y : Operand} {t e : Nat} {sz n1 n2 b1 : Nat} {z z2 : Value} {ke : TK} {A : Option Addr} {n c i : Nat} {k : IntKind} {j : Int} {l : List α} (hx : evO T x = some (.slice A n c)) (hy : evO T y = some (.int k j))
    (hh : Has (slAt ρ A n l) L) (ht : tget tb.tab t = some ⟨.sl e, n1, n2, z⟩) (hte : tget tb.tab e = some ⟨ke, sz, b1, z2⟩) (hj : Int.ofNat i = j) (hd : dstOk N d = true) (hi : i < n)
    (kk : ∀ v, l[i]? = some v → SO P rd N all rest (putD d (.pointer (some (eadr A i sz 0))) T) L ks Q) : SO P rd N all (⟨d, .indexAddr t x y, ty, pos, aft, none⟩ :: rest) T L ks Q :=
  SO.reads (rd_index hx hy hh ht hte hj hi) rfl rfl hd (by rintro _ _ ⟨rfl, rfl, u, hu⟩; exact kk u hu)
theorem SQ.index {RR : TT → List HP → Prop} {x y : Operand} {t e : Nat} {sz n1 n2 b1 : Nat} {z z2 : Value} {ke : TK} {A : Option Addr} {n c i : Nat} {k : IntKind} {j : Int} {l : List α} (hx : evO T x = some (.slice A n c)) (hy : evO T y = some (.int k j))
    (hh : Has (slAt ρ A n l) L) (ht : tget tb.tab t = some ⟨.sl e, n1, n2, z⟩) (hte : tget tb.tab e = some ⟨ke, sz, b1, z2⟩) (hj : Int.ofNat i = j) (hd : dstOk N d = true) (hi : i < n)
    (kk : ∀ v, l[i]? = some v → SQ P N all rest (putD d (.pointer (some (eadr A i sz 0))) T) L RR) : SQ P N all (⟨d, .indexAddr t x y, ty, pos, aft, none⟩ :: rest) T L RR :=
  SQ.reads (rd_index hx hy hh ht hte hj hi) rfl hd (by rintro _ _ ⟨rfl, rfl, u, hu⟩; exact kk u hu)
/-- An element's place, of a slice of one's own. -/
theorem rd_indexW {x y : Operand} {t e : Nat} {sz n1 n2 b1 : Nat} {z z2 : Value} {ke : TK} {A : Option Addr} {n c c' i : Nat} {k : IntKind} {j : Int} {l : List α} {w' : Bool} (hx : evO T x = some (.slice A n c)) (hy : evO T y = some (.int k j))
    (hh : Take (sqAt w' ρ A n c' l) L L') (ht : tget tb.tab t = some ⟨.sl e, n1, n2, z⟩) (hte : tget tb.tab e = some ⟨ke, sz, b1, z2⟩) (hj : Int.ofNat i = j) (hi : i < n) : Reads P T L ⟨d, .indexAddr t x y, ty, pos, aft, none⟩ (fun v L' => v = .pointer (some (eadr A i sz 0)) ∧ L' = L ∧ ∃ u, l[i]? = some u) := by
  intro q hq rr oo F hs
  have hs1 := (show seps L rr _ from hs.choose_spec.choose_spec.2.2.2)
  obtain ⟨h0, h1, h2, h3⟩ := sq_len hh rr _ hs1
  have hl : i < l.length := by omega
  cases A with
  | none => rw [(h3 rfl).1] at hl; simp at hl
  | some a =>
    refine ⟨_, L, ⟨rfl, rfl, l[i], by simp [hl]⟩, hs, fun w sat => ?_⟩
    have hj' : j = (i : Int) := hj.symm
    subst hj'
    simp only [execOp, hq _ _ hx, hq _ _ hy, Sem.run_bind, run_indexAt ht hte hi, Result.andThen_ok]
    rfl
theorem SO.indexW {x y : Operand} {t e : Nat} {sz n1 n2 b1 : Nat} {z z2 : Value} {ke : TK} {A : Option Addr} {n c c' i : Nat} {k : IntKind} {j : Int} {l : List α} {w' : Bool} (hx : evO T x = some (.slice A n c)) (hy : evO T y = some (.int k j))
    (hh : Take (sqAt w' ρ A n c' l) L L') (ht : tget tb.tab t = some ⟨.sl e, n1, n2, z⟩) (hte : tget tb.tab e = some ⟨ke, sz, b1, z2⟩) (hj : Int.ofNat i = j) (hd : dstOk N d = true) (hi : i < n)
    (kk : ∀ v, l[i]? = some v → SO P rd N all rest (putD d (.pointer (some (eadr A i sz 0))) T) L ks Q) : SO P rd N all (⟨d, .indexAddr t x y, ty, pos, aft, none⟩ :: rest) T L ks Q :=
  SO.reads (rd_indexW hx hy hh ht hte hj hi) rfl rfl hd (by rintro _ _ ⟨rfl, rfl, u, hu⟩; exact kk u hu)
theorem SQ.indexW {RR : TT → List HP → Prop} {x y : Operand} {t e : Nat} {sz n1 n2 b1 : Nat} {z z2 : Value} {ke : TK} {A : Option Addr} {n c c' i : Nat} {k : IntKind} {j : Int} {l : List α} {w' : Bool} (hx : evO T x = some (.slice A n c)) (hy : evO T y = some (.int k j))
    (hh : Take (sqAt w' ρ A n c' l) L L') (ht : tget tb.tab t = some ⟨.sl e, n1, n2, z⟩) (hte : tget tb.tab e = some ⟨ke, sz, b1, z2⟩) (hj : Int.ofNat i = j) (hd : dstOk N d = true) (hi : i < n)
    (kk : ∀ v, l[i]? = some v → SQ P N all rest (putD d (.pointer (some (eadr A i sz 0))) T) L RR) : SQ P N all (⟨d, .indexAddr t x y, ty, pos, aft, none⟩ :: rest) T L RR :=
  SQ.reads (rd_indexW hx hy hh ht hte hj hi) rfl hd (by rintro _ _ ⟨rfl, rfl, u, hu⟩; exact kk u hu)
/-- A part of an element's place. -/
theorem rd_efield {x : Operand} {t f : Nat} {A : Option Addr} {i sz o off tf n1 n2 s1 s2 : Nat} {z z2 : Value} {k2 : TK} {fs : List (Nat × Nat)} (hx : evO T x = some (.pointer (some (eadr A i sz o))))
    (ht : tget tb.tab t = some ⟨.st fs, n1, n2, z⟩) (hf : fs[f]? = some (off, tf)) (htf : tget tb.tab tf = some ⟨k2, s1 + 1, s2, z2⟩) : Reads P T L ⟨d, .fieldAddr t x f, ty, pos, aft, none⟩ (fun v L' => v = .pointer (some (eadr A i sz (o + off))) ∧ L' = L) := by
  intro q hq rr oo F hs
  refine ⟨_, L, ⟨rfl, rfl⟩, hs, fun w sat => ?_⟩
  have hk := (tab_ok ht).k
  simp only [TK.ok] at hk
  obtain ⟨G, hG, hm⟩ := hk
  have hf' : ∃ g, G[f]? = some g ∧ g.offset = off ∧ g.type = tf := by
    rw [← hm] at hf
    simp only [List.getElem?_map, Option.map_eq_some_iff] at hf
    obtain ⟨g, h1, h2⟩ := hf
    cases h2
    exact ⟨g, by simpa using h1, rfl, rfl⟩
  obtain ⟨g, hg1, hg2, hg3⟩ := hf'
  subst hg2 hg3
  have hs := sizeOf_ok (tab_ok htf) w
  simp only at hs
  have hadd : (eadr A i sz o).add g.offset = eadr A i sz (o + g.offset) := by
    simp only [eadr, Addr.add]
    split <;> split <;> (try split) <;> simp_all <;> omega
  simp [execOp, Instr.fieldAt, hq _ _ hx, run_und hG, hg1, Instr.sureAddr, fieldPlace, hs, hadd]
theorem SO.efield {x : Operand} {t f : Nat} {A : Option Addr} {i sz o off tf n1 n2 s1 s2 : Nat} {z z2 : Value} {k2 : TK} {fs : List (Nat × Nat)} (hx : evO T x = some (.pointer (some (eadr A i sz o))))
    (ht : tget tb.tab t = some ⟨.st fs, n1, n2, z⟩) (hf : fs[f]? = some (off, tf)) (htf : tget tb.tab tf = some ⟨k2, s1 + 1, s2, z2⟩) (hd : dstOk N d = true)
    (kk : SO P rd N all rest (putD d (.pointer (some (eadr A i sz (o + off)))) T) L ks Q) : SO P rd N all (⟨d, .fieldAddr t x f, ty, pos, aft, none⟩ :: rest) T L ks Q :=
  SO.reads (rd_efield hx ht hf htf) rfl rfl hd (by rintro _ _ ⟨rfl, rfl⟩; exact kk)
theorem SQ.efield {RR : TT → List HP → Prop} {x : Operand} {t f : Nat} {A : Option Addr} {i sz o off tf n1 n2 s1 s2 : Nat} {z z2 : Value} {k2 : TK} {fs : List (Nat × Nat)} (hx : evO T x = some (.pointer (some (eadr A i sz o))))
    (ht : tget tb.tab t = some ⟨.st fs, n1, n2, z⟩) (hf : fs[f]? = some (off, tf)) (htf : tget tb.tab tf = some ⟨k2, s1 + 1, s2, z2⟩) (hd : dstOk N d = true)
    (kk : SQ P N all rest (putD d (.pointer (some (eadr A i sz (o + off)))) T) L RR) : SQ P N all (⟨d, .fieldAddr t x f, ty, pos, aft, none⟩ :: rest) T L RR :=
  SQ.reads (rd_efield hx ht hf htf) rfl hd (by rintro _ _ ⟨rfl, rfl⟩; exact kk)
/-- A load of an element's part; of a slice that is read alone. -/
theorem rd_eload {x : Operand} {t : Nat} {ti : TI} {A : Option Addr} {n i sz o : Nat} {l : List α} {u : α} (hx : evO T x = some (.pointer (some (eadr A i sz o)))) (hh : Has (slAt ρ A n l) L) (hu : l[i]? = some u)
    (ht : tget tb.tab t = some ti) (hsz : Nat.beq ρ.sz sz = true) (hp : ∀ h, packOk ti (cut (ρ.cells u h) o ti.size)) : Reads P T L ⟨d, .load t x, ty, pos, aft, none⟩ (fun v L' => ∃ h, v = packV ti (cut (ρ.cells u h) o ti.size) ∧ L' = ρ.atoms u h ++ L) := by
  intro q hq rr oo F hs
  have hszz := Nat.eq_of_beq_eq_true hsz
  subst hszz
  have hs1 := ((Ent.cons (hh.ent (pers_slAt _ _ _ _))).trans Ent.swap) rr oo hs
  obtain ⟨x1, y1, d1, le1, hA, hL⟩ := hs1
  obtain ⟨h0, h1, h2, h3⟩ := hA
  cases A with
  | none => rw [h2 rfl] at hu; simp at hu
  | some a =>
    obtain ⟨hsp, z, hz, hc, hm⟩ := h3 a rfl
    obtain ⟨h, hzh⟩ := map_get hz hu
    refine ⟨_, _, ⟨h, rfl, rfl⟩, ?_, fun w sat => ?_⟩
    · have hat := hm i u h hzh
      have h7 : seps (big (ρ.atoms u h) :: F :: L) rr oo :=
        ⟨fun _ _ => none, oo, fun _ _ => .inl rfl, none_add, hat, seps_up (Ro.le_refl _) (Own.le_trans (Own.le_add_right d1) le1) hL⟩
      exact (Ent.swap.trans (Ent.cons ent_big)) rr oo h7
    · simp only [execOp, hq _ _ hx, Instr.loadAt, Instr.sureAddr, Sem.run_bind, Sem.run_pure, Result.andThen_ok]
      rw [eadr_some hsp]
      rw [loadVar_ok ht (hp h) (fun j v hj => by
        obtain ⟨h5, h6⟩ := cut_get hj
        have hlt : o + j < ρ.sz := by rw [← ρ.len u h]; exact row_lt h5
        have := sat.ro _ _ _ (hc (i * ρ.sz + (o + j)) v (by rw [flat_get z i (o + j) u h hzh hlt]; exact h5))
        rwa [show a.off + (i * ρ.sz + (o + j)) = a.off + (i * ρ.sz + o) + j by omega] at this)]
      rfl
theorem SO.eload {x : Operand} {t : Nat} {ti : TI} {A : Option Addr} {n i sz o : Nat} {l : List α} {u : α} (hx : evO T x = some (.pointer (some (eadr A i sz o)))) (hh : Has (slAt ρ A n l) L) (hu : l[i]? = some u)
    (ht : tget tb.tab t = some ti) (hsz : Nat.beq ρ.sz sz = true) (hp : ∀ h, packOk ti (cut (ρ.cells u h) o ti.size)) (hd : dstOk N d = true)
    (kk : ∀ h, SO P rd N all rest (putD d (packV ti (cut (ρ.cells u h) o ti.size)) T) (ρ.atoms u h ++ L) ks Q) : SO P rd N all (⟨d, .load t x, ty, pos, aft, none⟩ :: rest) T L ks Q :=
  SO.reads (rd_eload hx hh hu ht hsz hp) rfl rfl hd (by rintro _ _ ⟨h, rfl, rfl⟩; exact kk h)
theorem SQ.eload {RR : TT → List HP → Prop} {x : Operand} {t : Nat} {ti : TI} {A : Option Addr} {n i sz o : Nat} {l : List α} {u : α} (hx : evO T x = some (.pointer (some (eadr A i sz o)))) (hh : Has (slAt ρ A n l) L) (hu : l[i]? = some u)
    (ht : tget tb.tab t = some ti) (hsz : Nat.beq ρ.sz sz = true) (hp : ∀ h, packOk ti (cut (ρ.cells u h) o ti.size)) (hd : dstOk N d = true)
    (kk : ∀ h, SQ P N all rest (putD d (packV ti (cut (ρ.cells u h) o ti.size)) T) (ρ.atoms u h ++ L) RR) : SQ P N all (⟨d, .load t x, ty, pos, aft, none⟩ :: rest) T L RR :=
  SQ.reads (rd_eload hx hh hu ht hsz hp) rfl hd (by rintro _ _ ⟨h, rfl, rfl⟩; exact kk h)
end
end Go.Sl
