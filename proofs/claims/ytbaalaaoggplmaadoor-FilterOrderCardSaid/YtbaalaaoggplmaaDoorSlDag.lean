/- A part of a proof: a walk over the model by a small separation logic. -/
import Derived.Test.YtbaalaaoggplmaaDoorSlApp
/-! Regions whose order is open and whose operations make memory or call: each operation for itself, with what it needs. -/
set_option linter.unusedVariables false
set_option linter.unusedSectionVars false
namespace Go.Sl

/-- An operation of such a region: whose values it needs; whose tokens it uses up; what it leaves, its value being told. -/
structure OpS where
  need : List Nat
  own : List Nat
  tok : Value → HP
  init : HP := pr True
  see : List Nat := []

def emp : HP := pr True
def tokAt (S : List OpS) (j : Nat) (v : Value) : HP := match S[j]? with
  | some s => s.tok v
  | none => emp
/-- What an operation holds when it runs. -/
def toks (S : List OpS) (s : OpS) (ev : Nat → Value) : List HP := s.init :: ((s.own.map fun j => tokAt S j (ev j)) ++ (s.see.map fun j => tokAt S j (ev j)))
def sees : List OpS → List Nat
  | [] => []
  | s :: S => s.see ++ sees S
/-- The slots of some operations, with their values. -/
def needT (l : List Oper) : List Nat → (Nat → Value) → TT
  | [], _ => []
  | j :: js, ev => match (l[j]?).bind (·.dst) with
    | some d => (d, ev j) :: needT l js ev
    | none => needT l js ev

def subN : List Nat → List Nat → Bool
  | [], _ => true
  | x :: xs, ys => ys.elem x && subN xs ys
theorem subN_ok : ∀ {xs ys : List Nat}, subN xs ys = true → ∀ x ∈ xs, x ∈ ys
  | [], ys, _, x, h => by cases h
  | y :: xs, ys, h, x, hx => by
    simp only [subN, Bool.and_eq_true] at h
    rcases List.mem_cons.1 hx with rfl | hx
    · simpa using h.1
    · exact subN_ok h.2 x hx
def nodupN : List Nat → Bool
  | [] => true
  | x :: xs => !xs.elem x && nodupN xs
theorem nodupN_ok : ∀ {xs : List Nat}, nodupN xs = true → xs.Nodup
  | [], _ => List.nodup_nil
  | x :: xs, h => by
    simp only [nodupN, Bool.and_eq_true] at h
    exact List.nodup_cons.2 ⟨by simpa using h.1, nodupN_ok h.2⟩

/-- The edges of an operation that bind. -/
def aft (o : Oper) : List Nat := (o.after.toList.filter (Region.binds .any)).map (·.on)
def oneOk (o : Oper) (s : OpS) : Bool := (match o.guard with | none => true | some _ => false) && notDefer o.op && subN s.need (aft o) && subN s.own (aft o) && nodupN s.own && subN s.see (aft o)
def allOk : List Oper → List OpS → Bool
  | [], [] => true
  | o :: l, s :: S => oneOk o s && allOk l S
  | _, _ => false
def owns : List OpS → List Nat
  | [] => []
  | s :: S => s.own ++ owns S
def dsts (l : List Oper) : List Nat := l.filterMap (·.dst)
def keys : TT → List Nat
  | [] => []
  | (i, _) :: T => i :: keys T
def apartN : List Nat → List Nat → Bool
  | [], _ => true
  | x :: xs, ys => !ys.elem x && apartN xs ys
theorem apartN_ok : ∀ {xs ys : List Nat}, apartN xs ys = true → ∀ x ∈ xs, x ∉ ys
  | [], ys, _, x, h => by cases h
  | y :: xs, ys, h, x, hx => by
    simp only [apartN, Bool.and_eq_true] at h
    rcases List.mem_cons.1 hx with rfl | hx
    · simpa using h.1
    · exact apartN_ok h.2 x hx
def ordOk : Nat → List Oper → Bool
  | _, [] => true
  | i, o :: l => (aft o).all (Nat.blt · i) && ordOk (i + 1) l
theorem ordOk_get : ∀ {l : List Oper} {k : Nat}, ordOk k l = true → ∀ (i : Nat) (o : Oper), l[i]? = some o → ∀ j ∈ aft o, j < k + i
  | [], k, _, i, o, h, _, _ => by simp at h
  | o' :: l, k, h, i, o, ho, j, hj => by
    simp only [ordOk, Bool.and_eq_true] at h
    cases i with
    | zero => simp at ho; subst ho; have := List.all_eq_true.1 h.1 j hj; simpa [Nat.blt_eq] using this
    | succ i => have := ordOk_get h.2 i o (by simpa using ho) j hj; omega
def dagOk (N : Nat) (l : List Oper) (S : List OpS) (T1 : TT) : Bool :=
  ordOk 0 l && allOk l S && nodupN (owns S) && nodupN (dsts l) && ltAll N (dsts l) && apartN (keys T1) (dsts l) && apartN (sees S) (owns S)

theorem allOk_len : ∀ {l : List Oper} {S : List OpS}, allOk l S = true → l.length = S.length
  | [], [], _ => rfl
  | o :: l, s :: S, h => by simp only [allOk, Bool.and_eq_true] at h; simp [allOk_len h.2]
  | [], s :: S, h => by simp [allOk] at h
  | o :: l, [], h => by simp [allOk] at h
theorem allOk_get : ∀ {l : List Oper} {S : List OpS}, allOk l S = true → ∀ (i : Nat) (o : Oper) (s : OpS), l[i]? = some o → S[i]? = some s → oneOk o s = true
  | [], [], _, i, o, s, h, _ => by simp at h
  | o' :: l, s' :: S, h, i, o, s, ho, hs => by
    simp only [allOk, Bool.and_eq_true] at h
    cases i with
    | zero => simp at ho hs; subst ho hs; exact h.1
    | succ i => exact allOk_get h.2 i o s (by simpa using ho) (by simpa using hs)
  | [], s :: S, h, _, _, _, _, _ => by simp [allOk] at h
  | o :: l, [], h, _, _, _, _, _ => by simp [allOk] at h
theorem mem_owns : ∀ {S : List OpS} {i : Nat} {s : OpS} {j : Nat}, S[i]? = some s → j ∈ s.own → j ∈ owns S
  | [], i, s, j, h, _ => by simp at h
  | s' :: S, i, s, j, h, hj => by
    cases i with
    | zero => simp at h; subst h; simp [owns, hj]
    | succ i => simp [owns]; exact .inr (mem_owns (by simpa using h) hj)
theorem owns_unique : ∀ {S : List OpS}, (owns S).Nodup → ∀ {i k : Nat} {s t : OpS} {j : Nat}, S[i]? = some s → S[k]? = some t → j ∈ s.own → j ∈ t.own → i = k
  | [], _, i, k, s, t, j, h, _, _, _ => by simp at h
  | s' :: S, hn, i, k, s, t, j, hs, ht, h1, h2 => by
    simp only [owns] at hn
    rw [List.nodup_append] at hn
    cases i with
    | zero =>
      cases k with
      | zero => rfl
      | succ k =>
        simp at hs; subst hs
        exact absurd rfl (hn.2.2 j h1 j (mem_owns (by simpa using ht) h2))
    | succ i =>
      cases k with
      | zero =>
        simp at ht; subst ht
        exact absurd rfl (hn.2.2 j h2 j (mem_owns (by simpa using hs) h1))
      | succ k => exact congrArg (· + 1) (owns_unique hn.2.1 (by simpa using hs) (by simpa using ht) h1 h2)

theorem ent_set {A : HP} : ∀ {Z : List HP} {i : Nat} {B : HP}, Z[i]? = some B → Ent Z (B :: Z.set i emp)
  | [], i, B, h => by simp at h
  | C :: Z, 0, B, h => by
    simp at h; subst h
    exact Ent.cons (fun r o x => ⟨fun _ _ => none, o, fun _ _ => .inl rfl, none_add, trivial, x⟩)
  | C :: Z, i + 1, B, h => by
    have := ent_set (A := A) (Z := Z) (i := i) (B := B) (by simpa using h)
    exact (Ent.cons this).trans Ent.swap
theorem ent_unset : ∀ {Z : List HP} {i : Nat} {B : HP}, i < Z.length → Ent (B :: Z) (Z.set i B)
  | [], i, B, h => by simp at h
  | C :: Z, 0, B, h => Ent.swap.trans (by simp only [List.set_cons_zero]; exact Ent.drop)
  | C :: Z, i + 1, B, h => by
    have := ent_unset (Z := Z) (i := i) (B := B) (by simpa using h)
    exact Ent.swap.trans (Ent.cons this)

theorem ent_app_mid {A : List HP} {B : HP} {C : List HP} : Ent (A ++ (B :: C)) ((B :: A) ++ C) := by
  induction A with
  | nil => exact Ent.refl _
  | cons a A ih => exact (Ent.cons ih).trans Ent.swap

section
variable {P : Program} {rd : Option Nat} {N : Nat} {T T1 : TT} {L L1 Sh : List HP} {Q : Post} {ks : List K}

/-- Each operation for itself. -/
def Each (P : Program) (rd : Option Nat) (N : Nat) (l : List Oper) (S : List OpS) (T1 : TT) (Sh : List HP) : List Oper → List OpS → Prop
  | o :: os, s :: ss => (∀ ev : Nat → Value, SO P rd N l.toArray [o] (needT l s.need ev ++ T1) (Sh ++ toks S s ev)
      [.inv fun T' L' => ∃ v, (match o.dst with | some d => T'.get d = some v | none => v = undef) ∧ Ent L' (s.tok v :: Sh)] (fun _ _ _ => False)) ∧ Each P rd N l S T1 Sh os ss
  | _, _ => True
theorem Each.get {l : List Oper} {S : List OpS} : ∀ {os : List Oper} {ss : List OpS}, Each P rd N l S T1 Sh os ss → ∀ (i : Nat) (o : Oper) (s : OpS), os[i]? = some o → ss[i]? = some s →
    ∀ ev : Nat → Value, SO P rd N l.toArray [o] (needT l s.need ev ++ T1) (Sh ++ toks S s ev)
      [.inv fun T' L' => ∃ v, (match o.dst with | some d => T'.get d = some v | none => v = undef) ∧ Ent L' (s.tok v :: Sh)] (fun _ _ _ => False)
  | [], _, _, i, o, s, h, _ => by simp at h
  | _ :: _, [], _, i, o, s, _, h => by simp at h
  | o' :: os, s' :: ss, h, i, o, s, ho, hs => by
    cases i with
    | zero => simp at ho hs; subst ho hs; exact h.1
    | succ i => exact Each.get h.2 i o s (by simpa using ho) (by simpa using hs)

theorem wpIn_mono2 {F : Fence} {n : Nat} {o : Oper} {a : Act} {w : World} {K K' : Act → World → Prop} {Q Q' : Exit → Act → World → Prop} (h : ∀ a w, K a w → K' a w) (hp : ∀ c a w, Q (.panic c) a w → Q' (.panic c) a w) (ho : LetsOut Q → LetsOut Q')
    (hh : o.wpIn F n P a w K Q) : o.wpIn F n P a w K' Q' := by
  unfold Oper.wpIn at *
  refine ⟨hh.1, ?_⟩
  have hh := hh.2
  generalize (o.semAt F.round a.eval).run P w = r at *
  cases r with
  | ok x w' =>
    cases x <;> simp only [Oper.uponIn] at hh ⊢ <;>
      first
        | exact h _ _ hh
        | exact ⟨hh.1, CallsIn.mono hh.2 (fun e w'' he => by cases e <;> first | exact h _ _ he | exact hp _ _ _ he | exact ho he)⟩
        | exact ⟨hh.1, RowsIn.mono hh.2 (fun _ _ he => h _ _ he)⟩
        | exact ⟨hh.1, RoundIn.mono hh.2 (fun e w'' he => by cases e <;> first | exact h _ _ he | exact hp _ _ _ he | exact ho he)⟩
  | halt x w' => cases x <;> simp only [Oper.uponIn] at hh ⊢ <;> first | exact hp _ _ _ hh | exact hh

theorem needT_get {l : List Oper} {ev : Nat → Value} {T1 : TT} {tm : Array Value} (h1 : ∀ i v, T1.get i = some v → tm[i]? = some v) : ∀ (js : List Nat), (∀ j ∈ js, ∀ o d, l[j]? = some o → o.dst = some d → tm[d]? = some (ev j)) →
    ∀ i v, (needT l js ev ++ T1).get i = some v → tm[i]? = some v
  | [], _, i, v, h => h1 i v h
  | j :: js, hj, i, v, h => by
    simp only [needT] at h
    have ih := needT_get h1 js (fun j' h' => hj j' (by simp [h']))
    cases hl : l[j]? with
    | none => simp only [hl, Option.bind_none] at h; exact ih i v h
    | some o =>
      cases hd : o.dst with
      | none => simp only [hl, Option.bind_some, hd] at h; exact ih i v h
      | some d =>
        simp only [hl, Option.bind_some, hd, List.cons_append] at h
        rw [TT.get_cons] at h
        split at h
        · rename_i he; subst he; cases h; exact hj j (by simp) o d hl hd
        · exact ih i v h

theorem wpIn_tm {F : Fence} {n : Nat} {o : Oper} {a : Act} {w : World} {K : Act → World → Prop} {Q : Exit → Act → World → Prop} (hh : o.wpIn F n P a w K Q) :
    o.wpIn F n P a w (fun a' w' => K a' w' ∧ ∃ v, a'.tmps = (a.put o.dst v).tmps) Q := by
  unfold Oper.wpIn at *
  refine ⟨hh.1, ?_⟩
  have hh := hh.2
  generalize (o.semAt F.round a.eval).run P w = r at *
  cases r with
  | ok x w' =>
    cases x <;> simp only [Oper.uponIn] at hh ⊢ <;>
      first
        | exact ⟨hh, _, rfl⟩
        | exact ⟨hh, undef, by cases o.dst <;> rfl⟩
        | exact ⟨hh.1, CallsIn.mono hh.2 (fun e w'' he => by cases e <;> first | exact ⟨he, _, rfl⟩ | exact he)⟩
        | exact ⟨hh.1, RowsIn.mono hh.2 (fun _ _ he => ⟨he, _, rfl⟩)⟩
        | exact ⟨hh.1, RoundIn.mono hh.2 (fun e w'' he => by cases e <;> first | exact ⟨he, _, rfl⟩ | exact he)⟩
  | halt x w' => cases x <;> simp only [Oper.uponIn] at hh ⊢ <;> exact hh

/-- The invariant on the way. -/
structure DagInv (N : Nat) (l : List Oper) (S : List OpS) (T1 : TT) (Sh : List HP) (G : HP) (listed : Array Bool) (a : Act) (w : World) : Prop where
  size : a.tmps.size = N
  base : ∀ i v, T1.get i = some v → a.tmps[i]? = some v
  lsize : listed.size = l.length
  mem : ∃ (D : List Nat) (ev : Nat → Value) (Z : List HP), a.defers = D.map mark ∧ Z.length = l.length ∧ (∀ j o d, l[j]? = some o → listed.getD j false = true → o.dst = some d → a.tmps[d]? = some (ev j)) ∧
    (∀ j, j < l.length → listed.getD j false = true → (∀ k t, S[k]? = some t → j ∈ t.own → listed.getD k false = false) → Z[j]? = some (tokAt S j (ev j))) ∧ (∀ j s, S[j]? = some s → listed.getD j false = false → Z[j]? = some s.init) ∧ St w (big (G :: D.map mkA) :: (Sh ++ Z))

theorem take_tokens {S : List OpS} {ev : Nat → Value} : ∀ (js : List Nat) (Z : List HP), js.Nodup → (∀ j ∈ js, Z[j]? = some (tokAt S j (ev j))) →
    ∃ Z' : List HP, Z'.length = Z.length ∧ (∀ i, i ∉ js → Z'[i]? = Z[i]?) ∧ Ent Z ((js.map fun j => tokAt S j (ev j)) ++ Z')
  | [], Z, _, _ => ⟨Z, rfl, fun _ _ => rfl, Ent.refl _⟩
  | j :: js, Z, hn, h => by
    rw [List.nodup_cons] at hn
    have h1 := ent_set (A := emp) (h j (by simp))
    obtain ⟨Z', hl, hz, he⟩ := take_tokens js (Z.set j emp) hn.2 (fun j' hj' => by
      have hne : j ≠ j' := fun e => hn.1 (by rw [e]; exact hj')
      rw [List.getElem?_set_ne hne]
      exact h j' (by simp [hj']))
    refine ⟨Z', by simpa using hl, fun i hi => ?_, ?_⟩
    · rw [hz i (fun h => hi (by simp [h])), List.getElem?_set_ne (fun e => hi (by simp [e]))]
    · exact h1.trans (Ent.cons he)

/-- What is not listed yet. -/
def unl (n : Nat) (listed : Array Bool) : List Nat := (List.range n).filter fun j => !listed.getD j true
theorem unl_set {n : Nat} {listed : Array Bool} {i : Nat} (hi : i ∈ unl n listed) : (unl n (listed.setIfInBounds i true)).length < (unl n listed).length := by
  have h1 : unl n (listed.setIfInBounds i true) = (unl n listed).filter (fun j => !(j == i)) := by
    unfold unl
    rw [List.filter_filter]
    apply List.filter_congr
    intro j hj
    by_cases h : i = j
    · subst h
      have : listed.getD i true = false := by simp only [unl, List.mem_filter] at hi; simpa using hi.2
      have hlt : i < listed.size := by
        rcases Nat.lt_or_ge i listed.size with h' | h'
        · exact h'
        · simp [Array.getElem?_eq_none h'] at this
      simp [hlt]
    · rw [getD_set_ne true h]
      have : (j == i) = false := by simp; exact fun e => h e.symm
      simp [this]
  rw [h1]
  exact List.length_filter_lt_length_iff_exists.2 ⟨i, hi, by simp⟩

theorem getD_tf {listed : Array Bool} {j : Nat} (hj : j < listed.size) : listed.getD j true = listed.getD j false := by simp [hj]

theorem dag_ready {l : List Oper} {listed : Array Bool} (hls : listed.size = l.length) (ho : ordOk 0 l = true) (hr : Region.ready .any l.toArray listed = []) : ∀ j, j < l.length → listed.getD j false = true := by
  intro j
  induction j using Nat.strongRecOn with
  | _ j ih =>
    intro hj
    cases hl : listed.getD j false with
    | true => rfl
    | false =>
      exfalso
      have : j ∈ Region.ready .any l.toArray listed := by
        rw [mem_ready]
        refine ⟨by rw [getD_tf (by omega)]; exact hl, l[j], by simp [hj], fun e he hb => ?_⟩
        have hm : e.on ∈ aft l[j] := by
          simp only [aft, List.mem_map, List.mem_filter]
          exact ⟨e, ⟨by simpa using he, hb⟩, rfl⟩
        have := ordOk_get ho j l[j] (by simp [hj]) e.on hm
        exact ih e.on (by omega) (by omega)
      rw [hr] at this
      cases this

theorem mem_sees : ∀ {S : List OpS} {i : Nat} {s : OpS} {j : Nat}, S[i]? = some s → j ∈ s.see → j ∈ sees S
  | [], i, s, j, h, _ => by simp at h
  | s' :: S, i, s, j, h, hj => by
    cases i with
    | zero => simp at h; subst h; simp [sees, hj]
    | succ i => simp [sees]; exact .inr (mem_sees (by simpa using h) hj)
theorem see_tokens {S : List OpS} {ev : Nat → Value} {Z : List HP} : ∀ (js : List Nat), (∀ j ∈ js, Z[j]? = some (tokAt S j (ev j)) ∧ Pers (tokAt S j (ev j))) → Ent Z ((js.map fun j => tokAt S j (ev j)) ++ Z)
  | [], _ => Ent.refl _
  | j :: js, h => by
    have ih := see_tokens js (fun j' h' => h j' (by simp [h']))
    obtain ⟨h1, h2⟩ := h j (by simp)
    refine ih.trans ?_
    have e1 : Ent Z (tokAt S j (ev j) :: Z) := by
      have h3 := ent_set (A := emp) h1
      refine h3.trans ((Ent.dup h2).trans (Ent.cons ?_))
      have := ent_unset (Z := Z.set j emp) (i := j) (B := tokAt S j (ev j)) (by simpa using (List.getElem?_eq_some_iff.1 h1).1)
      rw [List.set_set] at this
      have h4 : Z.set j (tokAt S j (ev j)) = Z := by
        apply List.ext_getElem?
        intro k
        by_cases hk : j = k
        · subst hk; rw [List.getElem?_set_self (List.getElem?_eq_some_iff.1 h1).1, h1]
        · rw [List.getElem?_set_ne hk]
      rwa [h4] at this
    exact (Ent.app e1).trans ent_app_mid
theorem dag_step {l : List Oper} {S : List OpS} {G : HP} (hP : ∀ j ∈ sees S, ∀ v, Pers (tokAt S j v)) (hok : dagOk N l S T1 = true) (hE : Each P rd N l S T1 Sh l S) {QQ : Exit → Act → World → Prop} :
    ∀ (fuel : Nat) (listed : Array Bool) (a : Act) (w : World), (unl l.length listed).length ≤ fuel → (∀ a w listed, DagInv N l S T1 Sh G listed a w → Region.ready .any l.toArray listed = [] → QQ .normal a w) →
      DagInv N l S T1 Sh G listed a w → wpAnyIn (FW rd) 0 P .any l.toArray QQ fuel listed a w := by
  simp only [dagOk, Bool.and_eq_true] at hok
  obtain ⟨⟨⟨⟨⟨⟨hord, hall⟩, hown⟩, hdst⟩, hdN⟩, hap⟩, hsee⟩ := hok
  have hlen := allOk_len hall
  have hownN := nodupN_ok hown
  have hdstN := nodupN_ok hdst
  intro fuel
  induction fuel with
  | zero =>
    intro listed a w hf hQ inv
    have h0 : unl l.length listed = [] := List.length_eq_zero_iff.1 (by omega)
    have hr : Region.ready .any l.toArray listed = [] := by
      cases h : Region.ready .any l.toArray listed with
      | nil => rfl
      | cons i r =>
        have hi : i ∈ Region.ready .any l.toArray listed := by rw [h]; simp
        rw [mem_ready] at hi
        obtain ⟨h1, o, ho, _⟩ := hi
        have : i ∈ unl l.length listed := by
          simp only [unl, List.mem_filter, List.mem_range]
          exact ⟨by have := (Array.getElem?_eq_some_iff.1 ho).1; simpa using this, by simp [h1]⟩
        rw [h0] at this; cases this
    exact ⟨hr, hQ a w listed inv hr⟩
  | succ fuel ih =>
    intro listed a w hf hQ inv
    refine ⟨fun hr => hQ a w listed inv hr, fun i hi => ?_⟩
    rw [mem_ready] at hi
    obtain ⟨hli, o, ho, haft⟩ := hi
    have hio : i < l.length := by have := (Array.getElem?_eq_some_iff.1 ho).1; simpa using this
    have ho' : l[i]? = some o := by simpa using ho
    have hiS : i < S.length := by omega
    have hs' : S[i]? = some S[i] := by simp [hiS]
    have hone := allOk_get hall i o S[i] ho' hs'
    simp only [oneOk, Bool.and_eq_true] at hone
    obtain ⟨⟨⟨⟨⟨hg, hnd⟩, hneed⟩, hownA⟩, hownD⟩, hseeA⟩ := hone
    have hgn : o.guard = none := by cases h : o.guard with
      | none => rfl
      | some p => rw [h] at hg; cases hg
    have hlisted : ∀ j ∈ aft o, listed.getD j false = true := by
      intro j hj
      simp only [aft, List.mem_map, List.mem_filter] at hj
      obtain ⟨e, ⟨he, hb⟩, rfl⟩ := hj
      exact haft e (by simpa using he) hb
    have haftlt : ∀ j ∈ aft o, j < i := fun j hj => by have := ordOk_get hord i o ho' j hj; omega
    obtain ⟨D, ev, Z, hD, hZl, hev, hZ, hZi, hst⟩ := inv.mem
    -- the tokens that it uses up
    have htok : ∀ j ∈ S[i].own, Z[j]? = some (tokAt S j (ev j)) := fun j hj => by
      have hja := subN_ok hownA j hj
      refine hZ j (by have := haftlt j hja; omega) (hlisted j hja) fun k t ht hjt => ?_
      have := owns_unique hownN hs' ht hj hjt
      subst this
      rw [← getD_tf (by rw [inv.lsize]; exact hio)]; exact hli
    obtain ⟨Z0, hZ0l, hZ0e, hZ0⟩ := take_tokens S[i].own Z (nodupN_ok hownD) htok
    have hiown : i ∉ S[i].own := fun h => by have := haftlt i (subN_ok hownA i h); omega
    have hZ0i : Z0[i]? = some S[i].init := by rw [hZ0e i hiown]; exact hZi i S[i] hs' (by rw [← getD_tf (by rw [inv.lsize]; exact hio)]; exact hli)
    obtain ⟨Z', hZ'd⟩ : ∃ Z', Z' = Z0.set i emp := ⟨_, rfl⟩
    have hZ'l : Z'.length = Z.length := by rw [hZ'd]; simp [hZ0l]
    have hZ'e : ∀ k, k ∉ S[i].own → k ≠ i → Z'[k]? = Z[k]? := fun k h1 h2 => by rw [hZ'd, List.getElem?_set_ne (fun e => h2 e.symm)]; exact hZ0e k h1
    have hseeZ : ∀ j ∈ S[i].see, Z[j]? = some (tokAt S j (ev j)) ∧ Pers (tokAt S j (ev j)) := fun j hj => by
      have hja := subN_ok hseeA j hj
      exact ⟨hZ j (by have := haftlt j hja; omega) (hlisted j hja) fun k t ht hjt => absurd (mem_owns ht hjt) (apartN_ok hsee j (mem_sees hs' hj)), hP j (mem_sees hs' hj) _⟩
    have hZ' : Ent Z (toks S S[i] ev ++ Z') := by
      refine (see_tokens S[i].see hseeZ).trans ?_
      have h1 := ent_set (A := emp) hZ0i
      rw [← hZ'd] at h1
      have h2 : Ent Z ((S[i].init :: S[i].own.map fun j => tokAt S j (ev j)) ++ Z') := hZ0.trans ((Ent.app h1).trans ent_app_mid)
      refine (Ent.app h2).trans ?_
      rw [← List.append_assoc]
      have h3 : ∀ {A B C : List HP}, Ent A B → Ent (A ++ C) (B ++ C) := by
        intro A B C hAB
        exact (ent_app_comm.trans (Ent.app hAB)).trans ent_app_comm
      exact h3 (by unfold toks; exact ent_app_comm (B := S[i].init :: S[i].own.map fun j => tokAt S j (ev j)))
    have hso := hE.get i o S[i] ho' hs' ev
    -- the frame: the tokens that stay
    have hst2 : St w (big ((big (G :: Z')) :: D.map mkA) :: (Sh ++ toks S S[i] ev)) := by
      refine hst.ent ?_
      have e1 : Ent (big (G :: D.map mkA) :: (Sh ++ Z)) (big (G :: D.map mkA) :: ((Sh ++ toks S S[i] ev) ++ Z')) := by
        refine Ent.cons ?_
        rw [List.append_assoc]
        exact Ent.app hZ'
      refine e1.trans ?_
      refine (ent_big (A := G :: D.map mkA)).trans ?_
      have e2 : Ent ((G :: D.map mkA) ++ ((Sh ++ toks S S[i] ev) ++ Z')) (((G :: Z') ++ D.map mkA) ++ (Sh ++ toks S S[i] ev)) := by
        show Ent (G :: (D.map mkA ++ ((Sh ++ toks S S[i] ev) ++ Z'))) (G :: ((Z' ++ D.map mkA) ++ (Sh ++ toks S S[i] ev)))
        refine Ent.cons ?_
        generalize (Sh ++ toks S S[i] ev) = W
        have : Ent (D.map mkA ++ (W ++ Z')) (D.map mkA ++ (Z' ++ W)) := Ent.app ent_app_comm
        refine this.trans ?_
        have h3 : ∀ {A B C : List HP}, Ent A B → Ent (A ++ C) (B ++ C) := by
          intro A B C hAB
          exact (ent_app_comm.trans (Ent.app hAB)).trans ent_app_comm
        have h4 : Ent ((D.map mkA ++ Z') ++ W) ((Z' ++ D.map mkA) ++ W) := h3 ent_app_comm
        rw [List.append_assoc] at h4
        exact h4
      refine e2.trans ?_
      have e3 : Ent (((G :: Z') ++ D.map mkA) ++ (Sh ++ toks S S[i] ev)) ((big (G :: Z') :: D.map mkA) ++ (Sh ++ toks S S[i] ev)) := by
        rw [List.append_assoc]
        exact big_ent (A := G :: Z') (L := D.map mkA ++ _)
      exact e3.trans (big_ent (A := big (G :: Z') :: D.map mkA))
    have hok' : Ok (big (G :: Z')) N (needT l S[i].need ev ++ T1) (Sh ++ toks S S[i] ev) a w :=
      ⟨inv.size, needT_get inv.base S[i].need (fun j hj o' d h1 h2 => hev j o' d h1 (hlisted j (subN_ok hneed j hj)) h2), D, hD, hst2⟩
    have hrun := hso (big (G :: Z')) a w hok'
    simp only [wpListIn, Region.wanted, hgn, if_true] at hrun
    unfold wpOpIn
    simp only [ho, Region.wanted, hgn, if_true]
    refine wpIn_mono2 ?_ ?_ ?_ (wpIn_tm hrun)
    · -- the next one
      rintro a' w' ⟨⟨T', L', ok2, hq⟩, v0, htm⟩
      simp only [postK] at hq
      rw [SK] at hq
      obtain ⟨v, hv, he⟩ := hq
      obtain ⟨D2, hD2, hst3⟩ := ok2.mem
      have htm2 : a'.tmps = (a.put o.dst v).tmps := by
        cases hd : o.dst with
        | none => rw [htm, hd]; rfl
        | some d =>
          rw [hd] at hv
          have hg := ok2.get d v hv
          rw [htm, hd] at hg ⊢
          have hdN' : d < a.tmps.size := by
            rw [inv.size]
            exact ltAll_ok hdN d (by simp only [dsts, List.mem_filterMap]; exact ⟨o, List.mem_of_getElem? ho', hd⟩)
          simp [Act.put, hdN'] at hg
          rw [hg]
      -- what the slots hold
      have hslot : ∀ j o' d, l[j]? = some o' → o'.dst = some d → j ≠ i → a'.tmps[d]? = a.tmps[d]? := by
        intro j o' d hj hd hne
        rw [htm2]
        cases hdd : o.dst with
        | none => rfl
        | some e =>
          have : e ≠ d := by
            intro h; subst h
            -- two operations with one slot
            have key : ∀ (l : List Oper), (dsts l).Nodup → ∀ (i j : Nat) (o o' : Oper) (d : Nat), l[i]? = some o → l[j]? = some o' → o.dst = some d → o'.dst = some d → i = j := by
              intro l
              induction l with
              | nil => intro _ i j o o' d h; simp at h
              | cons x l ihl =>
                intro hn i j o o' d h1 h2 h3 h4
                simp only [dsts, List.filterMap_cons] at hn
                cases i with
                | zero =>
                  cases j with
                  | zero => rfl
                  | succ j =>
                    simp at h1; subst h1
                    rw [h3] at hn
                    rw [List.nodup_cons] at hn
                    exact absurd (List.mem_filterMap.2 ⟨o', List.mem_of_getElem? (by simpa using h2), h4⟩) hn.1
                | succ i =>
                  cases j with
                  | zero =>
                    simp at h2; subst h2
                    rw [h4] at hn
                    rw [List.nodup_cons] at hn
                    exact absurd (List.mem_filterMap.2 ⟨o, List.mem_of_getElem? (by simpa using h1), h3⟩) hn.1
                  | succ j =>
                    have hn' : (dsts l).Nodup := by
                      cases hx : x.dst with
                      | none => rw [hx] at hn; exact hn
                      | some y => rw [hx] at hn; exact (List.nodup_cons.1 hn).2
                    exact congrArg (· + 1) (ihl hn' i j o o' d (by simpa using h1) (by simpa using h2) h3 h4)
            exact hne (key l hdstN j i o' o e hj ho' hd hdd)
          simp only [Act.put]
          rw [Array.getElem?_setIfInBounds_ne this]
      let ev' : Nat → Value := fun j => if j = i then v else ev j
      refine ih (listed.setIfInBounds i true) a' w' ?_ hQ ⟨ok2.size, fun k u hk => ?_, by simp [inv.lsize], D2, ev', Z'.set i (S[i].tok v), hD2, by simp [hZ'l, hZl], ?_, ?_, ?_, ?_⟩
      · have : i ∈ unl l.length listed := by
          simp only [unl, List.mem_filter, List.mem_range]
          exact ⟨hio, by simp [hli]⟩
        have := unl_set this
        omega
      · -- the base
        rw [htm2]
        cases hdd : o.dst with
        | none => exact inv.base k u hk
        | some e =>
          have hke : k ∈ keys T1 := by
            have : ∀ (T : TT) (k : Nat) (u : Value), T.get k = some u → k ∈ keys T := by
              intro T
              induction T with
              | nil => intro k u h; simp [TT.get] at h
              | cons p T ihT =>
                obtain ⟨x, y⟩ := p
                intro k u h
                rw [TT.get_cons] at h
                split at h
                · rename_i hx; subst hx; simp [keys]
                · simp [keys]; exact .inr (ihT k u h)
            exact this T1 k u hk
          have hne : e ≠ k := fun h => by
            subst h
            exact apartN_ok hap e hke (by simp only [dsts, List.mem_filterMap]; exact ⟨o, List.mem_of_getElem? ho', hdd⟩)
          simp only [Act.put]
          rw [Array.getElem?_setIfInBounds_ne hne]; exact inv.base k u hk
      · intro j o' d hj hlj hd
        by_cases hji : j = i
        · subst hji
          rw [ho'] at hj; cases hj
          rw [hd] at hv
          simp only [ev', if_true]
          exact ok2.get d v hv
        · rw [getD_set_ne false (fun h => hji h.symm)] at hlj
          rw [hslot j o' d hj hd hji]
          simp only [ev', hji, if_false]
          exact hev j o' d hj hlj hd
      · intro j hj hlj hfree
        by_cases hji : j = i
        · subst hji
          rw [List.getElem?_set_self (by rw [hZ'l, hZl]; exact hj)]
          simp only [ev', if_true, tokAt, hs']
        · rw [getD_set_ne false (fun h => hji h.symm)] at hlj
          rw [List.getElem?_set_ne (fun h => hji h.symm)]
          simp only [ev', hji, if_false]
          have hnot : j ∉ S[i].own := fun h => by
            have := hfree i S[i] hs' h
            have h9 : (listed.setIfInBounds i true).getD i false = true := by simp [inv.lsize, hio]
            rw [h9] at this; cases this
          rw [hZ'e j hnot hji]
          refine hZ j hj hlj fun k t hk hjt => ?_
          have := hfree k t hk hjt
          by_cases hki : k = i
          · subst hki; rw [hs'] at hk; cases hk; exact absurd hjt hnot
          · rwa [getD_set_ne false (fun h => hki h.symm)] at this
      · intro j t ht hlj
        have hji : j ≠ i := fun h => by
          subst h
          have h9 : (listed.setIfInBounds j true).getD j false = true := by simp [inv.lsize, hio]
          rw [h9] at hlj; cases hlj
        rw [getD_set_ne false (fun h => hji h.symm)] at hlj
        rw [List.getElem?_set_ne (fun h => hji h.symm)]
        have hnot : j ∉ S[i].own := fun h => by
          have := hlisted j (subN_ok hownA j h)
          rw [this] at hlj; cases hlj
        rw [hZ'e j hnot hji]
        exact hZi j t ht hlj
      · -- the memory
        have h5 : St w' (big (big (G :: Z') :: D2.map mkA) :: (S[i].tok v :: Sh)) := hst3.ent (Ent.cons he)
        refine h5.ent ?_
        refine (ent_big (A := big (G :: Z') :: D2.map mkA)).trans ?_
        have e1 : Ent (big (G :: Z') :: (D2.map mkA ++ (S[i].tok v :: Sh))) (G :: (Z' ++ (D2.map mkA ++ (S[i].tok v :: Sh)))) := ent_big (A := G :: Z')
        refine e1.trans ?_
        have e2 : Ent (Z' ++ (D2.map mkA ++ (S[i].tok v :: Sh))) (D2.map mkA ++ (Sh ++ Z'.set i (S[i].tok v))) := by
          have h6 : Ent (Z' ++ (D2.map mkA ++ (S[i].tok v :: Sh))) ((D2.map mkA ++ (S[i].tok v :: Sh)) ++ Z') := ent_app_comm
          refine h6.trans ?_
          rw [List.append_assoc]
          refine Ent.app ?_
          show Ent (S[i].tok v :: (Sh ++ Z')) _
          refine ent_of_swap.trans (Ent.app ?_)
          exact ent_unset (by rw [hZ'l, hZl]; exact hio)
        refine (Ent.cons e2).trans ?_
        exact big_ent (A := G :: D2.map mkA)
    · rintro c a' w' ⟨T', L', _, hq⟩; exact hq.elim
    · rintro ⟨a', w', T', L', _, hq⟩; exact hq.elim

theorem getD_rep (m j : Nat) : (Array.replicate m false).getD j false = false := by
  rw [Array.getD_eq_getD_getElem?, Array.getElem?_replicate]; split <;> rfl

def liveN (S : List OpS) : Nat → List Nat
  | 0 => []
  | n + 1 => if n ∈ owns S then liveN S n else n :: liveN S n

/-- **A region whose order is open: each operation for itself.** 'keep': whose values are told behind it. -/
theorem SK.regionDag {id : Nat} {l : List Oper} (S : List OpS) (T1 : TT) (keep : List Nat) (hm : P.follows .mixedOrders = true) (hT : Sub T T1) (hsh : Takes (Sh ++ S.map (·.init)) L L1) (hP : ∀ j ∈ sees S, ∀ v, Pers (tokAt S j v)) (hok : dagOk N l S T1 = true) (hE : Each P rd N l S T1 Sh l S)
    (k : ∀ ev : Nat → Value, SK P rd N ks (needT l keep ev ++ T1) (((liveN S l.length).map fun j => tokAt S j (ev j)) ++ (Sh ++ L1)) Q) : SK P rd N (.code (.region id l.toArray true) :: ks) T L Q := by
  rw [SK_code]
  intro G a w ok
  obtain ⟨D, hD, hst⟩ := ok.mem
  have ok1 := ok.sub hT
  refine wpIn_region_any hm ?_
  have hord : ordOk 0 l = true := by simp only [dagOk, Bool.and_eq_true] at hok; exact hok.1.1.1.1.1.1
  have hallL : l.length = S.length := by simp only [dagOk, Bool.and_eq_true] at hok; exact allOk_len hok.1.1.1.1.1.2
  refine dag_step (G := big (G :: L1)) hP hok hE _ _ _ _ ?_ ?_ ⟨ok1.size, ok1.get, by simp, D, (fun _ => undef), S.map (·.init), hD, by simp [hallL], fun j o d _ h => ?_, fun j _ h => ?_, fun j t ht _ => by simp [ht], ?_⟩
  · refine Nat.le_trans (List.length_filter_le _ _) (by simp)
  · -- behind the region
    rintro a' w' listed inv hr
    obtain ⟨D2, ev, Z, hD2, hZl, hev, hZ, _, hst2⟩ := inv.mem
    have hdone := dag_ready inv.lsize hord hr
    refine ⟨needT l keep ev ++ T1, _, ⟨inv.size, needT_get inv.base keep (fun j _ o d h1 h2 => hev j o d h1 (hdone j (by have := row_lt h1; exact this)) h2), D2, hD2, ?_⟩, k ev⟩
    have hlive : ∀ n, n ≤ l.length → ∃ Z', Z'.length = Z.length ∧ (∀ j, j < n → Z'[j]? = some emp ∨ j ∈ owns S) ∧ (∀ j, n ≤ j → Z'[j]? = Z[j]?) ∧ Ent Z (((liveN S n).map fun j => tokAt S j (ev j)) ++ Z') := by
      intro n
      induction n with
      | zero => intro _; exact ⟨Z, rfl, fun j h => by omega, fun _ _ => rfl, Ent.refl _⟩
      | succ n ihn =>
        intro hn
        obtain ⟨Z', h1, h2, h3, h4⟩ := ihn (by omega)
        simp only [liveN]
        split
        · rename_i hmem
          refine ⟨Z', h1, fun j hj => ?_, fun j hj => h3 j (by omega), h4⟩
          by_cases hjn : j = n
          · subst hjn; exact .inr hmem
          · exact h2 j (by omega)
        · rename_i hmem
          have hz : Z'[n]? = some (tokAt S n (ev n)) := by
            rw [h3 n (Nat.le_refl _)]
            exact hZ n (by omega) (hdone n (by omega)) fun k t hk hjt => absurd (mem_owns hk hjt) hmem
          refine ⟨Z'.set n emp, by simp [h1], fun j hj => ?_, fun j hj => ?_, ?_⟩
          · by_cases hjn : j = n
            · subst hjn; left; rw [List.getElem?_set_self (by rw [h1, hZl]; omega)]
            · rw [List.getElem?_set_ne (fun h => hjn h.symm)]; exact h2 j (by omega)
          · rw [List.getElem?_set_ne (by omega)]; exact h3 j (by omega)
          · refine h4.trans ?_
            have h5 := ent_set (A := emp) hz
            refine (Ent.app h5).trans ?_
            have : Ent (((liveN S n).map fun j => tokAt S j (ev j)) ++ (tokAt S n (ev n) :: Z'.set n emp)) (tokAt S n (ev n) :: (((liveN S n).map fun j => tokAt S j (ev j)) ++ Z'.set n emp)) := by
              generalize (liveN S n).map (fun j => tokAt S j (ev j)) = A
              induction A with
              | nil => exact Ent.refl _
              | cons a A ihA => exact (Ent.cons ihA).trans Ent.swap
            exact this
    obtain ⟨Z', _, _, _, h4⟩ := hlive l.length (Nat.le_refl _)
    refine hst2.ent ?_
    refine (ent_big (A := big (G :: L1) :: D2.map mkA)).trans ?_
    have e1 : Ent (big (G :: L1) :: (D2.map mkA ++ (Sh ++ Z))) (G :: (L1 ++ (D2.map mkA ++ (Sh ++ Z)))) := ent_big (A := G :: L1)
    refine e1.trans ?_
    have e2 : Ent (L1 ++ (D2.map mkA ++ (Sh ++ Z))) (D2.map mkA ++ (((liveN S l.length).map fun j => tokAt S j (ev j)) ++ (Sh ++ L1))) := by
      have h5 : Ent (L1 ++ (D2.map mkA ++ (Sh ++ Z))) ((D2.map mkA ++ (Sh ++ Z)) ++ L1) := ent_app_comm
      refine h5.trans ?_
      rw [List.append_assoc]
      refine Ent.app ?_
      have h6 : Ent ((Sh ++ Z) ++ L1) (Z ++ (Sh ++ L1)) := by
        have h7 : Ent ((Sh ++ Z) ++ L1) ((Z ++ Sh) ++ L1) := (ent_app_comm.trans (Ent.app ent_app_comm)).trans ent_app_comm
        rw [List.append_assoc Z Sh L1] at h7
        exact h7
      refine h6.trans ?_
      have h8 : Ent (Z ++ (Sh ++ L1)) ((((liveN S l.length).map fun j => tokAt S j (ev j)) ++ Z') ++ (Sh ++ L1)) := (ent_app_comm.trans (Ent.app h4)).trans ent_app_comm
      refine h8.trans ?_
      rw [List.append_assoc]
      refine Ent.app ?_
      have : ∀ (A B : List HP), Ent (A ++ B) B := by
        intro A B
        induction A with
        | nil => exact Ent.refl _
        | cons a A ihA => exact Ent.drop.trans ihA
      exact this Z' _
    refine (Ent.cons e2).trans ?_
    exact big_ent (A := G :: D2.map mkA)
  · rw [getD_rep] at h; cases h
  · rw [getD_rep] at h; cases h
  · have h1 : St { w with drawn := w.drawn + 1 } (big (G :: D.map mkA) :: L) := hst.drew _
    refine h1.ent ?_
    refine (Ent.cons hsh.ent).trans ?_
    refine (ent_big (A := G :: D.map mkA)).trans ?_
    have e1 : Ent (G :: (D.map mkA ++ ((Sh ++ S.map (·.init)) ++ L1))) (G :: (L1 ++ (D.map mkA ++ (Sh ++ S.map (·.init))))) := by
      refine Ent.cons ?_
      rw [← List.append_assoc]
      exact ent_app_comm
    refine e1.trans ?_
    refine (big_ent (A := G :: L1)).trans ?_
    exact big_ent (A := big (G :: L1) :: D.map mkA)
end
end Go.Sl
