/- A part of a proof: a walk over the model by a small separation logic. -/
import Derived.Test.YtbaalaaoggplmaaDoorSlMem
import Derived.Deep.Quiet
/-! A walk in statements on slots and memory alone: 'SK': what is still to be done, the slots that are known, the memory that is known. -/
set_option linter.unusedVariables false
namespace Go.Sl

abbrev TT := List (Nat × Value)
def TT.get : TT → Nat → Option Value
  | [], _ => none
  | (i, v) :: T, n => bif Nat.beq i n then some v else TT.get T n

theorem TT.get_cons (i : Nat) (v : Value) (T : TT) (n : Nat) : TT.get ((i, v) :: T) n = if i = n then some v else TT.get T n := by
  by_cases h : i = n
  · subst h; simp [TT.get]
  · have : Nat.beq i n = false := by cases hb : Nat.beq i n with
      | false => rfl
      | true => exact (h (Nat.eq_of_beq_eq_true hb)).elim
    simp [TT.get, this, h]

def mark (r : Nat) : Deferred := { target := .collected r, args := #[] }
def mkA (r : Nat) : HP := ob r (.deferred (some []))

structure Ok (F : HP) (N : Nat) (T : TT) (L : List HP) (a : Act) (w : World) : Prop where
  size : a.tmps.size = N
  get : ∀ i v, T.get i = some v → a.tmps[i]? = some v
  mem : ∃ D : List Nat, a.defers = D.map mark ∧ St w (big (F :: D.map mkA) :: L)

def evO (T : TT) : Operand → Option Value
  | .tmp t => T.get t
  | .const v => some v
  | .global g => some (.pointer (some ⟨g, 0, none⟩))
  | .func f => some (.func (.func f) #[] #[])

def evs (T : TT) : List Operand → Option (List Value)
  | [] => some []
  | x :: xs => match evO T x with
    | some v => match evs T xs with
      | some vs => some (v :: vs)
      | none => none
    | none => none

/-- A reading of operands that knows what T knows. -/
def Knows (T : TT) (ρ : Operand → Value) : Prop := ∀ x v, evO T x = some v → ρ x = v

theorem Ok.knows {F : HP} {N : Nat} {T : TT} {L : List HP} {a : Act} {w : World} (h : Ok F N T L a w) : Knows T a.eval := by
  intro x v e
  cases x with
  | tmp t => have := h.get t v e; simp [Act.eval, Array.getD_eq_getD_getElem?, this]
  | const u => simpa [evO, Act.eval] using e
  | global g => simpa [evO, Act.eval] using e
  | func f => simpa [evO, Act.eval] using e

theorem Knows.evs {T : TT} {ρ : Operand → Value} (h : Knows T ρ) : ∀ {xs : List Operand} {vs : List Value}, evs T xs = some vs → xs.map ρ = vs
  | [], vs, e => by simp [Sl.evs] at e; simp [e]
  | x :: xs, vs, e => by
    simp only [Sl.evs] at e
    cases hx : evO T x with
    | none => simp [hx] at e
    | some v =>
      cases hs : Sl.evs T xs with
      | none => simp [hx, hs] at e
      | some us =>
        simp [hx, hs] at e
        subst e
        simp [h _ _ hx, Knows.evs h hs]

theorem Ok.put {F : HP} {N : Nat} {T : TT} {L : List HP} {a : Act} {w : World} (h : Ok F N T L a w) {d : Nat} (hd : d < N) (v : Value) : Ok F N ((d, v) :: T) L (a.put (some d) v) w := by
  refine ⟨by simp [Act.put, h.size], fun i u e => ?_, h.mem⟩
  rw [TT.get_cons] at e
  simp only [Act.put]
  split at e
  · rename_i hi; subst hi; simp at e; subst e
    simp [h.size, hd]
  · rename_i hi
    rw [Array.getElem?_setIfInBounds_ne hi]; exact h.get i u e

theorem Ok.ent {F : HP} {N : Nat} {T : TT} {L L' : List HP} {a : Act} {w : World} (h : Ok F N T L a w) (e : Ent L L') : Ok F N T L' a w :=
  ⟨h.size, h.get, let ⟨D, h1, h2⟩ := h.mem; ⟨D, h1, h2.ent (Ent.cons e)⟩⟩

/-- T tells all that T' tells. -/
def Sub : TT → TT → Prop
  | _, [] => True
  | T, (i, v) :: T' => T.get i = some v ∧ Sub T T'
theorem Sub.get {T : TT} : ∀ {T' : TT}, Sub T T' → ∀ i v, T'.get i = some v → T.get i = some v
  | [], _, _, _, e => by simp [TT.get] at e
  | (j, u) :: T', h, i, v, e => by
    rw [TT.get_cons] at e
    split at e
    · rename_i hj; subst hj; cases e; exact h.1
    · exact Sub.get h.2 i v e
theorem Ok.sub {F : HP} {N : Nat} {T T' : TT} {L : List HP} {a : Act} {w : World} (h : Ok F N T L a w) (e : Sub T T') : Ok F N T' L a w :=
  ⟨h.size, fun i v g => h.get i v (e.get i v g), h.mem⟩

/-- What a walk must come to. -/
abbrev Post := Exit → TT → List HP → Prop
def lift (F : HP) (N : Nat) (Q : Post) : Exit → Act → World → Prop := fun e a w => ∃ T L, Ok F N T L a w ∧ Q e T L

abbrev FW (rd : Option Nat) : Fence := { Fence.wide with round := rd }

section
variable (P : Program) (rd : Option Nat) (N : Nat)

def SC (c : Code) (T : TT) (L : List HP) (Q : Post) : Prop := ∀ F a w, Ok F N T L a w → c.wpIn (FW rd) 0 P (lift F N Q) a w

/-- What is still to be done. -/
inductive K where
  | code (c : Code)
  | blk (id : Nat)
  | inv (I : TT → List HP → Prop)

def findK (id : Nat) : List K → Option (List K)
  | [] => none
  | .blk j :: ks => bif Nat.beq j id then some ks else findK id ks
  | _ :: ks => findK id ks

theorem findK_len {id : Nat} : ∀ {ks ks' : List K}, findK id ks = some ks' → ks'.length < ks.length
  | [], _, e => by simp [findK] at e
  | .blk j :: ks, ks', e => by
    simp only [findK] at e
    cases hb : Nat.beq j id with
    | true => simp [hb] at e; subst e; simp
    | false => simp [hb] at e; have := findK_len e; simp; omega
  | .code c :: ks, ks', e => by simp only [findK] at e; have := findK_len e; simp; omega
  | .inv I :: ks, ks', e => by simp only [findK] at e; have := findK_len e; simp; omega

def SK (ks : List K) (T : TT) (L : List HP) (Q : Post) : Prop :=
  match ks with
  | [] => Q .normal T L
  | .blk _ :: ks => SK ks T L Q
  | .inv I :: _ => I T L
  | .code c :: ks => SC P rd N c T L fun e T L =>
    match e with
    | .normal => SK ks T L Q
    | .exit id => match h : findK id ks with
      | some ks' => SK ks' T L Q
      | none => Q (.exit id) T L
    | e => Q e T L
  termination_by ks.length
  decreasing_by
  all_goals simp
  have := findK_len h; omega

/-- The exits of what is still to be done. -/
def postK (ks : List K) (Q : Post) : Post := fun e T L =>
    match e with
    | .normal => SK P rd N ks T L Q
    | .exit id => match findK id ks with
      | some ks' => SK P rd N ks' T L Q
      | none => Q (.exit id) T L
    | e => Q e T L

def SO (all : Array Oper) (ops : List Oper) (T : TT) (L : List HP) (ks : List K) (Q : Post) : Prop :=
  ∀ F a w, Ok F N T L a w → wpListIn (FW rd) 0 P all (lift F N (postK P rd N ks Q)) ops a w
end

section
variable {P : Program} {rd : Option Nat} {N : Nat} {T : TT} {L : List HP} {Q : Post} {ks : List K}

theorem SK_code {c : Code} : SK P rd N (.code c :: ks) T L Q ↔ SC P rd N c T L (postK P rd N ks Q) := by
  rw [SK]
  have : (fun (e : Exit) (T : TT) (L : List HP) =>
    match e with
    | .normal => SK P rd N ks T L Q
    | .exit id => match h : findK id ks with
      | some ks' => SK P rd N ks' T L Q
      | none => Q (.exit id) T L
    | e => Q e T L) = postK P rd N ks Q := by
    funext e T L
    cases e <;> simp only [postK]
    rename_i id
    split <;> simp_all
  rw [← this]

theorem lift_mono {Q Q' : Post} (h : ∀ e T L, Q e T L → Q' e T L) : ∀ F e a w, lift F N Q e a w → lift F N Q' e a w :=
  fun F e a w ⟨T, L, o, q⟩ => ⟨T, L, o, h _ _ _ q⟩

theorem SK.nil (h : Q .normal T L) : SK P rd N [] T L Q := by rw [SK]; exact h
theorem SK.blk {id : Nat} (h : SK P rd N ks T L Q) : SK P rd N (.blk id :: ks) T L Q := by rw [SK]; exact h
theorem SK.inv {I : TT → List HP → Prop} (h : I T L) : SK P rd N (.inv I :: ks) T L Q := by rw [SK]; exact h
theorem SK.skip (h : SK P rd N ks T L Q) : SK P rd N (.code .skip :: ks) T L Q :=
  SK_code.2 fun F a w ok => wpIn_skip ⟨T, L, ok, h⟩
theorem SK.ret (h : Q .ret T L) : SK P rd N (.code .ret :: ks) T L Q :=
  SK_code.2 fun F a w ok => wpIn_ret ⟨T, L, ok, h⟩
theorem SK.exit {id : Nat} {ks' : List K} (hf : findK id ks = some ks') (h : SK P rd N ks' T L Q) : SK P rd N (.code (.exit id) :: ks) T L Q :=
  SK_code.2 fun F a w ok => wpIn_exit ⟨T, L, ok, by simp only [postK, hf]; exact h⟩
theorem SK.exitOut {id : Nat} (hf : findK id ks = none) (h : Q (.exit id) T L) : SK P rd N (.code (.exit id) :: ks) T L Q :=
  SK_code.2 fun F a w ok => wpIn_exit ⟨T, L, ok, by simp only [postK, hf]; exact h⟩

theorem SK.seq {x y : Code} (h : SK P rd N (.code x :: .code y :: ks) T L Q) : SK P rd N (.code (.seq x y) :: ks) T L Q := by
  rw [SK_code] at h ⊢
  intro F a w ok
  refine wpIn_seq (wpIn_mono (h F a w ok) ?_)
  rintro e a w ⟨T, L, ok, hq⟩
  cases e with
  | normal => exact (SK_code.1 hq) F a w ok
  | exit id => exact ⟨T, L, ok, hq⟩
  | goto l => exact ⟨T, L, ok, hq⟩
  | ret => exact ⟨T, L, ok, hq⟩
  | panic c => exact ⟨T, L, ok, hq⟩
  | outgrown => exact ⟨T, L, ok, hq⟩

theorem SK.block {id : Nat} {c : Code} (h : SK P rd N (.code c :: .blk id :: ks) T L Q) : SK P rd N (.code (.block id c) :: ks) T L Q := by
  rw [SK_code] at h ⊢
  intro F a w ok
  refine wpIn_block (wpIn_mono (h F a w ok) ?_)
  rintro e a w ⟨T, L, ok, hq⟩
  cases e with
  | normal => simp only [postK] at hq; rw [SK] at hq; exact ⟨T, L, ok, hq⟩
  | exit j =>
    simp only [Exit.inBlock]
    simp only [postK, findK] at hq
    by_cases hj : j = id
    · subst hj
      have : Nat.beq j j = true := by simp
      simp only [this, cond_true] at hq
      simp only [if_true]; exact ⟨T, L, ok, hq⟩
    · have : Nat.beq id j = false := by cases hb : Nat.beq id j with
        | false => rfl
        | true => exact (hj (Nat.eq_of_beq_eq_true hb).symm).elim
      simp only [this, cond_false] at hq
      simp only [hj, if_false]; exact ⟨T, L, ok, hq⟩
  | goto l => exact ⟨T, L, ok, hq⟩
  | ret => exact ⟨T, L, ok, hq⟩
  | panic c => exact ⟨T, L, ok, hq⟩
  | outgrown => exact ⟨T, L, ok, hq⟩

theorem Ok.know {F : HP} {a : Act} {w : World} (ok : Ok F N T L a w) {t : Nat} {v : Value} (h : T.get t = some v) : Ok F N ((t, v) :: T) L a w :=
  ⟨ok.size, fun i u e => by
    rw [TT.get_cons] at e
    split at e
    · rename_i hi; subst hi; cases e; exact ok.get _ _ h
    · exact ok.get i u e, ok.mem⟩

theorem SK.cond {t : Nat} {x y : Code} {β : Bool} (hc : T.get t = some (.bool β)) (ht : β = true → SK P rd N (.code x :: ks) ((t, .bool true) :: T) L Q)
    (hf : β = false → SK P rd N (.code y :: ks) ((t, .bool false) :: T) L Q) : SK P rd N (.code (.cond (.tmp t) x y) :: ks) T L Q := by
  rw [SK_code]
  intro F a w ok
  refine wpIn_cond_split (t := β) (ok.knows _ _ hc) (fun h => ?_) (fun h => ?_)
  · exact SK_code.1 (ht h) F a w (ok.know (h ▸ hc))
  · exact SK_code.1 (hf h) F a w (ok.know (h ▸ hc))
theorem SK.condT {c : Operand} {x y : Code} (hc : evO T c = some (.bool true)) (h : SK P rd N (.code x :: ks) T L Q) : SK P rd N (.code (.cond c x y) :: ks) T L Q := by
  rw [SK_code] at h ⊢
  exact fun F a w ok => wpIn_cond_true (ok.knows _ _ hc) (h F a w ok)
theorem SK.condF {c : Operand} {x y : Code} (hc : evO T c = some (.bool false)) (h : SK P rd N (.code y :: ks) T L Q) : SK P rd N (.code (.cond c x y) :: ks) T L Q := by
  rw [SK_code] at h ⊢
  exact fun F a w ok => wpIn_cond_false (ok.knows _ _ hc) (h F a w ok)

theorem SK.weaken {T' : TT} {L' : List HP} (hT : Sub T T') (hL : Ent L L') {c : Code} (h : SK P rd N (.code c :: ks) T' L' Q) : SK P rd N (.code c :: ks) T L Q := by
  rw [SK_code] at h ⊢
  exact fun F a w ok => h F a w ((ok.sub hT).ent hL)

theorem SK.loop {c : Code} {X : Type} (TX : X → TT) (LX : X → List HP) (μ : X → Nat) (x0 : X) (hT : Sub T (TX x0)) (hL : Ent L (LX x0))
    (h : ∀ x, SK P rd N (.code c :: .inv (fun T' L' => ∃ x', μ x' < μ x ∧ Sub T' (TX x') ∧ Ent L' (LX x')) :: ks) (TX x) (LX x) Q) :
    SK P rd N (.code (.loop c) :: ks) T L Q := by
  rw [SK_code]
  intro F a w ok
  let I : Act → World → Prop := fun a w => ∃ x, Ok F N (TX x) (LX x) a w
  let m : Act → World → Nat → Prop := fun a w n => ∃ x, Ok F N (TX x) (LX x) a w ∧ μ x = n
  -- the least measure of what fits
  have dec : ∀ a w, I a w → ∃ n, m a w n ∧ ∀ k, m a w k → n ≤ k := by
    intro a w ⟨x, hx⟩
    have : ∀ n, m a w n → ∃ n, m a w n ∧ ∀ k, m a w k → n ≤ k := by
      intro n
      induction n using Nat.strongRecOn with
      | _ n ih =>
        intro hn
        by_cases hk : ∃ k, k < n ∧ m a w k
        · obtain ⟨k, hk, hm⟩ := hk; exact ih k hk hm
        · exact ⟨n, hn, fun k hm => Nat.le_of_not_lt fun hlt => hk ⟨k, hlt, hm⟩⟩
    exact this (μ x) ⟨x, hx, rfl⟩
  refine wpIn_loop I (fun a w => open Classical in if h : I a w then (dec a w h).choose else 0) ⟨x0, (ok.sub hT).ent hL⟩ ?_
  intro a w hI
  obtain ⟨⟨x, hx, hn⟩, hmin⟩ := (dec a w hI).choose_spec
  refine wpIn_mono (SK_code.1 (h x) F a w hx) ?_
  rintro e a' w' ⟨T', L', ok', hq⟩
  cases e with
  | normal =>
    simp only [postK] at hq
    rw [SK] at hq
    obtain ⟨x', hlt, hT', hL'⟩ := hq
    have hx' : Ok F N (TX x') (LX x') a' w' := (ok'.sub hT').ent hL'
    refine ⟨⟨x', hx'⟩, ?_⟩
    simp only [dif_pos (show I a' w' from ⟨x', hx'⟩), dif_pos hI]
    have h2 := (dec a' w' ⟨x', hx'⟩).choose_spec.2 (μ x') ⟨x', hx', rfl⟩
    omega
  | exit id => exact ⟨T', L', ok', hq⟩
  | goto l => exact ⟨T', L', ok', hq⟩
  | ret => exact ⟨T', L', ok', hq⟩
  | panic c => exact ⟨T', L', ok', hq⟩
  | outgrown => exact ⟨T', L', ok', hq⟩

/-! ### Operations -/
theorem SK.region {id : Nat} {l : List Oper} (h : SO P rd N l.toArray l T L ks Q) : SK P rd N (.code (.region id l.toArray false) :: ks) T L Q :=
  SK_code.2 fun F a w ok => wpIn_region_lit (h F a w ok)
variable {all : Array Oper} {rest : List Oper} {o : Oper}
theorem SO.nil (h : SK P rd N ks T L Q) : SO P rd N all [] T L ks Q := fun F a w ok => wpListIn_nil ⟨T, L, ok, h⟩

def notDefer : Op → Bool
  | .defer _ => false
  | _ => true
theorem notDefer_spec {op : Op} (h : notDefer op = true) : ∀ c, op ≠ .defer c := fun c e => by subst e; simp [notDefer] at h

def putD (d : Option Tmp) (v : Value) (T : TT) : TT := match d with
  | some d => (d, v) :: T
  | none => T
def dstOk (N : Nat) : Option Tmp → Bool
  | some d => Nat.blt d N
  | none => true

theorem Ok.putD {F : HP} {a : Act} {w : World} (ok : Ok F N T L a w) {d : Option Tmp} (hd : dstOk N d = true) (v : Value) : Ok F N (Sl.putD d v T) L (a.put d v) w := by
  cases d with
  | none => exact ok
  | some d => exact ok.put (by simpa [dstOk, Nat.blt_eq] using hd) v

/-- What an operation does, whatever else there is (F): a value (or nothing), and the memory behind it. -/
def Runs (P : Program) (T : TT) (L : List HP) (o : Oper) (R : Value → List HP → Prop) : Prop :=
  ∀ ρ, Knows T ρ → ∀ F w, St w (F :: L) → ∃ v w' L', ((execOp ρ o).run P w = .ok (.value v) w' ∨ ((execOp ρ o).run P w = .ok .skip w' ∧ v = undef)) ∧ R v L' ∧ St w' (F :: L')

theorem SO.run {R : Value → List HP → Prop} (hg : o.guard = none) (hn : notDefer o.op = true) (hd : dstOk N o.dst = true) (hr : Runs P T L o R)
    (h : ∀ v L', R v L' → SO P rd N all rest (putD o.dst v T) L' ks Q) : SO P rd N all (o :: rest) T L ks Q := by
  intro F a w ok
  refine wpListIn_plain hg fun next hnext => ⟨fun _ _ => trivial, ?_⟩
  obtain ⟨D, hD, hm⟩ := ok.mem
  obtain ⟨v, w', L', hrun, hR, hst⟩ := hr a.eval ok.knows _ w hm
  rw [Oper.semAt_eq _ _ _ (notDefer_spec hn)]
  have ok' : Ok F N (putD o.dst v T) L' (a.put o.dst v) w' := by
    have := ok.putD hd v
    refine ⟨this.size, this.get, D, ?_, hst⟩
    rw [← hD]; cases o.dst <;> rfl
  rcases hrun with hrun | ⟨hrun, rfl⟩
  · rw [hrun]; exact hnext _ _ (h v L' hR F _ _ ok')
  · rw [hrun]; exact hnext _ _ (h _ L' hR F _ _ ok')

/-- An operation under a guard. -/
theorem SO.guard {j : Nat} {want : Bool} {t : Nat} {β : Bool} {dst : Option Tmp} {op : Op} {ty : TypeId} {pos : String} {aft : Array Edge}
    (hj : (all[j]?).bind (·.dst) = some t) (ht : T.get t = some (.bool β)) (hd : dstOk N dst = true)
    (yes : β = want → SO P rd N all (⟨dst, op, ty, pos, aft, none⟩ :: rest) ((t, .bool want) :: T) L ks Q)
    (no : β = !want → SO P rd N all rest (putD dst undef ((t, .bool (!want)) :: T)) L ks Q) : SO P rd N all (⟨dst, op, ty, pos, aft, some (j, want)⟩ :: rest) T L ks Q := by
  intro F a w ok
  have hy : yielded all a.tmps j = some β := by
    simp only [yielded, hj, Option.bind_some, ok.get _ _ ht]
  by_cases hb : β = want
  · have hw : Region.wanted (⟨dst, op, ty, pos, aft, some (j, want)⟩ : Oper) (yielded all a.tmps) = true := by simp [Region.wanted, hy, hb]
    have h2 := yes hb F a w (ok.know (hb ▸ ht))
    simp only [wpListIn, hw, if_true]
    simp only [wpListIn, Region.wanted, if_true] at h2
    exact h2
  · have hw : Region.wanted (⟨dst, op, ty, pos, aft, some (j, want)⟩ : Oper) (yielded all a.tmps) = false := by simp [Region.wanted, hy, hb]
    have hb' : β = !want := by cases β <;> cases want <;> simp_all
    simp only [wpListIn, hw]
    exact ⟨fun _ _ => trivial, no hb' F _ _ ((ok.know (hb' ▸ ht)).putD hd undef)⟩
theorem SO.guardY {j : Nat} {want : Bool} {t : Nat} {dst : Option Tmp} {op : Op} {ty : TypeId} {pos : String} {aft : Array Edge}
    (hj : (all[j]?).bind (·.dst) = some t) (ht : T.get t = some (.bool want))
    (yes : SO P rd N all (⟨dst, op, ty, pos, aft, none⟩ :: rest) T L ks Q) : SO P rd N all (⟨dst, op, ty, pos, aft, some (j, want)⟩ :: rest) T L ks Q := by
  intro F a w ok
  have hy : yielded all a.tmps j = some want := by
    simp only [yielded, hj, Option.bind_some, ok.get _ _ ht]
  have hw : Region.wanted (⟨dst, op, ty, pos, aft, some (j, want)⟩ : Oper) (yielded all a.tmps) = true := by simp [Region.wanted, hy]
  have h2 := yes F a w ok
  simp only [wpListIn, hw, if_true]
  simp only [wpListIn, Region.wanted, if_true] at h2
  exact h2
theorem SO.guardN {j : Nat} {want : Bool} {t : Nat} {dst : Option Tmp} {op : Op} {ty : TypeId} {pos : String} {aft : Array Edge}
    (hj : (all[j]?).bind (·.dst) = some t) (ht : T.get t = some (.bool (!want))) (hd : dstOk N dst = true)
    (no : SO P rd N all rest (putD dst undef T) L ks Q) : SO P rd N all (⟨dst, op, ty, pos, aft, some (j, want)⟩ :: rest) T L ks Q := by
  intro F a w ok
  have hy : yielded all a.tmps j = some (!want) := by
    simp only [yielded, hj, Option.bind_some, ok.get _ _ ht]
  have hw : Region.wanted (⟨dst, op, ty, pos, aft, some (j, want)⟩ : Oper) (yielded all a.tmps) = false := by simp [Region.wanted, hy]
  simp only [wpListIn, hw]
  exact ⟨fun _ _ => trivial, no F _ _ (ok.putD hd undef)⟩
theorem SK.know {c : Code} {p : Prop} (h : ∀ r o, seps L r o → p) (k : p → SK P rd N (.code c :: ks) T L Q) : SK P rd N (.code c :: ks) T L Q := by
  rw [SK_code]
  intro F a w ok
  obtain ⟨D, hD, r, o, s, x, y, d, le, _, hL⟩ := ok.mem
  exact SK_code.1 (k (h r y hL)) F a w ok

theorem SO.guardYP {j : Nat} {want : Bool} {t : Nat} {β : Bool} {dst : Option Tmp} {op : Op} {ty : TypeId} {pos : String} {aft : Array Edge}
    (hj : (all[j]?).bind (·.dst) = some t) (ht : T.get t = some (.bool β)) (hb : β = want)
    (yes : SO P rd N all (⟨dst, op, ty, pos, aft, none⟩ :: rest) ((t, .bool want) :: T) L ks Q) : SO P rd N all (⟨dst, op, ty, pos, aft, some (j, want)⟩ :: rest) T L ks Q := by
  subst hb
  exact fun F a w ok => (SO.guardY (T := (t, .bool β) :: T) hj (by rw [TT.get_cons, if_pos rfl]) yes) F a w (ok.know ht)
theorem SO.guardNP {j : Nat} {want : Bool} {t : Nat} {β : Bool} {dst : Option Tmp} {op : Op} {ty : TypeId} {pos : String} {aft : Array Edge}
    (hj : (all[j]?).bind (·.dst) = some t) (ht : T.get t = some (.bool β)) (hd : dstOk N dst = true) (hb : β = !want)
    (no : SO P rd N all rest (putD dst undef ((t, .bool (!want)) :: T)) L ks Q) : SO P rd N all (⟨dst, op, ty, pos, aft, some (j, want)⟩ :: rest) T L ks Q := by
  subst hb
  exact fun F a w ok => (SO.guardN (T := (t, .bool (!want)) :: T) hj (by rw [TT.get_cons, if_pos rfl]) hd no) F a w (ok.know ht)
theorem SK.condTP {t : Nat} {x y : Code} {β : Bool} (hc : T.get t = some (.bool β)) (hb : β = true) (h : SK P rd N (.code x :: ks) ((t, .bool true) :: T) L Q) : SK P rd N (.code (.cond (.tmp t) x y) :: ks) T L Q :=
  SK.cond hc (fun _ => h) (fun e => by rw [hb] at e; cases e)
theorem SK.condFP {t : Nat} {x y : Code} {β : Bool} (hc : T.get t = some (.bool β)) (hb : β = false) (h : SK P rd N (.code y :: ks) ((t, .bool false) :: T) L Q) : SK P rd N (.code (.cond (.tmp t) x y) :: ks) T L Q :=
  SK.cond hc (fun e => by rw [hb] at e; cases e) (fun _ => h)
/-- An operation that only reads: its value hangs on what is known alone; the world stays. -/
def Reads (P : Program) (T : TT) (L : List HP) (o : Oper) (R : Value → List HP → Prop) : Prop :=
  ∀ ρ, Knows T ρ → ∀ r oo F, seps (F :: L) r oo → ∃ v L', R v L' ∧ seps (F :: L') r oo ∧ ∀ w, Sat w r oo → (execOp ρ o).run P w = .ok (.value v) w

theorem Runs.of_reads {R : Value → List HP → Prop} (h : Reads P T L o R) : Runs P T L o R := by
  intro ρ hρ F w ⟨r, oo, s, hs⟩
  obtain ⟨v, L', hR, hs', hrun⟩ := h ρ hρ r oo F hs
  exact ⟨v, w, L', .inl (hrun w s), hR, r, oo, s, hs'⟩

theorem SO.reads {R : Value → List HP → Prop} (hr : Reads P T L o R) (hg : o.guard = none) (hn : notDefer o.op = true) (hd : dstOk N o.dst = true)
    (h : ∀ v L', R v L' → SO P rd N all rest (putD o.dst v T) L' ks Q) : SO P rd N all (o :: rest) T L ks Q := SO.run hg hn hd (Runs.of_reads hr) h

/-- Do the slots hold what T tells? -/
def Agr (N : Nat) (T : TT) (a : Act) : Prop := a.tmps.size = N ∧ ∀ i v, T.get i = some v → a.tmps[i]? = some v

theorem Agr.knows {a : Act} (h : Agr N T a) : Knows T a.eval := by
  intro x v e
  cases x with
  | tmp t => have := h.2 t v e; simp [Act.eval, Array.getD_eq_getD_getElem?, this]
  | const u => simpa [evO, Act.eval] using e
  | global g => simpa [evO, Act.eval] using e
  | func f => simpa [evO, Act.eval] using e
theorem Agr.putD {a : Act} (h : Agr N T a) {d : Option Tmp} (hd : dstOk N d = true) (v : Value) : Agr N (Sl.putD d v T) (a.put d v) := by
  have ok : Ok (big []) N T [] ⟨a.tmps, []⟩ default := ⟨h.1, h.2, [], rfl, ⟨(fun _ _ => none), default⟩, (fun _ _ => none), ⟨fun _ _ _ e => by simp at e, fun _ _ _ e => by simp at e, fun _ _ _ e => by simp at e, fun _ _ _ _ e => by simp at e, Go.RowKit.Below.refl _ _, fun _ _ _ e => by simp at e⟩, fun _ _ => none, fun _ _ => none, fun _ _ => .inl rfl, fun _ _ _ e => by simp [Own.add] at e, ⟨fun _ _ => none, fun _ _ => none, fun _ _ => .inl rfl, fun _ _ _ e => by simp [Own.add] at e, trivial, trivial⟩, trivial⟩
  have := ok.putD hd v
  cases d with
  | none => exact h
  | some d => exact ⟨this.size, this.get⟩

/-- A region whose operations only read: one walk in the order of the text serves every order. -/
def SQ (P : Program) (N : Nat) (all : Array Oper) (ops : List Oper) (T : TT) (L : List HP) (R : TT → List HP → Prop) : Prop :=
  ∀ r oo F a, seps (F :: L) r oo → Agr N T a → wpQuiet P all (fun w => Sat w r oo) (fun a' => a'.defers = a.defers ∧ ∃ T' L', Agr N T' a' ∧ seps (F :: L') r oo ∧ R T' L') ops a

variable {RR : TT → List HP → Prop}
theorem SQ.nil (h : RR T L) : SQ P N all [] T L RR := fun r oo F a hs ha => ⟨rfl, T, L, ha, hs, h⟩
theorem wpQuiet_mono {C : World → Prop} {Q Q' : Act → Prop} (h : ∀ a, Q a → Q' a) : ∀ (ops : List Oper) (a : Act), wpQuiet P all C Q ops a → wpQuiet P all C Q' ops a
  | [], a, hq => h a hq
  | o :: ops, a, hq => by
    simp only [wpQuiet] at hq ⊢
    split
    · rename_i hw; rw [if_pos hw] at hq; exact Oper.quiet_mono (wpQuiet_mono h ops) hq
    · rename_i hw; rw [if_neg hw] at hq; exact wpQuiet_mono h ops _ hq
theorem put_defers_eq {a : Act} {d : Option Tmp} {v : Value} : (a.put d v).defers = a.defers := by cases d <;> rfl
theorem SQ.reads {R : Value → List HP → Prop} (hr : Reads P T L o R) (hg : o.guard = none) (hd : dstOk N o.dst = true)
    (h : ∀ v L', R v L' → SQ P N all rest (Sl.putD o.dst v T) L' RR) : SQ P N all (o :: rest) T L RR := by
  intro r oo F a hs ha
  obtain ⟨v, L', hR, hs', hrun⟩ := hr a.eval ha.knows r oo F hs
  simp only [wpQuiet, Region.wanted, hg, if_true]
  refine ⟨v, fun w hw => ?_, wpQuiet_mono ?_ rest _ (h v L' hR r oo F _ hs' (ha.putD hd v))⟩
  · unfold Oper.quietAt; rw [hrun w hw]; exact ⟨rfl, rfl⟩
  · rintro a' ⟨h1, h2⟩; exact ⟨by rw [h1, put_defers_eq], h2⟩
theorem Agr.know {a : Act} (ha : Agr N T a) {t : Nat} {v : Value} (h : T.get t = some v) : Agr N ((t, v) :: T) a :=
  ⟨ha.1, fun i u e => by
    rw [TT.get_cons] at e
    split at e
    · rename_i hi; subst hi; cases e; exact ha.2 _ _ h
    · exact ha.2 i u e⟩
theorem SQ.guard {j : Nat} {want : Bool} {t : Nat} {β : Bool} {dst : Option Tmp} {op : Op} {ty : TypeId} {pos : String} {aft : Array Edge}
    (hj : (all[j]?).bind (·.dst) = some t) (ht : T.get t = some (.bool β)) (hd : dstOk N dst = true)
    (yes : β = want → SQ P N all (⟨dst, op, ty, pos, aft, none⟩ :: rest) ((t, .bool want) :: T) L RR)
    (no : β = !want → SQ P N all rest (Sl.putD dst undef ((t, .bool (!want)) :: T)) L RR) : SQ P N all (⟨dst, op, ty, pos, aft, some (j, want)⟩ :: rest) T L RR := by
  intro r oo F a hs ha
  have hy : yielded all a.tmps j = some β := by
    simp only [yielded, hj, Option.bind_some, ha.2 _ _ ht]
  by_cases hb : β = want
  · have hw : Region.wanted (⟨dst, op, ty, pos, aft, some (j, want)⟩ : Oper) (yielded all a.tmps) = true := by simp [Region.wanted, hy, hb]
    have h2 := yes hb r oo F a hs (ha.know (hb ▸ ht))
    simp only [wpQuiet, hw, if_true]
    simp only [wpQuiet, Region.wanted, if_true] at h2
    exact h2
  · have hw : Region.wanted (⟨dst, op, ty, pos, aft, some (j, want)⟩ : Oper) (yielded all a.tmps) = false := by simp [Region.wanted, hy, hb]
    have hb' : β = !want := by cases β <;> cases want <;> simp_all
    simp only [wpQuiet, hw]
    have := no hb' r oo F _ hs ((ha.know (hb' ▸ ht)).putD hd undef)
    exact wpQuiet_mono (fun a' ⟨h1, h2⟩ => ⟨by rw [h1, put_defers_eq], h2⟩) rest _ this
theorem SQ.guardY {j : Nat} {want : Bool} {t : Nat} {dst : Option Tmp} {op : Op} {ty : TypeId} {pos : String} {aft : Array Edge}
    (hj : (all[j]?).bind (·.dst) = some t) (ht : T.get t = some (.bool want))
    (yes : SQ P N all (⟨dst, op, ty, pos, aft, none⟩ :: rest) T L RR) : SQ P N all (⟨dst, op, ty, pos, aft, some (j, want)⟩ :: rest) T L RR := by
  intro r oo F a hs ha
  have hy : yielded all a.tmps j = some want := by
    simp only [yielded, hj, Option.bind_some, ha.2 _ _ ht]
  have hw : Region.wanted (⟨dst, op, ty, pos, aft, some (j, want)⟩ : Oper) (yielded all a.tmps) = true := by simp [Region.wanted, hy]
  have h2 := yes r oo F a hs ha
  simp only [wpQuiet, hw, if_true]
  simp only [wpQuiet, Region.wanted, if_true] at h2
  exact h2
theorem SQ.guardN {j : Nat} {want : Bool} {t : Nat} {dst : Option Tmp} {op : Op} {ty : TypeId} {pos : String} {aft : Array Edge}
    (hj : (all[j]?).bind (·.dst) = some t) (ht : T.get t = some (.bool (!want))) (hd : dstOk N dst = true)
    (no : SQ P N all rest (Sl.putD dst undef T) L RR) : SQ P N all (⟨dst, op, ty, pos, aft, some (j, want)⟩ :: rest) T L RR := by
  intro r oo F a hs ha
  have hy : yielded all a.tmps j = some (!want) := by
    simp only [yielded, hj, Option.bind_some, ha.2 _ _ ht]
  have hw : Region.wanted (⟨dst, op, ty, pos, aft, some (j, want)⟩ : Oper) (yielded all a.tmps) = false := by simp [Region.wanted, hy]
  simp only [wpQuiet, hw]
  exact wpQuiet_mono (fun a' ⟨h1, h2⟩ => ⟨by rw [h1, put_defers_eq], h2⟩) rest _ (no r oo F _ hs (ha.putD hd undef))

theorem SQ.guardYP {j : Nat} {want : Bool} {t : Nat} {β : Bool} {dst : Option Tmp} {op : Op} {ty : TypeId} {pos : String} {aft : Array Edge}
    (hj : (all[j]?).bind (·.dst) = some t) (ht : T.get t = some (.bool β)) (hb : β = want)
    (yes : SQ P N all (⟨dst, op, ty, pos, aft, none⟩ :: rest) ((t, .bool want) :: T) L RR) : SQ P N all (⟨dst, op, ty, pos, aft, some (j, want)⟩ :: rest) T L RR := by
  subst hb
  exact fun r oo F a hs ha => (SQ.guardY (T := (t, .bool β) :: T) hj (by rw [TT.get_cons, if_pos rfl]) yes) r oo F a hs (ha.know ht)
theorem SQ.guardNP {j : Nat} {want : Bool} {t : Nat} {β : Bool} {dst : Option Tmp} {op : Op} {ty : TypeId} {pos : String} {aft : Array Edge}
    (hj : (all[j]?).bind (·.dst) = some t) (ht : T.get t = some (.bool β)) (hd : dstOk N dst = true) (hb : β = !want)
    (no : SQ P N all rest (Sl.putD dst undef ((t, .bool (!want)) :: T)) L RR) : SQ P N all (⟨dst, op, ty, pos, aft, some (j, want)⟩ :: rest) T L RR := by
  subst hb
  exact fun r oo F a hs ha => (SQ.guardN (T := (t, .bool (!want)) :: T) hj (by rw [TT.get_cons, if_pos rfl]) hd no) r oo F a hs (ha.know ht)
def noDefer (l : List Oper) : Bool := l.all fun o => notDefer o.op

theorem wpAnyIn_of_quiet {C : World → Prop} {QQ : Act → Prop} {Q' : Exit → Act → World → Prop} {ops : Array Oper} {md : Region.Mode} (hnd : ∀ (i : Nat) (o : Oper), ops[i]? = some o → notDefer o.op = true) (hQ : ∀ a w, C w → QQ a → Q' .normal a w) : ∀ (fuel : Nat) (listed : Array Bool) (a : Act) (w : World), C w →
    wpAnyQ P md ops C QQ fuel listed a → wpAnyIn (FW rd) 0 P md ops Q' fuel listed a w
  | 0, _, _, _, hw, h => ⟨h.1, hQ _ _ hw h.2⟩
  | fuel + 1, _, _, _, hw, h => by
    refine ⟨fun h0 => hQ _ _ hw (h.1 h0), fun i hi => ?_⟩
    have hq := h.2 i hi
    unfold qOp at hq
    unfold wpOpIn
    split
    · rename_i ho; simp only [ho] at hq; exact wpAnyIn_of_quiet hnd hQ fuel _ _ _ hw hq
    · rename_i o ho
      simp only [ho] at hq
      split
      · rename_i hwant
        simp only [hwant, if_true] at hq
        obtain ⟨v, h1, h2⟩ := hq
        have h3 := h1 _ hw
        unfold Oper.quietAt at h3
        refine ⟨fun _ _ => trivial, ?_⟩
        rw [Oper.semAt_eq _ _ _ (notDefer_spec (hnd i o ho))]
        revert h3
        generalize (execOp _ o).run P _ = res
        intro h3
        cases res with
        | ok n w' =>
          cases n <;> simp only [Oper.quietUpon] at h3 <;> simp only [Oper.uponIn]
          case value u =>
            obtain ⟨e1, e2⟩ := h3
            rw [e1, e2]
            exact wpAnyIn_of_quiet hnd hQ fuel _ _ _ hw h2
          case skip =>
            obtain ⟨e1, e2⟩ := h3
            rw [e1, ← e2]
            exact wpAnyIn_of_quiet hnd hQ fuel _ _ _ hw h2
          case enter f args =>
            obtain ⟨e1, hc⟩ := h3
            rw [e1]
            refine ⟨fun h => by simp [Fence.wide] at h, ?_⟩
            have hc2 : CallsIn Fence.wide 0 P f args _ _ := callsIn_wide.2 hc
            refine ⟨trivial, fun cs hroom => ?_⟩
            obtain ⟨e, w'', fr, ⟨he, hw''⟩, rest⟩ := hc2.2 cs hroom
            subst he
            exact ⟨.returned v, w'', fr, wpAnyIn_of_quiet hnd hQ fuel _ _ _ hw'' h2, rest⟩
        | halt x w' => simp only [Oper.quietUpon] at h3
      · rename_i hwant
        simp only [hwant] at hq
        exact ⟨fun _ _ => trivial, wpAnyIn_of_quiet hnd hQ fuel _ _ _ hw hq⟩

theorem SK.regionQ {id : Nat} {l : List Oper} (hm : P.follows .mixedOrders = true) (hB : Region.lexB .any l.toArray = true) (hnd : noDefer l = true) (h : SQ P N l.toArray l T L (fun T' L' => SK P rd N ks T' L' Q)) :
    SK P rd N (.code (.region id l.toArray true) :: ks) T L Q := by
  rw [SK_code]
  intro G a w ok
  obtain ⟨D, hD, r, oo, s, hs⟩ := ok.mem
  have hnd' : ∀ (i : Nat) (o : Oper), l.toArray[i]? = some o → notDefer o.op = true := fun i o ho => by
    have := List.all_eq_true.1 hnd o (by simpa using Array.mem_of_getElem? ho)
    exact this
  have h0 := h r oo _ a hs ⟨ok.size, ok.get⟩
  simp only [Region.lexB, Bool.and_eq_true] at hB
  refine wpIn_region_any hm (wpAnyIn_of_quiet (rd := rd) (C := fun w => Sat w r oo) (QQ := fun a' => a'.defers = a.defers ∧ ∃ T' L', Agr N T' a' ∧ seps (big (G :: D.map mkA) :: L') r oo ∧ SK P rd N ks T' L' Q) hnd' (fun a' w' hw' h => ?_) _ _ _ _ ⟨s.ro, s.val, s.obj, s.dis, s.below.drew, s.low⟩ ?_)
  · obtain ⟨h1, T', L', h2, h3, h4⟩ := h
    exact ⟨T', L', ⟨h2.1, h2.2, D, by rw [h1, hD], r, oo, hw', h3⟩, h4⟩
  · have := wpAnyQ_lex (C := fun w => Sat w r oo) (md := .any) hB.1 l 0 (Array.replicate l.toArray.size false) a (by simp) (by simpa using hB.2) h0
    simpa using this
end
end Go.Sl
