/- A part of a proof: a walk over the model by a small separation logic. -/
import Derived.Test.YtbaalaaoggplmaaDoorSlRead
/-! Maps: what they hold; looking up, putting in, taking away. -/
set_option linter.unusedVariables false
set_option linter.unusedSectionVars false
set_option linter.unusedSimpArgs false
namespace Go.Sl

/-- Keys of a kind that the model compares at once. -/
structure KR (κ : Type) where
  kd : TypeDesc
  v : κ → Value
  now : ∀ a b, (a = b ∧ Instr.sameNow kd (v a) (v b) = some true) ∨ (a ≠ b ∧ Instr.sameNow kd (v a) (v b) = some false)
  bits : ∀ a, Instr.sameBits 10000 (v a) (v a) = true
  chk : ∀ (P : Program) (t : Nat) (e : Bool) (a : κ) (w : World), P.underlying t = some kd → (Instr.checkKey e 10000 t (v a)).run P w = .ok () w

theorem run_und' {P : Program} {t : Nat} {d : TypeDesc} (h : P.underlying t = some d) (w : World) : (underlying t).run P w = .ok d w := by
  simp [underlying, program, Sem.run, bind, Sem.bind, h, pure]
theorem ba_beq (a b : ByteArray) : (a == b) = decide (a = b) := by
  cases a with | mk x => cases b with | mk y =>
  show (x == y) = _
  by_cases h : x = y
  · subst h; simp
  · have : ¬ (ByteArray.mk x = ByteArray.mk y) := fun e => h (by injection e)
    simp [h]
def KI (k : IntKind) : KR Int where
  kd := .int k
  v := fun n => .int k n
  now := fun a b => by
    by_cases h : a = b
    · left; exact ⟨h, by simp [Instr.sameNow, h]⟩
    · right; exact ⟨h, by simp [Instr.sameNow, h]⟩
  bits := fun a => by simp [Instr.sameBits]
  chk := fun P t e a w h => by
    unfold Instr.checkKey
    simp [Sem.run_bind, run_und' h]
def KS : KR ByteArray where
  kd := .string
  v := fun n => .string n
  now := fun a b => by
    by_cases h : a = b
    · left; exact ⟨h, by simp [Instr.sameNow, ba_beq, h]⟩
    · right; exact ⟨h, by simp [Instr.sameNow, ba_beq, h]⟩
  bits := fun a => by simp [Instr.sameBits, ba_beq]
  chk := fun P t e a w h => by
    unfold Instr.checkKey
    simp [Sem.run_bind, run_und' h]

/-! ### Plain maps -/
section
variable {κ α : Type} [DecidableEq κ]
def mget : List (κ × α) → κ → Option α
  | [], _ => none
  | (k', v) :: l, k => if k' = k then some v else mget l k
def mput : List (κ × α) → κ → α → List (κ × α)
  | [], k, v => [(k, v)]
  | (k', v') :: l, k, v => if k' = k then (k, v) :: l else (k', v') :: mput l k v
def mdel : List (κ × α) → κ → List (κ × α)
  | [], _ => []
  | (k', v') :: l, k => if k' = k then l else (k', v') :: mdel l k
def keysM (l : List (κ × α)) : List κ := l.map (·.1)
theorem mget_none : ∀ {l : List (κ × α)} {k : κ}, (∀ p ∈ l, p.1 ≠ k) → mget l k = none
  | [], _, _ => rfl
  | (k', v) :: l, k, h => by
    simp only [mget]; rw [if_neg (h (k', v) (by simp))]
    exact mget_none fun p hp => h p (by simp [hp])
theorem mget_some : ∀ {l1 l2 : List (κ × α)} {k : κ} {v : α}, (∀ p ∈ l1, p.1 ≠ k) → mget (l1 ++ (k, v) :: l2) k = some v
  | [], l2, k, v, _ => by simp [mget]
  | (k', v') :: l1, l2, k, v, h => by
    simp only [mget, List.cons_append]; rw [if_neg (h (k', v') (by simp))]
    exact mget_some fun p hp => h p (by simp [hp])
theorem mput_new : ∀ {l : List (κ × α)} {k : κ} {v : α}, (∀ p ∈ l, p.1 ≠ k) → mput l k v = l ++ [(k, v)]
  | [], _, _, _ => rfl
  | (k', v') :: l, k, v, h => by
    simp only [mput, List.cons_append]; rw [if_neg (h (k', v') (by simp)), mput_new fun p hp => h p (by simp [hp])]
theorem mput_old : ∀ {l1 l2 : List (κ × α)} {k : κ} {v v' : α}, (∀ p ∈ l1, p.1 ≠ k) → mput (l1 ++ (k, v') :: l2) k v = l1 ++ (k, v) :: l2
  | [], l2, k, v, v', _ => by simp [mput]
  | (k1, v1) :: l1, l2, k, v, v', h => by
    simp only [mput, List.cons_append]; rw [if_neg (h (k1, v1) (by simp)), mput_old fun p hp => h p (by simp [hp])]
theorem mdel_none : ∀ {l : List (κ × α)} {k : κ}, (∀ p ∈ l, p.1 ≠ k) → mdel l k = l
  | [], _, _ => rfl
  | (k', v') :: l, k, h => by
    simp only [mdel]; rw [if_neg (h (k', v') (by simp)), mdel_none fun p hp => h p (by simp [hp])]
theorem mdel_old : ∀ {l1 l2 : List (κ × α)} {k : κ} {v : α}, (∀ p ∈ l1, p.1 ≠ k) → mdel (l1 ++ (k, v) :: l2) k = l1 ++ l2
  | [], l2, k, v, _ => by simp [mdel]
  | (k1, v1) :: l1, l2, k, v, h => by
    simp only [mdel, List.cons_append]; rw [if_neg (h (k1, v1) (by simp)), mdel_old fun p hp => h p (by simp [hp])]
theorem mget_mput (l : List (κ × α)) (k j : κ) (v : α) : mget (mput l k v) j = if j = k then some v else mget l j := by
  induction l with
  | nil => simp only [mput, mget]; by_cases h : k = j <;> simp [h, eq_comm]
  | cons p l ih =>
    obtain ⟨k', v'⟩ := p
    simp only [mput]
    by_cases h : k' = k
    · subst h; rw [if_pos rfl]; simp only [mget]; by_cases hj : k' = j
      · simp [hj]
      · rw [if_neg hj, if_neg (fun e => hj e.symm), if_neg hj]
    · rw [if_neg h]; simp only [mget, ih]
      by_cases hj : k' = j
      · subst hj; simp [h]
      · simp [hj]
theorem mget_mdel {l : List (κ × α)} (hn : (keysM l).Nodup) (k j : κ) : mget (mdel l k) j = if j = k then none else mget l j := by
  induction l with
  | nil => simp [mdel, mget]
  | cons p l ih =>
    obtain ⟨k', v'⟩ := p
    simp only [keysM, List.map_cons, List.nodup_cons] at hn
    simp only [mdel]
    by_cases h : k' = k
    · subst h; rw [if_pos rfl]; simp only [mget]
      by_cases hj : j = k'
      · subst hj; rw [if_pos rfl]; exact mget_none fun p hp he => hn.1 (List.mem_map.2 ⟨p, hp, he⟩)
      · rw [if_neg hj, if_neg (fun e => hj e.symm)]
    · rw [if_neg h]; simp only [mget, ih hn.2]
      by_cases hj : k' = j
      · subst hj; simp [h]
      · simp [hj]
theorem keys_mput (l : List (κ × α)) (k : κ) (v : α) : keysM (mput l k v) = if k ∈ keysM l then keysM l else keysM l ++ [k] := by
  induction l with
  | nil => simp [mput, keysM]
  | cons p l ih =>
    obtain ⟨k', v'⟩ := p
    simp only [mput]
    by_cases h : k' = k
    · subst h; simp [keysM]
    · rw [if_neg h]
      simp only [keysM, List.map_cons, List.mem_cons] at ih ⊢
      rw [ih]
      by_cases hk : k ∈ l.map (·.1)
      · simp [hk]
      · simp [hk]; exact fun e => h e.symm
theorem nodup_mput {l : List (κ × α)} (hn : (keysM l).Nodup) (k : κ) (v : α) : (keysM (mput l k v)).Nodup := by
  rw [keys_mput]
  split
  · exact hn
  · rename_i h
    rw [List.nodup_append]
    exact ⟨hn, by simp, fun a ha b hb => by simp at hb; subst hb; intro e; subst e; exact h ha⟩
theorem mdel_sub : ∀ (l : List (κ × α)) (k : κ), (mdel l k).Sublist l
  | [], _ => List.Sublist.slnil
  | (k', v') :: l, k => by
    simp only [mdel]
    split
    · exact List.sublist_cons_self _ _
    · exact (mdel_sub l k).cons_cons _
theorem nodup_mdel {l : List (κ × α)} (hn : (keysM l).Nodup) (k : κ) : (keysM (mdel l k)).Nodup := hn.sublist ((mdel_sub l k).map _)
theorem mget_isSome {l : List (κ × α)} {k : κ} : (mget l k).isSome = true ↔ k ∈ keysM l := by
  induction l with
  | nil => simp [mget, keysM]
  | cons p l ih =>
    obtain ⟨k', v'⟩ := p
    simp only [mget, keysM, List.map_cons, List.mem_cons]
    by_cases h : k' = k
    · simp [h]
    · rw [if_neg h, ih]; simp only [keysM]; exact ⟨fun h' => .inr h', fun h' => h'.resolve_left (fun e => h e.symm)⟩
end

/-! ### A map in memory -/
section
variable {κ α : Type} [DecidableEq κ]
abbrev ZM (κ : Type) {α : Type} (ρ : Rep α) := (κ × α) × (ρ.V × Nat)
def entM (kr : KR κ) (ρ : Rep α) (p : ZM κ ρ) : MapEntry := { key := kr.v p.1.1, val := ρ.val p.1.2 p.2.1, born := p.2.2 }
/-- A map of one's own. -/
def mpAt (kr : KR κ) (ρ : Rep α) (b : Nat) (l : List (κ × α)) : HP :=
  ⟨fun r o => ∃ (z : List (ZM κ ρ)) (clock : Nat), z.map (·.1) = l ∧ (keysM l).Nodup ∧ ((z.map fun p : ZM κ ρ => p.2.2).Pairwise (· < ·) ∧ ∀ p ∈ z, p.2.2 < clock) ∧ o b 0 = some (.obj (.map (z.map (entM kr ρ)).toArray clock)) ∧ ∀ p ∈ z, seps (ρ.atoms p.1.2 p.2.1) r own0,
   fun r r' o o' hr ho ⟨z, clock, h1, h2, h3, h4, h5⟩ => ⟨z, clock, h1, h2, h3, ho _ _ _ h4, fun p hp => seps_up hr (Own.le_refl _) (h5 p hp)⟩⟩

theorem split_key (ρ : Rep α) (z : List (ZM κ ρ)) (k : κ) : (∀ p ∈ z, p.1.1 ≠ k) ∨ ∃ z1 p z2, z = z1 ++ p :: z2 ∧ (∀ q ∈ z1, q.1.1 ≠ k) ∧ p.1.1 = k := by
  induction z with
  | nil => left; simp
  | cons p z ih =>
    by_cases h : p.1.1 = k
    · right; exact ⟨[], p, z, rfl, by simp, h⟩
    · rcases ih with h' | ⟨z1, q, z2, rfl, h1, h2⟩
      · left; intro q hq
        rcases List.mem_cons.1 hq with rfl | hq
        · exact h
        · exact h' q hq
      · right
        refine ⟨p :: z1, q, z2, rfl, fun r hr => ?_, h2⟩
        rcases List.mem_cons.1 hr with rfl | hr
        · exact h
        · exact h1 r hr
theorem findNow_none {kr : KR κ} {ρ : Rep α} {k : κ} : ∀ {z : List (ZM κ ρ)} {i : Nat}, (∀ p ∈ z, p.1.1 ≠ k) → Instr.findNow kr.kd (kr.v k) (z.map (entM kr ρ)) i = some none
  | [], i, _ => rfl
  | p :: z, i, h => by
    have h1 := h p (by simp)
    have h2 : Instr.sameNow kr.kd (kr.v k) (kr.v p.1.1) = some false := by
      rcases kr.now k p.1.1 with ⟨e, _⟩ | ⟨_, e⟩
      · exact absurd e.symm h1
      · exact e
    simp only [List.map_cons, Instr.findNow, entM, h2]
    exact findNow_none fun q hq => h q (by simp [hq])
theorem findNow_some {kr : KR κ} {ρ : Rep α} {p : ZM κ ρ} {z2 : List (ZM κ ρ)} : ∀ {z1 : List (ZM κ ρ)} {i : Nat}, (∀ q ∈ z1, q.1.1 ≠ p.1.1) → Instr.findNow kr.kd (kr.v p.1.1) ((z1 ++ p :: z2).map (entM kr ρ)) i = some (some (i + z1.length, ρ.val p.1.2 p.2.1))
  | [], i, _ => by
    have h2 : Instr.sameNow kr.kd (kr.v p.1.1) (kr.v p.1.1) = some true := by
      rcases kr.now p.1.1 p.1.1 with ⟨_, e⟩ | ⟨e, _⟩
      · exact e
      · exact absurd rfl e
    simp only [List.nil_append, List.map_cons, Instr.findNow, entM, h2]
    simp
  | q :: z1, i, h => by
    have h2 : Instr.sameNow kr.kd (kr.v p.1.1) (kr.v q.1.1) = some false := by
      rcases kr.now p.1.1 q.1.1 with ⟨e, _⟩ | ⟨_, e⟩
      · exact absurd e.symm (h q (by simp))
      · exact e
    have := findNow_some (kr := kr) (p := p) (z2 := z2) (z1 := z1) (i := i + 1) (fun r hr => h r (by simp [hr]))
    simp only [List.cons_append, List.map_cons, Instr.findNow, entM, h2]
    simp only [List.map_append, List.map_cons] at this
    simp only [List.map_append, List.map_cons]
    rw [show i + (q :: z1).length = i + 1 + z1.length by simp; omega]
    exact this
theorem run_findKey {P : Program} {kr : KR κ} {t : Nat} (ht : P.underlying t = some kr.kd) {k : Value} {es : List MapEntry} {res : Option (Nat × Value)} (h : Instr.findNow kr.kd k es 0 = some res) (w : World) : (Instr.findKey t k es).run P w = .ok res w := by
  unfold Instr.findKey
  simp [Sem.run_bind, run_und' ht, h]
theorem run_getMap {P : Program} {w : World} {b : Nat} {x : Obj} (h : w.heap[b]? = some x) (hx : notCells x) : (getObj b).run P w = .ok x w := by
  cases x <;> first | exact hx.elim | simp [getObj, Sem.run, h]
end

theorem run_setObj_some {P : Program} {w : World} {b : Nat} {x o : Obj} (h : w.heap[b]? = some x) (hx : notCells x) : (setObj b o).run P w = .ok () { w with heap := w.heap.setIfInBounds b o } := by
  cases x <;> first | exact hx.elim | simp [setObj, Sem.run, h]
def kdOf : TK → Option TypeDesc
  | .int k => some (.int k)
  | .str => some .string
  | .bool => some .bool
  | _ => none
theorem kdOf_ok {P : Program} {t : Nat} {ti : TI} (h : ti.ok P t) {d : TypeDesc} (e : kdOf ti.k = some d) : P.underlying t = some d := by
  have hk := h.k
  revert hk e
  cases ti.k <;> simp only [kdOf, TK.ok] <;> intro e hk <;> first | (cases e; done) | (cases e; exact hk)

section
variable {P : Program} [tb : Tab P] {rd : Option Nat} {N : Nat} {T : TT} {L L' L1 : List HP} {Q : Post} {ks : List K}
variable {all : Array Oper} {rest : List Oper} {d : Option Tmp} {ty : TypeId} {pos : String} {aft : Array Edge}
variable {κ α : Type} [DecidableEq κ] {kr : KR κ} {ρ : Rep α}

def lookV (ok : Bool) (v : Value) (is : Bool) : Value := if ok then .tuple #[v, .bool is] else v
theorem rd_lookup {x y : Operand} {t e kt b n1 n2 : Nat} {z0 : Value} {tik tie : TI} {l : List (κ × α)} {key : κ} {ok : Bool} (hx : evO T x = some (.map (some b))) (htk : Take (mpAt kr ρ b l) L L') (hy : evO T y = some (kr.v key))
    (ht : tget tb.tab t = some ⟨.map kt e, n1, n2, z0⟩) (hkt : tget tb.tab kt = some tik) (hkk : kdOf tik.k = some kr.kd) (hte : tget tb.tab e = some tie) :
    Reads P T L ⟨d, .lookup t x y ok, ty, pos, aft, none⟩ (fun v L2 => (∃ u h, mget l key = some u ∧ v = lookV ok (ρ.val u h) true ∧ L2 = ρ.atoms u h ++ L) ∨ (mget l key = none ∧ v = lookV ok tie.zero false ∧ L2 = L)) := by
  intro q hq rr oo F hs
  have hs1 := ((Ent.cons htk.ent).trans Ent.swap) rr oo hs
  obtain ⟨x1, y1, d1, le1, ⟨z, clock, rfl, hn, hb, ho, hm⟩, hL⟩ := hs1
  have hmt := (tab_ok ht).k
  have hkd := kdOf_ok (tab_ok hkt) hkk
  have hobj : ∀ w, Sat w rr oo → w.heap[b]? = some (.map (z.map (entM kr ρ)).toArray clock) := fun w sat => (sat.obj _ _ _ (le1 _ _ _ (Own.le_add_left _ _ _ _ _ ho))).2.1
  simp only [TK.ok] at hmt
  rcases split_key ρ z key with hno | ⟨z1, p, z2, rfl, h1, rfl⟩
  · refine ⟨_, L, .inr ⟨mget_none (fun p hp => by obtain ⟨p', hp', rfl⟩ := List.mem_map.1 hp; exact hno p' hp'), rfl, rfl⟩, hs, fun w sat => ?_⟩
    simp only [execOp, hq _ _ hx, hq _ _ hy, Instr.lookup, Sem.run_bind, run_und hmt, Result.andThen_ok, run_getMap (hobj w sat) trivial, Sem.run_pure, kr.chk P kt _ key _ hkd,
      run_findKey hkd (findNow_none (kr := kr) hno), zero_ok (tab_ok hte)]
    cases ok <;> rfl
  · have hget : mget ((z1 ++ p :: z2).map (·.1)) p.1.1 = some p.1.2 := by
      rw [List.map_append, List.map_cons]
      exact mget_some (k := p.1.1) (v := p.1.2) (fun q hq => by obtain ⟨q', hq', rfl⟩ := List.mem_map.1 hq; exact h1 q' hq')
    refine ⟨_, _, .inl ⟨p.1.2, p.2.1, hget, rfl, rfl⟩, ?_, fun w sat => ?_⟩
    · have hat := hm p (by simp)
      have hA : (mpAt kr ρ b ((z1 ++ p :: z2).map (·.1))).h rr x1 := ⟨_, clock, rfl, hn, hb, ho, hm⟩
      have h7 : seps (big (ρ.atoms p.1.2 p.2.1) :: F :: L) rr oo := ⟨fun _ _ => none, oo, fun _ _ => .inl rfl, none_add, hat, hs⟩
      exact (Ent.swap.trans (Ent.cons ent_big)) rr oo h7
    · have := findNow_some (kr := kr) (p := p) (z2 := z2) (i := 0) h1
      simp only [execOp, hq _ _ hx, hq _ _ hy, Instr.lookup, Sem.run_bind, run_und hmt, Result.andThen_ok, run_getMap (hobj w sat) trivial, Sem.run_pure, kr.chk P kt _ p.1.1 _ hkd,
        run_findKey hkd this]
      cases ok <;> rfl
theorem SO.lookup {x y : Operand} {t e kt b n1 n2 : Nat} {z0 : Value} {tik tie : TI} {l : List (κ × α)} {key : κ} {ok : Bool} (hx : evO T x = some (.map (some b))) (htk : Take (mpAt kr ρ b l) L L') (hy : evO T y = some (kr.v key))
    (ht : tget tb.tab t = some ⟨.map kt e, n1, n2, z0⟩) (hkt : tget tb.tab kt = some tik) (hkk : kdOf tik.k = some kr.kd) (hte : tget tb.tab e = some tie) (hd : dstOk N d = true)
    (yes : ∀ u h, mget l key = some u → SO P rd N all rest (putD d (lookV ok (ρ.val u h) true) T) (ρ.atoms u h ++ L) ks Q) (no : mget l key = none → SO P rd N all rest (putD d (lookV ok tie.zero false) T) L ks Q) :
    SO P rd N all (⟨d, .lookup t x y ok, ty, pos, aft, none⟩ :: rest) T L ks Q :=
  SO.reads (rd_lookup hx htk hy ht hkt hkk hte) rfl rfl hd (by rintro _ _ (⟨u, h, hg, rfl, rfl⟩ | ⟨hg, rfl, rfl⟩) <;> first | exact yes _ _ (by assumption) | exact no (by assumption))
theorem SQ.lookup {RR : TT → List HP → Prop} {x y : Operand} {t e kt b n1 n2 : Nat} {z0 : Value} {tik tie : TI} {l : List (κ × α)} {key : κ} {ok : Bool} (hx : evO T x = some (.map (some b))) (htk : Take (mpAt kr ρ b l) L L') (hy : evO T y = some (kr.v key))
    (ht : tget tb.tab t = some ⟨.map kt e, n1, n2, z0⟩) (hkt : tget tb.tab kt = some tik) (hkk : kdOf tik.k = some kr.kd) (hte : tget tb.tab e = some tie) (hd : dstOk N d = true)
    (yes : ∀ u h, mget l key = some u → SQ P N all rest (putD d (lookV ok (ρ.val u h) true) T) (ρ.atoms u h ++ L) RR) (no : mget l key = none → SQ P N all rest (putD d (lookV ok tie.zero false) T) L RR) :
    SQ P N all (⟨d, .lookup t x y ok, ty, pos, aft, none⟩ :: rest) T L RR :=
  SQ.reads (rd_lookup hx htk hy ht hkt hkk hte) rfl hd (by rintro _ _ (⟨u, h, hg, rfl, rfl⟩ | ⟨hg, rfl, rfl⟩) <;> first | exact yes _ _ (by assumption) | exact no (by assumption))

/-- A map's length. -/
theorem rd_lenMap {x : Operand} {t e kt b n1 n2 : Nat} {z0 : Value} {l : List (κ × α)} (hx : evO T x = some (.map (some b))) (htk : Take (mpAt kr ρ b l) L L')
    (ht : tget tb.tab t = some ⟨.map kt e, n1, n2, z0⟩) :
    Reads P T L ⟨d, .call ⟨.builtin .len, #[x], #[t]⟩, ty, pos, aft, none⟩ (fun v L2 => v = .int .i64 (l.length : Int) ∧ L2 = L) := by
  intro q hq rr oo F hs
  have hs1 := ((Ent.cons htk.ent).trans Ent.swap) rr oo hs
  obtain ⟨x1, y1, d1, le1, ⟨z, clock, rfl, hn, hb, ho, hm⟩, hL⟩ := hs1
  have hmt := (tab_ok ht).k
  simp only [TK.ok] at hmt
  refine ⟨_, L, ⟨rfl, rfl⟩, hs, fun w sat => ?_⟩
  have hobj : w.heap[b]? = some (.map (z.map (entM kr ρ)).toArray clock) := (sat.obj _ _ _ (le1 _ _ _ (Own.le_add_left _ _ _ _ _ ho))).2.1
  simp [execOp, resolve, invoke, builtin, hq _ _ hx, Builtin.len_, Sem.run_bind, run_und hmt, run_getMap hobj trivial]
  rfl
theorem SO.lenMap {x : Operand} {t e kt b n1 n2 : Nat} {z0 : Value} {l : List (κ × α)} (hx : evO T x = some (.map (some b))) (htk : Take (mpAt kr ρ b l) L L')
    (ht : tget tb.tab t = some ⟨.map kt e, n1, n2, z0⟩) (hd : dstOk N d = true) (k : SO P rd N all rest (putD d (.int .i64 (l.length : Int)) T) L ks Q) :
    SO P rd N all (⟨d, .call ⟨.builtin .len, #[x], #[t]⟩, ty, pos, aft, none⟩ :: rest) T L ks Q :=
  SO.reads (rd_lenMap hx htk ht) rfl rfl hd (by rintro _ _ ⟨rfl, rfl⟩; exact k)
theorem SQ.lenMap {RR : TT → List HP → Prop} {x : Operand} {t e kt b n1 n2 : Nat} {z0 : Value} {l : List (κ × α)} (hx : evO T x = some (.map (some b))) (htk : Take (mpAt kr ρ b l) L L')
    (ht : tget tb.tab t = some ⟨.map kt e, n1, n2, z0⟩) (hd : dstOk N d = true) (k : SQ P N all rest (putD d (.int .i64 (l.length : Int)) T) L RR) :
    SQ P N all (⟨d, .call ⟨.builtin .len, #[x], #[t]⟩, ty, pos, aft, none⟩ :: rest) T L RR :=
  SQ.reads (rd_lenMap hx htk ht) rfl hd (by rintro _ _ ⟨rfl, rfl⟩; exact k)

/-- A new map. -/
theorem SO.makeMap {t : Nat} (hd : dstOk N d = true) (kk : ∀ b, SO P rd N all rest (putD d (.map (some b)) T) (mpAt kr ρ b [] :: L) ks Q) : SO P rd N all (⟨d, .makeMap t none, ty, pos, aft, none⟩ :: rest) T L ks Q := by
  refine SO.run (R := fun v L2 => ∃ b, v = .map (some b) ∧ L2 = mpAt kr ρ b [] :: L) rfl rfl hd ?_ (by rintro _ _ ⟨b, rfl, rfl⟩; exact kk b)
  intro q hq F w hst
  refine ⟨_, _, _, .inl rfl, ⟨w.heap.size, rfl, rfl⟩, ?_⟩
  have := hst.allocObj (.map #[] 0) trivial
  refine (this.ent Ent.swap).ent (Ent.cons ?_)
  rintro r o ⟨x, y, d1, le, hA, hL⟩
  exact ⟨x, y, d1, le, ⟨[], 0, rfl, List.nodup_nil, ⟨List.Pairwise.nil, by simp⟩, hA, by simp⟩, hL⟩

/-- The object of a map, for what writes it. -/
theorem map_open {b : Nat} {l : List (κ × α)} {w : World} (h : St w (mpAt kr ρ b l :: L)) : ∃ (z : List (ZM κ ρ)) (clock : Nat), z.map (·.1) = l ∧ (keysM l).Nodup ∧ ((z.map fun p : ZM κ ρ => p.2.2).Pairwise (· < ·) ∧ ∀ p ∈ z, p.2.2 < clock) ∧
    St w (ob b (.map (z.map (entM kr ρ)).toArray clock) :: memA ρ (z.map fun p => (p.1.2, p.2.1)) :: L) := by
  obtain ⟨r, o, s, x, y, d1, le, ⟨z, clock, h1, h2, h3, h4, h5⟩, hL⟩ := h
  refine ⟨z, clock, h1, h2, h3, r, o, s, x, y, d1, le, h4, own0, y, fun _ _ => .inl rfl, none_add, ?_, hL⟩
  intro i u h e
  rw [List.getElem?_map, Option.map_eq_some_iff] at e
  obtain ⟨p, hp, e⟩ := e
  cases e
  exact h5 p (List.mem_of_getElem? hp)
theorem map_shut {b : Nat} {l : List (κ × α)} (z : List (ZM κ ρ)) (clock : Nat) (h1 : z.map (·.1) = l) (h2 : (keysM l).Nodup) (h3 : (z.map fun p : ZM κ ρ => p.2.2).Pairwise (· < ·) ∧ ∀ p ∈ z, p.2.2 < clock) :
    Ent (ob b (.map (z.map (entM kr ρ)).toArray clock) :: memA ρ (z.map fun p => (p.1.2, p.2.1)) :: L) (mpAt kr ρ b l :: L) := by
  rintro r o ⟨x, y, d1, le, h4, x2, y2, d2, le2, h5, hL⟩
  refine ⟨x, y2, fun i j => ?_, fun i j c e => ?_, ⟨z, clock, h1, h2, h3, h4, fun p hp => ?_⟩, hL⟩
  · rcases d1 i j with h | h
    · exact .inl h
    · right
      cases hb : y2 i j with
      | none => rfl
      | some u => have := le2 i j u (Own.le_add_right d2 _ _ _ hb); simp [h] at this
  · rcases Own.add_cases e with e | e
    · exact le _ _ _ (Own.le_add_left _ _ _ _ _ e)
    · exact le _ _ _ (Own.le_add_right d1 _ _ _ (le2 _ _ _ (Own.le_add_right d2 _ _ _ e)))
  · obtain ⟨i, hi⟩ := List.getElem?_of_mem hp
    exact h5 i p.1.2 p.2.1 (by rw [List.getElem?_map, hi]; rfl)

theorem ext_modify {β : Type} (l1 l2 : List β) (p : β) (f : β → β) (n : Nat) (hn : n = l1.length) : (l1 ++ p :: l2).toArray.modify n f = (l1 ++ f p :: l2).toArray := by
  subst hn
  apply Array.ext'
  apply List.ext_getElem?
  intro i
  rw [Array.getElem?_toList, Array.getElem?_modify]
  simp only [List.getElem?_toArray]
  rcases Nat.lt_trichotomy i l1.length with h | h | h
  · rw [if_neg (by omega), List.getElem?_append_left h, List.getElem?_append_left h]
  · subst h; simp
  · rw [if_neg (by omega), List.getElem?_append_right (by omega), List.getElem?_append_right (by omega)]
    obtain ⟨k, hk⟩ : ∃ k, i - l1.length = k + 1 := ⟨i - l1.length - 1, by omega⟩
    rw [hk]; simp
theorem ext_erase {β : Type} (l1 l2 : List β) (p : β) (n : Nat) (hn : n = l1.length) : (l1 ++ p :: l2).toArray.eraseIdxIfInBounds n = (l1 ++ l2).toArray := by
  subst hn
  apply Array.ext'
  simp [List.eraseIdx_append_of_length_le]

theorem stay (kr : KR κ) (a : κ) (w : World) : (Instr.keyThatStays (kr.v a) (kr.v a)).run P w = .ok (kr.v a) w := by
  unfold Instr.keyThatStays
  rw [if_pos (kr.bits a)]; rfl
/-- Put in. -/
theorem SO.mapUpdate {x y v : Operand} {t e kt b n1 n2 : Nat} {z0 : Value} {tik : TI} {l : List (κ × α)} {key : κ} {u : α} {h : ρ.V} (hx : evO T x = some (.map (some b))) (htk : Take (mpAt kr ρ b l) L L') (hy : evO T y = some (kr.v key)) (hv : evO T v = some (ρ.val u h)) (hat : HasAll (ρ.atoms u h) L')
    (ht : tget tb.tab t = some ⟨.map kt e, n1, n2, z0⟩) (hkt : tget tb.tab kt = some tik) (hkk : kdOf tik.k = some kr.kd)
    (k : SO P rd N all rest T (mpAt kr ρ b (mput l key u) :: L') ks Q) : SO P rd N all (⟨none, .mapUpdate t x y v, ty, pos, aft, none⟩ :: rest) T L ks Q := by
  refine SO.run (R := fun _ L2 => L2 = mpAt kr ρ b (mput l key u) :: L') rfl rfl rfl ?_ (by rintro _ _ rfl; exact k)
  intro q hq F w hst
  have h1 : St w (mpAt kr ρ b l :: F :: L') := hst.ent ((Ent.cons htk.ent).trans Ent.swap)
  obtain ⟨z, clock, hl, hn, ⟨hb1, hb2⟩, h2⟩ := map_open h1
  obtain ⟨ho, _⟩ := h2.obj
  have hmt := (tab_ok ht).k
  simp only [TK.ok] at hmt
  have hkd := kdOf_ok (tab_ok hkt) hkk
  -- the atoms of what is put in
  have hatS : ∀ {r o}, seps (memA ρ (z.map fun p => (p.1.2, p.2.1)) :: F :: L') r o → seps (ρ.atoms u h) r own0 := by
    intro r o hs
    obtain ⟨_, y1, _, _, _, _, y2, _, _, _, hL⟩ := hs
    have := (hat.ent (ρ.pers u h)) r y2 hL
    have key : ∀ (A B : List HP) (o : Own), (∀ X ∈ A, Pers X) → seps (A ++ B) r o → seps A r own0 := by
      intro A
      induction A with
      | nil => intros; trivial
      | cons X A ih =>
        rintro B o hp ⟨a, b, d, le, hA, hL⟩
        exact ⟨_, _, fun _ _ => .inl rfl, none_add, hp X (by simp) _ _ hA, ih B b (fun Y hY => hp Y (by simp [hY])) hL⟩
    exact key _ _ _ (ρ.pers u h) this
  have hshut : ∀ (z' : List (ZM κ ρ)) (clock' : Nat), (∀ p ∈ z', p ∈ z ∨ (p.1.2, p.2.1) = ((u, h) : α × ρ.V)) → Ent (ob b (.map (z'.map (entM kr ρ)).toArray clock') :: memA ρ (z.map fun p => (p.1.2, p.2.1)) :: F :: L') (ob b (.map (z'.map (entM kr ρ)).toArray clock') :: memA ρ (z'.map fun p => (p.1.2, p.2.1)) :: F :: L') := by
    intro z' clock' hz'
    refine Ent.cons ?_
    intro r o hs
    have hu := hatS hs
    obtain ⟨x1, y1, d1, le1, hm, hL⟩ := hs
    refine ⟨x1, y1, d1, le1, ?_, hL⟩
    intro i a c e
    rw [List.getElem?_map, Option.map_eq_some_iff] at e
    obtain ⟨p, hp, e⟩ := e
    rcases hz' p (List.mem_of_getElem? hp) with hin | he
    · cases e
      obtain ⟨j, hj⟩ := List.getElem?_of_mem hin
      exact hm j p.1.2 p.2.1 (by rw [List.getElem?_map, hj]; rfl)
    · rw [e] at he; cases he; exact hu
  have hrun : ∀ (res : Option (Nat × Value)), Instr.findNow kr.kd (kr.v key) (z.map (entM kr ρ)) 0 = some res → (execOp q ⟨none, .mapUpdate t x y v, ty, pos, aft, none⟩).run P w =
      (do (match res with
        | some (i, _) => do
          let k' ← Instr.keyThatStays ((((z.map (entM kr ρ)).toArray[i]?).map (·.key)).getD (kr.v key)) (kr.v key)
          setObj b (.map ((z.map (entM kr ρ)).toArray.modify i fun e => { e with key := k', val := ρ.val u h }) clock)
        | none => setObj b (.map ((z.map (entM kr ρ)).toArray.push { key := kr.v key, val := ρ.val u h, born := clock }) (clock + 1))) ; Pure.pure Next.skip : Sem Next).run P w := by
    intro res hres
    simp only [execOp, hq _ _ hx, hq _ _ hy, hq _ _ hv, Instr.mapUpdate, Sem.run_bind, run_und hmt, Result.andThen_ok, run_getMap ho trivial, kr.chk P kt _ key _ hkd, run_findKey hkd hres]
    cases res <;> rfl
  rcases split_key ρ z key with hno | ⟨z1, p, z2, rfl, hz1, rfl⟩
  · -- a new one
    have hrun := hrun none (findNow_none hno)
    have h3 := h2.setObj (z := .map ((z ++ [((key, u), (h, clock))]).map (entM kr ρ)).toArray (clock + 1)) trivial
    refine ⟨undef, _, _, .inr ⟨?_, rfl⟩, rfl, h3.ent (((hshut _ _ ?_).trans (map_shut (l := mput l key u) _ _ ?_ (nodup_mput hn _ _) ?_)).trans Ent.swap)⟩
    · rw [hrun]
      have : (z.map (entM kr ρ)).toArray.push { key := kr.v key, val := ρ.val u h, born := clock } = ((z ++ [((key, u), (h, clock))]).map (entM kr ρ)).toArray := by simp [entM]
      rw [this]
      simp [run_setObj_some ho trivial]
    · intro p hp
      rcases List.mem_append.1 hp with hp | hp
      · exact .inl hp
      · simp at hp; subst hp; exact .inr rfl
    · rw [List.map_append, hl]
      exact (mput_new (fun p hp => by rw [← hl] at hp; obtain ⟨p', hp', rfl⟩ := List.mem_map.1 hp; exact hno p' hp')).symm
    · refine ⟨?_, fun p hp => ?_⟩
      · rw [List.map_append, List.pairwise_append]
        refine ⟨hb1, by simp, fun a ha c hc => ?_⟩
        obtain ⟨p', hp', rfl⟩ := List.mem_map.1 ha
        simp at hc; subst hc; exact hb2 p' hp'
      · rcases List.mem_append.1 hp with hp | hp
        · have := hb2 p hp; omega
        · simp at hp; subst hp; show clock < clock + 1; omega
  · have hrun := hrun _ (findNow_some (p := p) (z2 := z2) hz1)
    have h3 := h2.setObj (z := .map ((z1 ++ ((p.1.1, u), (h, p.2.2)) :: z2).map (entM kr ρ)).toArray clock) trivial
    refine ⟨undef, _, _, .inr ⟨?_, rfl⟩, rfl, h3.ent (((hshut _ _ ?_).trans (map_shut (l := mput l p.1.1 u) _ _ ?_ (nodup_mput hn _ _) ?_)).trans Ent.swap)⟩
    · rw [hrun]
      have hi : (((z1 ++ p :: z2).map (entM kr ρ)).toArray[0 + z1.length]?).map (·.key) = some (kr.v p.1.1) := by
        simp [entM]
      simp only [hi, Option.getD_some]
      have : ((z1 ++ p :: z2).map (entM kr ρ)).toArray.modify (0 + z1.length) (fun e => { e with key := kr.v p.1.1, val := ρ.val u h }) = ((z1 ++ ((p.1.1, u), (h, p.2.2)) :: z2).map (entM kr ρ)).toArray := by
        rw [List.map_append, List.map_cons, ext_modify _ _ _ _ _ (by simp), List.map_append, List.map_cons]
        rfl
      simp only [Sem.run_bind, stay kr p.1.1, Result.andThen_ok, this, run_setObj_some ho trivial]
      rfl
    · intro q hq
      rcases List.mem_append.1 hq with hq | hq
      · exact .inl (by simp [hq])
      · rcases List.mem_cons.1 hq with rfl | hq
        · exact .inr rfl
        · exact .inl (by simp [hq])
    · rw [List.map_append, List.map_cons, ← hl, List.map_append, List.map_cons]
      exact (mput_old (l1 := z1.map (·.1)) (l2 := z2.map (·.1)) (k := p.1.1) (v' := p.1.2) (fun p hp => by obtain ⟨p', hp', rfl⟩ := List.mem_map.1 hp; exact hz1 p' hp')).symm
    · refine ⟨?_, fun q hq => ?_⟩
      · simpa using hb1
      · rcases List.mem_append.1 hq with hq | hq
        · exact hb2 q (by simp [hq])
        · rcases List.mem_cons.1 hq with rfl | hq
          · exact hb2 p (by simp)
          · exact hb2 q (by simp [hq])
/-- Taken away. -/
theorem SO.delete {x y : Operand} {t t2 e kt b n1 n2 : Nat} {z0 : Value} {tik : TI} {l : List (κ × α)} {key : κ} (hx : evO T x = some (.map (some b))) (htk : Take (mpAt kr ρ b l) L L') (hy : evO T y = some (kr.v key))
    (ht : tget tb.tab t = some ⟨.map kt e, n1, n2, z0⟩) (hkt : tget tb.tab kt = some tik) (hkk : kdOf tik.k = some kr.kd) (hd : dstOk N d = true)
    (k : SO P rd N all rest (putD d (.tuple #[]) T) (mpAt kr ρ b (mdel l key) :: L') ks Q) : SO P rd N all (⟨d, .call ⟨.builtin .delete, #[x, y], #[t, t2]⟩, ty, pos, aft, none⟩ :: rest) T L ks Q := by
  refine SO.run (R := fun v L2 => v = .tuple #[] ∧ L2 = mpAt kr ρ b (mdel l key) :: L') rfl rfl hd ?_ (by rintro _ _ ⟨rfl, rfl⟩; exact k)
  intro q hq F w hst
  have h1 : St w (mpAt kr ρ b l :: F :: L') := hst.ent ((Ent.cons htk.ent).trans Ent.swap)
  obtain ⟨z, clock, hl, hn, ⟨hb1, hb2⟩, h2⟩ := map_open h1
  obtain ⟨ho, _⟩ := h2.obj
  have hmt := (tab_ok ht).k
  simp only [TK.ok] at hmt
  have hkd := kdOf_ok (tab_ok hkt) hkk
  have hshut : ∀ (z' : List (ZM κ ρ)) (clock' : Nat), (∀ p ∈ z', p ∈ z) → Ent (ob b (.map (z'.map (entM kr ρ)).toArray clock') :: memA ρ (z.map fun p => (p.1.2, p.2.1)) :: F :: L') (ob b (.map (z'.map (entM kr ρ)).toArray clock') :: memA ρ (z'.map fun p => (p.1.2, p.2.1)) :: F :: L') := by
    intro z' clock' hz'
    refine Ent.cons ?_
    rintro r o ⟨x1, y1, d1, le1, hm, hL⟩
    refine ⟨x1, y1, d1, le1, ?_, hL⟩
    intro i a c e
    rw [List.getElem?_map, Option.map_eq_some_iff] at e
    obtain ⟨p, hp, e⟩ := e
    cases e
    obtain ⟨j, hj⟩ := List.getElem?_of_mem (hz' p (List.mem_of_getElem? hp))
    exact hm j p.1.2 p.2.1 (by rw [List.getElem?_map, hj]; rfl)
  rcases split_key ρ z key with hno | ⟨z1, p, z2, rfl, hz1, rfl⟩
  · have h3 := h2.setObj (z := .map (z.map (entM kr ρ)).toArray clock) trivial
    refine ⟨.tuple #[], _, _, .inl ?_, ⟨rfl, rfl⟩, h3.ent ((map_shut (l := mdel l key) z clock ?_ (nodup_mdel hn _) ⟨hb1, hb2⟩).trans Ent.swap)⟩
    · simp [execOp, resolve, invoke, builtin, hq _ _ hx, hq _ _ hy, Builtin.delete_, run_und hmt, run_getMap ho trivial, kr.chk P kt _ key _ hkd, run_findKey hkd (findNow_none (kr := kr) hno), run_setObj_some ho trivial]
    · rw [hl]; exact (mdel_none (fun p hp => by rw [← hl] at hp; obtain ⟨p', hp', rfl⟩ := List.mem_map.1 hp; exact hno p' hp')).symm
  · have h3 := h2.setObj (z := .map ((z1 ++ z2).map (entM kr ρ)).toArray clock) trivial
    refine ⟨.tuple #[], _, _, .inl ?_, ⟨rfl, rfl⟩, h3.ent (((hshut _ _ ?_).trans (map_shut (l := mdel l p.1.1) (z1 ++ z2) clock ?_ (nodup_mdel hn _) ⟨?_, ?_⟩)).trans Ent.swap)⟩
    · have hf := findNow_some (kr := kr) (p := p) (z2 := z2) (i := 0) hz1
      have he : ((z1 ++ p :: z2).map (entM kr ρ)).toArray.eraseIdxIfInBounds (0 + z1.length) = ((z1 ++ z2).map (entM kr ρ)).toArray := by
        rw [List.map_append, List.map_cons, ext_erase _ _ _ _ (by simp), List.map_append]
      simp only [execOp, resolve, invoke, builtin, Array.map, hq _ _ hx, hq _ _ hy, Sem.run_bind, Sem.run_pure, Result.andThen_ok]
      have : (Builtin.delete_ #[t, t2] ty #[.map (some b), kr.v p.1.1]).run P w = .ok (.tuple #[]) { w with heap := w.heap.setIfInBounds b (.map ((z1 ++ z2).map (entM kr ρ)).toArray clock) } := by
        unfold Builtin.delete_
        simp only [List.getElem?_toArray, List.getElem?_cons_zero, List.getElem?_cons_succ, Sem.run_bind, run_und hmt, Result.andThen_ok, run_getMap ho trivial, kr.chk P kt _ p.1.1 _ hkd, run_findKey hkd hf, he, run_setObj_some ho trivial]
        rfl
      simp [hq _ _ hx, hq _ _ hy, this]
    · intro q hq
      rcases List.mem_append.1 hq with hq | hq
      · simp [hq]
      · simp [hq]
    · rw [List.map_append, ← hl, List.map_append, List.map_cons]
      exact (mdel_old (l1 := z1.map (·.1)) (l2 := z2.map (·.1)) (k := p.1.1) (v := p.1.2) (fun p hp => by obtain ⟨p', hp', rfl⟩ := List.mem_map.1 hp; exact hz1 p' hp')).symm
    · rw [List.map_append, List.map_cons] at hb1
      rw [List.map_append]
      exact hb1.sublist (List.Sublist.append (List.Sublist.refl _) (List.sublist_cons_self _ _))
    · intro q hq
      rcases List.mem_append.1 hq with hq | hq
      · exact hb2 q (by simp [hq])
      · exact hb2 q (by simp [hq])
end
end Go.Sl
