/- A part of a proof: a walk over the model by a small separation logic. -/
import Derived.Test.YtmbfcjffjgecjaaGreatDoorLib0
import Derived.KernelRfl
import Derived.Laws.IdiomStrings
import Derived.Shelf.Strings.FuncGrows
import Derived.OpenShut
import Derived.Lib.IndexMore
import Derived.Lib.IndexLaws
import Derived.Lib.Bytealg
import Derived.Laws.StructEq
import Derived.Lib.ItoaNum
import Derived.Lib.AtoiAll
import Derived.Lib.Split
import Derived.Lib.SlTrimSet
import Derived.Lib.Join
import Derived.Laws.Externs
import GoSem.Extern.MapsClone
import Derived.Lib.Overlaps
import Derived.Laws.IdiomRangeMap
set_option linter.unusedVariables false
set_option linter.unusedSectionVars false
set_option linter.unusedSimpArgs false
namespace Go.Sl
def wpStrict (P : Program) (ops : Array Oper) (C : World → Prop) (Q : Act → Prop) : List Oper → Act → Prop
  | [], a => Q a
  | o :: rest, a => if Region.wanted o (yielded ops a.tmps) then ∃ v, (∀ w, C w → (execOp a.eval o).run P w = .ok (.value v) w) ∧ wpStrict P ops C Q rest (a.put o.dst v) else wpStrict P ops C Q rest (a.put o.dst undef)
theorem wpStrict_mono {P : Program} {all : Array Oper} {C : World → Prop} {Q Q' : Act → Prop} (h : ∀ a, Q a → Q' a) : ∀ (ops : List Oper) (a : Act), wpStrict P all C Q ops a → wpStrict P all C Q' ops a
  | [], a, hq => h a hq
  | o :: ops, a, hq => by
    simp only [wpStrict] at hq ⊢
    split
    · rename_i hw; rw [if_pos hw] at hq
      obtain ⟨v, h1, h2⟩ := hq
      exact ⟨v, h1, wpStrict_mono h ops _ h2⟩
    · rename_i hw; rw [if_neg hw] at hq; exact wpStrict_mono h ops _ hq
def SR (P : Program) (N : Nat) (all : Array Oper) (ops : List Oper) (T : TT) (L : List HP) (R : TT → List HP → Prop) : Prop :=
  ∀ r oo F a, seps (F :: L) r oo → Agr N T a → wpStrict P all (fun w => Sat w r oo) (fun a' => a'.defers = a.defers ∧ ∃ T' L', Agr N T' a' ∧ seps (F :: L') r oo ∧ R T' L') ops a
section
variable {P : Program} {rd : Option Nat} {N : Nat} {T : TT} {L L' L1 : List HP} {Q : Post} {ks : List K}
variable {all : Array Oper} {rest : List Oper} {o : Oper} {RR : TT → List HP → Prop}
theorem SR.nil (h : RR T L) : SR P N all [] T L RR := fun r oo F a hs ha => ⟨rfl, T, L, ha, hs, h⟩
theorem SR.reads {R : Value → List HP → Prop} (hr : Reads P T L o R) (hg : o.guard = none) (hd : dstOk N o.dst = true)
    (h : ∀ v L', R v L' → SR P N all rest (Sl.putD o.dst v T) L' RR) : SR P N all (o :: rest) T L RR := by
  intro r oo F a hs ha
  obtain ⟨v, L', hR, hs', hrun⟩ := hr a.eval ha.knows r oo F hs
  simp only [wpStrict, Region.wanted, hg, if_true]
  refine ⟨v, fun w hw => hrun w hw, wpStrict_mono ?_ rest _ (h v L' hR r oo F _ hs' (ha.putD hd v))⟩
  rintro a' ⟨h1, h2⟩; exact ⟨by rw [h1, put_defers_eq], h2⟩
theorem SR.guard {j : Nat} {want : Bool} {t : Nat} {β : Bool} {dst : Option Tmp} {op : Op} {ty : TypeId} {pos : String} {aft : Array Edge}
    (hj : (all[j]?).bind (·.dst) = some t) (ht : T.get t = some (.bool β)) (hd : dstOk N dst = true)
    (yes : β = want → SR P N all (⟨dst, op, ty, pos, aft, none⟩ :: rest) ((t, .bool want) :: T) L RR)
    (no : β = !want → SR P N all rest (Sl.putD dst undef ((t, .bool (!want)) :: T)) L RR) : SR P N all (⟨dst, op, ty, pos, aft, some (j, want)⟩ :: rest) T L RR := by
  intro r oo F a hs ha
  have hy : yielded all a.tmps j = some β := by
    simp only [yielded, hj, Option.bind_some, ha.2 _ _ ht]
  by_cases hb : β = want
  · have hw : Region.wanted (⟨dst, op, ty, pos, aft, some (j, want)⟩ : Oper) (yielded all a.tmps) = true := by simp [Region.wanted, hy, hb]
    have h2 := yes hb r oo F a hs (ha.know (hb ▸ ht))
    simp only [wpStrict, hw, if_true]
    simp only [wpStrict, Region.wanted, if_true] at h2
    exact h2
  · have hw : Region.wanted (⟨dst, op, ty, pos, aft, some (j, want)⟩ : Oper) (yielded all a.tmps) = false := by simp [Region.wanted, hy, hb]
    have hb' : β = !want := by cases β <;> cases want <;> simp_all
    simp only [wpStrict, hw]
    have := no hb' r oo F _ hs ((ha.know (hb' ▸ ht)).putD hd undef)
    exact wpStrict_mono (fun a' ⟨h1, h2⟩ => ⟨by rw [h1, put_defers_eq], h2⟩) rest _ this
theorem SR.guardY {j : Nat} {want : Bool} {t : Nat} {dst : Option Tmp} {op : Op} {ty : TypeId} {pos : String} {aft : Array Edge}
    (hj : (all[j]?).bind (·.dst) = some t) (ht : T.get t = some (.bool want))
    (yes : SR P N all (⟨dst, op, ty, pos, aft, none⟩ :: rest) T L RR) : SR P N all (⟨dst, op, ty, pos, aft, some (j, want)⟩ :: rest) T L RR := by
  intro r oo F a hs ha
  have hy : yielded all a.tmps j = some want := by
    simp only [yielded, hj, Option.bind_some, ha.2 _ _ ht]
  have hw : Region.wanted (⟨dst, op, ty, pos, aft, some (j, want)⟩ : Oper) (yielded all a.tmps) = true := by simp [Region.wanted, hy]
  have h2 := yes r oo F a hs ha
  simp only [wpStrict, hw, if_true]
  simp only [wpStrict, Region.wanted, if_true] at h2
  exact h2
theorem SR.guardN {j : Nat} {want : Bool} {t : Nat} {dst : Option Tmp} {op : Op} {ty : TypeId} {pos : String} {aft : Array Edge}
    (hj : (all[j]?).bind (·.dst) = some t) (ht : T.get t = some (.bool (!want))) (hd : dstOk N dst = true)
    (no : SR P N all rest (Sl.putD dst undef T) L RR) : SR P N all (⟨dst, op, ty, pos, aft, some (j, want)⟩ :: rest) T L RR := by
  intro r oo F a hs ha
  have hy : yielded all a.tmps j = some (!want) := by
    simp only [yielded, hj, Option.bind_some, ha.2 _ _ ht]
  have hw : Region.wanted (⟨dst, op, ty, pos, aft, some (j, want)⟩ : Oper) (yielded all a.tmps) = false := by simp [Region.wanted, hy]
  simp only [wpStrict, hw]
  exact wpStrict_mono (fun a' ⟨h1, h2⟩ => ⟨by rw [h1, put_defers_eq], h2⟩) rest _ (no r oo F _ hs (ha.putD hd undef))
theorem SR.guardYP {j : Nat} {want : Bool} {t : Nat} {β : Bool} {dst : Option Tmp} {op : Op} {ty : TypeId} {pos : String} {aft : Array Edge}
    (hj : (all[j]?).bind (·.dst) = some t) (ht : T.get t = some (.bool β)) (hb : β = want)
    (yes : SR P N all (⟨dst, op, ty, pos, aft, none⟩ :: rest) ((t, .bool want) :: T) L RR) : SR P N all (⟨dst, op, ty, pos, aft, some (j, want)⟩ :: rest) T L RR := by
  subst hb
  exact fun r oo F a hs ha => (SR.guardY (T := (t, .bool β) :: T) hj (by rw [TT.get_cons, if_pos rfl]) yes) r oo F a hs (ha.know ht)
theorem SR.guardNP {j : Nat} {want : Bool} {t : Nat} {β : Bool} {dst : Option Tmp} {op : Op} {ty : TypeId} {pos : String} {aft : Array Edge}
    (hj : (all[j]?).bind (·.dst) = some t) (ht : T.get t = some (.bool β)) (hd : dstOk N dst = true) (hb : β = !want)
    (no : SR P N all rest (Sl.putD dst undef ((t, .bool (!want)) :: T)) L RR) : SR P N all (⟨dst, op, ty, pos, aft, some (j, want)⟩ :: rest) T L RR := by
  subst hb
  exact fun r oo F a hs ha => (SR.guardN (T := (t, .bool (!want)) :: T) hj (by rw [TT.get_cons, if_pos rfl]) hd no) r oo F a hs (ha.know ht)
end
def pick (l : List Oper) : List Nat → List Oper
  | [] => []
  | i :: is => match l[i]? with
    | some o => o :: pick l is
    | none => pick l is
def dstAt (l : List Oper) (i : Nat) : Option Tmp := (l[i]?).bind (·.dst)
def aftAt (l : List Oper) (i : Nat) : List Nat := match l[i]? with
  | some o => aft o
  | none => []
def looksOf (l : List Oper) (i : Nat) : List Nat := match l[i]? with
  | some o => o.looksAt l.toArray
  | none => []
def ordPre (l : List Oper) : List Nat → List Nat → Bool
  | _, [] => true
  | done, i :: is => subN (aftAt l i) done && ordPre l (i :: done) is
def allocTy : Oper → Option Nat
  | ⟨_, .alloc t, _, _, _, none⟩ => some t
  | _ => none
def allocZ (tab : List TI) (l : List Oper) (i : Nat) : Option (List Value) := match l[i]? with
  | some o => match allocTy o with
    | some t => match tget tab t with
      | some ti => some ti.zero.cells.toList
      | none => none
    | none => none
  | none => none
def zerosAt (tab : List TI) (l : List Oper) (i : Nat) : List Value := (allocZ tab l i).getD []
def clo (l : List Oper) : Nat → List Nat → List Nat
  | 0, is => is
  | n + 1, is => clo l n ((is.flatMap (aftAt l)).foldl (fun acc j => if acc.elem j then acc else j :: acc) is)
def coversN (n : Nat) (is : List Nat) : Bool := (List.range n).all fun i => is.elem i
def without (is ps : List Nat) : List Nat := is.filter fun i => !ps.elem i
section
variable {P : Program} {N : Nat} {l : List Oper} {C : World → Prop}
def YS (P : Program) (ops : Array Oper) (C : World → Prop) (o : Oper) (v : Value) (a : Act) : Prop :=
  (Region.wanted o (yielded ops a.tmps) = true ∧ ∀ w, C w → (execOp a.eval o).run P w = .ok (.value v) w) ∨ (Region.wanted o (yielded ops a.tmps) = false ∧ v = undef)
theorem put_get {a : Act} {d : Option Tmp} {v : Value} {j : Nat} (h : d ≠ some j) : (a.put d v).tmps[j]? = a.tmps[j]? := by
  cases d with
  | none => rfl
  | some d =>
    have : d ≠ j := fun e => h (by rw [e])
    simp only [Act.put]; rw [Array.getElem?_setIfInBounds_ne this]
theorem put_self {a : Act} {d : Nat} {v : Value} (h : d < a.tmps.size) : (a.put (some d) v).tmps[d]? = some v := by
  simp [Act.put, h]
theorem YS.congr {o : Oper} {v : Value} {a a' : Act} {ops : Array Oper} (hs : ∀ cs b, o.op ≠ .select cs b) (h : ∀ d ∈ o.looksAt ops, a'.tmps[d]? = a.tmps[d]?) (hy : YS P ops C o v a) : YS P ops C o v a' := by
  have he : execOp a'.eval o = execOp a.eval o := execOp_congr o hs fun x hx => by
    cases x with
    | tmp t =>
      have := h t (List.mem_append_left _ (List.mem_filterMap.2 ⟨.tmp t, by simpa using hx, rfl⟩))
      simp [Act.eval, Array.getD_eq_getD_getElem?, this]
    | const u => rfl
    | global g => rfl
    | func f => rfl
  have hw : Region.wanted o (yielded ops a'.tmps) = Region.wanted o (yielded ops a.tmps) := by
    unfold Region.wanted
    cases hg : o.guard with
    | none => rfl
    | some gw =>
      obtain ⟨g, want⟩ := gw
      have hy : yielded ops a'.tmps g = yielded ops a.tmps g := by
        unfold yielded
        cases ht : (ops[g]?).bind (·.dst) with
        | none => rfl
        | some t =>
          have := h t (by simp [Oper.looksAt, hg, ht])
          simp only [Option.bind_some, this]
      simp only [hy]
  unfold YS at *
  rw [he, hw]; exact hy
end
section
variable {P : Program} {rd : Option Nat} {ops : Array Oper} {Q : Exit → Act → World → Prop} {md : Region.Mode}
abbrev YA (P : Program) (ops : Array Oper) (o : Oper) (v : Value) (a : Act) : Prop := YS P ops (fun _ => True) o v a
theorem YA.same {o : Oper} {v : Value} {a a' : Act} (hy : YA P ops o v a) (he : execOp a'.eval o = execOp a.eval o) (hw : Region.wanted o (yielded ops a'.tmps) = Region.wanted o (yielded ops a.tmps)) : YA P ops o v a' := by
  unfold YA YS at *; rw [he, hw]; exact hy
theorem YA.wpOp {i : Nat} {o : Oper} {v : Value} {a : Act} (hn : notDefer o.op = true) (hi : ops[i]? = some o) (hy : YA P ops o v a) {K : Act → World → Prop} {w : World} (h : K (a.put o.dst v) w) : wpOpIn (FW rd) 0 P ops Q i K a w := by
  unfold wpOpIn
  simp only [hi]
  rcases hy with ⟨hw, hv⟩ | ⟨hw, rfl⟩
  · rw [if_pos hw]
    refine ⟨fun _ _ => trivial, ?_⟩
    rw [Oper.semAt_eq _ _ _ (notDefer_spec hn), hv w trivial]
    exact h
  · rw [if_neg (by rw [hw]; simp)]
    exact ⟨fun _ _ => trivial, h⟩
end
section
variable {P : Program} [tb : Tab P] {rd : Option Nat} {N : Nat} {l : List Oper} {qs als rs : List Nat}
theorem ordPre_spec : ∀ {is done : List Nat}, ordPre l done is = true → ∀ s i t, is = s ++ i :: t → ∀ j ∈ aftAt l i, j ∈ s ∨ j ∈ done
  | [], _, _, s, i, t, e, _, _ => by simp at e
  | k :: is, done, h, s, i, t, e, j, hj => by
    simp only [ordPre, Bool.and_eq_true] at h
    cases s with
    | nil =>
      simp only [List.nil_append, List.cons.injEq] at e
      obtain ⟨rfl, rfl⟩ := e
      exact .inr (subN_ok h.1 j hj)
    | cons k' s =>
      simp only [List.cons_append, List.cons.injEq] at e
      obtain ⟨rfl, rfl⟩ := e
      rcases ordPre_spec h.2 s i t rfl j hj with h' | h'
      · exact .inl (by simp [h'])
      · rcases List.mem_cons.1 h' with rfl | h'
        · exact .inl (by simp)
        · exact .inr h'
theorem foldl_mem : ∀ (js acc : List Nat) (x : Nat), x ∈ js.foldl (fun acc j => if acc.elem j then acc else j :: acc) acc → x ∈ acc ∨ x ∈ js
  | [], acc, x, h => .inl h
  | j :: js, acc, x, h => by
    simp only [List.foldl_cons] at h
    rcases foldl_mem js _ x h with h | h
    · split at h
      · exact .inl h
      · rcases List.mem_cons.1 h with rfl | h
        · exact .inr (by simp)
        · exact .inl h
    · exact .inr (by simp [h])
theorem clo_sub {p : Nat → Prop} (hc : ∀ i, p i → ∀ j ∈ aftAt l i, p j) : ∀ (n : Nat) (is : List Nat), (∀ i ∈ is, p i) → ∀ j ∈ clo l n is, p j
  | 0, is, h, j, hj => h j hj
  | n + 1, is, h, j, hj => by
    simp only [clo] at hj
    refine clo_sub hc n _ (fun i hi => ?_) j hj
    rcases foldl_mem _ _ i hi with hi | hi
    · exact h i hi
    · obtain ⟨k, hk, hki⟩ := List.mem_flatMap.1 hi
      exact hc k (h k hk) i hki
theorem aft_mem {i j : Nat} {o : Oper} (ho : l[i]? = some o) : j ∈ aftAt l i ↔ ∃ e ∈ o.after, Region.binds .any e = true ∧ e.on = j := by
  simp only [aftAt, ho, aft, List.mem_map, List.mem_filter]
  constructor
  · rintro ⟨e, ⟨he, hb⟩, rfl⟩; exact ⟨e, by simpa using he, hb, rfl⟩
  · rintro ⟨e, he, hb, rfl⟩; exact ⟨e, ⟨by simpa using he, hb⟩, rfl⟩
theorem ready_iff {i : Nat} {listed : Array Bool} (hs : listed.size = l.length) : i ∈ Region.ready .any l.toArray listed ↔ i < l.length ∧ listed.getD i false = false ∧ ∀ j ∈ aftAt l i, listed.getD j false = true := by
  rw [mem_ready]
  constructor
  · rintro ⟨h1, o, ho, h2⟩
    have hi : i < l.length := by have := (Array.getElem?_eq_some_iff.1 ho).1; simpa using this
    refine ⟨hi, (by rw [← getD_tf (by omega)]; exact h1), fun j hj => ?_⟩
    obtain ⟨e, he, hb, rfl⟩ := (aft_mem (by simpa using ho)).1 hj
    exact h2 e he hb
  · rintro ⟨hi, h1, h2⟩
    exact ⟨(by rw [getD_tf (by omega)]; exact h1), l[i], (by simp [hi]), fun e he hb => h2 _ ((aft_mem (o := l[i]) (by simp [hi])).2 ⟨e, he, hb, rfl⟩)⟩
theorem pin_swap {w : World} {r : Ro} {oo : Own} {A M : List HP} (h : St w (pin r oo :: A)) (hs : seps M r oo) : St w (big M :: A) := by
  obtain ⟨r', o', s, a, b, d, le, ⟨h1, h2⟩, hA⟩ := h
  exact ⟨r', o', s, a, b, d, le, seps_up h1 h2 hs, hA⟩
theorem pin_sat {w : World} {r : Ro} {oo : Own} {A : List HP} (h : St w (pin r oo :: A)) : Sat w r oo := by
  obtain ⟨r', o', s', a1, b1, d1, le1, ⟨h1, h2⟩, _⟩ := h
  have s2 := s'.weaken (Own.le_trans h2 (Own.le_trans (Own.le_add_left a1 b1) le1))
  exact ⟨fun i j v e => s2.ro _ _ _ (h1.le _ _ _ e), s2.val, s2.obj, fun i j v c e e' => s2.dis _ _ _ _ (h1.le _ _ _ e) e', h1.bs ▸ s2.below, fun i j c e => h1.bs ▸ s2.low i j c e, s2.pl⟩
def valOf (als : List Nat) (vals : Nat → Value) (bs : Nat → Nat) (k : Nat) : Value := if k ∈ als then .pointer (some ⟨bs k, 0, none⟩) else vals k
def mixL (tab : List TI) (l : List Oper) (listed : Array Bool) (bs : Nat → Nat) (k : Nat) : HP := if listed.getD k false = true then pts (bs k) 0 (zerosAt tab l k) else emp
structure MixInv (tab : List TI) (N : Nat) (l : List Oper) (qs als : List Nat) (vals : Nat → Value) (a0 : Act) (X : HP) (listed : Array Bool) (a : Act) (w : World) : Prop where
  lsize : listed.size = l.length
  only : ∀ i, listed.getD i false = true → i ∈ qs ++ als
  closed : ∀ i, listed.getD i false = true → ∀ j ∈ aftAt l i, listed.getD j false = true
  dfr : a.defers = a0.defers
  size : a.tmps.size = N
  mem : ∃ bs : Nat → Nat, (∀ k d, k ∈ qs ++ als → listed.getD k false = true → dstAt l k = some d → a.tmps[d]? = some (valOf als vals bs k)) ∧
    (∀ d, (∀ k ∈ qs ++ als, listed.getD k false = true → dstAt l k ≠ some d) → a.tmps[d]? = a0.tmps[d]?) ∧ St w (X :: als.map (mixL tab l listed bs))
theorem getD_set_self {listed : Array Bool} {i : Nat} (h : i < listed.size) : (listed.setIfInBounds i true).getD i false = true := by simp [h]
theorem dst_uniq : ∀ {pre : List Nat}, (pre.filterMap (dstAt l)).Nodup → ∀ i ∈ pre, ∀ j ∈ pre, ∀ d, dstAt l i = some d → dstAt l j = some d → pre.Nodup → i = j
  | [], _, i, h, _, _, _, _, _, _ => by cases h
  | k :: pre, hn, i, hi, j, hj, d, h1, h2, hnd => by
    rw [List.nodup_cons] at hnd
    have hn' : (pre.filterMap (dstAt l)).Nodup := by
      simp only [List.filterMap_cons] at hn
      split at hn
      · exact hn
      · exact (List.nodup_cons.1 hn).2
    have hk : ∀ x ∈ pre, dstAt l k = some d → dstAt l x = some d → False := fun x hx e1 e2 => by
      simp only [List.filterMap_cons, e1, List.nodup_cons] at hn
      exact hn.1 (List.mem_filterMap.2 ⟨x, hx, e2⟩)
    rcases List.mem_cons.1 hi with rfl | hi
    · rcases List.mem_cons.1 hj with rfl | hj
      · rfl
      · exact (hk j hj h1 h2).elim
    · rcases List.mem_cons.1 hj with e | hj
      · subst e; exact (hk i (by assumption) h2 h1).elim
      · exact dst_uniq hn' i hi j hj d h1 h2 hnd.2
end
end Go.Sl

set_option linter.unusedVariables false
set_option linter.unusedSectionVars false
set_option linter.unusedSimpArgs false
namespace Go.Sl
section
variable {P : Program} [tb : Tab P] {rd : Option Nat} {N : Nat} {T : TT} {L L' L1 L2 : List HP} {Q : Post} {ks : List K}
variable {all : Array Oper} {rest : List Oper} {o : Oper} {d : Option Tmp} {ty : TypeId} {pos : String} {aft : Array Edge}
variable {α : Type} {ρ : Rep α}
theorem SR.pure {v : Value} {RR : TT → List HP → Prop} (hg : o.guard = none) (h : pureOp tb.tab T o.op = some v) (hd : dstOk N o.dst = true)
    (k : SR P N all rest (putD o.dst v T) L RR) : SR P N all (o :: rest) T L RR := SR.reads (reads_pure h) hg hd (by rintro _ _ ⟨rfl, rfl⟩; exact k)
theorem SR.load {RR : TT → List HP → Prop} {x : Operand} {t b off o' : Nat} {vs : List Value} {ti : TI} (hx : evO T x = some (.pointer (some ⟨b, off, none⟩))) (htk : Take (pts b o' vs) L L')
    (ht : tget tb.tab t = some ti) (ho : Nat.ble o' off = true) (hp : packOk ti (cut vs (off - o') ti.size)) (hd : dstOk N d = true)
    (k : SR P N all rest (putD d (packV ti (cut vs (off - o') ti.size)) T) L RR) : SR P N all (⟨d, .load t x, ty, pos, aft, none⟩ :: rest) T L RR :=
  SR.reads (rd_load hx htk ht ho hp) rfl hd (by rintro _ _ ⟨rfl, rfl⟩; exact k)
theorem SR.field {RR : TT → List HP → Prop} {x : Operand} {t i off : Nat} {cs : List Value} {fs : List (Nat × Nat)} {n1 n2 : Nat} {z : Value} {tf : Nat} {ti : TI} (hx : evO T x = some (.agg cs.toArray))
    (ht : tget tb.tab t = some ⟨.st fs, n1, n2, z⟩) (hf : fs[i]? = some (off, tf)) (hti : tget tb.tab tf = some ti) (hp : packOk ti (cut cs off ti.size)) (hd : dstOk N d = true)
    (k : SR P N all rest (putD d (packV ti (cut cs off ti.size)) T) L RR) : SR P N all (⟨d, .field t x i, ty, pos, aft, none⟩ :: rest) T L RR :=
  SR.reads (rd_field hx ht hf hti hp) rfl hd (by rintro _ _ ⟨rfl, rfl⟩; exact k)
theorem SR.build {RR : TT → List HP → Prop} {t : Nat} {ps : List (Nat × Operand)} {fs : List (Nat × Nat)} {n1 n2 : Nat} {z : Value} {r : List Value}
    (ht : tget tb.tab t = some ⟨.st fs, n1, n2, z⟩) (ha : allTab tb.tab fs = true) (hb : buildV tb.tab fs T z.cells.toList ps = some r) (hd : dstOk N d = true)
    (k : SR P N all rest (putD d (.agg r.toArray) T) L RR) : SR P N all (⟨d, .build t ps.toArray, ty, pos, aft, none⟩ :: rest) T L RR :=
  SR.reads (rd_build ht ha hb) rfl hd (by rintro _ _ ⟨rfl, rfl⟩; exact k)
theorem SR.index {RR : TT → List HP → Prop} {x y : Operand} {t e : Nat} {sz n1 n2 b1 : Nat} {z z2 : Value} {ke : TK} {A : Option Addr} {n c i : Nat} {k : IntKind} {j : Int} {l : List α} (hx : evO T x = some (.slice A n c)) (hy : evO T y = some (.int k j))
    (hh : Has (slAt ρ A n l) L) (ht : tget tb.tab t = some ⟨.sl e, n1, n2, z⟩) (hte : tget tb.tab e = some ⟨ke, sz, b1, z2⟩) (hj : Int.ofNat i = j) (hd : dstOk N d = true) (hi : i < n)
    (kk : ∀ v, l[i]? = some v → SR P N all rest (putD d (.pointer (some (eadr A i sz 0))) T) L RR) : SR P N all (⟨d, .indexAddr t x y, ty, pos, aft, none⟩ :: rest) T L RR :=
  SR.reads (rd_index hx hy hh ht hte hj hi) rfl hd (by rintro _ _ ⟨rfl, rfl, u, hu⟩; exact kk u hu)
theorem SR.indexW {RR : TT → List HP → Prop} {x y : Operand} {t e : Nat} {sz n1 n2 b1 : Nat} {z z2 : Value} {ke : TK} {A : Option Addr} {n c c' i : Nat} {k : IntKind} {j : Int} {l : List α} {w' : Bool} (hx : evO T x = some (.slice A n c)) (hy : evO T y = some (.int k j))
    (hh : Take (sqAt w' ρ A n c' l) L L') (ht : tget tb.tab t = some ⟨.sl e, n1, n2, z⟩) (hte : tget tb.tab e = some ⟨ke, sz, b1, z2⟩) (hj : Int.ofNat i = j) (hd : dstOk N d = true) (hi : i < n)
    (kk : ∀ v, l[i]? = some v → SR P N all rest (putD d (.pointer (some (eadr A i sz 0))) T) L RR) : SR P N all (⟨d, .indexAddr t x y, ty, pos, aft, none⟩ :: rest) T L RR :=
  SR.reads (rd_indexW hx hy hh ht hte hj hi) rfl hd (by rintro _ _ ⟨rfl, rfl, u, hu⟩; exact kk u hu)
theorem SR.efield {RR : TT → List HP → Prop} {x : Operand} {t f : Nat} {A : Option Addr} {i sz o off tf n1 n2 s1 s2 : Nat} {z z2 : Value} {k2 : TK} {fs : List (Nat × Nat)} (hx : evO T x = some (.pointer (some (eadr A i sz o))))
    (ht : tget tb.tab t = some ⟨.st fs, n1, n2, z⟩) (hf : fs[f]? = some (off, tf)) (htf : tget tb.tab tf = some ⟨k2, s1 + 1, s2, z2⟩) (hd : dstOk N d = true)
    (kk : SR P N all rest (putD d (.pointer (some (eadr A i sz (o + off)))) T) L RR) : SR P N all (⟨d, .fieldAddr t x f, ty, pos, aft, none⟩ :: rest) T L RR :=
  SR.reads (rd_efield hx ht hf htf) rfl hd (by rintro _ _ ⟨rfl, rfl⟩; exact kk)
theorem SR.eload {RR : TT → List HP → Prop} {x : Operand} {t : Nat} {ti : TI} {A : Option Addr} {n i sz o : Nat} {l : List α} {u : α} (hx : evO T x = some (.pointer (some (eadr A i sz o)))) (hh : Has (slAt ρ A n l) L) (hu : l[i]? = some u)
    (ht : tget tb.tab t = some ti) (hsz : Nat.beq ρ.sz sz = true) (hp : ∀ h, packOk ti (cut (ρ.cells u h) o ti.size)) (hd : dstOk N d = true)
    (kk : ∀ h, SR P N all rest (putD d (packV ti (cut (ρ.cells u h) o ti.size)) T) (ρ.atoms u h ++ L) RR) : SR P N all (⟨d, .load t x, ty, pos, aft, none⟩ :: rest) T L RR :=
  SR.reads (rd_eload hx hh hu ht hsz hp) rfl hd (by rintro _ _ ⟨h, rfl, rfl⟩; exact kk h)
theorem SR.slice {RR : TT → List HP → Prop} {x : Operand} {lo hi : Option Operand} {A : Option Addr} {n c i j t e sz n1 n2 b1 : Nat} {z z2 : Value} {ke : TK} {l : List α} (hx : evO T x = some (.slice A n c)) {vl vh : Option Value} {k1 k2 : IntKind}
    (hlo : evOo T lo = some vl) (hhi : evOo T hi = some vh)
    (hh : Has (slAt ρ A n l) L) (ht : tget tb.tab t = some ⟨.sl e, n1, n2, z⟩) (hte : tget tb.tab e = some ⟨ke, sz, b1, z2⟩) (hsz : Nat.beq ρ.sz sz = true) (hd : dstOk N d = true) (hl : vl = some (.int k1 i) ∨ (vl = none ∧ i = 0)) (hv : vh = some (.int k2 j) ∨ (vh = none ∧ j = n)) (h1 : i ≤ j) (h2 : j ≤ n) (h3 : n ≤ c)
    (kk : ∀ A' c', j - i ≤ c' → SR P N all rest (putD d (.slice A' (j - i) c') T) (slAt ρ A' (j - i) ((l.drop i).take (j - i)) :: L) RR) : SR P N all (⟨d, .slice t x lo hi none, ty, pos, aft, none⟩ :: rest) T L RR :=
  SR.reads (rd_slice hx hlo hhi hh ht hte hsz hl hv h1 h2 h3) rfl hd (by rintro _ _ ⟨A', c', hc, rfl, rfl⟩; exact kk A' c' hc)
theorem SR.pure2 {v : Value} {RR : TT → List HP → Prop} (hg : o.guard = none) (h : pureOp2 tb.tab T o.op = some v) (hd : dstOk N o.dst = true)
    (k : SR P N all rest (putD o.dst v T) L RR) : SR P N all (o :: rest) T L RR := SR.reads (reads_pure2 h) hg hd (by rintro _ _ ⟨rfl, rfl⟩; exact k)
theorem SR.eloadW {RR : TT → List HP → Prop} {ty : TypeId} {pos : String} {aft : Array Edge} {d : Option Tmp} {α : Type} {ρ : Rep α} {x : Operand} {t : Nat} {ti : TI} {A : Option Addr} {n i sz : Nat} {l : List α} {u : α} (hx : evO T x = some (.pointer (some (eadr A i sz 0)))) (hh : Has (slAt ρ A n l) L) (hu : l[i]? = some u)
    (ht : tget tb.tab t = some ti) (hsz : Nat.beq ρ.sz sz = true) (hk : ti.k.agg = ρ.agg) (h2 : Nat.beq ti.size ρ.sz = true) (hd : dstOk N d = true)
    (kk : ∀ h, SR P N all rest (putD d (ρ.val u h) T) (ρ.atoms u h ++ L) RR) : SR P N all (⟨d, .load t x, ty, pos, aft, none⟩ :: rest) T L RR :=
  SR.eload hx hh hu ht hsz (fun h => (whole hk h2).2) hd (fun h => by rw [(whole hk h2).1]; exact kk h)
theorem SR.loadW {RR : TT → List HP → Prop} {ty : TypeId} {pos : String} {aft : Array Edge} {d : Option Tmp} {x : Operand} {t b off : Nat} {v : Value} {ti : TI} (hx : evO T x = some (.pointer (some ⟨b, off, none⟩))) (htk : Take (pts b off v.cells.toList) L L')
    (ht : tget tb.tab t = some ti) (h1 : ti.k.agg = true) (h2 : isAggV v = true) (h3 : Nat.beq v.cells.toList.length ti.size = true) (hd : dstOk N d = true)
    (k : SR P N all rest (putD d v T) L RR) : SR P N all (⟨d, .load t x, ty, pos, aft, none⟩ :: rest) T L RR :=
  SR.load hx htk ht (by simp) (wholeV h1 h2 h3 off).2 hd (by rw [(wholeV h1 h2 h3 off).1]; exact k)
end
section
variable {P : Program} [tb : Tab P] {rd : Option Nat} {N : Nat} {T : TT} {L L' L1 : List HP} {Q : Post} {ks : List K}
variable {all : Array Oper} {rest : List Oper} {d : Option Tmp} {ty : TypeId} {pos : String} {aft : Array Edge}
variable {κ α : Type} [DecidableEq κ] {kr : KR κ} {ρ : Rep α}
theorem SR.lookup {RR : TT → List HP → Prop} {x y : Operand} {t e kt b n1 n2 : Nat} {z0 : Value} {tik tie : TI} {l : List (κ × α)} {key : κ} {ok : Bool} (hx : evO T x = some (.map (some b))) (htk : Take (mpAt kr ρ b l) L L') (hy : evO T y = some (kr.v key))
    (ht : tget tb.tab t = some ⟨.map kt e, n1, n2, z0⟩) (hkt : tget tb.tab kt = some tik) (hkk : kr.tk P kt tik.k) (hte : tget tb.tab e = some tie) (hd : dstOk N d = true)
    (yes : ∀ u h, mget l key = some u → SR P N all rest (putD d (lookV ok (ρ.val u h) true) T) (ρ.atoms u h ++ L) RR) (no : mget l key = none → SR P N all rest (putD d (lookV ok tie.zero false) T) L RR) :
    SR P N all (⟨d, .lookup t x y ok, ty, pos, aft, none⟩ :: rest) T L RR :=
  SR.reads (rd_lookup hx htk hy ht hkt hkk hte) rfl hd (by rintro _ _ (⟨u, h, hg, rfl, rfl⟩ | ⟨hg, rfl, rfl⟩) <;> first | exact yes _ _ (by assumption) | exact no (by assumption))
end
section
variable {P : Program} [tb : Tab P] {rd : Option Nat} {N : Nat} {l : List Oper} {T : TT} {L : List HP} {Q : Post} {ks : List K} {id : Nat}
end
def noBool : Value → Bool
  | .bool _ => false
  | _ => true
theorem yield_none {all : Array Oper} {tmps : Array Value} {j t : Nat} {v : Value} (hj : (all[j]?).bind (·.dst) = some t) (ht : tmps[t]? = some v) (hv : noBool v = true) : yielded all tmps j = none := by
  simp only [yielded, hj, Option.bind_some, ht]
  cases v <;> first | (cases hv; done) | rfl
section
variable {P : Program} {rd : Option Nat} {N : Nat} {T : TT} {L : List HP} {Q : Post} {ks : List K} {all : Array Oper} {rest : List Oper} {RR : TT → List HP → Prop}
theorem SO.guardU {j : Nat} {want : Bool} {t : Nat} {v : Value} {dst : Option Tmp} {op : Op} {ty : TypeId} {pos : String} {aft : Array Edge}
    (hj : (all[j]?).bind (·.dst) = some t) (ht : T.get t = some v) (hv : noBool v = true) (hd : dstOk N dst = true)
    (no : SO P rd N all rest (putD dst undef T) L ks Q) : SO P rd N all (⟨dst, op, ty, pos, aft, some (j, want)⟩ :: rest) T L ks Q := by
  intro F a w ok
  have hy := yield_none hj (ok.get _ _ ht) hv
  have hw : Region.wanted (⟨dst, op, ty, pos, aft, some (j, want)⟩ : Oper) (yielded all a.tmps) = false := by simp [Region.wanted, hy]
  simp only [wpListIn, hw]
  exact ⟨fun _ _ => trivial, no F _ _ (ok.putD hd undef)⟩
theorem SQ.guardU {j : Nat} {want : Bool} {t : Nat} {v : Value} {dst : Option Tmp} {op : Op} {ty : TypeId} {pos : String} {aft : Array Edge}
    (hj : (all[j]?).bind (·.dst) = some t) (ht : T.get t = some v) (hv : noBool v = true) (hd : dstOk N dst = true)
    (no : SQ P N all rest (putD dst undef T) L RR) : SQ P N all (⟨dst, op, ty, pos, aft, some (j, want)⟩ :: rest) T L RR := by
  intro r oo F a hs ha
  have hy := yield_none hj (ha.2 _ _ ht) hv
  have hw : Region.wanted (⟨dst, op, ty, pos, aft, some (j, want)⟩ : Oper) (yielded all a.tmps) = false := by simp [Region.wanted, hy]
  simp only [wpQuiet, hw]
  exact wpQuiet_mono (fun a' ⟨h1, h2⟩ => ⟨by rw [h1, put_defers_eq], h2⟩) rest _ (no r oo F _ hs (ha.putD hd undef))
theorem SR.guardU {j : Nat} {want : Bool} {t : Nat} {v : Value} {dst : Option Tmp} {op : Op} {ty : TypeId} {pos : String} {aft : Array Edge}
    (hj : (all[j]?).bind (·.dst) = some t) (ht : T.get t = some v) (hv : noBool v = true) (hd : dstOk N dst = true)
    (no : SR P N all rest (putD dst undef T) L RR) : SR P N all (⟨dst, op, ty, pos, aft, some (j, want)⟩ :: rest) T L RR := by
  intro r oo F a hs ha
  have hy := yield_none hj (ha.2 _ _ ht) hv
  have hw : Region.wanted (⟨dst, op, ty, pos, aft, some (j, want)⟩ : Oper) (yielded all a.tmps) = false := by simp [Region.wanted, hy]
  simp only [wpStrict, hw]
  exact wpStrict_mono (fun a' ⟨h1, h2⟩ => ⟨by rw [h1, put_defers_eq], h2⟩) rest _ (no r oo F _ hs (ha.putD hd undef))
end
end Go.Sl

set_option linter.unusedVariables false
set_option linter.unusedSectionVars false
namespace Go.Sl
section
variable {P : Program} {rd : Option Nat} {N : Nat} {T : TT} {L L1 : List HP} {Q : Post} {ks : List K}
theorem SK.rangeI_core {α : Type} {e : Enc α} {xs : List α} {pers K0 Ke : List HP} {Kb : Nat → List HP} {f : FuncId} {caps : Array Value} (it : Iter P f caps.toList e xs pers K0 Kb Ke)
    (Y : Type) (LJ : Nat → List HP) (LX : Nat → Y → List HP) (cX : Y → Code) {fx : Operand} {ps : List Nat} {asg body : Code} (hf : evO T fx = some (.func (.func f) #[] caps)) (hp : HasAll pers L) (ho : Takes (LJ 0 ++ K0) L L1)
    (hps : ltAll N ps = true) (hlen : ∀ x h, Nat.beq (e.args x h).length ps.length = true)
    (round : ∀ (i : Nat) (x : α) (h : e.V) (l : Nat) (R : Loop), xs[i]? = some x →
      SK P (some l) N [.code asg, .inv (fun T' L' => SK P (some l) N [.code body] T' (busyA l R :: L') (roundQ l R (LJ (i + 1)) Y (LX i) cX))] (zipT ps (e.args x h) T) (e.atoms x h ++ LJ i) (fun _ _ _ => False))
    (done : SK P rd N ks T (LJ xs.length ++ (Ke ++ L1)) Q)
    (stop : ∀ (y : Y) (i : Nat), i < xs.length → SK P rd N (.code (cX y) :: ks) T (LX i y ++ (Kb i ++ L1)) Q)
    {G : HP} {a : Act} {w : World} (ok : Ok G N T L a w)
    (enter : ∀ fn, ∃ (l : Nat) (mk : List Deferred) (w1 : World) (R : Loop) (D : List Nat),
      (Instr.enterLoop fn a.tmps ps.toArray asg body rd).run P w = .ok (l, mk) w1 ∧ mk ++ a.defers = D.map mark ∧ R.params = ps.toArray ∧ R.assign = asg ∧ R.body = body ∧ R.tmps = a.tmps ∧ R.state = .ready ∧ R.pending = none ∧
      St w1 (big (G :: D.map mkA) :: ob l (.loop R) :: L)) :
    (Code.rangeFunc fx ps.toArray asg body).wpIn (FW rd) 0 P (lift G N (postK P rd N ks Q)) a w := by
  refine wpIn_rangeFunc fun fn hfn => ?_
  obtain ⟨l, mk, w1, R, D, hr, hmk, hR1, hR2, hR3, hR4, hR5, hR6, hst⟩ := enter fn
  have hkn := ok.knows
  let J : Nat → HP := fun i => big (ob l (.loop R) :: LJ i)
  let Jx : Nat → HP := fun i => ex fun y : Y => big (ob l (.loop { R with state := .done, pending := some (cX y) }) :: LX i y)
  have hit := it l J Jx (fun i x h hx => by
    have := yield_does (P := P) (N := N) (T := T) (e := e) (x := x) (h := h) (LI := LJ i) (LN := LJ (i + 1)) (LX := LX i) (cX := cX) hR1 hR2 hR3 hR4 hR5 hR6 ok.get ok.size hps (hlen x h) (round i x h l R hx)
    exact this)
  have hst1 : St w1 (big (big (G :: D.map mkA) :: L1) :: (pers ++ (J 0 :: K0))) := by
    refine hst.ent ?_
    have e1 : Ent L (pers ++ ((LJ 0 ++ K0) ++ L1)) := (hp.ent hit.hpers).trans (Ent.app ho.ent)
    refine (Ent.cons (Ent.cons e1)).trans ?_
    have e2 : Ent (ob l (.loop R) :: (pers ++ ((LJ 0 ++ K0) ++ L1))) (L1 ++ (pers ++ (J 0 :: K0))) := by
      have e3 : Ent (ob l (.loop R) :: (pers ++ ((LJ 0 ++ K0) ++ L1))) (pers ++ (ob l (.loop R) :: ((LJ 0 ++ K0) ++ L1))) := ent_of_swap
      refine e3.trans ?_
      have e4 : Ent (ob l (.loop R) :: ((LJ 0 ++ K0) ++ L1)) ((J 0 :: K0) ++ L1) := by
        rw [List.append_assoc]
        exact big_ent (A := ob l (.loop R) :: LJ 0) (L := K0 ++ L1)
      refine (Ent.app e4).trans ?_
      rw [← List.append_assoc]
      exact ent_app_comm
    refine (Ent.cons e2).trans ?_
    exact big_ent (A := big (G :: D.map mkA) :: L1)
  refine ⟨l, mk, w1, { target := .fn (.func f) caps, args := #[] ++ #[yv l] }, w1, f, #[yv l] ++ caps, w1, hr, ?_, fun _ _ => trivial, ?_, fun h => by simp [Fence.wide] at h, ?_⟩
  · simp only [resolve, hkn _ _ hf]
    simp [Act.eval, Deferred.ofValue]
  · have := hit.entry (#[yv l] ++ caps) w1
    simpa [invoke] using this
  · have hc := hit.calls _ w1 hst1
    have hargs : (yv l :: caps.toList).toArray = #[yv l] ++ caps := by cases caps; simp
    rw [hargs, ← callsIn_wide (n := 0)] at hc
    refine ⟨trivial, fun cs hroom => ?_⟩
    obtain ⟨ee, w', fr, ⟨o, ho', rfl, hs⟩, rest⟩ := hc.2 cs hroom
    refine ⟨.returned (.tuple #[]), w', fr, ?_, rest⟩
    have fin : ∀ (R' : Loop) (L' : List HP), R'.state ≠ .busy → St w' (big (big (G :: D.map mkA) :: L1) :: ob l (.loop R') :: L') →
        ∃ w4, (Instr.endLoop l).run P w' = .ok R'.pending w4 ∧ St w4 (big (G :: D.map mkA) :: (L' ++ L1)) := by
      intro R' L' hb hs
      have h1 : St w' (ob l (.loop R') :: big (big (G :: D.map mkA) :: L1) :: L') := hs.ent Ent.swap
      obtain ⟨hl, _⟩ := h1.obj
      refine ⟨_, ?_, ((h1.setObj (z := .loop { R' with state := .exhausted }) trivial).ent Ent.drop).ent ?_⟩
      · simp only [Instr.endLoop, Sem.run_bind, run_getLoop hl, Result.andThen_ok]
        have : (R'.state == LoopState.busy) = false := by cases hh : R'.state <;> simp_all
        simp only [this, Bool.false_eq_true, if_false, Sem.run_pure, Sem.run_bind, run_setLoop hl, Result.andThen_ok]
      · refine (ent_big (A := big (G :: D.map mkA) :: L1) (L := L')).trans ?_
        exact Ent.cons ent_app_comm
    cases o with
    | none =>
      have h2 : St w' (big (big (G :: D.map mkA) :: L1) :: ob l (.loop R) :: (LJ xs.length ++ Ke)) := by
        refine hs.ent (Ent.cons ?_)
        exact ent_big (A := ob l (.loop R) :: LJ xs.length) (L := Ke)
      obtain ⟨w4, hr4, hs4⟩ := fin R _ (by rw [hR5]; simp) h2
      refine ⟨none, w4, by rw [hr4, hR6], ?_⟩
      rw [List.append_assoc] at hs4
      exact ⟨T, _, ⟨ok.size, ok.get, D, by rw [← hmk], hs4⟩, done⟩
    | some i =>
      have h2 := hs.ent Ent.swap
      obtain ⟨y, h2⟩ := St.ex h2
      have h3 : St w' (big (big (G :: D.map mkA) :: L1) :: ob l (.loop { R with state := .done, pending := some (cX y) }) :: (LX i y ++ Kb i)) := by
        refine (h2.ent Ent.swap).ent (Ent.cons ?_)
        exact ent_big (A := ob l (.loop { R with state := .done, pending := some (cX y) }) :: LX i y) (L := Kb i)
      obtain ⟨w4, hr4, hs4⟩ := fin _ _ (by simp) h3
      refine ⟨some (cX y), w4, hr4, ?_⟩
      rw [List.append_assoc] at hs4
      exact (SK_code.1 (stop y i (ho' i rfl))) G _ w4 ⟨ok.size, ok.get, D, by rw [← hmk], hs4⟩
theorem SK.rangeI {α : Type} {e : Enc α} {xs : List α} {pers K0 Ke : List HP} {Kb : Nat → List HP} {f : FuncId} {caps : Array Value} (it : Iter P f caps.toList e xs pers K0 Kb Ke)
    (Y : Type) (LJ : Nat → List HP) (LX : Nat → Y → List HP) (cX : Y → Code) {fx : Operand} {ps : List Nat} {asg body : Code} (hf : evO T fx = some (.func (.func f) #[] caps)) (hp : HasAll pers L) (ho : Takes (LJ 0 ++ K0) L L1)
    (hps : ltAll N ps = true) (hlen : ∀ x h, Nat.beq (e.args x h).length ps.length = true)
    (round : ∀ (i : Nat) (x : α) (h : e.V) (l : Nat) (R : Loop), xs[i]? = some x →
      SK P (some l) N [.code asg, .inv (fun T' L' => SK P (some l) N [.code body] T' (busyA l R :: L') (roundQ l R (LJ (i + 1)) Y (LX i) cX))] (zipT ps (e.args x h) T) (e.atoms x h ++ LJ i) (fun _ _ _ => False))
    (done : SK P none N ks T (LJ xs.length ++ (Ke ++ L1)) Q)
    (stop : ∀ (y : Y) (i : Nat), i < xs.length → SK P none N (.code (cX y) :: ks) T (LX i y ++ (Kb i ++ L1)) Q) :
    SK P none N (.code (.rangeFunc fx ps.toArray asg body) :: ks) T L Q := by
  rw [SK_code]
  intro G a w ok
  refine SK.rangeI_core it Y LJ LX cX hf hp ho hps hlen round done stop ok fun fn => ?_
  obtain ⟨D, hD, hm⟩ := ok.mem
  have h1 := hm.allocObj (.deferred (some [])) trivial
  have h2 := h1.allocObj (.loop { state := .ready, pending := none, fn := fn, tmps := a.tmps, params := ps.toArray, assign := asg, body := body, defers := w.heap.size }) trivial
  refine ⟨_, _, _, { state := .ready, pending := none, fn := fn, tmps := a.tmps, params := ps.toArray, assign := asg, body := body, defers := w.heap.size }, w.heap.size :: D, by simp only [Instr.enterLoop, newObj, bind, Sem.bind, Sem.run, pure]; rfl, ?_, rfl, rfl, rfl, rfl, rfl, rfl, h2.ent ?_⟩
  · rw [hD]; rfl
  ·
    refine Ent.swap.trans ?_
    have : Ent (ob w.heap.size (.deferred (some [])) :: big (G :: D.map mkA) :: L) (big (G :: (w.heap.size :: D).map mkA) :: L) := by
      refine (Ent.cons ent_big).trans ?_
      show Ent (mkA w.heap.size :: G :: (D.map mkA ++ L)) _
      refine Ent.swap.trans ?_
      exact big_ent (A := G :: (w.heap.size :: D).map mkA)
    refine (Ent.cons (Ent.refl _)).trans ?_
    refine Ent.swap.trans ?_
    refine (Ent.cons this).trans Ent.swap
end
end Go.Sl

set_option linter.unusedVariables false
namespace Go.Sl
def RK (k : IntKind) : Rep Int where
  V := Unit
  sz := 1
  agg := false
  cells := fun x _ => [.int k x]
  atoms := fun _ _ => []
  len := fun _ _ => rfl
  pers := fun _ _ _ h => by cases h
  pos := by decide
  sc := fun _ => rfl
  one := fun _ _ v h => by simp at h; subst h; rfl
  wit := fun _ h => h ()
abbrev RI : Rep Int := RK .i64
abbrev RU : Rep Int := RK .u8
def RB : Rep Bool where
  V := Unit
  sz := 1
  agg := false
  cells := fun x _ => [.bool x]
  atoms := fun _ _ => []
  len := fun _ _ => rfl
  pers := fun _ _ _ h => by cases h
  pos := by decide
  sc := fun _ => rfl
  one := fun _ _ v h => by simp at h; subst h; rfl
  wit := fun _ h => h ()
def RS : Rep ByteArray where
  V := Unit
  sz := 1
  agg := false
  cells := fun x _ => [.string x]
  atoms := fun _ _ => []
  len := fun _ _ => rfl
  pers := fun _ _ _ h => by cases h
  pos := by decide
  sc := fun _ => rfl
  one := fun _ _ v h => by simp at h; subst h; rfl
  wit := fun _ h => h ()
abbrev Pl := Option Addr × Nat
structure Rc where
  site : Int
  seq : Int
  dep : List Int
  key : ByteArray
  val : ByteArray
  deriving DecidableEq
def RRec : Rep Rc where
  V := Pl
  sz := 5
  agg := true
  cells := fun e h => [.int .i64 e.site, .int .i64 e.seq, .slice h.1 e.dep.length h.2, .string e.key, .string e.val]
  atoms := fun e h => [slAt RI h.1 e.dep.length e.dep, pr (e.dep.length ≤ h.2)]
  len := fun _ _ => rfl
  pers := fun e h A hA => by
    simp only [List.mem_cons, List.mem_nil_iff, or_false] at hA
    rcases hA with rfl | rfl
    · exact pers_slAt _ _ _ _
    · exact pers_pr _
  pos := by decide
  sc := fun h => by cases h
  one := fun _ _ v h => by
    simp only [List.mem_cons, List.mem_nil_iff, or_false] at h
    rcases h with rfl | rfl | rfl | rfl | rfl <;> rfl
  wit := fun _ h => h (none, 0)
def bE : ByteArray := ⟨#[]⟩
def rc0 : Rc := ⟨0, 0, [], bE, bE⟩
instance : Triv (pr (([] : List Int).length ≤ 0)) := ⟨fun _ _ => Nat.le_refl 0⟩
theorem Has.pr {p : Prop} {L : List HP} (h : p) : Has (Sl.pr p) L := @Has.triv _ _ ⟨fun _ _ => h⟩
theorem wrap_id {n : Int} (h1 : -9223372036854775808 ≤ n) (h2 : n < 9223372036854775808) : IntKind.i64.wrap n = n := by
  simp only [IntKind.wrap, IntKind.bits, IntKind.signed]; simp; omega
theorem wrap_nat {i : Nat} (h : i < lim) : IntKind.i64.wrap ((i : Int) + 1) = ((i + 1 : Nat) : Int) := by
  have : (i : Int) < 2147483648 := by unfold lim at h; omega
  rw [wrap_id (by omega) (by omega)]; omega
def getI (l : List Int) (i : Int) : Int := if i < 0 then 0 else l.getD i.toNat 0
def vecBad : List Int → Int
  | [] => 0
  | x :: xs => if x < 0 then 1 else if 1048576 < x then 4 else vecBad xs
def checkV (l : List Int) (m : Int) : Int := if m < 1 ∨ 8 < m then 1 else if m < l.length then 4 else vecBad l
def nzF : Nat → List Int → List (Nat × Int)
  | _, [] => []
  | i, x :: xs => if x = 0 then nzF (i + 1) xs else (i, x) :: nzF (i + 1) xs
theorem nzF_app : ∀ (a b : List Int) (i : Nat), nzF i (a ++ b) = nzF i a ++ nzF (i + a.length) b
  | [], b, i => by simp [nzF]
  | x :: a, b, i => by
    simp only [List.cons_append, nzF, nzF_app a b (i + 1), List.length_cons]
    rw [show i + 1 + a.length = i + (a.length + 1) by omega]
    split <;> rfl
theorem nzF_take {l : List Int} {i : Nat} {x : Int} (h : l[i]? = some x) : nzF 0 (l.take (i + 1)) = nzF 0 (l.take i) ++ nzF i [x] := by
  have hl : i < l.length := (List.getElem?_eq_some_iff.1 h).1
  have : l.take (i + 1) = l.take i ++ [x] := by rw [List.take_add_one, h]; rfl
  rw [this, nzF_app, List.length_take, Nat.min_eq_left (by omega), Nat.zero_add]
theorem nzF_get {l : List Int} {i : Nat} {x : Int} (h : l[i]? = some x) (hs : x ≠ 0) : (nzF 0 l)[(nzF 0 (l.take i)).length]? = some (i, x) := by
  have hl : i < l.length := (List.getElem?_eq_some_iff.1 h).1
  have e : l = l.take i ++ l.drop i := by simp
  have d : l.drop i = x :: l.drop (i + 1) := by rw [List.drop_eq_getElem_cons hl]; congr 1; exact (List.getElem?_eq_some_iff.1 h).2
  have : nzF 0 l = nzF 0 (l.take i) ++ nzF i (l.drop i) := by
    conv => lhs; rw [e]
    rw [nzF_app, List.length_take, Nat.min_eq_left (by omega), Nat.zero_add]
  rw [this, List.getElem?_append_right (Nat.le_refl _), Nat.sub_self, d, nzF, if_neg hs]
  rfl
def badNz : List (Nat × Int) → Int
  | [] => 0
  | (_, x) :: xs => if x < 0 then 1 else if 1048576 < x then 4 else badNz xs
theorem bad_nz : ∀ (l : List Int) (i : Nat), badNz (nzF i l) = vecBad l
  | [], _ => rfl
  | x :: xs, i => by
    simp only [nzF, vecBad]
    by_cases h : x = 0
    · subst h; simp [bad_nz xs]
    · rw [if_neg h]; simp only [badNz, bad_nz xs]
theorem badNz_take : ∀ (xs : List (Nat × Int)) (i : Nat), badNz (xs.take i) = 0 → ∀ p, xs[i]? = some p → badNz xs = if p.2 < 0 then 1 else if 1048576 < p.2 then 4 else badNz (xs.drop (i + 1))
  | [], i, _, p, h => by simp at h
  | (j, x) :: xs, 0, _, p, h => by simp at h; subst h; simp [badNz]
  | (j, x) :: xs, i + 1, h0, p, h => by
    simp only [List.take_succ_cons, badNz] at h0
    simp only [badNz]
    by_cases h1 : x < 0
    · simp [h1] at h0
    · by_cases h2 : 1048576 < x
      · simp [h1, h2] at h0
      · simp only [h1, h2, if_false] at h0 ⊢
        have := badNz_take xs i h0 p (by simpa using h)
        simpa using this
theorem badNz_step {xs : List (Nat × Int)} {i : Nat} {p : Nat × Int} (h : xs[i]? = some p) (h0 : badNz (xs.take i) = 0) (h1 : ¬ p.2 < 0) (h2 : ¬ 1048576 < p.2) : badNz (xs.take (i + 1)) = 0 := by
  have e : (xs.take (i + 1))[i]? = some p := by rw [List.getElem?_take_of_lt (by omega)]; exact h
  have h3 : (xs.take (i + 1)).take i = xs.take i := by rw [List.take_take, Nat.min_eq_left (by omega)]
  have := badNz_take (xs.take (i + 1)) i (by rw [h3]; exact h0) p e
  rw [this, if_neg h1, if_neg h2]
  have : (xs.take (i + 1)).drop (i + 1) = [] := by simp
  rw [this]; rfl
def ENz : Enc (Nat × Int) where
  V := Unit
  args := fun x _ => [.int .i64 (x.1 : Int), .int .i64 x.2]
  atoms := fun _ _ => []
  pers := fun _ _ _ h => by cases h
end Go.Sl

set_option linter.unusedVariables false
set_option linter.unusedSectionVars false
set_option linter.unusedSimpArgs false
namespace Go.Sl
theorem St.allocF {w : World} {L : List HP} (h : St w L) (cs : Array Value) (t : TypeId) (lo hi : Nat) (hlo : cs.size ≤ lo) : St { w with heap := w.heap.push (.cells cs t (lo, hi)) } (pts w.heap.size 0 cs.toList :: L) := by
  obtain ⟨r, o, s, hL⟩ := h
  obtain ⟨n1, n2⟩ := sat_new s
  let x : Own := fun i j => if i = w.heap.size then (cs.toList[j]?).map .val else none
  have dx : x.disj o := fun i j => by
    by_cases hi : i = w.heap.size
    · right
      subst hi
      cases ho : o w.heap.size j with
      | none => rfl
      | some c => exact (n1 _ _ ho).elim
    · left; simp [x, hi]
  have s' := sat_push s (.cells cs t (lo, hi))
  have hself : ({ w with heap := w.heap.push (.cells cs t (lo, hi)) } : World).heap[w.heap.size]? = some (.cells cs t (lo, hi)) := by simp
  have hlow : ∀ k l c, x.add o k l = some c → r.bs.heap.size ≤ k := fun k l c e => by
    rcases Own.add_cases e with e | e
    · simp only [x] at e
      split at e
      · rename_i hk; rw [hk]; exact s.below.size
      · cases e
    · exact s.low _ _ _ e
  refine ⟨r, x.add o, ⟨s'.ro, fun i j v e => ?_, fun i j z e => ?_, fun i j v c e e' => ?_, s'.below, hlow, fun i j e => ?_⟩, x, o, dx, Own.le_refl _, ?_, hL⟩
  · rcases Own.add_cases e with e | e
    · by_cases hi' : i = w.heap.size
      · subst hi'
        simp only [x, if_true, Option.map_eq_some_iff] at e
        obtain ⟨u, hu, e⟩ := e
        cases e
        have hj := row_lt hu
        refine ⟨?_, ?_⟩
        · unfold World.cell?; simp only [hself]; simpa using hu
        · unfold World.frozen?; simp only [hself]
          simp at hj
          have : ¬ lo ≤ j := by omega
          simp [this]
      · simp [x, hi'] at e
    · exact s'.val _ _ _ e
  · rcases Own.add_cases e with e | e
    · simp only [x] at e
      split at e
      · simp only [Option.map_eq_some_iff] at e
        obtain ⟨u, hu, e⟩ := e; cases e
      · simp at e
    · exact s'.obj _ _ _ e
  · rcases Own.add_cases e' with e' | e'
    · by_cases hi' : i = w.heap.size
      · subst hi'; exact n2 _ _ e
      · simp [x, hi'] at e'
    · exact s.dis _ _ _ _ e e'
  · rcases Own.add_cases e with e | e
    · simp only [x] at e
      split at e
      · simp only [Option.map_eq_some_iff] at e
        obtain ⟨u, hu, e⟩ := e; cases e
      · simp at e
    · exact s'.pl _ _ e
  · intro i v hv
    simp only [x, if_true, Nat.zero_add, hv, Option.map_some]
def bytesI (s : ByteArray) : List Int := s.data.toList.map fun b => (b.toNat : Int)
theorem bytesI_len (s : ByteArray) : (bytesI s).length = s.size := (List.length_map _).trans Array.length_toList
section
variable {P : Program} [tb : Tab P] {rd : Option Nat} {N : Nat} {T : TT} {L L' L1 : List HP} {Q : Post} {ks : List K}
variable {all : Array Oper} {rest : List Oper} {d : Option Tmp} {ty : TypeId} {pos : String} {aft : Array Edge}
theorem SO.bytesOf {x : Operand} {t t2 e n1 n2 n3 n4 n5 n6 : Nat} {z0 z1 z2 : Value} {s : ByteArray} (hx : evO T x = some (.string s)) (ht : tget tb.tab t = some ⟨.str, n1, n2, z0⟩) (ht2 : tget tb.tab t2 = some ⟨.sl e, n3, n4, z1⟩) (hte : tget tb.tab e = some ⟨.int .u8, n5, n6, z2⟩)
    (hs : s.size ≤ lim) (hd : dstOk N d = true) (kk : ∀ b c, s.size ≤ c → SO P rd N all rest (putD d (.slice (some ⟨b, 0, none⟩) s.size c) T) (sqAt true RU (some ⟨b, 0, none⟩) s.size c (bytesI s) :: L) ks Q) :
    SO P rd N all (⟨d, .convert t t2 x, ty, pos, aft, none⟩ :: rest) T L ks Q := by
  refine SO.run (R := fun v L2 => ∃ b c, s.size ≤ c ∧ v = .slice (some ⟨b, 0, none⟩) s.size c ∧ L2 = sqAt true RU (some ⟨b, 0, none⟩) s.size c (bytesI s) :: L) rfl rfl hd ?_ (by rintro _ _ ⟨b, c, hc, rfl, rfl⟩; exact kk b c hc)
  intro q hq F w hst
  have h1 := (tab_ok ht).k
  have h2 := (tab_ok ht2).k
  have h3 := (tab_ok hte).k
  simp only [TK.ok] at h1 h2 h3
  have hrun := run_bytes_of_string w t t2 e s h1 h2 h3
  have hcap : s.size ≤ grownCap w s.size 0 e := by
    simp only [grownCap, Question.cut]; omega
  have hst2 := (hst.drew (w.drawn + 1)).allocF (bytesRow s (grownCap w s.size 0 e)) e (bytesRow s (grownCap w s.size 0 e)).size ((bytesRow s (grownCap w s.size 0 e)).size + 1) (Nat.le_refl _)
  refine ⟨_, _, _, .inl ?_, ⟨w.heap.size, grownCap w s.size 0 e, hcap, rfl, rfl⟩, hst2.ent ?_⟩
  · simp only [execOp, hq _ _ hx, Sem.run_bind, hrun, Result.andThen_ok]
    rfl
  · have hl : (bytesRow s (grownCap w s.size 0 e)).toList = flat RU ((bytesI s).map fun v => (v, ())) ++ List.replicate (grownCap w s.size 0 e - s.size) (.int .u8 0) := by
      have : ∀ (l : List UInt8), flat RU ((l.map fun b => (b.toNat : Int)).map fun v => (v, ())) = l.map fun b => Value.int .u8 b.toNat := by
        intro l
        induction l with
        | nil => rfl
        | cons b l ih => simp only [List.map_cons, flat, ih]; rfl
      unfold bytesI
      rw [this]
      unfold bytesRow
      rw [Array.toList_append, Array.toList_map, Array.toList_replicate]
    rw [hl]
    refine (pts_split).trans ?_
    have hfl : (flat RU ((bytesI s).map fun v => (v, ()))).length = s.size * 1 := by
      rw [flat_length, List.length_map, bytesI_len]; rfl
    rw [hfl]
    have hm : ∀ (M : List HP), Ent M (memA RU ((bytesI s).map fun v => (v, ())) :: M) := fun M r o h => ⟨own0, o, fun _ _ => .inl rfl, none_add, fun i u y e => trivial, h⟩
    refine (Ent.cons (Ent.cons (hm _))).trans ?_
    exact (sq_shut (w := true) (ρ := RU) (a := ⟨w.heap.size, 0, none⟩) (l := bytesI s) (bytesI_len s).symm hs hcap rfl (by rw [List.map_map]; exact List.map_id _) (by rw [List.length_replicate]; exact (Nat.mul_one _).symm)).trans Ent.swap
theorem SO.bytesOfR {x : Operand} {t t2 e n1 n2 n3 n4 n5 n6 : Nat} {z0 z1 z2 : Value} {s : ByteArray} (hx : evO T x = some (.string s)) (ht : tget tb.tab t = some ⟨.str, n1, n2, z0⟩) (ht2 : tget tb.tab t2 = some ⟨.sl e, n3, n4, z1⟩) (hte : tget tb.tab e = some ⟨.int .u8, n5, n6, z2⟩)
    (hs : s.size ≤ lim) (hd : dstOk N d = true) (kk : ∀ b c, s.size ≤ c → SO P rd N all rest (putD d (.slice (some ⟨b, 0, none⟩) s.size c) T) (slAt RU (some ⟨b, 0, none⟩) s.size (bytesI s) :: L) ks Q) :
    SO P rd N all (⟨d, .convert t t2 x, ty, pos, aft, none⟩ :: rest) T L ks Q :=
  SO.bytesOf hx ht ht2 hte hs hd fun b c hc => SO.shift (fun F w hst => ((((hst.ent Ent.swap).shut).ent (sl_of_sq.trans (Ent.cons Ent.drop))).ent Ent.swap)) (kk b c hc)
end
end Go.Sl

set_option linter.unusedVariables false
set_option linter.unusedSectionVars false
namespace Go.Sl
open Go.RowKit
theorem Sat.grow {w w' : World} {r : Ro} {o : Own} (s : Sat w r o) (hb : Below w.heap.size w w') : Sat w' r o := by
  have hlt : ∀ {i j v}, w.cell? ⟨i, j, none⟩ = some v → i < w.heap.size := fun {i j v} h => by
    obtain ⟨c, e, f, hh, _⟩ := cell_block h
    exact (Array.getElem?_eq_some_iff.1 hh).1
  refine ⟨fun i j v e => ?_, fun i j v e => ?_, fun i j x e => ?_, s.dis, s.below.trans (hb.mono s.below.size), s.low, fun i j e => ?_⟩
  · have := s.ro i j v e
    rw [hb.cell (p := ⟨i, j, none⟩) (hlt this)]; exact this
  · obtain ⟨h1, h2⟩ := s.val i j v e
    have := hlt h1
    exact ⟨by rw [hb.cell (p := ⟨i, j, none⟩) this]; exact h1, by rw [hb.frozen (p := ⟨i, j, none⟩) this]; exact h2⟩
  · obtain ⟨h0, h1, h2⟩ := s.obj i j x e
    exact ⟨h0, by rw [hb.block i (Array.getElem?_eq_some_iff.1 h1).1]; exact h1, h2⟩
  · obtain ⟨c, t, f, h1, h2, h3⟩ := s.pl i j e
    have hi := (Array.getElem?_eq_some_iff.1 h1).1
    exact ⟨c, t, f, by rw [hb.block i hi]; exact h1, h2, by rw [hb.frozen (p := ⟨i, j, none⟩) hi]; exact h3⟩
theorem St.grow {w w' : World} {L : List HP} (h : St w L) (hb : Below w.heap.size w w') : St w' L :=
  let ⟨r, o, s, x⟩ := h
  ⟨r, o, s.grow hb, x⟩
def start (p : World → Prop) : HP := ⟨fun r _ => p r.bs, fun r r' o o' hr _ h => by rw [hr.bs]; exact h⟩
theorem pers_start (p : World → Prop) : Pers (start p) := fun _ _ h => h
def tabsP (g3 g4 : Nat) (w : World) : Prop := Lib.Utf8Tabs g3 g4 w ∧ g3 < w.heap.size ∧ g4 < w.heap.size
def tabs (g3 g4 : Nat) : HP := start (tabsP g3 g4)
theorem pers_tabs (g3 g4 : Nat) : Pers (tabs g3 g4) := pers_start _
theorem tabs_at {g3 g4 : Nat} {w : World} {L : List HP} (h : St w (tabs g3 g4 :: L)) : Lib.Utf8Tabs g3 g4 w := by
  obtain ⟨r, o, s, a, b, d, le, ⟨⟨h1, h2⟩, h3, h4⟩, hL⟩ := h
  have hc : ∀ g c, g < r.bs.heap.size → w.cell? ⟨g, c, none⟩ = r.bs.cell? ⟨g, c, none⟩ := fun g c hg => s.below.cell (p := ⟨g, c, none⟩) hg
  exact ⟨fun c hc' => by rw [hc g3 c h3]; exact h1 c hc', fun i hi => by rw [hc g4 _ h4, hc g4 _ h4]; exact h2 i hi⟩
theorem Does.ofCalls {P : Program} {f : FuncId} {args : List Value} {pers : List HP} {v : Value} (he : ∀ vs w, (callFunc f vs).run P w = .ok (.enter f vs) w) (hp : ∀ A ∈ pers, Pers A)
    (h : ∀ F w, St w (F :: pers) → Calls P f args.toArray w fun e w' => e = .returned v ∧ Below w.heap.size w w') : Does P f args pers [] Unit (fun _ => True) (fun _ => v) (fun _ => []) :=
  ⟨he, hp, fun F w hst => by
    rw [List.append_nil] at hst
    refine (h F w hst).mono ?_
    rintro e w' ⟨rfl, hb⟩
    exact ⟨(), trivial, rfl, (hst.grow hb).ent (Ent.cons ent_nil)⟩⟩
theorem Does.grows {P : Program} {g : Nat} {lb : List Value} {p : Nat → Bool} (h : ∀ x : Nat, x ≤ 1114111 → Does P g (.int .i32 (x : Int) :: lb) [] [] Unit (fun _ => True) (fun _ => .bool (p x)) (fun _ => [])) (w : World) : Go.Proofs.PredGrows P g lb.toArray p w := by
  intro W x hx _
  have := (h x hx).law W (fun A hA => by cases hA)
  have e : #[Go.Proofs.encR x] ++ lb.toArray = (Value.int .i32 (x : Int) :: lb).toArray := by
    simp [Go.Proofs.encR]
  rw [e]; exact this
end Go.Sl

set_option linter.unusedVariables false
namespace Go.Sl
theorem Does.pers' {P : Program} {f : FuncId} {args : List Value} {pers pers' own : List HP} {X : Type} {ok : X → Prop} {ret : X → Value} {out : X → List HP} (h : Does P f args pers own X ok ret out) (hp : ∀ A ∈ pers', Pers A) (ha : HasAll pers pers') : Does P f args pers' own X ok ret out :=
  ⟨h.entry, hp, fun F w hst => h.calls F w (hst.ent (Ent.cons (by
    have h1 : Ent pers' (pers ++ pers') := ha.ent h.hpers
    have h2 : Ent (pers' ++ own) ((pers ++ pers') ++ own) := (ent_app_comm.trans (Ent.app h1)).trans ent_app_comm
    refine h2.trans ?_
    rw [List.append_assoc]
    refine Ent.app ?_
    have : ∀ (A B : List HP), Ent (A ++ B) B := by
      intro A B
      induction A with
      | nil => exact Ent.refl _
      | cons a A ih => exact Ent.drop.trans ih
    exact this _ _)))⟩
end Go.Sl

set_option linter.unusedVariables false
namespace Go.Sl
open Go.ChangeShapes Go.WideShapes Go.RowKit
theorem rd_u8 {H : Type} {enc : TypeId × Value → H} {P : Program} {W : World} {t : TypeId} (ht : P.underlying t = some (.int .u8)) : Rd enc P W t RU (fun n => 0 ≤ n ∧ n ≤ 255) := fun fuel cs x h => by
  obtain ⟨n, rfl, _, hw⟩ := DataW.trod_int ht h
  exact ⟨n, (), bounds_u8 hw, rfl, trivial⟩
end Go.Sl

set_option linter.unusedVariables false
set_option linter.unusedSimpArgs false
namespace Go.Sl
abbrev Tx := List UInt8
def isDig (b : UInt8) : Bool := decide (48 ≤ b.toNat) && decide (b.toNat ≤ 57)
def canD (l : Tx) : Bool := match l with
  | [] => false
  | b :: r => (b :: r).all isDig && (!decide (b = 48) || r.isEmpty)
def stepV (a : Nat) (b : UInt8) : Nat := 10 * a + (b.toNat - 48)
def valF (a : Nat) (l : Tx) : Nat := l.foldl stepV a
def valD (l : Tx) : Nat := valF 0 l
theorem stepV_le (a : Nat) (b : UInt8) : a ≤ stepV a b := by unfold stepV; omega
theorem valF_mono (l : Tx) : ∀ a : Nat, a ≤ valF a l := by
  induction l with
  | nil => exact fun a => Nat.le_refl a
  | cons b r ih => exact fun a => Nat.le_trans (stepV_le a b) (ih (stepV a b))
theorem valF_app (l m : Tx) (a : Nat) : valF a (l ++ m) = valF (valF a l) m := by
  unfold valF; rw [List.foldl_append]
def bef (c : UInt8) (l : Tx) : Tx := l.takeWhile fun b => !decide (b = c)
def behd (c : UInt8) (l : Tx) : Tx := (l.dropWhile fun b => !decide (b = c)).drop 1
def hasC (c : UInt8) (l : Tx) : Bool := l.any fun b => decide (b = c)
theorem bef_aft {c : UInt8} : ∀ {l : Tx}, hasC c l = true → l = bef c l ++ c :: behd c l
  | [], h => by cases h
  | b :: l, h => by
    unfold hasC at h
    simp only [List.any_cons, Bool.or_eq_true, decide_eq_true_eq] at h
    unfold bef behd
    by_cases hb : b = c
    · subst hb; simp
    · have hl : hasC c l = true := by
        rcases h with h | h
        · exact absurd h hb
        · exact h
      have ih := bef_aft hl
      unfold bef behd at ih
      simp only [List.takeWhile_cons, List.dropWhile_cons, hb, decide_false, Bool.not_false, if_true, List.cons_append]
      rw [← ih]
theorem bef_no {c : UInt8} {l : Tx} : hasC c (bef c l) = false := by
  unfold hasC bef
  rw [Bool.eq_false_iff]
  intro h
  obtain ⟨b, hb, he⟩ := List.any_eq_true.1 h
  have := List.all_eq_true.1 (List.all_takeWhile (l := l) (p := fun b => !decide (b = c))) b hb
  simp at this he
  exact this he
theorem bef_app {c : UInt8} : ∀ {a m : Tx}, hasC c a = false → bef c (a ++ c :: m) = a ∧ behd c (a ++ c :: m) = m
  | [], m, _ => by simp [bef, behd]
  | b :: a, m, h => by
    unfold hasC at h
    simp only [List.any_cons, Bool.or_eq_false_iff, decide_eq_false_iff_not] at h
    obtain ⟨h1, h2⟩ := bef_app (c := c) (a := a) (m := m) h.2
    unfold bef at h1 ⊢; unfold behd at h2 ⊢
    simp only [List.cons_append, List.takeWhile_cons, List.dropWhile_cons, h.1, decide_false, Bool.not_false, if_true]
    exact ⟨by rw [h1], h2⟩
def partsC (c : UInt8) : Tx → List Tx
  | [] => [[]]
  | b :: l => if b = c then [] :: partsC c l else match partsC c l with
    | p :: ps => (b :: p) :: ps
    | [] => [[b]]
theorem partsC_ne (c : UInt8) : ∀ l, partsC c l ≠ []
  | [] => by simp [partsC]
  | b :: l => by
    simp only [partsC]
    split
    · simp
    · split <;> simp
end Go.Sl

set_option linter.unusedVariables false
set_option linter.unusedSimpArgs false
namespace Go.Sl
open Go.Lib
def nameR (x : Nat) : Bool := (decide (97 ≤ x) && decide (x ≤ 122)) || (decide (48 ≤ x) && decide (x ≤ 57))
theorem nameR_lt {x : Nat} (h : nameR x = true) : x < 128 := by
  simp [nameR] at h; omega
def nameOk (s : ByteArray) : Bool := s.data.toList.all fun b => nameR b.toNat
theorem decode_small {s : ByteArray} {i : Nat} (h : (Utf8.decode s i).1 < 128) : Utf8.decode s i = ((s.get! i).toNat, 1) := by
  unfold Utf8.decode at h ⊢
  simp only [Nat.add_zero] at h ⊢
  split at h
  · rename_i h0; rw [if_pos h0]
  · exfalso
    split at h
    · split at h
      · rename_i hc; simp only at h hc; omega
      · simp [Utf8.runeError] at h
    · split at h
      · split at h
        · rename_i hc; simp only [Bool.and_eq_true, decide_eq_true_eq] at h hc; omega
        · simp [Utf8.runeError] at h
      · split at h
        · split at h
          · rename_i hc; simp only [Bool.and_eq_true, decide_eq_true_eq] at h hc; omega
          · simp [Utf8.runeError] at h
        · simp [Utf8.runeError] at h
theorem decode_byte {s : ByteArray} {i : Nat} (h : (s.get! i).toNat < 128) : Utf8.decode s i = ((s.get! i).toNat, 1) := by
  unfold Utf8.decode
  simp only [Nat.add_zero]
  rw [if_pos h]
theorem name_decode (s : ByteArray) (i : Nat) : nameR (Utf8.decode s i).1 = nameR (s.get! i).toNat := by
  by_cases h : (s.get! i).toNat < 128
  · rw [decode_byte h]
  · have h1 : nameR (s.get! i).toNat = false := by
      cases hb : nameR (s.get! i).toNat with
      | false => rfl
      | true => exact absurd (nameR_lt hb) h
    rw [h1]
    cases hb : nameR (Utf8.decode s i).1 with
    | false => rfl
    | true =>
      have := decode_small (nameR_lt hb)
      rw [this] at hb
      exact absurd (nameR_lt hb) h
theorem len_data (s : ByteArray) : s.data.toList.length = s.size := Array.length_toList
theorem get_data (s : ByteArray) (i : Nat) : s.get! i = s.data.toList.getD i 0 := by
  show s.data[i]! = _
  simp [Array.getElem!_eq_getD, Array.getD_eq_getD_getElem?, List.getD, default]
theorem left_none (s : ByteArray) : ∀ (f pos : Nat), s.size ≤ pos + f → (idxFuncFrom nameR false s f pos = -1 ↔ ∀ k, pos ≤ k → k < s.size → nameR (s.get! k).toNat = true)
  | 0, pos, h => ⟨fun _ k h1 h2 => by omega, fun _ => rfl⟩
  | f + 1, pos, h => by
    unfold idxFuncFrom
    by_cases hp : pos < s.size
    · rw [if_pos hp]
      cases hn : nameR (Utf8.decode s pos).1 with
      | false =>
        rw [if_pos rfl]
        refine ⟨fun h => by omega, fun h => ?_⟩
        have := h pos (Nat.le_refl _) hp
        rw [← name_decode, hn] at this; cases this
      | true =>
        rw [if_neg (by simp)]
        have hd := decode_small (nameR_lt hn)
        rw [hd]
        have ih := left_none s f (pos + 1) (by omega)
        show idxFuncFrom nameR false s f (pos + 1) = -1 ↔ _
        rw [ih]
        refine ⟨fun h k h1 h2 => ?_, fun h k h1 h2 => h k (by omega) h2⟩
        rcases Nat.lt_or_ge pos k with h3 | h3
        · exact h k h3 h2
        · have : k = pos := by omega
          subst this
          rw [name_decode] at hn; exact hn
    · rw [if_neg hp]
      exact ⟨fun _ k h1 h2 => by omega, fun _ => rfl⟩
theorem left_at (s : ByteArray) : ∀ (f pos : Nat), idxFuncFrom nameR false s f pos ≠ -1 → ∃ i : Nat, idxFuncFrom nameR false s f pos = (i : Int) ∧ i < s.size ∧ nameR (s.get! i).toNat = false
  | 0, pos, h => absurd rfl h
  | f + 1, pos, h => by
    unfold idxFuncFrom at h ⊢
    by_cases hp : pos < s.size
    · rw [if_pos hp] at h ⊢
      cases hn : nameR (Utf8.decode s pos).1 with
      | false => rw [if_pos rfl]; exact ⟨pos, rfl, hp, by rw [← name_decode]; exact hn⟩
      | true =>
        rw [hn, if_neg (by simp)] at h
        rw [if_neg (by simp)]
        exact left_at s f _ h
    · rw [if_neg hp] at h; exact absurd rfl h
theorem last_small {l : List UInt8} (h : nameR (decodeLastL l).1 = true) (hl : l ≠ []) : decodeLastL l = ((l.getD (l.length - 1) 0).toNat, 1) := by
  unfold decodeLastL at h ⊢
  rw [if_neg hl] at h ⊢
  by_cases h1 : (l.getD (l.length - 1) 0).toNat < 128
  · rw [if_pos h1]
  · exfalso
    rw [if_neg h1] at h
    simp only at h
    split at h
    · rename_i h2
      have h3 := nameR_lt h
      unfold decodeL at h3 h2
      have h4 := decode_small h3
      rw [h4] at h2 h3
      simp only at h2 h3
      rw [get_data] at h3
      apply h1
      have h5 : lastStart l = l.length - 1 := by omega
      simp only [List.toList_toArray] at h3
      rw [h5] at h3
      simpa [List.getD, List.getElem?_drop] using h3
    · have := nameR_lt h
      simp [Utf8.runeError] at this
theorem last_none (s : ByteArray) : ∀ (f i : Nat), i ≤ f → i ≤ s.size → lastIdxFuncFrom nameR false s f i = -1 → ∀ k, k < i → nameR (s.get! k).toNat = true
  | 0, i, h, _, _ => fun k hk => by omega
  | f + 1, i, h, hi, he => by
    intro k hk
    unfold lastIdxFuncFrom at he
    have hpos : 0 < i := by omega
    rw [if_pos hpos] at he
    have hlen : (s.data.toList.take i).length = i := by
      rw [List.length_take, len_data]; omega
    have hne : s.data.toList.take i ≠ [] := by intro h0; rw [h0] at hlen; simp at hlen; omega
    cases hn : nameR (decodeLastL (s.data.toList.take i)).1 with
    | false => rw [hn, if_pos rfl] at he; omega
    | true =>
      rw [hn, if_neg (by simp)] at he
      have hd := last_small hn hne
      rw [hd] at he hn
      simp only at he hn
      rw [hlen] at hn
      have hlast : nameR (s.get! (i - 1)).toNat = true := by
        rw [get_data]
        have : (s.data.toList.take i).getD (i - 1) 0 = s.data.toList.getD (i - 1) 0 := by
          simp only [List.getD]; rw [List.getElem?_take_of_lt (by omega)]
        rw [this] at hn; exact hn
      rcases Nat.lt_or_ge k (i - 1) with h3 | h3
      · exact last_none s f (i - 1) (by omega) (by omega) he k h3
      · have : k = i - 1 := by omega
        subst this; exact hlast
theorem nameOk_iff (s : ByteArray) : nameOk s = true ↔ ∀ k, k < s.size → nameR (s.get! k).toNat = true := by
  unfold nameOk
  rw [List.all_eq_true]
  constructor
  · intro h k hk
    rw [get_data]
    have hk' : k < s.data.toList.length := by rw [len_data]; exact hk
    have : s.data.toList.getD k 0 = s.data.toList[k] := by rw [List.getD, List.getElem?_eq_getElem hk']; rfl
    rw [this]; exact h _ (List.getElem_mem hk')
  · intro h b hb
    obtain ⟨k, hk⟩ := List.getElem?_of_mem hb
    have hk' := (List.getElem?_eq_some_iff.1 hk).1
    have := h k (by rw [← len_data]; exact hk')
    rw [get_data, List.getD, hk] at this
    exact this
theorem size_extract (s : ByteArray) (i j : Nat) : (s.extract i j).size = min j s.size - i := by
  simp [ByteArray.size_extract]
theorem extract_get (s : ByteArray) (i k : Nat) (h : i + k < s.size) : (s.extract i s.size).get! k = s.get! (i + k) := by
  rw [get_data, get_data]
  have : (s.extract i s.size).data.toList = s.data.toList.drop i := by
    rw [ByteArray.data_extract, Array.toList_extract, List.extract_eq_take_drop]
    rw [List.take_of_length_le]
    rw [List.length_drop, len_data]; omega
  rw [this]; simp only [List.getD, List.getElem?_drop]
theorem empty_of_size {s : ByteArray} (h : s.size = 0) : s = ⟨#[]⟩ := by
  cases s with | mk d =>
  have : d = #[] := Array.eq_empty_of_size_eq_zero h
  rw [this]
theorem trim_name (s : ByteArray) : eqS (Lib.trimF nameR s) ⟨#[]⟩ = nameOk s := by
  rw [Bool.eq_iff_iff, eqS_iff]
  by_cases hl : idxFunc nameR false s = -1
  · have h1 : Lib.trimLeftF nameR s = ⟨#[]⟩ := by unfold Lib.trimLeftF; rw [if_pos hl]
    have h2 : nameOk s = true := (nameOk_iff s).2 fun k hk => (left_none s s.size 0 (by omega)).1 hl k (Nat.zero_le _) hk
    rw [h2]
    refine ⟨fun _ => rfl, fun _ => ?_⟩
    unfold Lib.trimF
    rw [h1]
    exact empty_of_size (by unfold Lib.trimRightF; rw [size_extract]; show min _ 0 - 0 = 0; omega)
  · obtain ⟨i, hi, his, hin⟩ := left_at s s.size 0 hl
    have h2 : ¬ nameOk s = true := fun h => by
      have := (nameOk_iff s).1 h i his
      rw [hin] at this; cases this
    refine ⟨fun h => ?_, fun h => absurd h h2⟩
    exfalso
    have h1 : Lib.trimLeftF nameR s = s.extract i s.size := by
      unfold Lib.trimLeftF
      rw [if_neg hl]
      have : idxFunc nameR false s = (i : Int) := hi
      rw [this]; rfl
    unfold Lib.trimF at h
    rw [h1] at h
    have hts : (s.extract i s.size).size = s.size - i := by rw [size_extract]; omega
    have ht0 : nameR ((s.extract i s.size).get! 0).toNat = false := by rw [extract_get s i 0 (by omega)]; exact hin
    revert h hts ht0
    generalize s.extract i s.size = t
    intro h hts ht0
    have htpos : 0 < t.size := by omega
    have hne : ¬ lastIdxFunc nameR false t = -1 := fun he => by
      have := last_none t t.size t.size (Nat.le_refl _) (Nat.le_refl _) he 0 htpos
      rw [this] at ht0; cases ht0
    have hge : 0 ≤ lastIdxFunc nameR false t := by
      rcases lastIdxFuncFrom_range nameR false t t.size t.size with h3 | h3
      · exact absurd h3 hne
      · exact h3.1
    have hsz : (Lib.trimRightF nameR t).size = 0 := by rw [h]; rfl
    unfold Lib.trimRightF at hsz
    rw [size_extract] at hsz
    have hend : Lib.rightEndF nameR t = 0 := by omega
    unfold Lib.rightEndF at hend
    rw [if_pos hge] at hend
    have hj : (lastIdxFunc nameR false t).toNat = 0 := by omega
    rw [hj] at hend
    have hw : (decodeGoB (t.extract 0 t.size)).2 = 0 := by omega
    unfold decodeGoB at hw
    rw [if_neg (by rw [size_extract]; omega)] at hw
    have := Lib.width_pos (t.extract 0 t.size) 0
    omega
end Go.Sl

namespace Go.Sl
def valOk (s : ByteArray) : Bool := (bytesI s).all fun c => decide (33 ≤ c) && decide (c ≤ 126)
def checkR (r : Rc) (m : Int) : Int :=
  if m < 1 ∨ 8 < m ∨ r.site < 0 ∨ m ≤ r.site ∨ r.seq < 1 ∨ 1048576 < r.seq then 1
  else if checkV r.dep m ≠ 0 then checkV r.dep m
  else if r.seq ≤ getI r.dep r.site then 13
  else if r.key.size < 1 ∨ 8 < r.key.size ∨ nameOk r.key = false then 3
  else if valOk r.val = false then 2
  else if 16 < r.val.size then 4 else 0
end Go.Sl

set_option linter.unusedVariables false
set_option linter.unusedSimpArgs false
namespace Go.Sl
open Go.Lib (compareBytes)
def cmpB (a b : ByteArray) : Int := compareBytes a.data.toList b.data.toList
structure Cl where
  key : ByteArray
  val : ByteArray
  site : Int
  seq : Int
  deriving DecidableEq
def ris (b : List Cl) : Prop := b.Pairwise fun x y => cmpB x.key y.key < 0
end Go.Sl

set_option linter.unusedVariables false
set_option linter.unusedSimpArgs false
namespace Go.Sl
end Go.Sl

set_option linter.unusedVariables false
set_option linter.unusedSimpArgs false
namespace Go.Sl
structure FS where
  site : Int
  room : Int
  next : Int
  held : List (Int × Rc)
end Go.Sl

set_option linter.unusedVariables false
namespace Go.Sl
end Go.Sl

set_option linter.unusedVariables false
set_option linter.unusedSimpArgs false
namespace Go.Sl
theorem wrapn {i : Nat} (h : i ≤ lim) : IntKind.i64.wrap ((i : Int) + 1) = ((i + 1 : Nat) : Int) := by
  have : (i : Int) ≤ 2147483648 := by unfold lim at h; omega
  rw [wrap_id (by omega) (by omega)]; omega
theorem getI_nat (l : List Int) (i : Nat) : getI l (i : Int) = l.getD i 0 := by
  unfold getI; rw [if_neg (by omega)]; simp
def covI (a b : List Int) : Bool := (List.range (max a.length b.length)).all fun i => decide (getI b i ≤ getI a i)
theorem covI_true {a b : List Int} (h : ∀ j : Nat, j < max a.length b.length → getI b j ≤ getI a j) : covI a b = true := by
  unfold covI
  rw [List.all_eq_true]
  intro i hi
  exact decide_eq_true (h i (by simpa using hi))
theorem covI_false {a b : List Int} {j : Nat} (hj : j < max a.length b.length) (h : getI a j < getI b j) : covI a b = false := by
  unfold covI
  rw [Bool.eq_false_iff]
  intro ha
  have := List.all_eq_true.1 ha j (by simpa using hj)
  simp at this
  omega
def sameV (a b : List Int) : Bool := covI a b && covI b a
def sameR (r s : Rc) : Bool := decide (r.site = s.site) && decide (r.seq = s.seq) && sameV r.dep s.dep && eqS r.key s.key && eqS r.val s.val
theorem covI_refl (a : List Int) : covI a a = true := covI_true fun _ _ => Int.le_refl _
theorem sameR_refl (r : Rc) : sameR r r = true := by
  have : ∀ s : ByteArray, eqS s s = true := fun s => eqS_iff.2 rfl
  simp [sameR, sameV, covI_refl, this]
def cellBad (k v : ByteArray) : Int := if k.size < 1 ∨ 8 < k.size ∨ nameOk k = false then 3 else if valOk v = false then 2 else if 16 < v.size then 4 else 0
theorem checkR_cell (r : Rc) (m : Int) : checkR r m = if m < 1 ∨ 8 < m ∨ r.site < 0 ∨ m ≤ r.site ∨ r.seq < 1 ∨ 1048576 < r.seq then 1
    else if checkV r.dep m ≠ 0 then checkV r.dep m
    else if r.seq ≤ getI r.dep r.site then 13 else cellBad r.key r.val := by
  unfold checkR cellBad; rfl
def nameI (v : Int) : Bool := (decide (97 ≤ v) && decide (v ≤ 122)) || (decide (48 ≤ v) && decide (v ≤ 57))
theorem nameOk_bytes (s : ByteArray) : nameOk s = (bytesI s).all nameI := by
  unfold nameOk bytesI
  rw [List.all_map]
  congr 1
  funext b
  unfold nameR nameI
  simp only [Function.comp_apply]
  congr 1 <;> congr 1 <;> (apply decide_eq_decide.2; omega)
theorem all_take_step {l : List Int} {p : Int → Bool} {i : Nat} {v : Int} (h : (l.take i).all p = true) (hv : l[i]? = some v) (hp : p v = true) : (l.take (i + 1)).all p = true := by
  rw [List.take_add_one, hv, List.all_append, h]; simp [hp]
theorem all_take_all {l : List Int} {p : Int → Bool} {i : Nat} (h : (l.take i).all p = true) (hi : l.length ≤ i) : l.all p = true := by
  rwa [List.take_of_length_le hi] at h
theorem all_not {l : List Int} {p : Int → Bool} {i : Nat} {v : Int} (hv : l[i]? = some v) (hp : p v = false) : l.all p = false := by
  rw [Bool.eq_false_iff]
  intro h
  have := List.all_eq_true.1 h v (List.mem_of_getElem? hv)
  rw [hp] at this; cases this
theorem vecBad_step : ∀ {l : List Int} {i : Nat} {v : Int}, vecBad (l.take i) = 0 → l[i]? = some v → ¬ v < 0 → ¬ 1048576 < v → vecBad (l.take (i + 1)) = 0
  | [], i, v, _, h, _, _ => by simp at h
  | x :: l, 0, v, _, h, h1, h2 => by simp at h; subst h; simp [vecBad, h1, h2]
  | x :: l, i + 1, v, h0, h, h1, h2 => by
    simp only [List.take_succ_cons, vecBad] at h0 ⊢
    split
    · rename_i hx; simp [hx] at h0
    · rename_i hx
      split
      · rename_i hx2; simp [hx, hx2] at h0
      · rename_i hx2
        simp only [hx, hx2, if_false] at h0
        exact vecBad_step h0 (by simpa using h) h1 h2
theorem vecBad_at : ∀ {l : List Int} {i : Nat} {v : Int}, vecBad (l.take i) = 0 → l[i]? = some v → (v < 0 → vecBad l = 1) ∧ (¬ v < 0 → 1048576 < v → vecBad l = 4)
  | [], i, v, _, h => by simp at h
  | x :: l, 0, v, _, h => by
    simp at h; subst h
    exact ⟨fun h1 => by simp [vecBad, h1], fun h1 h2 => by simp [vecBad, h1, h2]⟩
  | x :: l, i + 1, v, h0, h => by
    simp only [List.take_succ_cons, vecBad] at h0
    split at h0
    · cases h0
    · rename_i hx
      split at h0
      · cases h0
      · rename_i hx2
        have := vecBad_at h0 (by simpa using h)
        simp only [vecBad, hx, hx2, if_false]
        exact this
end Go.Sl

set_option linter.unusedVariables false
set_option linter.unusedSectionVars false
namespace Go.Sl
section
variable {P : Program} [tb : Tab P] {rd : Option Nat} {N : Nat} {T T' : TT} {L : List HP} {Q : Post} {ks : List K}
variable {all : Array Oper} {rest : List Oper} {d : Option Tmp} {ty : TypeId} {pos : String} {aft : Array Edge} {RR : TT → List HP → Prop}
theorem reads_div {op : BinOp} {t cx : Nat} {x y : Operand} {k : IntKind} {a b : Int} {v : Value} (hx : evO T x = some (.int k a)) (hy : evO T y = some (.int k b)) (h : divV op k a b = some v) : Reads P T L ⟨d, .binOp op t x y cx, ty, pos, aft, none⟩ (fun u L' => u = v ∧ L' = L) := by
  intro q hq r oo F hst
  refine ⟨v, L, ⟨rfl, rfl⟩, hst, fun w _ => ?_⟩
  have h1 : (eqGuard op t x y (.int k a) (.int k b)).run P w = .ok () w := by
    unfold divV at h
    split at h <;> first | (cases h; done) | (unfold eqGuard; simp)
  simp only [execOp, hq _ _ hx, hq _ _ hy, Sem.run_bind, h1, Result.andThen_ok, divV_ok h t w]
  rfl
theorem SO.div {op : BinOp} {t cx : Nat} {x y : Operand} {k : IntKind} {a b : Int} {v : Value} (hx : evO T x = some (.int k a)) (hy : evO T y = some (.int k b)) (h : divV op k a b = some v) (hd : dstOk N d = true)
    (kk : SO P rd N all rest (putD d v T) L ks Q) : SO P rd N all (⟨d, .binOp op t x y cx, ty, pos, aft, none⟩ :: rest) T L ks Q :=
  SO.reads (reads_div hx hy h) rfl rfl hd (by rintro _ _ ⟨rfl, rfl⟩; exact kk)
theorem SQ.div {op : BinOp} {t cx : Nat} {x y : Operand} {k : IntKind} {a b : Int} {v : Value} (hx : evO T x = some (.int k a)) (hy : evO T y = some (.int k b)) (h : divV op k a b = some v) (hd : dstOk N d = true)
    (kk : SQ P N all rest (putD d v T) L RR) : SQ P N all (⟨d, .binOp op t x y cx, ty, pos, aft, none⟩ :: rest) T L RR :=
  SQ.reads (reads_div hx hy h) rfl hd (by rintro _ _ ⟨rfl, rfl⟩; exact kk)
theorem SR.div {op : BinOp} {t cx : Nat} {x y : Operand} {k : IntKind} {a b : Int} {v : Value} (hx : evO T x = some (.int k a)) (hy : evO T y = some (.int k b)) (h : divV op k a b = some v) (hd : dstOk N d = true)
    (kk : SR P N all rest (putD d v T) L RR) : SR P N all (⟨d, .binOp op t x y cx, ty, pos, aft, none⟩ :: rest) T L RR :=
  SR.reads (reads_div hx hy h) rfl hd (by rintro _ _ ⟨rfl, rfl⟩; exact kk)
theorem rem_ne {k : IntKind} {a b : Int} (hb : b ≠ 0) : divV .rem k a b = some (.int k (a.tmod b)) := if_neg hb
end
end Go.Sl

set_option linter.unusedVariables false
set_option linter.unusedSectionVars false
set_option linter.unusedSimpArgs false
namespace Go.Sl
inductive XO where
  | nil
  | item (k : Nat) (o : Oper) (t : XO)
  | fork (x y : XO)
inductive XT where
  | nil
  | item (k i : Nat) (t : XT)
  | fork (x y : XT)
def wpX (P : Program) (rd : Option Nat) (all : Array Oper) (Q : Exit → Act → World → Prop) : XO → (World → Prop) → Act → World → Prop
  | .nil, _, a, w => Q .normal a w
  | .item k o rest, C, a, w => if Region.wanted o (yielded all a.tmps) = true then
      (match k with
        | 0 => ∃ v, (∀ w', C w' → (execOp a.eval o).run P w' = .ok (.value v) w') ∧ wpX P rd all Q rest C (a.put o.dst v) w
        | k + 1 => o.wpIn (FW rd) 0 P a w (fun a' w' => ∃ C' : World → Prop, C' w' ∧ (k = 1 ∨ ∀ u, C' u → C u) ∧ wpX P rd all Q rest C' a' w') Q)
    else wpX P rd all Q rest C (a.put o.dst undef) w
  | .fork x y, C, a, w => wpX P rd all Q x C a w ∧ wpX P rd all Q y C a w
def pickK (l : List Oper) : XT → XO
  | .nil => .nil
  | .item k i t => match l[i]? with
    | some o => .item k o (pickK l t)
    | none => pickK l t
  | .fork x y => .fork (pickK l x) (pickK l y)
def paths : XT → List (List (Nat × Nat))
  | .nil => [[]]
  | .item k i t => (paths t).map fun p => (k, i) :: p
  | .fork x y => paths x ++ paths y
def fpath : XT → List (Nat × Nat)
  | .nil => []
  | .item k i t => (k, i) :: fpath t
  | .fork x _ => fpath x
def heads : XT → List Nat
  | .nil => []
  | .item _ i _ => [i]
  | .fork x y => heads x ++ heads y
def cloA (l : List Oper) (i : Nat) : List Nat := clo l l.length (aftAt l i)
def tailX (l : List Oper) : List Nat → List (Nat × Nat) → Bool
  | _, [] => true
  | pre, (k, i) :: rest => (!Nat.beq k 2 || subN pre (cloA l i)) && tailX l (i :: pre) rest
def nodeOk (l : List Oper) (t : XT) : Bool := (fpath t).all fun x => (heads t).elem x.2 || (heads t).any fun c => (cloA l x.2).elem c
def okT (l : List Oper) : Bool → XT → Bool
  | f, .nil => !f
  | f, .item k i t => (bif Nat.beq k 0 then !f else (f || nodeOk l (.item k i t))) && okT l false t
  | f, .fork x y => (f || nodeOk l (.fork x y)) && okT l true x && okT l true y
def looksX (l : List Oper) (ord : List (Nat × Nat)) : Bool :=
  ord.all fun x => (looksOf l x.2).all fun d => ord.all fun y => !((dstAt l y.2).any (Nat.beq d)) || (cloA l x.2).elem y.2 || (!Nat.beq y.1 0 && (cloA l y.2).elem x.2)
def pathOk (N : Nat) (l : List Oper) (ord : List (Nat × Nat)) : Bool :=
  nodupN (ord.map (·.2)) && coversN l.length (ord.map (·.2)) && ((ord.map (·.2)).all fun i => Nat.blt i l.length) && ordPre l [] (ord.map (·.2)) && tailX l [] ord && looksX l ord &&
  nodupN ((ord.map (·.2)).filterMap (dstAt l)) && ltAll N ((ord.map (·.2)).filterMap (dstAt l))
def canOk (N : Nat) (l : List Oper) (t : XT) : Bool := noDefer l && Region.noSelect l.toArray && (paths t).all (pathOk N l) && okT l false t
section
variable {P : Program} {rd : Option Nat} {N : Nat} {l : List Oper} {Q : Exit → Act → World → Prop} {ord : List (Nat × Nat)}
theorem YS.wpOp {i : Nat} {o : Oper} {v : Value} {a : Act} {C : World → Prop} {ops : Array Oper} (hn : notDefer o.op = true) (hi : ops[i]? = some o) (hy : YS P ops C o v a) {K : Act → World → Prop} {w : World} (hw : C w) (h : K (a.put o.dst v) w) : wpOpIn (FW rd) 0 P ops Q i K a w := by
  unfold wpOpIn
  simp only [hi]
  rcases hy with ⟨hw1, hv⟩ | ⟨hw1, rfl⟩
  · rw [if_pos hw1]
    refine ⟨fun _ _ => trivial, ?_⟩
    rw [Oper.semAt_eq _ _ _ (notDefer_spec hn), hv w hw]
    exact h
  · rw [if_neg (by rw [hw1]; simp)]
    exact ⟨fun _ _ => trivial, h⟩
theorem YS.mono {o : Oper} {v : Value} {a : Act} {C C' : World → Prop} {ops : Array Oper} (h : ∀ w, C' w → C w) (hy : YS P ops C o v a) : YS P ops C' o v a := by
  rcases hy with ⟨h1, h2⟩ | h
  · exact .inl ⟨h1, fun w hw => h2 w (h w hw)⟩
  · exact .inr h
theorem looks_eval {o : Oper} {a a' : Act} {ops : Array Oper} (hs : ∀ cs b, o.op ≠ .select cs b) (h : ∀ d ∈ o.looksAt ops, a'.tmps[d]? = a.tmps[d]?) : execOp a'.eval o = execOp a.eval o ∧ Region.wanted o (yielded ops a'.tmps) = Region.wanted o (yielded ops a.tmps) := by
  constructor
  · exact execOp_congr o hs fun x hx => by
      cases x with
      | tmp t =>
        have := h t (List.mem_append_left _ (List.mem_filterMap.2 ⟨.tmp t, by simpa using hx, rfl⟩))
        simp [Act.eval, Array.getD_eq_getD_getElem?, this]
      | const u => rfl
      | global g => rfl
      | func f => rfl
  · unfold Region.wanted
    cases hg : o.guard with
    | none => rfl
    | some gw =>
      obtain ⟨g, want⟩ := gw
      have hy : yielded ops a'.tmps g = yielded ops a.tmps g := by
        unfold yielded
        cases ht : (ops[g]?).bind (·.dst) with
        | none => rfl
        | some t =>
          have := h t (by simp [Oper.looksAt, hg, ht])
          simp only [Option.bind_some, this]
      simp only [hy]
theorem wpIn_transfer {o : Oper} {a b : Act} {w : World} {K : Act → World → Prop} (hn : notDefer o.op = true) (he : execOp a.eval o = execOp b.eval o) (hQ : ∀ c a w, Q (.panic c) a w → False) (h : o.wpIn (FW rd) 0 P b w K Q) :
    o.wpIn (FW rd) 0 P a w (fun a' w' => ∃ v b', K b' w' ∧ a'.tmps = (a.put o.dst v).tmps ∧ b'.tmps = (b.put o.dst v).tmps ∧ (a.defers = b.defers → a'.defers = b'.defers)) Q := by
  unfold Oper.wpIn at *
  refine ⟨fun _ _ => trivial, ?_⟩
  have h := h.2
  rw [Oper.semAt_eq _ _ _ (notDefer_spec hn), ← he] at h
  rw [Oper.semAt_eq _ _ _ (notDefer_spec hn)]
  have key : ∀ v w', K (b.put o.dst v) w' → ∃ v' b', K b' w' ∧ (a.put o.dst v).tmps = (a.put o.dst v').tmps ∧ b'.tmps = (b.put o.dst v').tmps ∧ (a.defers = b.defers → (a.put o.dst v).defers = b'.defers) := fun v w' hk => ⟨v, _, hk, rfl, rfl, fun e => by rw [put_defers_eq, put_defers_eq, e]⟩
  generalize (execOp a.eval o).run P w = r at *
  cases r with
  | ok x w' =>
    cases x <;> simp only [Oper.uponIn] at h ⊢
    case value u => exact key _ _ h
    case skip => exact key _ _ h
    case defer d => exact ⟨undef, _, h, by cases o.dst <;> rfl, by cases o.dst <;> rfl, fun e => by rw [put_defers_eq, put_defers_eq]; simp [e]⟩
    case enter f args =>
      refine ⟨h.1, CallsIn.mono h.2 fun e w'' he => ?_⟩
      cases e with
      | returned u => exact key _ _ he
      | panicked c => exact (hQ _ _ _ he).elim
      | outgrown => exact he
    case row row args => exact ⟨h.1, RowsIn.mono h.2 fun u w'' he => key _ _ he⟩
    case round l f tmps assign body =>
      refine ⟨h.1, RoundIn.mono h.2 fun e w'' he => ?_⟩
      cases e with
      | returned u => exact key _ _ he
      | panicked c => exact (hQ _ _ _ he).elim
      | outgrown => exact he
  | halt x w' =>
    cases x <;> simp only [Oper.uponIn] at h ⊢
    case panic u => exact (hQ _ _ _ h).elim
structure XInv (P : Program) (N : Nat) (l : List Oper) (ord pre its : List (Nat × Nat)) (U : List Nat) (C : World → Prop) (b : Act) (listed : Array Bool) (a : Act) (w : World) (W : Prop) : Prop where
  split : ord = pre ++ its
  lsize : listed.size = l.length
  closed : ∀ i, listed.getD i false = true → ∀ j ∈ aftAt l i, listed.getD j false = true
  lst : ∀ i, listed.getD i false = true ↔ i ∈ pre.map (·.2) ∧ i ∉ U
  usub : ∀ q ∈ U, (0, q) ∈ pre
  world : C w
  wp : W
  dfr : a.defers = b.defers
  size : a.tmps.size = N
  bsize : b.tmps.size = N
  agr : ∀ d, (∀ q ∈ U, dstAt l q ≠ some d) → a.tmps[d]? = b.tmps[d]?
  ys : ∀ q ∈ U, ∃ o v, l[q]? = some o ∧ YS P l.toArray C o v b ∧ ∀ d, o.dst = some d → b.tmps[d]? = some v
structure XOk (N : Nat) (l : List Oper) (ord : List (Nat × Nat)) : Prop where
  nd : ∀ (i : Nat) (o : Oper), l[i]? = some o → notDefer o.op = true
  sel : ∀ (i : Nat) (o : Oper) cs b, l[i]? = some o → o.op ≠ .select cs b
  nod : (ord.map (·.2)).Nodup
  cov : ∀ i, i < l.length → i ∈ ord.map (·.2)
  lt : ∀ i ∈ ord.map (·.2), i < l.length
  pre : ∀ s i t, ord.map (·.2) = s ++ i :: t → ∀ j ∈ aftAt l i, j ∈ s
  tail : tailX l [] ord = true
  looks : ∀ x ∈ ord, ∀ y ∈ ord, ∀ d ∈ looksOf l x.2, dstAt l y.2 = some d → y.2 ∈ cloA l x.2 ∨ (y.1 ≠ 0 ∧ x.2 ∈ cloA l y.2)
  dst : ((ord.map (·.2)).filterMap (dstAt l)).Nodup
  dlt : ∀ d ∈ (ord.map (·.2)).filterMap (dstAt l), d < N
theorem pathOk_ok (hd : noDefer l = true) (hs : Region.noSelect l.toArray = true) (h : pathOk N l ord = true) : XOk N l ord := by
  simp only [pathOk, Bool.and_eq_true] at h
  obtain ⟨⟨⟨⟨⟨⟨⟨h3, h4⟩, h5⟩, h6⟩, h7⟩, h8⟩, h9⟩, h10⟩ := h
  have hsel := Region.noSelect_spec hs
  refine ⟨fun i o ho => List.all_eq_true.1 hd o (List.mem_of_getElem? ho), fun i o cs b ho => hsel i o cs b (by simpa using ho), nodupN_ok h3, fun i hi => ?_, fun i hi => ?_, fun s i t e j hj => ?_, h7, fun x hx y hy d hd e => ?_, nodupN_ok h9, ltAll_ok h10⟩
  · have := List.all_eq_true.1 h4 i (by simp [hi]); simpa using this
  · have := List.all_eq_true.1 h5 i hi; simpa [Nat.blt_eq] using this
  · rcases ordPre_spec h6 s i t e j hj with h | h
    · exact h
    · cases h
  · have h := List.all_eq_true.1 (List.all_eq_true.1 (List.all_eq_true.1 h8 x hx) d hd) y hy
    rw [e] at h
    simp only [Option.any_some, Nat.beq_refl, Bool.not_true, Bool.false_or, Bool.or_eq_true, Bool.and_eq_true, Bool.not_eq_true', List.elem_eq_mem, decide_eq_true_eq] at h
    rcases h with h | ⟨h, h'⟩
    · exact .inl h
    · refine .inr ⟨fun e => ?_, h'⟩
      rw [e] at h; simp at h
variable {W W' : Prop} {pre its : List (Nat × Nat)} {U : List Nat} {C : World → Prop} {b : Act} {listed : Array Bool} {a : Act} {w : World}
theorem XOk.clo_pre (x : XOk N l ord) {s t : List Nat} {i : Nat} (e : ord.map (·.2) = s ++ i :: t) : ∀ j ∈ cloA l i, j ∈ s := by
  unfold cloA
  refine clo_sub (p := fun j => j ∈ s) (fun j hj k hk => ?_) _ _ (fun j hj => x.pre s i t e j hj)
  obtain ⟨s1, s2, rfl⟩ := List.append_of_mem hj
  have := x.pre s1 j (s2 ++ i :: t) (by rw [e]; simp) k hk
  simp [this]
theorem XOk.clo_not (x : XOk N l ord) {s t : List Nat} {i : Nat} (e : ord.map (·.2) = s ++ i :: t) {j : Nat} (hj : j ∈ i :: t) : j ∉ cloA l i := fun h => by
  have h1 := x.clo_pre e j h
  have h2 := x.nod
  rw [e] at h2
  exact (List.nodup_append.1 h2).2.2 j h1 j hj rfl
theorem XOk.dst_ne (x : XOk N l ord) {i j : Nat} (hi : i ∈ ord.map (·.2)) (hj : j ∈ ord.map (·.2)) (hne : i ≠ j) {d : Nat} (h : dstAt l i = some d) : dstAt l j ≠ some d := fun h' =>
  hne (dst_uniq x.dst i hi j hj d h h' x.nod)
theorem XOk.dst_lt (x : XOk N l ord) {i d : Nat} (hi : i ∈ ord.map (·.2)) (h : dstAt l i = some d) : d < N := x.dlt d (List.mem_filterMap.2 ⟨i, hi, h⟩)
theorem looksOf_eq {i : Nat} {o : Oper} (ho : l[i]? = some o) : looksOf l i = o.looksAt l.toArray := by simp [looksOf, ho]
theorem dstAt_eq {i : Nat} {o : Oper} (ho : l[i]? = some o) : dstAt l i = o.dst := by simp [dstAt, ho]
theorem XOk.get (x : XOk N l ord) {i : Nat} (hi : i ∈ ord.map (·.2)) : ∃ o, l[i]? = some o := ⟨_, List.getElem?_eq_getElem (x.lt i hi)⟩
theorem YS.same {o : Oper} {v : Value} {a a' : Act} {ops : Array Oper} {C : World → Prop} (hs : ∀ cs b, o.op ≠ .select cs b) (h : ∀ d ∈ o.looksAt ops, a'.tmps[d]? = a.tmps[d]?) (hy : YS P ops C o v a) : YS P ops C o v a' := hy.congr hs h
theorem XInv.advance (x : XOk N l ord) {q : Nat} {o : Oper} {v : Value} (ho : l[q]? = some o) (hys : YS P l.toArray C o v b) (hW' : W') (h : XInv P N l ord pre ((0, q) :: its) U C b listed a w W) : XInv P N l ord (pre ++ [(0, q)]) its (q :: U) C (b.put o.dst v) listed a w W' := by
  have hsp := h.split
  have hq : q ∈ ord.map (·.2) := by rw [hsp]; simp
  have hsp2 : ord.map (·.2) = pre.map (·.2) ++ q :: its.map (·.2) := by rw [hsp]; simp
  have hqpre : q ∉ pre.map (·.2) := fun hm => by
    have := x.nod
    rw [hsp2] at this
    exact (List.nodup_append.1 this).2.2 q hm q (by simp) rfl
  have hU : ∀ k ∈ U, k ∈ pre.map (·.2) := fun k hk => List.mem_map.2 ⟨_, h.usub k hk, rfl⟩
  have hd : dstAt l q = o.dst := dstAt_eq ho
  have hlook : ∀ k ∈ q :: U, ∀ d ∈ looksOf l k, o.dst ≠ some d := by
    intro k hk d hdk e
    have hk0 : (0, k) ∈ ord := by
      rcases List.mem_cons.1 hk with rfl | hk
      · rw [hsp]; simp
      · rw [hsp]; simp [h.usub k hk]
    rcases x.looks (0, k) hk0 (0, q) (by rw [hsp]; simp) d hdk (by rw [hd]; exact e) with h1 | ⟨h1, _⟩
    · rcases List.mem_cons.1 hk with rfl | hk
      · exact x.clo_not hsp2 (by simp) h1
      · obtain ⟨s, t, hst⟩ := List.append_of_mem (hU k hk)
        have := x.clo_pre (s := s) (i := k) (t := t ++ q :: its.map (·.2)) (by rw [hsp2, hst]; simp) q h1
        exact hqpre (by rw [hst]; simp [this])
    · exact h1 rfl
  refine ⟨by rw [hsp]; simp, h.lsize, h.closed, fun i => ?_, fun k hk => ?_, h.world, hW', by rw [put_defers_eq]; exact h.dfr, h.size, ?_, fun d hdU => ?_, fun k hk => ?_⟩
  · rw [h.lst i]
    simp only [List.map_append, List.map_cons, List.map_nil, List.mem_append, List.mem_singleton, List.mem_cons, not_or]
    constructor
    · rintro ⟨h1, h2⟩; exact ⟨.inl h1, fun e => hqpre (e ▸ h1), h2⟩
    · rintro ⟨h1 | h1, h2, h3⟩
      · exact ⟨h1, h3⟩
      · exact absurd h1 (by simpa using h2)
  · rcases List.mem_cons.1 hk with rfl | hk
    · simp
    · simp [h.usub k hk]
  · have := h.bsize; cases o.dst <;> simpa [Act.put] using this
  · rw [h.agr d fun k hk => hdU k (by simp [hk]), put_get]
    rw [← hd]; exact hdU q (by simp)
  · rcases List.mem_cons.1 hk with rfl | hk
    · refine ⟨o, v, ho, hys.same (fun cs b => x.sel _ o cs b ho) (fun d hd2 => put_get ?_), fun d e => ?_⟩
      · exact hlook k (by simp) d (by rw [looksOf_eq ho]; exact hd2)
      · rw [e]; exact put_self (by rw [h.bsize]; exact x.dst_lt hq (hd.trans e))
    · obtain ⟨o', v', ho', hy', hv'⟩ := h.ys k hk
      refine ⟨o', v', ho', hy'.same (fun cs b => x.sel _ o' cs b ho') (fun d hd2 => put_get ?_), fun d e => ?_⟩
      · exact hlook k (by simp [hk]) d (by rw [looksOf_eq ho']; exact hd2)
      · rw [put_get]
        · exact hv' d e
        · rw [← hd]
          refine x.dst_ne (i := k) (by rw [hsp2]; simp only [List.mem_append]; exact .inl (hU k hk)) hq (fun e => hqpre (e ▸ hU k hk)) (by rw [dstAt_eq ho']; exact e)
theorem tail_spec {i : Nat} {t : List (Nat × Nat)} : ∀ {s : List (Nat × Nat)} {acc : List Nat}, tailX l acc (s ++ (2, i) :: t) = true → (∀ j ∈ acc, j ∈ cloA l i) ∧ ∀ j ∈ s.map (·.2), j ∈ cloA l i
  | [], acc, h => by
    simp only [List.nil_append, tailX, Bool.and_eq_true] at h
    have h2 := h.1
    simp only [Nat.beq_refl, Bool.not_true, Bool.false_or] at h2
    exact ⟨fun j hj => subN_ok h2 j hj, fun j hj => by simp at hj⟩
  | (k', i') :: s, acc, h => by
    simp only [List.cons_append, tailX, Bool.and_eq_true] at h
    obtain ⟨h1, h2⟩ := tail_spec h.2
    refine ⟨fun j hj => h1 j (by simp [hj]), fun j hj => ?_⟩
    rw [List.map_cons] at hj
    rcases List.mem_cons.1 hj with rfl | hj
    · exact h1 _ (by simp)
    · exact h2 j hj
theorem clo_listed {i : Nat} (hc : ∀ i, listed.getD i false = true → ∀ j ∈ aftAt l i, listed.getD j false = true) (ha : ∀ j ∈ aftAt l i, listed.getD j false = true) : ∀ j ∈ cloA l i, listed.getD j false = true :=
  clo_sub (p := fun j => listed.getD j false = true) hc _ _ ha
theorem listed_set {i j : Nat} (hi : i < listed.size) : (listed.setIfInBounds i true).getD j false = true ↔ j = i ∨ listed.getD j false = true := by
  by_cases h : i = j
  · subst h; simp [getD_set_self hi]
  · rw [getD_set_ne false h]
    exact ⟨.inr, fun h' => h'.resolve_left (fun e => h e.symm)⟩
theorem closed_set {i : Nat} (hi : i < listed.size) (hc : ∀ i, listed.getD i false = true → ∀ j ∈ aftAt l i, listed.getD j false = true) (ha : ∀ j ∈ aftAt l i, listed.getD j false = true) :
    ∀ k, (listed.setIfInBounds i true).getD k false = true → ∀ j ∈ aftAt l k, (listed.setIfInBounds i true).getD j false = true := fun k hk j hj => by
  rw [listed_set hi] at hk ⊢
  rcases hk with rfl | hk
  · exact .inr (ha j hj)
  · exact .inr (hc k hk j hj)
theorem XInv.look (x : XOk N l ord) (h : XInv P N l ord pre its U C b listed a w W) {kk j : Nat} (hj : (kk, j) ∈ ord) (hr : ∀ i ∈ aftAt l j, listed.getD i false = true) {o : Oper} (ho : l[j]? = some o) : ∀ d ∈ o.looksAt l.toArray, a.tmps[d]? = b.tmps[d]? := by
  intro d hd
  refine h.agr d fun q hq e => ?_
  have hq0 : (0, q) ∈ ord := by rw [h.split]; simp [h.usub q hq]
  rcases x.looks (kk, j) hj (0, q) hq0 d (by rw [looksOf_eq ho]; exact hd) e with h1 | ⟨h1, _⟩
  · have := clo_listed h.closed hr q h1
    exact ((h.lst q).1 this).2 hq
  · exact h1 rfl
theorem XInv.finU (x : XOk N l ord) (h : XInv P N l ord pre its U C b listed a w W) {j : Nat} (hj : j ∈ U) (hr : ∀ i ∈ aftAt l j, listed.getD i false = true) {o : Oper} {v : Value} (ho : l[j]? = some o) (hv : ∀ d, o.dst = some d → b.tmps[d]? = some v) :
    XInv P N l ord pre its (U.filter (· ≠ j)) C b (listed.setIfInBounds j true) (a.put o.dst v) w W := by
  have hj0 : (0, j) ∈ ord := by rw [h.split]; simp [h.usub j hj]
  have hjo : j ∈ ord.map (·.2) := List.mem_map.2 ⟨_, hj0, rfl⟩
  have hjl : j < listed.size := by rw [h.lsize]; exact x.lt j hjo
  have hd : dstAt l j = o.dst := dstAt_eq ho
  refine ⟨h.split, by simp [h.lsize], closed_set hjl h.closed hr, fun i => ?_, fun q hq => h.usub q (List.mem_filter.1 hq).1, h.world, h.wp, by rw [put_defers_eq]; exact h.dfr, ?_, h.bsize, fun d hdU => ?_, fun q hq => h.ys q (List.mem_filter.1 hq).1⟩
  · rw [listed_set hjl, h.lst i]
    simp only [List.mem_filter, decide_not, Bool.not_eq_true', decide_eq_false_iff_not, not_and, Decidable.not_not]
    constructor
    · rintro (rfl | ⟨h1, h2⟩)
      · exact ⟨List.mem_map.2 ⟨_, h.usub _ hj, rfl⟩, fun _ => rfl⟩
      · exact ⟨h1, fun h3 => absurd h3 h2⟩
    · rintro ⟨h1, h2⟩
      by_cases hi : i = j
      · exact .inl hi
      · exact .inr ⟨h1, fun h3 => hi (h2 h3)⟩
  · have := h.size; cases o.dst <;> simpa [Act.put] using this
  · by_cases hdj : o.dst = some d
    · rw [hdj, put_self (by rw [h.size]; exact x.dst_lt hjo (hd.trans hdj)), hv d hdj]
    · rw [put_get hdj]
      refine h.agr d fun q hq => ?_
      by_cases hqj : q = j
      · subst hqj; rw [hd]; exact hdj
      · exact hdU q (List.mem_filter.2 ⟨hq, by simpa using hqj⟩)
theorem XInv.stepU (x : XOk N l ord) (h : XInv P N l ord pre its U C b listed a w W) {j : Nat} (hj : j ∈ U) (hr : ∀ i ∈ aftAt l j, listed.getD i false = true) {K : Act → World → Prop}
    (hK : ∀ o v, l[j]? = some o → (∀ d, o.dst = some d → b.tmps[d]? = some v) → K (a.put o.dst v) w) : wpOpIn (FW rd) 0 P l.toArray Q j K a w := by
  obtain ⟨o, v, ho, hy, hv⟩ := h.ys j hj
  have hj0 : (0, j) ∈ ord := by rw [h.split]; simp [h.usub j hj]
  have hya := hy.same (a' := a) (fun cs b => x.sel _ o cs b ho) (h.look x hj0 hr ho)
  exact hya.wpOp (x.nd j o ho) (by simpa using ho) h.world (hK o v ho hv)
theorem XInv.finC (x : XOk N l ord) {k c : Nat} (h : XInv P N l ord pre ((k + 1, c) :: its) U C b listed a w W) (hr : ∀ i ∈ aftAt l c, listed.getD i false = true) {o : Oper} (ho : l[c]? = some o)
    {v : Value} {a' b' : Act} {w' : World} {C' : World → Prop} (hC' : C' w') (hCC : k = 1 ∨ ∀ u, C' u → C u) (hwp : W') (hta : a'.tmps = (a.put o.dst v).tmps) (htb : b'.tmps = (b.put o.dst v).tmps) (hdf : a'.defers = b'.defers) :
    XInv P N l ord (pre ++ [(k + 1, c)]) its U C' b' (listed.setIfInBounds c true) a' w' W' := by
  have hsp := h.split
  have hc0 : (k + 1, c) ∈ ord := by rw [hsp]; simp
  have hc : c ∈ ord.map (·.2) := List.mem_map.2 ⟨_, hc0, rfl⟩
  have hsp2 : ord.map (·.2) = pre.map (·.2) ++ c :: its.map (·.2) := by rw [hsp]; simp
  have hcl : c < listed.size := by rw [h.lsize]; exact x.lt c hc
  have hd : dstAt l c = o.dst := dstAt_eq ho
  have hcpre : c ∉ pre.map (·.2) := fun hm => by
    have := x.nod
    rw [hsp2] at this
    exact (List.nodup_append.1 this).2.2 c hm c (by simp) rfl
  have hU : ∀ q ∈ U, q ∈ pre.map (·.2) := fun q hq => List.mem_map.2 ⟨_, h.usub q hq, rfl⟩
  refine ⟨by rw [hsp]; simp, by simp [h.lsize], closed_set hcl h.closed hr, fun i => ?_, fun q hq => by simp [h.usub q hq], hC', hwp, hdf, ?_, ?_, fun d hdU => ?_, fun q hq => ?_⟩
  · rw [listed_set hcl, h.lst i]
    simp only [List.map_append, List.map_cons, List.map_nil, List.mem_append, List.mem_singleton]
    constructor
    · rintro (rfl | ⟨h1, h2⟩)
      · exact ⟨.inr (by simp), fun h3 => hcpre (hU _ h3)⟩
      · exact ⟨.inl h1, h2⟩
    · rintro ⟨h1 | h1, h2⟩
      · exact .inr ⟨h1, h2⟩
      · exact .inl (by simpa using h1)
  · rw [hta]; have := h.size; cases o.dst <;> simpa [Act.put] using this
  · rw [htb]; have := h.bsize; cases o.dst <;> simpa [Act.put] using this
  · rw [hta, htb]
    by_cases hdc : o.dst = some d
    · have hlt := x.dst_lt hc (hd.trans hdc)
      rw [hdc, put_self (by rw [h.size]; exact hlt), put_self (by rw [h.bsize]; exact hlt)]
    · rw [put_get hdc, put_get hdc]
      exact h.agr d hdU
  · rcases hCC with hk | hCC
    ·
      exfalso
      subst hk
      have ht := x.tail
      rw [hsp] at ht
      have h1 := (tail_spec ht).2 q (hU q hq)
      have h2 := clo_listed h.closed hr q h1
      exact ((h.lst q).1 h2).2 hq
    · obtain ⟨o', v', ho', hy', hv'⟩ := h.ys q hq
      have hq0 : (0, q) ∈ ord := by rw [hsp]; simp [h.usub q hq]
      refine ⟨o', v', ho', (hy'.mono hCC).same (fun cs b => x.sel _ o' cs b ho') (fun d hd2 => ?_), fun d e => ?_⟩
      · rw [htb, put_get]
        rw [← hd]
        intro e
        rcases x.looks (0, q) hq0 (k + 1, c) hc0 d (by rw [looksOf_eq ho']; exact hd2) e with h1 | ⟨_, h1⟩
        · obtain ⟨s, t, hst⟩ := List.append_of_mem (hU q hq)
          have := x.clo_pre (s := s) (i := q) (t := t ++ c :: its.map (·.2)) (by rw [hsp2, hst]; simp) c h1
          exact hcpre (by rw [hst]; simp [this])
        · have h2 := clo_listed h.closed hr q h1
          exact ((h.lst q).1 h2).2 hq
      · rw [htb, put_get]
        · exact hv' d e
        · rw [← hd]
          exact x.dst_ne (i := q) (by rw [hsp2]; simp only [List.mem_append]; exact .inl (hU q hq)) hc (fun e => hcpre (e ▸ hU q hq)) (by rw [dstAt_eq ho']; exact e)
theorem unl_lt {i : Nat} (hs : listed.size = l.length) (hi : i < l.length) (h : listed.getD i false = false) : (unl l.length (listed.setIfInBounds i true)).length < (unl l.length listed).length :=
  unl_set (by simp only [unl, List.mem_filter, List.mem_range]; exact ⟨hi, by rw [getD_tf (by omega), h]; rfl⟩)
theorem XInv.allDone (x : XOk N l ord) (h : XInv P N l ord pre its U C b listed a w W) (hall : ∀ i, i < l.length → listed.getD i false = true) : its = [] ∧ a = b := by
  have hU : U = [] := by
    cases hu : U with
    | nil => rfl
    | cons q t =>
      have hq : q ∈ U := by rw [hu]; simp
      have := hall q (x.lt q (by rw [h.split]; exact List.mem_map.2 ⟨(0, q), by simp [h.usub q hq], rfl⟩))
      exact absurd hq ((h.lst q).1 this).2
  refine ⟨?_, ?_⟩
  · cases hh : its with
    | nil => rfl
    | cons p t =>
      obtain ⟨k, c⟩ := p
      have hs := h.split
      rw [hh] at hs
      have hc := hall c (x.lt c (by rw [hs]; simp))
      have h4 := ((h.lst c).1 hc).1
      have h5 := x.nod
      rw [hs] at h5
      simp only [List.map_append, List.map_cons] at h5
      exact ((List.nodup_append.1 h5).2.2 c h4 c (by simp) rfl).elim
  · have h1 : a.tmps = b.tmps := Array.ext_getElem? fun i => h.agr i (by rw [hU]; simp)
    have h2 := h.dfr
    cases a; cases b
    simp only at h1 h2
    rw [h1, h2]
theorem fpath_mem : ∀ t : XT, fpath t ∈ paths t
  | .nil => by simp [fpath, paths]
  | .item k i t => by simp [fpath, paths, fpath_mem t]
  | .fork x y => by simp [fpath, paths, fpath_mem x]
theorem okT_nil : ∀ {t : XT} {f : Bool}, okT l f t = true → fpath t = [] → t = .nil ∧ f = false
  | .nil, f, h, _ => by simpa [okT] using h
  | .item k i t, f, _, h => by simp [fpath] at h
  | .fork x y, f, h, e => by
    simp only [okT, Bool.and_eq_true] at h
    have := okT_nil h.1.2 e
    simp at this
def TInv (P : Program) (rd : Option Nat) (N : Nat) (l : List Oper) (Q : Exit → Act → World → Prop) (t : XT) (pre : List (Nat × Nat)) (U : List Nat) (C : World → Prop) (b : Act) (listed : Array Bool) (a : Act) (w : World) : Prop :=
  wpX P rd l.toArray Q (pickK l t) C b w ∧ ∀ p ∈ paths t, XOk N l (pre ++ p) ∧ XInv P N l (pre ++ p) pre p U C b listed a w True
theorem app_one (pre : List (Nat × Nat)) (x : Nat × Nat) (p : List (Nat × Nat)) : pre ++ x :: p = (pre ++ [x]) ++ p := by simp
theorem TInv.settle : ∀ (t : XT) (pre : List (Nat × Nat)) (U : List Nat) (b : Act), okT l false t = true → TInv P rd N l Q t pre U C b listed a w →
    ∃ t' pre' U' b', okT l false t' = true ∧ TInv P rd N l Q t' pre' U' C b' listed a w ∧ (∀ i t2, t' ≠ .item 0 i t2)
  | .nil, pre, U, b, ho, h => ⟨.nil, pre, U, b, ho, h, fun i t2 e => by cases e⟩
  | .fork x y, pre, U, b, ho, h => ⟨.fork x y, pre, U, b, ho, h, fun i t2 e => by cases e⟩
  | .item (k + 1) i t, pre, U, b, ho, h => ⟨.item (k + 1) i t, pre, U, b, ho, h, fun i t2 e => by cases e⟩
  | .item 0 q t, pre, U, b, ho, h => by
    simp only [okT, Bool.and_eq_true] at ho
    obtain ⟨hw, hp⟩ := h
    have h0 := hp _ (fpath_mem (.item 0 q t))
    obtain ⟨o, hoq⟩ := h0.1.get (i := q) (by simp [fpath])
    simp only [pickK, hoq, wpX] at hw
    obtain ⟨v, hys, hw'⟩ : ∃ v, YS P l.toArray C o v b ∧ wpX P rd l.toArray Q (pickK l t) C (b.put o.dst v) w := by
      split at hw
      · rename_i hw1
        obtain ⟨v, h1, h2⟩ := hw
        exact ⟨v, .inl ⟨hw1, h1⟩, h2⟩
      · rename_i hw1
        exact ⟨undef, .inr ⟨by simpa using hw1, rfl⟩, hw⟩
    refine TInv.settle t (pre ++ [(0, q)]) (q :: U) (b.put o.dst v) ho.2 ⟨hw', fun p hpt => ?_⟩
    have h1 := hp ((0, q) :: p) (List.mem_map.2 ⟨p, hpt, rfl⟩)
    rw [app_one] at h1
    exact ⟨h1.1, h1.2.advance h1.1 hoq hys trivial⟩
theorem TInv.descend {j : Nat} : ∀ (t : XT) (f : Bool), okT l f t = true → (∀ i t2, t ≠ .item 0 i t2) → TInv P rd N l Q t pre U C b listed a w → j ∈ heads t → ∃ k t', TInv P rd N l Q (.item (k + 1) j t') pre U C b listed a w ∧ okT l false t' = true
  | .nil, f, _, _, _, hj => by simp [heads] at hj
  | .item 0 i t, f, _, hn, _, _ => (hn i t rfl).elim
  | .item (k + 1) i t, f, ho, _, h, hj => by
    simp only [heads, List.mem_singleton] at hj
    subst hj
    simp only [okT, Bool.and_eq_true] at ho
    exact ⟨k, t, h, ho.2⟩
  | .fork x y, f, ho, _, h, hj => by
    simp only [okT, Bool.and_eq_true] at ho
    have hn : ∀ t, okT l true t = true → ∀ i t2, t ≠ .item 0 i t2 := by
      rintro t ht i t2 rfl
      simp [okT] at ht
    simp only [heads, List.mem_append] at hj
    rcases hj with hj | hj
    · exact TInv.descend x true ho.1.2 (hn x ho.1.2) ⟨h.1.1, fun p hp => h.2 p (by simp [paths, hp])⟩ hj
    · exact TInv.descend y true ho.2 (hn y ho.2) ⟨h.1.2, fun p hp => h.2 p (by simp [paths, hp])⟩ hj
theorem node_of_ok {t : XT} (ho : okT l false t = true) (hn : ∀ i t2, t ≠ .item 0 i t2) : nodeOk l t = true := by
  cases t with
  | nil => rfl
  | item k i t =>
    cases k with
    | zero => exact (hn i t rfl).elim
    | succ k =>
      simp only [okT, Bool.and_eq_true, Bool.false_or] at ho
      exact ho.1
  | fork x y =>
    simp only [okT, Bool.and_eq_true, Bool.false_or] at ho
    exact ho.1.1
theorem heads_fpath : ∀ {t : XT} {c : Nat}, c ∈ heads t → ∃ p ∈ paths t, c ∈ p.map (·.2)
  | .nil, c, h => by simp [heads] at h
  | .item k i t, c, h => by
    simp only [heads, List.mem_singleton] at h
    subst h
    exact ⟨_, fpath_mem (.item k c t), by simp [fpath]⟩
  | .fork x y, c, h => by
    simp only [heads, List.mem_append] at h
    rcases h with h | h
    · obtain ⟨p, h1, h2⟩ := heads_fpath h; exact ⟨p, by simp [paths, h1], h2⟩
    · obtain ⟨p, h1, h2⟩ := heads_fpath h; exact ⟨p, by simp [paths, h1], h2⟩
theorem TInv.run (hQ : ∀ c a w, Q (.panic c) a w → False) : ∀ (fuel : Nat) (t : XT) (pre : List (Nat × Nat)) (U : List Nat) (C : World → Prop) (b : Act) (listed : Array Bool) (a : Act) (w : World), (unl l.length listed).length ≤ fuel → okT l false t = true → TInv P rd N l Q t pre U C b listed a w →
    wpAnyIn (FW rd) 0 P .any l.toArray Q fuel listed a w := by
  intro fuel
  have fin : ∀ (t : XT) (pre : List (Nat × Nat)) (U : List Nat) (C : World → Prop) (b : Act) (listed : Array Bool) (a : Act) (w : World), okT l false t = true → TInv P rd N l Q t pre U C b listed a w → (∀ i, i < l.length → listed.getD i false = true) → Q .normal a w := by
    intro t pre U C b listed a w ho inv hall
    obtain ⟨x, h⟩ := inv.2 _ (fpath_mem t)
    obtain ⟨h1, h2⟩ := h.allDone x hall
    obtain ⟨h3, _⟩ := okT_nil ho h1
    have hw := inv.1
    rw [h3] at hw
    rw [h2]
    exact hw
  induction fuel with
  | zero =>
    intro t pre U C b listed a w hf ho inv
    have inv0 := (inv.2 _ (fpath_mem t)).2
    have hall : ∀ i, i < l.length → listed.getD i false = true := fun i hi => by
      cases hb : listed.getD i false with
      | true => rfl
      | false => have := unl_lt inv0.lsize hi hb; omega
    have hr : Region.ready .any l.toArray listed = [] := by
      cases hh : Region.ready .any l.toArray listed with
      | nil => rfl
      | cons i r =>
        have hi : i ∈ Region.ready .any l.toArray listed := by rw [hh]; simp
        obtain ⟨h1, h2, _⟩ := (ready_iff inv0.lsize).1 hi
        rw [hall i h1] at h2; cases h2
    exact ⟨hr, fin t pre U C b listed a w ho inv hall⟩
  | succ fuel ih =>
    intro t pre U C b listed a w hf ho inv
    obtain ⟨x0, inv0⟩ := inv.2 _ (fpath_mem t)
    refine ⟨fun hr => ?_, fun j hj => ?_⟩
    ·
      refine fin t pre U C b listed a w ho inv fun i hi => ?_
      have key : ∀ (s2 s : List Nat), (pre ++ fpath t).map (·.2) = s ++ s2 → (∀ i ∈ s, listed.getD i false = true) → ∀ i ∈ s2, listed.getD i false = true := by
        intro s2
        induction s2 with
        | nil => intro s _ _ i h; cases h
        | cons k s2 iht =>
          intro s e hs i hi
          have hk : listed.getD k false = true := by
            cases hb : listed.getD k false with
            | true => rfl
            | false =>
              have : k ∈ Region.ready .any l.toArray listed := (ready_iff inv0.lsize).2 ⟨x0.lt k (by rw [e]; simp), hb, fun j hj => hs j (x0.pre s k s2 e j hj)⟩
              rw [hr] at this; cases this
          rcases List.mem_cons.1 hi with rfl | hi
          · exact hk
          · refine iht (s ++ [k]) (by rw [e]; simp) (fun i hi => ?_) i hi
            rcases List.mem_append.1 hi with hi | hi
            · exact hs i hi
            · simp at hi; subst hi; exact hk
      exact key _ [] rfl (by simp) i (x0.cov i hi)
    · obtain ⟨hjl, hju, hja⟩ := (ready_iff inv0.lsize).1 hj
      obtain ⟨t', pre', U', b', ho', inv', hn⟩ := TInv.settle t pre U b ho inv
      obtain ⟨x1, inv1⟩ := inv'.2 _ (fpath_mem t')
      have hlt := unl_lt inv0.lsize hjl hju
      have hjn : ¬ (j ∈ pre'.map (·.2) ∧ j ∉ U') := fun h => by rw [(inv1.lst j).2 h] at hju; cases hju
      by_cases hjU : j ∈ U'
      · refine inv1.stepU x1 hjU hja fun o v hoj hv => ih t' pre' (U'.filter (· ≠ j)) C b' _ _ _ (by omega) ho' ⟨inv'.1, fun p hp => ⟨(inv'.2 p hp).1, (inv'.2 p hp).2.finU (inv'.2 p hp).1 hjU hja hoj hv⟩⟩
      · by_cases hjh : j ∈ heads t'
        · obtain ⟨k, t2, inv2, ho2⟩ := TInv.descend t' false ho' hn inv' hjh
          obtain ⟨x2, inv3⟩ := inv2.2 _ (fpath_mem (.item (k + 1) j t2))
          have hc0 : (k + 1, j) ∈ pre' ++ fpath (.item (k + 1) j t2) := by simp [fpath]
          obtain ⟨o, hoj⟩ := x2.get (i := j) (List.mem_map.2 ⟨_, hc0, rfl⟩)
          have hlk := inv3.look x2 hc0 hja hoj
          obtain ⟨he, hw⟩ := looks_eval (a := b') (a' := a) (fun cs b => x2.sel _ o cs b hoj) hlk
          have hwp := inv2.1
          simp only [pickK, hoj, wpX] at hwp
          have next : ∀ (v : Value) (a2 b2 : Act) (w2 : World) (C' : World → Prop), C' w2 → (k = 1 ∨ ∀ u, C' u → C u) → wpX P rd l.toArray Q (pickK l t2) C' b2 w2 → a2.tmps = (a.put o.dst v).tmps → b2.tmps = (b'.put o.dst v).tmps → a2.defers = b2.defers →
              wpAnyIn (FW rd) 0 P .any l.toArray Q fuel (listed.setIfInBounds j true) a2 w2 := by
            intro v a2 b2 w2 C' h1 h2 h3 h4 h5 h6
            refine ih t2 (pre' ++ [(k + 1, j)]) U' C' b2 _ _ _ (by omega) ho2 ⟨h3, fun p hp => ?_⟩
            have h7 := inv2.2 ((k + 1, j) :: p) (List.mem_map.2 ⟨p, hp, rfl⟩)
            rw [app_one] at h7
            exact ⟨h7.1, h7.2.finC h7.1 hja hoj h1 h2 trivial h4 h5 h6⟩
          unfold wpOpIn
          simp only [List.getElem?_toArray, hoj]
          rw [hw]
          split
          · rename_i hw1
            rw [if_pos hw1] at hwp
            refine Oper.wpIn_mono ?_ (wpIn_transfer (x2.nd j o hoj) he hQ hwp)
            rintro a2 w2 ⟨v, b2, ⟨C', h1, h2, h3⟩, hta, htb, hdf⟩
            exact next v a2 b2 w2 C' h1 h2 h3 hta htb (hdf inv3.dfr)
          · rename_i hw1
            rw [if_neg hw1] at hwp
            exact ⟨fun _ _ => trivial, next undef _ _ w C inv3.world (.inr fun _ h => h) hwp rfl rfl (by rw [put_defers_eq, put_defers_eq]; exact inv3.dfr)⟩
        · exfalso
          have hjo := x1.cov j hjl
          have hjf : j ∈ (fpath t').map (·.2) := by
            simp only [List.map_append, List.mem_append] at hjo
            rcases hjo with h1 | h1
            · exact absurd ⟨h1, hjU⟩ hjn
            · exact h1
          obtain ⟨y, hy, rfl⟩ := List.mem_map.1 hjf
          have h2 := List.all_eq_true.1 (node_of_ok ho' hn) y hy
          simp only [Bool.or_eq_true, List.elem_eq_mem, decide_eq_true_eq, List.any_eq_true] at h2
          rcases h2 with h2 | ⟨c, hc, hcc⟩
          · exact hjh h2
          · have h3 := clo_listed inv1.closed hja c hcc
            obtain ⟨p, hp, hcp⟩ := heads_fpath hc
            obtain ⟨x4, inv4⟩ := inv'.2 p hp
            have h4 := ((inv4.lst c).1 h3).1
            have h5 := x4.nod
            simp only [List.map_append] at h5
            exact (List.nodup_append.1 h5).2.2 c h4 c hcp rfl
end
end Go.Sl

set_option linter.unusedVariables false
set_option linter.unusedSectionVars false
set_option linter.unusedSimpArgs false
namespace Go.Sl
section
variable (P : Program) (rd : Option Nat) (N : Nat)
def SX (all : Array Oper) (its : XO) (T : TT) (B E : List HP) (ks : List K) (Q : Post) : Prop :=
  ∀ (G : HP) (r : Ro) (oB : Own) (a : Act) (w : World), seps (G :: B) r oB → Ok (pin r oB) N T E a w → wpX P rd all (lift G N (postK P rd N ks Q)) its (fun w => Sat w r oB) a w
def SY (all : Array Oper) (its : XO) (T : TT) (B E : List HP) (ks : List K) (Q : Post) : Prop :=
  ∀ (G : HP) (r : Ro) (oB : Own) (a : Act) (w : World), seps (G :: B) r oB → Ok (pin r oB) N T E a w → ∃ C : World → Prop, C w ∧ (∀ u, C u → Sat u r oB) ∧ wpX P rd all (lift G N (postK P rd N ks Q)) its C a w
end
inductive PersSub : List HP → List HP → Prop
  | nil : PersSub [] []
  | keep {A : HP} {L M : List HP} (h : Pers A) (t : PersSub L M) : PersSub (A :: L) (A :: M)
  | skip {A : HP} {L M : List HP} (t : PersSub L M) : PersSub (A :: L) M
inductive DropP : List HP → List HP → Prop
  | nil : DropP [] []
  | skip {A : HP} {L M : List HP} (h : Pers A) (t : DropP L M) : DropP (A :: L) M
  | keep {A : HP} {L M : List HP} (t : DropP L M) : DropP (A :: L) (A :: M)
theorem PersSub.s {α : Type} {ρ : Rep α} {A : Option Addr} {n : Nat} {l : List α} {L M : List HP} (t : PersSub L M) : PersSub (slAt ρ A n l :: L) (slAt ρ A n l :: M) := .keep (pers_slAt _ _ _ _) t
theorem PersSub.t {g h : Nat} {L M : List HP} (t : PersSub L M) : PersSub (tabs g h :: L) (tabs g h :: M) := .keep (pers_tabs _ _) t
theorem PersSub.p {p : Prop} {L M : List HP} (t : PersSub L M) : PersSub (pr p :: L) (pr p :: M) := .keep (pers_pr _) t
theorem PersSub.r {b off : Nat} {vs : List Value} {L M : List HP} (t : PersSub L M) : PersSub (rod b off vs :: L) (rod b off vs :: M) := .keep (pers_rod _ _ _) t
theorem DropP.s {α : Type} {ρ : Rep α} {A : Option Addr} {n : Nat} {l : List α} {L M : List HP} (t : DropP L M) : DropP (slAt ρ A n l :: L) M := .skip (pers_slAt _ _ _ _) t
theorem DropP.t {g h : Nat} {L M : List HP} (t : DropP L M) : DropP (tabs g h :: L) M := .skip (pers_tabs _ _) t
theorem DropP.p {p : Prop} {L M : List HP} (t : DropP L M) : DropP (pr p :: L) M := .skip (pers_pr _) t
theorem DropP.r {b off : Nat} {vs : List Value} {L M : List HP} (t : DropP L M) : DropP (rod b off vs :: L) M := .skip (pers_rod _ _ _) t
theorem DropP.ent {L M : List HP} (h : DropP L M) : Ent L M := by
  induction h with
  | nil => exact Ent.refl _
  | skip _ _ ih => exact Ent.drop.trans ih
  | keep _ ih => exact Ent.cons ih
theorem PersSub.all {L M : List HP} (h : PersSub L M) : ∀ A ∈ M, Pers A := by
  induction h with
  | nil => intro A h; cases h
  | keep h _ ih => exact all_cons h ih
  | skip _ ih => exact ih
theorem PersSub.told {L M : List HP} (h : PersSub L M) : ∀ {r : Ro} {o : Own}, seps L r o → ∀ A ∈ M, A.h r own0 := by
  induction h with
  | nil => intro r o _ A h; cases h
  | keep hp _ ih =>
    rintro r o ⟨a, b, d, le, hA, hL⟩
    exact all_cons (hp r a hA) (ih hL)
  | skip _ ih =>
    rintro r o ⟨a, b, d, le, hA, hL⟩
    exact ih hL
theorem seps_more {M B : List HP} {r : Ro} {o : Own} (hM : ∀ A ∈ M, A.h r own0) (h : seps B r o) : seps (M ++ B) r o := by
  induction M with
  | nil => exact h
  | cons A M ih => exact ⟨own0, o, fun _ _ => .inl rfl, none_add, hM A (by simp), ih fun C hC => hM C (by simp [hC])⟩
theorem sat_le {w : World} {r r' : Ro} {o : Own} (h : r.le r') (s : Sat w r' o) : Sat w r o :=
  ⟨fun i j v e => s.ro _ _ _ (h.le _ _ _ e), s.val, s.obj, fun i j v c e e' => s.dis _ _ _ _ (h.le _ _ _ e) e', h.bs ▸ s.below, fun i j c e => h.bs ▸ s.low i j c e, s.pl⟩
section
variable {P : Program} [tb : Tab P] {rd : Option Nat} {N : Nat} {T : TT} {B E E' L M : List HP} {Q : Post} {ks : List K}
variable {all : Array Oper} {rest : XO} {o : Oper}
theorem ok_unpin {G : HP} {r : Ro} {oB : Own} {a : Act} {w : World} (hs : seps (G :: B) r oB) (ok : Ok (pin r oB) N T E a w) : Ok G N T (E ++ B) a w := by
  obtain ⟨h1, h2, D, hD, hst⟩ := ok
  refine ⟨h1, h2, D, hD, ?_⟩
  have h3 : St w (pin r oB :: (D.map mkA ++ E)) := hst.ent (ent_big (A := pin r oB :: D.map mkA))
  have h4 := pin_swap h3 hs
  refine h4.ent ?_
  refine (ent_big (A := G :: B)).trans ?_
  have e1 : Ent (B ++ (D.map mkA ++ E)) ((D.map mkA ++ E) ++ B) := ent_app_comm
  rw [List.append_assoc] at e1
  exact (Ent.cons e1).trans (big_ent (A := G :: D.map mkA))
theorem ok_sat {r : Ro} {oB : Own} {a : Act} {w : World} (ok : Ok (pin r oB) N T E a w) : Sat w r oB := by
  obtain ⟨h1, h2, D, hD, hst⟩ := ok
  exact pin_sat (hst.ent (ent_big (A := pin r oB :: D.map mkA)))
theorem SX.nil (hd : DropP E E') (h : SK P rd N ks T (E' ++ B) Q) : SX P rd N all .nil T B E ks Q := fun G r oB a w hs ok => by
  have := ok_unpin hs (ok.ent hd.ent)
  exact ⟨T, E' ++ B, this, h⟩
def all2 : XO → Bool
  | .nil => true
  | .item k _ t => Nat.beq k 2 && all2 t
  | .fork _ _ => false
def opsX : XO → List Oper
  | .nil => []
  | .item _ o t => o :: opsX t
  | .fork _ _ => []
theorem SX.tail {its : XO} (hk : all2 its = true) (hd : DropP E E') (h : SO P rd N all (opsX its) T (E' ++ B) ks Q) : SX P rd N all its T B E ks Q := by
  intro G r oB a w hs ok
  have h1 := h G a w (ok_unpin hs (ok.ent hd.ent))
  have h2 := ok_sat ok
  have key : ∀ (its : XO) (C : World → Prop) (a : Act) (w : World), all2 its = true → wpListIn (FW rd) 0 P all (lift G N (postK P rd N ks Q)) (opsX its) a w → wpX P rd all (lift G N (postK P rd N ks Q)) its C a w := by
    intro its
    induction its with
    | nil => intro C a w _ h; simpa [wpX, wpListIn, opsX] using h
    | fork _ _ _ _ => intro C a w h; cases h
    | item k o its ih =>
      intro C a w hk h
      simp only [all2, Bool.and_eq_true] at hk
      obtain rfl : k = 2 := Nat.eq_of_beq_eq_true hk.1
      simp only [opsX, wpListIn] at h
      simp only [wpX]
      split
      · rename_i hw
        rw [if_pos hw] at h
        exact Oper.wpIn_mono (fun a' w' h' => ⟨fun _ => True, trivial, by simp, ih _ a' w' hk.2 h'⟩) h
      · rename_i hw
        rw [if_neg hw] at h
        exact ih _ _ _ hk.2 h.2
  exact key its _ a w hk h1
theorem SX.fork {x y : XO} (h1 : SX P rd N all x T B E ks Q) (h2 : SX P rd N all y T B E ks Q) : SX P rd N all (.fork x y) T B E ks Q := fun G r oB a w hs ok => ⟨h1 G r oB a w hs ok, h2 G r oB a w hs ok⟩
theorem SY.go (h : SX P rd N all rest T B E ks Q) : SY P rd N all rest T B E ks Q := fun G r oB a w hs ok => ⟨fun w => Sat w r oB, ok_sat ok, fun _ h => h, h G r oB a w hs ok⟩
theorem SY.share {X X' : List HP} (hX : PersSub X X') (h : SY P rd N all rest T (X' ++ B) (X ++ E) ks Q) : SY P rd N all rest T B (X ++ E) ks Q := by
  intro G r oB a w hs ok
  obtain ⟨h1, h2, D, hD, hst⟩ := ok
  have h3 : St w (pin r oB :: (D.map mkA ++ (X ++ E))) := hst.ent (ent_big (A := pin r oB :: D.map mkA))
  have e1 := ent_app_comm (A := D.map mkA) (B := X ++ E)
  rw [List.append_assoc] at e1
  obtain ⟨r', o', s, x, y, d, le, ⟨hr, ho⟩, hy⟩ := h3.ent (Ent.cons e1)
  have hX0 : seps X r' y := by
    have : ∀ (X R : List HP) (r : Ro) (y : Own), seps (X ++ R) r y → seps X r y := by
      intro X R
      induction X with
      | nil => intros; trivial
      | cons A X ih => rintro r y ⟨a1, b1, d1, le1, hA, hL⟩; exact ⟨a1, b1, d1, le1, hA, ih _ _ hL⟩
    exact this _ _ _ _ hy
  have htold := hX.told hX0
  have hs' : seps (G :: (X' ++ B)) r' oB := by
    obtain ⟨a1, b1, d1, le1, hG, hB⟩ := seps_up hr (Own.le_refl _) hs
    exact ⟨a1, b1, d1, le1, hG, seps_more htold hB⟩
  have hst' : St w (pin r' oB :: (X ++ (E ++ D.map mkA))) := ⟨r', o', s, x, y, d, le, ⟨Ro.le_refl _, ho⟩, hy⟩
  have e2 := ent_app_comm (A := X ++ E) (B := D.map mkA)
  rw [List.append_assoc] at e2
  obtain ⟨C, hC, hCC, hwp⟩ := h G r' oB a w hs' ⟨h1, h2, D, hD, (hst'.ent (Ent.cons e2)).ent (big_ent (A := pin r' oB :: D.map mkA))⟩
  exact ⟨C, hC, fun u hu => sat_le hr (hCC u hu), hwp⟩
theorem SY.shareGo {X X' : List HP} (hX : PersSub X X') (h : SX P rd N all rest T (X' ++ B) (X ++ E) ks Q) : SY P rd N all rest T B (X ++ E) ks Q := SY.share hX (SY.go h)
theorem SX.copy {M : List HP} {its : XO} (hM : ∀ A ∈ M, Pers A) (h : SX P rd N all its T (M ++ B) (M ++ E) ks Q) : SX P rd N all its T (M ++ B) E ks Q := by
  intro G r oB a w hs ok
  refine h G r oB a w hs ?_
  obtain ⟨h1, h2, D, hD, hst⟩ := ok
  refine ⟨h1, h2, D, hD, ?_⟩
  have htold : ∀ A ∈ M, A.h r own0 := by
    obtain ⟨_, y, _, _, _, hB⟩ := hs
    clear h hst
    revert hM hB
    generalize y = z
    induction M generalizing z with
    | nil => intro _ _ A hA; cases hA
    | cons A M ih =>
      rintro hM ⟨a1, b1, _, _, hA, hB⟩
      exact all_cons (hM A (by simp) r a1 hA) (ih b1 (fun C hC => hM C (by simp [hC])) hB)
  have h3 : St w (pin r oB :: (D.map mkA ++ E)) := hst.ent (ent_big (A := pin r oB :: D.map mkA))
  obtain ⟨r', o', s, x, y, d, le, ⟨hr, ho⟩, hy⟩ := h3
  have hy2 : seps (M ++ (D.map mkA ++ E)) r' y := seps_more (fun A hA => A.up _ _ _ _ hr (Own.le_refl _) (htold A hA)) hy
  have h4 : St w (pin r oB :: (M ++ (D.map mkA ++ E))) := ⟨r', o', s, x, y, d, le, ⟨hr, ho⟩, hy2⟩
  refine h4.ent ?_
  have e1 : Ent (M ++ (D.map mkA ++ E)) (D.map mkA ++ (M ++ E)) := by
    have h5 := ent_app_comm (A := M) (B := D.map mkA ++ E)
    rw [List.append_assoc] at h5
    exact h5.trans (Ent.app ent_app_comm)
  exact (Ent.cons e1).trans (big_ent (A := pin r oB :: D.map mkA))
theorem SY.ent (e : Ent E E') (h : SY P rd N all rest T B E' ks Q) : SY P rd N all rest T B E ks Q := fun G r oB a w hs ok => h G r oB a w hs (ok.ent e)
theorem SY.shift (hs : ∀ F w, St w (F :: E) → St w (F :: E')) (h : SY P rd N all rest T B E' ks Q) : SY P rd N all rest T B E ks Q := fun G r oB a w hs' ok =>
  h G r oB a w hs' ⟨ok.size, ok.get, let ⟨D, h1, h2⟩ := ok.mem; ⟨D, h1, hs _ _ h2⟩⟩
theorem SY.know {p : Prop} (hp : ∀ r o, seps E r o → p) (k : p → SY P rd N all rest T B E ks Q) : SY P rd N all rest T B E ks Q := fun G r oB a w hs ok => by
  obtain ⟨D, hD, r', o', s, x, y, d, le, _, hL⟩ := ok.mem
  exact k (hp r' y hL) G r oB a w hs ok
theorem SY.openPr {p : Prop} (hh : Take (pr p) E E') (h : p → SY P rd N all rest T B E' ks Q) : SY P rd N all rest T B E ks Q := fun G r oB a w hs ok => by
  obtain ⟨D, hD, r', o', s, x, y, d, le, _, hL⟩ := ok.mem
  obtain ⟨_, _, _, _, hp, _⟩ := hh.ent r' y hL
  exact h hp G r oB a w hs (ok.ent hh.drop)
theorem wpIn_swap {o : Oper} {a : Act} {w : World} {K K' : Act → World → Prop} {Q1 Q2 : Exit → Act → World → Prop} (hn : notDefer o.op = true) (hQ : ∀ c a w, Q1 (.panic c) a w → False) (hO : LetsOut Q1 → False) (hK : ∀ a w, K a w → K' a w) (h : o.wpIn (FW rd) 0 P a w K Q1) : o.wpIn (FW rd) 0 P a w K' Q2 := by
  unfold Oper.wpIn at *
  refine ⟨fun _ _ => trivial, ?_⟩
  have h := h.2
  rw [Oper.semAt_eq _ _ _ (notDefer_spec hn)] at h ⊢
  generalize (execOp a.eval o).run P w = r at *
  cases r with
  | ok x w' =>
    cases x <;> simp only [Oper.uponIn] at h ⊢
    case value u => exact hK _ _ h
    case skip => exact hK _ _ h
    case defer d => exact hK _ _ h
    case enter f args =>
      refine ⟨h.1, CallsIn.mono h.2 fun e w'' he => ?_⟩
      cases e with
      | returned u => exact hK _ _ he
      | panicked c => exact (hQ _ _ _ he).elim
      | outgrown => exact (hO he).elim
    case row row args => exact ⟨h.1, RowsIn.mono h.2 fun u w'' he => hK _ _ he⟩
    case round l f tmps assign body =>
      refine ⟨h.1, RoundIn.mono h.2 fun e w'' he => ?_⟩
      cases e with
      | returned u => exact hK _ _ he
      | panicked c => exact (hQ _ _ _ he).elim
      | outgrown => exact (hO he).elim
  | halt x w' =>
    cases x <;> simp only [Oper.uponIn] at h ⊢
    case panic u => exact (hQ _ _ _ h).elim
theorem SX.step {k : Nat} (hg : o.guard = none) (hn : notDefer o.op = true) (h : SO P rd N all [o] T E [.inv fun T' E' => SY P rd N all rest T' B E' ks Q] (fun _ _ _ => False)) : SX P rd N all (.item (k + 1) o rest) T B E ks Q := by
  intro G r oB a w hs ok
  have h1 := h (pin r oB) a w ok
  simp only [wpListIn, wpX, Region.wanted, hg, if_true] at h1 ⊢
  refine wpIn_swap hn ?_ ?_ ?_ h1
  · rintro c a' w' ⟨T', L', _, hq⟩; exact hq.elim
  · rintro ⟨a', w', T', L', _, hq⟩; exact hq.elim
  · rintro a' w' ⟨T', E', ok', hq⟩
    simp only [postK] at hq
    rw [SK] at hq
    obtain ⟨C, hC, hCC, hwp⟩ := hq G r oB a' w' hs ok'
    exact ⟨C, hC, .inr hCC, hwp⟩
theorem SK.invY {ks' : List K} {Q0 : Post} (h : SY P rd N all rest T B E ks Q) : SK P rd N (.inv (fun T' E' => SY P rd N all rest T' B E' ks Q) :: ks') T E Q0 := SK.inv h
theorem SX.reads {R : Value → List HP → Prop} (hr : Reads P T B o R) (hg : o.guard = none) (hd : dstOk N o.dst = true)
    (h : ∀ v B', R v B' → SX P rd N all rest (putD o.dst v T) B' E ks Q) : SX P rd N all (.item 0 o rest) T B E ks Q := by
  intro G r oB a w hs ok
  obtain ⟨v, B', hR, hs', hrun⟩ := hr a.eval ok.knows r oB G hs
  simp only [wpX, Region.wanted, hg, if_true]
  exact ⟨v, hrun, h v B' hR G r oB _ w hs' (ok.putD hd v)⟩
theorem SX.guard {k : Nat} {j : Nat} {want : Bool} {t : Nat} {β : Bool} {dst : Option Tmp} {op : Op} {ty : TypeId} {pos : String} {aft : Array Edge}
    (hj : (all[j]?).bind (·.dst) = some t) (ht : T.get t = some (.bool β)) (hd : dstOk N dst = true)
    (yes : β = want → SX P rd N all (.item k ⟨dst, op, ty, pos, aft, none⟩ rest) ((t, .bool want) :: T) B E ks Q)
    (no : β = !want → SX P rd N all rest (putD dst undef ((t, .bool (!want)) :: T)) B E ks Q) : SX P rd N all (.item k ⟨dst, op, ty, pos, aft, some (j, want)⟩ rest) T B E ks Q := by
  intro G r oB a w hs ok
  have hy : yielded all a.tmps j = some β := by
    simp only [yielded, hj, Option.bind_some, ok.get _ _ ht]
  by_cases hb : β = want
  · have hw : Region.wanted (⟨dst, op, ty, pos, aft, some (j, want)⟩ : Oper) (yielded all a.tmps) = true := by simp [Region.wanted, hy, hb]
    have h2 := yes hb G r oB a w hs (ok.know (hb ▸ ht))
    simp only [wpX, hw, if_true]
    simp only [wpX, Region.wanted, if_true] at h2
    exact h2
  · have hw : Region.wanted (⟨dst, op, ty, pos, aft, some (j, want)⟩ : Oper) (yielded all a.tmps) = false := by simp [Region.wanted, hy, hb]
    have hb' : β = !want := by cases β <;> cases want <;> simp_all
    simp only [wpX, hw]
    exact no hb' G r oB _ w hs ((ok.know (hb' ▸ ht)).putD hd undef)
theorem SX.guardY {k : Nat} {j : Nat} {want : Bool} {t : Nat} {dst : Option Tmp} {op : Op} {ty : TypeId} {pos : String} {aft : Array Edge}
    (hj : (all[j]?).bind (·.dst) = some t) (ht : T.get t = some (.bool want))
    (yes : SX P rd N all (.item k ⟨dst, op, ty, pos, aft, none⟩ rest) T B E ks Q) : SX P rd N all (.item k ⟨dst, op, ty, pos, aft, some (j, want)⟩ rest) T B E ks Q := by
  intro G r oB a w hs ok
  have hy : yielded all a.tmps j = some want := by
    simp only [yielded, hj, Option.bind_some, ok.get _ _ ht]
  have hw : Region.wanted (⟨dst, op, ty, pos, aft, some (j, want)⟩ : Oper) (yielded all a.tmps) = true := by simp [Region.wanted, hy]
  have h2 := yes G r oB a w hs ok
  simp only [wpX, hw, if_true]
  simp only [wpX, Region.wanted, if_true] at h2
  exact h2
theorem SX.guardN {k : Nat} {j : Nat} {want : Bool} {t : Nat} {dst : Option Tmp} {op : Op} {ty : TypeId} {pos : String} {aft : Array Edge}
    (hj : (all[j]?).bind (·.dst) = some t) (ht : T.get t = some (.bool (!want))) (hd : dstOk N dst = true)
    (no : SX P rd N all rest (putD dst undef T) B E ks Q) : SX P rd N all (.item k ⟨dst, op, ty, pos, aft, some (j, want)⟩ rest) T B E ks Q := by
  intro G r oB a w hs ok
  have hy : yielded all a.tmps j = some (!want) := by
    simp only [yielded, hj, Option.bind_some, ok.get _ _ ht]
  have hw : Region.wanted (⟨dst, op, ty, pos, aft, some (j, want)⟩ : Oper) (yielded all a.tmps) = false := by simp [Region.wanted, hy]
  simp only [wpX, hw]
  exact no G r oB _ w hs (ok.putD hd undef)
theorem SX.guardU {k : Nat} {j : Nat} {want : Bool} {t : Nat} {v : Value} {dst : Option Tmp} {op : Op} {ty : TypeId} {pos : String} {aft : Array Edge}
    (hj : (all[j]?).bind (·.dst) = some t) (ht : T.get t = some v) (hv : noBool v = true) (hd : dstOk N dst = true)
    (no : SX P rd N all rest (putD dst undef T) B E ks Q) : SX P rd N all (.item k ⟨dst, op, ty, pos, aft, some (j, want)⟩ rest) T B E ks Q := by
  intro G r oB a w hs ok
  have hy := yield_none hj (ok.get _ _ ht) hv
  have hw : Region.wanted (⟨dst, op, ty, pos, aft, some (j, want)⟩ : Oper) (yielded all a.tmps) = false := by simp [Region.wanted, hy]
  simp only [wpX, hw]
  exact no G r oB _ w hs (ok.putD hd undef)
theorem SX.guardYP {k : Nat} {j : Nat} {want : Bool} {t : Nat} {β : Bool} {dst : Option Tmp} {op : Op} {ty : TypeId} {pos : String} {aft : Array Edge}
    (hj : (all[j]?).bind (·.dst) = some t) (ht : T.get t = some (.bool β)) (hb : β = want)
    (yes : SX P rd N all (.item k ⟨dst, op, ty, pos, aft, none⟩ rest) ((t, .bool want) :: T) B E ks Q) : SX P rd N all (.item k ⟨dst, op, ty, pos, aft, some (j, want)⟩ rest) T B E ks Q := by
  subst hb
  exact fun G r oB a w hs ok => (SX.guardY (T := (t, .bool β) :: T) hj (by rw [TT.get_cons, if_pos rfl]) yes) G r oB a w hs (ok.know ht)
theorem SX.guardNP {k : Nat} {j : Nat} {want : Bool} {t : Nat} {β : Bool} {dst : Option Tmp} {op : Op} {ty : TypeId} {pos : String} {aft : Array Edge}
    (hj : (all[j]?).bind (·.dst) = some t) (ht : T.get t = some (.bool β)) (hd : dstOk N dst = true) (hb : β = !want)
    (no : SX P rd N all rest (putD dst undef ((t, .bool (!want)) :: T)) B E ks Q) : SX P rd N all (.item k ⟨dst, op, ty, pos, aft, some (j, want)⟩ rest) T B E ks Q := by
  subst hb
  exact fun G r oB a w hs ok => (SX.guardN (T := (t, .bool (!want)) :: T) hj (by rw [TT.get_cons, if_pos rfl]) hd no) G r oB a w hs (ok.know ht)
theorem SK.regionX {l : List Oper} {L0 Ps : List HP} (id : Nat) (ord : XT) (E0 : List HP) (hE : Takes E0 L L0) (hP : PersSub L0 Ps) (hm : P.follows .mixedOrders = true) (hok : canOk N l ord = true) (hnp : ∀ c T L, Q (.panic c) T L → False)
    (h : SX P rd N l.toArray (pickK l ord) T L0 (E0 ++ Ps) ks Q) : SK P rd N (.code (.region id l.toArray true) :: ks) T L Q := by
  rw [SK_code]
  intro G a0 w ok
  simp only [canOk, Bool.and_eq_true] at hok
  obtain ⟨⟨⟨hok1, hok2⟩, hok3⟩, hok4⟩ := hok
  obtain ⟨D, hD, hst⟩ := ok.mem
  have h1 : St w (D.map mkA ++ (E0 ++ (G :: L0))) := by
    have h2 : St w ((G :: D.map mkA) ++ L) := hst.ent (ent_big (A := G :: D.map mkA))
    have h3 : St w ((G :: D.map mkA) ++ (E0 ++ L0)) := h2.ent (Ent.app hE.ent)
    refine h3.ent ?_
    have e1 := ent_app_comm (A := [G]) (B := D.map mkA ++ (E0 ++ L0))
    simp only [List.append_assoc, List.cons_append, List.nil_append] at e1 ⊢
    refine e1.trans (Ent.app (Ent.app ?_))
    exact (ent_app_comm (A := L0) (B := [G])).trans (Ent.refl _)
  obtain ⟨r, oo, s, hs⟩ := h1
  have hsplit : ∀ (A B : List HP) (r : Ro) (o : Own), seps (A ++ B) r o → ∃ x y, Own.disj x y ∧ Own.le (x.add y) o ∧ seps A r x ∧ seps B r y := by
    intro A B r
    induction A with
    | nil => intro o h; exact ⟨own0, o, fun _ _ => .inl rfl, none_add, trivial, h⟩
    | cons A As ih =>
      rintro o ⟨p, q, d, le, hA, hq⟩
      have := (big_ent (A := A :: As) (L := B)) r o ⟨p, q, d, le, hA, hq⟩
      obtain ⟨x, y, d', le', hx, hy⟩ := this
      exact ⟨x, y, d', le', hx, hy⟩
  have hs2 : seps ((D.map mkA ++ E0) ++ (G :: L0)) r oo := by rw [List.append_assoc]; exact hs
  obtain ⟨x1, oB, d1, le1, hE0, hB⟩ := hsplit _ _ r oo hs2
  have hpin : St w (pin r oB :: (D.map mkA ++ E0)) := by
    have h5 : seps ((D.map mkA ++ E0) ++ [pin r oB]) r oo := by
      have : ∀ (A : List HP) (x y o : Own), Own.disj x y → Own.le (x.add y) o → seps A r x → y = oB → seps (A ++ [pin r oB]) r o := by
        intro A x y o d le hA hy
        subst hy
        have := (ent_big (A := A) (L := [pin r y])) r o ⟨x, y, d, le, hA, y, own0, fun _ _ => .inr rfl, (fun i j c e => by
          rcases Own.add_cases e with e | e
          · exact e
          · cases e), ⟨Ro.le_refl _, Own.le_refl _⟩, trivial⟩
        exact this
      exact this _ x1 oB oo d1 le1 hE0 rfl
    exact St.ent (ent_app_comm (B := [pin r oB])) ⟨r, oo, s, h5⟩
  have htold := hP.told (r := r) (o := oB) (by obtain ⟨_, _, d, le, _, h⟩ := hB; exact seps_up (Ro.le_refl _) (Own.le_trans (Own.le_add_right d) le) h)
  have hst2 : St w (big (pin r oB :: D.map mkA) :: (E0 ++ Ps)) := by
    obtain ⟨r', o', s', p, q, d, le, ⟨hr, ho⟩, hq⟩ := hpin
    have hq2 : seps (Ps ++ (D.map mkA ++ E0)) r' q := seps_more (fun A hA => A.up _ _ _ _ hr (Own.le_refl _) (htold A hA)) hq
    have h6 : St w (pin r oB :: (Ps ++ (D.map mkA ++ E0))) := ⟨r', o', s', p, q, d, le, ⟨hr, ho⟩, hq2⟩
    refine h6.ent ?_
    have e1 := ent_app_comm (A := Ps) (B := D.map mkA ++ E0)
    rw [List.append_assoc] at e1
    exact (Ent.cons e1).trans (big_ent (A := pin r oB :: D.map mkA))
  refine wpIn_region_any hm ?_
  have hdrew : St { w with drawn := w.drawn + 1 } (big (pin r oB :: D.map mkA) :: (E0 ++ Ps)) := hst2.drew _
  have ok2 : Ok (pin r oB) N T (E0 ++ Ps) a0 { w with drawn := w.drawn + 1 } := ⟨ok.size, ok.get, D, hD, hdrew⟩
  have hw := h G r oB a0 _ hB ok2
  refine TInv.run (fun c a w ⟨T, L, _, hq⟩ => hnp c T L hq) _ ord [] [] _ a0 _ a0 _ ?_ hok4 ⟨hw, fun p hp => ⟨pathOk_ok hok1 hok2 (List.all_eq_true.1 hok3 p hp), ?_⟩⟩
  · refine Nat.le_trans (List.length_filter_le _ _) (by simp)
  · refine ⟨rfl, by simp, fun i h => ?_, fun i => ?_, fun q h => (by cases h), ok_sat ok2, trivial, rfl, ok.size, ok.size, fun _ _ => rfl, fun q h => by cases h⟩
    · rw [getD_rep] at h; cases h
    · rw [getD_rep]; simp
theorem SK.cutJ {c : Code} {X : Type} (TX : X → TT) (LX : X → List HP) (hq : ∀ id T L, Q (.exit id) T L → False) (h : SK P rd N [.code c, .inv fun T' L' => ∃ x : X, Sub T' (TX x) ∧ Ent L' (LX x)] T L Q) (k : ∀ x, ∀ T' L', Sub T' (TX x) → Ent L' (LX x) → SK P rd N ks T' L' Q) : SK P rd N (.code c :: ks) T L Q := by
  rw [SK_code] at h ⊢
  intro F a w ok
  refine wpIn_mono (h F a w ok) ?_
  rintro e a' w' ⟨T', L', ok', hp⟩
  refine ⟨T', L', ok', ?_⟩
  cases e with
  | normal =>
    simp only [postK] at hp ⊢
    rw [SK] at hp
    obtain ⟨x, h1, h2⟩ := hp
    exact k x T' L' h1 h2
  | exit id =>
    simp only [postK, findK] at hp
    exact (hq id T' L' hp).elim
  | ret => exact hp
  | goto l => exact hp
  | panic ch => exact hp
  | outgrown => exact hp
end
end Go.Sl

set_option linter.unusedVariables false
set_option linter.unusedSectionVars false
set_option linter.unusedSimpArgs false
namespace Go.Sl
section
variable {P : Program} [tb : Tab P] {rd : Option Nat} {N : Nat} {T : TT} {L L' L1 L2 E : List HP} {Q : Post} {ks : List K}
variable {all : Array Oper} {rest : XO} {o : Oper} {d : Option Tmp} {ty : TypeId} {pos : String} {aft : Array Edge}
variable {α : Type} {ρ : Rep α}
theorem SX.pure {v : Value} (hg : o.guard = none) (h : pureOp tb.tab T o.op = some v) (hd : dstOk N o.dst = true)
    (k : SX P rd N all rest (putD o.dst v T) L E ks Q) : SX P rd N all (.item 0 o rest) T L E ks Q := SX.reads (reads_pure h) hg hd (by rintro _ _ ⟨rfl, rfl⟩; exact k)
theorem SX.load {x : Operand} {t b off o' : Nat} {vs : List Value} {ti : TI} (hx : evO T x = some (.pointer (some ⟨b, off, none⟩))) (htk : Take (pts b o' vs) L L')
    (ht : tget tb.tab t = some ti) (ho : Nat.ble o' off = true) (hp : packOk ti (cut vs (off - o') ti.size)) (hd : dstOk N d = true)
    (k : SX P rd N all rest (putD d (packV ti (cut vs (off - o') ti.size)) T) L E ks Q) : SX P rd N all (.item 0 ⟨d, .load t x, ty, pos, aft, none⟩ rest) T L E ks Q :=
  SX.reads (rd_load hx htk ht ho hp) rfl hd (by rintro _ _ ⟨rfl, rfl⟩; exact k)
theorem SX.field {x : Operand} {t i off : Nat} {cs : List Value} {fs : List (Nat × Nat)} {n1 n2 : Nat} {z : Value} {tf : Nat} {ti : TI} (hx : evO T x = some (.agg cs.toArray))
    (ht : tget tb.tab t = some ⟨.st fs, n1, n2, z⟩) (hf : fs[i]? = some (off, tf)) (hti : tget tb.tab tf = some ti) (hp : packOk ti (cut cs off ti.size)) (hd : dstOk N d = true)
    (k : SX P rd N all rest (putD d (packV ti (cut cs off ti.size)) T) L E ks Q) : SX P rd N all (.item 0 ⟨d, .field t x i, ty, pos, aft, none⟩ rest) T L E ks Q :=
  SX.reads (rd_field hx ht hf hti hp) rfl hd (by rintro _ _ ⟨rfl, rfl⟩; exact k)
theorem SX.build {t : Nat} {ps : List (Nat × Operand)} {fs : List (Nat × Nat)} {n1 n2 : Nat} {z : Value} {r : List Value}
    (ht : tget tb.tab t = some ⟨.st fs, n1, n2, z⟩) (ha : allTab tb.tab fs = true) (hb : buildV tb.tab fs T z.cells.toList ps = some r) (hd : dstOk N d = true)
    (k : SX P rd N all rest (putD d (.agg r.toArray) T) L E ks Q) : SX P rd N all (.item 0 ⟨d, .build t ps.toArray, ty, pos, aft, none⟩ rest) T L E ks Q :=
  SX.reads (rd_build ht ha hb) rfl hd (by rintro _ _ ⟨rfl, rfl⟩; exact k)
theorem SX.index {x y : Operand} {t e : Nat} {sz n1 n2 b1 : Nat} {z z2 : Value} {ke : TK} {A : Option Addr} {n c i : Nat} {k : IntKind} {j : Int} {l : List α} (hx : evO T x = some (.slice A n c)) (hy : evO T y = some (.int k j))
    (hh : Has (slAt ρ A n l) L) (ht : tget tb.tab t = some ⟨.sl e, n1, n2, z⟩) (hte : tget tb.tab e = some ⟨ke, sz, b1, z2⟩) (hj : Int.ofNat i = j) (hd : dstOk N d = true) (hi : i < n)
    (kk : ∀ v, l[i]? = some v → SX P rd N all rest (putD d (.pointer (some (eadr A i sz 0))) T) L E ks Q) : SX P rd N all (.item 0 ⟨d, .indexAddr t x y, ty, pos, aft, none⟩ rest) T L E ks Q :=
  SX.reads (rd_index hx hy hh ht hte hj hi) rfl hd (by rintro _ _ ⟨rfl, rfl, u, hu⟩; exact kk u hu)
theorem SX.indexW {x y : Operand} {t e : Nat} {sz n1 n2 b1 : Nat} {z z2 : Value} {ke : TK} {A : Option Addr} {n c c' i : Nat} {k : IntKind} {j : Int} {l : List α} {w' : Bool} (hx : evO T x = some (.slice A n c)) (hy : evO T y = some (.int k j))
    (hh : Take (sqAt w' ρ A n c' l) L L') (ht : tget tb.tab t = some ⟨.sl e, n1, n2, z⟩) (hte : tget tb.tab e = some ⟨ke, sz, b1, z2⟩) (hj : Int.ofNat i = j) (hd : dstOk N d = true) (hi : i < n)
    (kk : ∀ v, l[i]? = some v → SX P rd N all rest (putD d (.pointer (some (eadr A i sz 0))) T) L E ks Q) : SX P rd N all (.item 0 ⟨d, .indexAddr t x y, ty, pos, aft, none⟩ rest) T L E ks Q :=
  SX.reads (rd_indexW hx hy hh ht hte hj hi) rfl hd (by rintro _ _ ⟨rfl, rfl, u, hu⟩; exact kk u hu)
theorem SX.efield {x : Operand} {t f : Nat} {A : Option Addr} {i sz o off tf n1 n2 s1 s2 : Nat} {z z2 : Value} {k2 : TK} {fs : List (Nat × Nat)} (hx : evO T x = some (.pointer (some (eadr A i sz o))))
    (ht : tget tb.tab t = some ⟨.st fs, n1, n2, z⟩) (hf : fs[f]? = some (off, tf)) (htf : tget tb.tab tf = some ⟨k2, s1 + 1, s2, z2⟩) (hd : dstOk N d = true)
    (kk : SX P rd N all rest (putD d (.pointer (some (eadr A i sz (o + off)))) T) L E ks Q) : SX P rd N all (.item 0 ⟨d, .fieldAddr t x f, ty, pos, aft, none⟩ rest) T L E ks Q :=
  SX.reads (rd_efield hx ht hf htf) rfl hd (by rintro _ _ ⟨rfl, rfl⟩; exact kk)
theorem SX.eload {x : Operand} {t : Nat} {ti : TI} {A : Option Addr} {n i sz o : Nat} {l : List α} {u : α} (hx : evO T x = some (.pointer (some (eadr A i sz o)))) (hh : Has (slAt ρ A n l) L) (hu : l[i]? = some u)
    (ht : tget tb.tab t = some ti) (hsz : Nat.beq ρ.sz sz = true) (hp : ∀ h, packOk ti (cut (ρ.cells u h) o ti.size)) (hd : dstOk N d = true)
    (kk : ∀ h, SX P rd N all rest (putD d (packV ti (cut (ρ.cells u h) o ti.size)) T) (ρ.atoms u h ++ L) (ρ.atoms u h ++ E) ks Q) : SX P rd N all (.item 0 ⟨d, .load t x, ty, pos, aft, none⟩ rest) T L E ks Q :=
  SX.reads (rd_eload hx hh hu ht hsz hp) rfl hd (by rintro _ _ ⟨h, rfl, rfl⟩; exact SX.copy (ρ.pers u h) (kk h))
theorem SX.slice {x : Operand} {lo hi : Option Operand} {A : Option Addr} {n c i j t e sz n1 n2 b1 : Nat} {z z2 : Value} {ke : TK} {l : List α} (hx : evO T x = some (.slice A n c)) {vl vh : Option Value} {k1 k2 : IntKind}
    (hlo : evOo T lo = some vl) (hhi : evOo T hi = some vh)
    (hh : Has (slAt ρ A n l) L) (ht : tget tb.tab t = some ⟨.sl e, n1, n2, z⟩) (hte : tget tb.tab e = some ⟨ke, sz, b1, z2⟩) (hsz : Nat.beq ρ.sz sz = true) (hd : dstOk N d = true) (hl : vl = some (.int k1 i) ∨ (vl = none ∧ i = 0)) (hv : vh = some (.int k2 j) ∨ (vh = none ∧ j = n)) (h1 : i ≤ j) (h2 : j ≤ n) (h3 : n ≤ c)
    (kk : ∀ A' c', j - i ≤ c' → SX P rd N all rest (putD d (.slice A' (j - i) c') T) (slAt ρ A' (j - i) ((l.drop i).take (j - i)) :: L) (slAt ρ A' (j - i) ((l.drop i).take (j - i)) :: E) ks Q) : SX P rd N all (.item 0 ⟨d, .slice t x lo hi none, ty, pos, aft, none⟩ rest) T L E ks Q :=
  SX.reads (rd_slice hx hlo hhi hh ht hte hsz hl hv h1 h2 h3) rfl hd (by rintro _ _ ⟨A', c', hc, rfl, rfl⟩; exact SX.copy (M := [_]) (all_cons (pers_slAt _ _ _ _) all_nil) (kk A' c' hc))
theorem SX.pure2 {v : Value} (hg : o.guard = none) (h : pureOp2 tb.tab T o.op = some v) (hd : dstOk N o.dst = true)
    (k : SX P rd N all rest (putD o.dst v T) L E ks Q) : SX P rd N all (.item 0 o rest) T L E ks Q := SX.reads (reads_pure2 h) hg hd (by rintro _ _ ⟨rfl, rfl⟩; exact k)
theorem SX.eloadW {ty : TypeId} {pos : String} {aft : Array Edge} {d : Option Tmp} {α : Type} {ρ : Rep α} {x : Operand} {t : Nat} {ti : TI} {A : Option Addr} {n i sz : Nat} {l : List α} {u : α} (hx : evO T x = some (.pointer (some (eadr A i sz 0)))) (hh : Has (slAt ρ A n l) L) (hu : l[i]? = some u)
    (ht : tget tb.tab t = some ti) (hsz : Nat.beq ρ.sz sz = true) (hk : ti.k.agg = ρ.agg) (h2 : Nat.beq ti.size ρ.sz = true) (hd : dstOk N d = true)
    (kk : ∀ h, SX P rd N all rest (putD d (ρ.val u h) T) (ρ.atoms u h ++ L) (ρ.atoms u h ++ E) ks Q) : SX P rd N all (.item 0 ⟨d, .load t x, ty, pos, aft, none⟩ rest) T L E ks Q :=
  SX.eload hx hh hu ht hsz (fun h => (whole hk h2).2) hd (fun h => by rw [(whole hk h2).1]; exact kk h)
theorem SX.loadW {ty : TypeId} {pos : String} {aft : Array Edge} {d : Option Tmp} {x : Operand} {t b off : Nat} {v : Value} {ti : TI} (hx : evO T x = some (.pointer (some ⟨b, off, none⟩))) (htk : Take (pts b off v.cells.toList) L L')
    (ht : tget tb.tab t = some ti) (h1 : ti.k.agg = true) (h2 : isAggV v = true) (h3 : Nat.beq v.cells.toList.length ti.size = true) (hd : dstOk N d = true)
    (k : SX P rd N all rest (putD d v T) L E ks Q) : SX P rd N all (.item 0 ⟨d, .load t x, ty, pos, aft, none⟩ rest) T L E ks Q :=
  SX.load hx htk ht (by simp) (wholeV h1 h2 h3 off).2 hd (by rw [(wholeV h1 h2 h3 off).1]; exact k)
end
section
variable {P : Program} [tb : Tab P] {rd : Option Nat} {N : Nat} {T : TT} {L L' L1 E : List HP} {Q : Post} {ks : List K}
variable {all : Array Oper} {rest : XO} {d : Option Tmp} {ty : TypeId} {pos : String} {aft : Array Edge}
variable {κ α : Type} [DecidableEq κ] {kr : KR κ} {ρ : Rep α}
theorem SX.lookup {x y : Operand} {t e kt b n1 n2 : Nat} {z0 : Value} {tik tie : TI} {l : List (κ × α)} {key : κ} {ok : Bool} (hx : evO T x = some (.map (some b))) (htk : Take (mpAt kr ρ b l) L L') (hy : evO T y = some (kr.v key))
    (ht : tget tb.tab t = some ⟨.map kt e, n1, n2, z0⟩) (hkt : tget tb.tab kt = some tik) (hkk : kr.tk P kt tik.k) (hte : tget tb.tab e = some tie) (hd : dstOk N d = true)
    (yes : ∀ u h, mget l key = some u → SX P rd N all rest (putD d (lookV ok (ρ.val u h) true) T) (ρ.atoms u h ++ L) (ρ.atoms u h ++ E) ks Q) (no : mget l key = none → SX P rd N all rest (putD d (lookV ok tie.zero false) T) L E ks Q) :
    SX P rd N all (.item 0 ⟨d, .lookup t x y ok, ty, pos, aft, none⟩ rest) T L E ks Q :=
  SX.reads (rd_lookup hx htk hy ht hkt hkk hte) rfl hd (by rintro _ _ (⟨u, h, hg, rfl, rfl⟩ | ⟨hg, rfl, rfl⟩) <;> first | exact SX.copy (ρ.pers _ _) (yes _ _ (by assumption)) | exact no (by assumption))
end
section
variable {P : Program} [tb : Tab P] {rd : Option Nat} {N : Nat} {T : TT} {L E : List HP} {Q : Post} {ks : List K} {all : Array Oper} {rest : XO} {d : Option Tmp} {ty : TypeId} {pos : String} {aft : Array Edge}
theorem SX.div {op : BinOp} {t cx : Nat} {x y : Operand} {k : IntKind} {a b : Int} {v : Value} (hx : evO T x = some (.int k a)) (hy : evO T y = some (.int k b)) (h : divV op k a b = some v) (hd : dstOk N d = true)
    (kk : SX P rd N all rest (putD d v T) L E ks Q) : SX P rd N all (.item 0 ⟨d, .binOp op t x y cx, ty, pos, aft, none⟩ rest) T L E ks Q :=
  SX.reads (reads_div hx hy h) rfl hd (by rintro _ _ ⟨rfl, rfl⟩; exact kk)
end
end Go.Sl

set_option linter.unusedVariables false
set_option linter.unusedSectionVars false
set_option linter.unusedSimpArgs false
namespace Go.Sl
section
variable {P : Program} [tb : Tab P] {rd : Option Nat} {N : Nat} {T : TT} {L E : List HP} {Q : Post} {ks : List K} {RR : TT → List HP → Prop}
variable {all : Array Oper} {rest : List Oper} {restX : XO} {d : Option Tmp} {ty : TypeId} {pos : String} {aft : Array Edge}
theorem rd_indexH {α : Type} {ρ : Rep α} {x y : Operand} {t e : Nat} {sz n1 n2 b1 : Nat} {z z2 : Value} {ke : TK} {A : Option Addr} {n c i : Nat} {k : IntKind} {j : Int} {l : List α} {u : α} (hx : evO T x = some (.slice A n c)) (hy : evO T y = some (.int k j))
    (hh : Has (slAt ρ A n l) L) (ht : tget tb.tab t = some ⟨.sl e, n1, n2, z⟩) (hte : tget tb.tab e = some ⟨ke, sz, b1, z2⟩) (hj : Int.ofNat i = j) (hu : l[i]? = some u) : Reads P T L ⟨d, .indexAddr t x y, ty, pos, aft, none⟩ (fun v L' => v = .pointer (some (eadr A i sz 0)) ∧ L' = L) := by
  intro q hq rr oo F hs
  have hs1 := (show seps L rr _ from hs.choose_spec.choose_spec.2.2.2)
  obtain ⟨h0, h1, h2⟩ := sl_len hh rr _ hs1
  have hl : i < l.length := (List.getElem?_eq_some_iff.1 hu).1
  obtain ⟨v, L', ⟨h3, h4, _⟩, h5, h6⟩ := rd_index (d := d) (ty := ty) (pos := pos) (aft := aft) hx hy hh ht hte hj (by omega) q hq rr oo F hs
  exact ⟨v, L', ⟨h3, h4⟩, h5, h6⟩
theorem rd_sidx {x y : Operand} {t n1 n2 i : Nat} {z : Value} {s : ByteArray} {k : IntKind} {j : Int} (hx : evO T x = some (.string s)) (hy : evO T y = some (.int k j))
    (ht : tget tb.tab t = some ⟨.str, n1, n2, z⟩) (hj : Int.ofNat i = j) (hi : i < s.size) : Reads P T L ⟨d, .index t x y, ty, pos, aft, none⟩ (fun u L' => L' = L ∧ ∃ v, (bytesI s)[i]? = some v ∧ u = .int .u8 v) := by
  intro q hq rr oo F hs
  have hk := (tab_ok ht).k
  simp only [TK.ok] at hk
  have hj' : j = (i : Int) := hj.symm
  subst hj'
  refine ⟨.int .u8 ((s[i]'hi).toNat : Int), L, ⟨rfl, _, ?_, rfl⟩, hs, fun w _ => ?_⟩
  · unfold bytesI
    rw [List.getElem?_map]
    have : s.data.toList[i]? = some (s[i]'hi) := by
      have h2 : i < s.data.toList.length := by simpa using hi
      rw [List.getElem?_eq_getElem h2]
      rfl
    rw [this]; rfl
  · simp only [execOp, hq _ _ hx, hq _ _ hy, Instr.index, asIntOf, Sem.run_bind, Sem.run_pure, run_und hk, Result.andThen_ok]
    have h1 : (if (0 : Int) ≤ (i : Int) then s[(i : Int).toNat]? else none) = some (s[i]'hi) := by
      rw [if_pos (by omega)]
      simp [hi]
    rw [h1]
    rfl
theorem rd_scat {x y : Operand} {t cx : Nat} {a b : ByteArray} (hx : evO T x = some (.string a)) (hy : evO T y = some (.string b)) (hb : a.size + b.size ≤ 9223372036854775807) :
    Reads P T L ⟨d, .binOp .add t x y cx, ty, pos, aft, none⟩ (fun u L' => u = .string (a ++ b) ∧ L' = L) := by
  intro q hq rr oo F hs
  refine ⟨_, L, ⟨rfl, rfl⟩, hs, fun w _ => ?_⟩
  have h1 : (eqGuard .add t x y (.string a) (.string b)).run P w = .ok () w := by unfold eqGuard; simp
  have h2 : ¬ (((a.size + b.size : Nat) : Int) > IntKind.i64.max) := by
    have : IntKind.i64.max = 9223372036854775807 := by decide
    omega
  simp only [execOp, hq _ _ hx, hq _ _ hy, Sem.run_bind, h1, Result.andThen_ok, binOp, Op.stringOp, if_neg h2]
  rfl
theorem rd_sslice {x : Operand} {lo hi : Option Operand} {s : ByteArray} {i j t n1 n2 : Nat} {z : Value} (hx : evO T x = some (.string s)) {vl vh : Option Value} {k1 k2 : IntKind}
    (hlo : evOo T lo = some vl) (hhi : evOo T hi = some vh) (ht : tget tb.tab t = some ⟨.str, n1, n2, z⟩) (hl : vl = some (.int k1 i) ∨ (vl = none ∧ i = 0)) (hv : vh = some (.int k2 j) ∨ (vh = none ∧ j = s.size)) (h1 : i ≤ j) (h2 : j ≤ s.size) :
    Reads P T L ⟨d, .slice t x lo hi none, ty, pos, aft, none⟩ (fun u L' => u = .string (s.extract i j) ∧ L' = L) := by
  intro q hq rr oo F hs
  have hk := (tab_ok ht).k
  simp only [TK.ok] at hk
  refine ⟨_, L, ⟨rfl, rfl⟩, hs, fun w _ => ?_⟩
  have hb : ∀ (c : BoundsCode) (k : IntKind) (a m : Nat), a ≤ m → (Instr.sliceBound (.int k (a : Int)) m c).run P w = .ok a w := fun c k a m h => by
    simp only [Instr.sliceBound, asIntOf, Sem.run_bind, Sem.run_pure, Result.andThen_ok]
    rw [if_pos ⟨by omega, by omega⟩]
    simp [Sem.run_pure]
  have hbd : (Instr.sliceBounds false s.size s.size vl vh none).run P w = .ok (i, j, s.size) w := by
    rcases hv with rfl | ⟨rfl, rfl⟩ <;> rcases hl with rfl | ⟨rfl, rfl⟩ <;> simp [Instr.sliceBounds, Sem.run_bind, Sem.run_pure, Result.andThen_ok, hb, h1, h2]
  simp only [execOp, hq _ _ hx, evOo_ok hq hlo, evOo_ok hq hhi, Option.map_none, Sem.run_bind, Instr.sliceAt, Instr.slice, run_und hk, Result.andThen_ok, Option.isSome_none, Bool.false_eq_true, if_false, Sem.run_pure, hbd]
theorem SO.sidx {x y : Operand} {t n1 n2 i : Nat} {z : Value} {s : ByteArray} {k : IntKind} {j : Int} (hx : evO T x = some (.string s)) (hy : evO T y = some (.int k j)) (ht : tget tb.tab t = some ⟨.str, n1, n2, z⟩) (hj : Int.ofNat i = j) (hd : dstOk N d = true) (hi : i < s.size)
    (kk : ∀ v, (bytesI s)[i]? = some v → SO P rd N all rest (putD d (.int .u8 v) T) L ks Q) : SO P rd N all (⟨d, .index t x y, ty, pos, aft, none⟩ :: rest) T L ks Q :=
  SO.reads (rd_sidx hx hy ht hj hi) rfl rfl hd (by rintro _ _ ⟨rfl, v, hv, rfl⟩; exact kk v hv)
theorem SQ.sidx {x y : Operand} {t n1 n2 i : Nat} {z : Value} {s : ByteArray} {k : IntKind} {j : Int} (hx : evO T x = some (.string s)) (hy : evO T y = some (.int k j)) (ht : tget tb.tab t = some ⟨.str, n1, n2, z⟩) (hj : Int.ofNat i = j) (hd : dstOk N d = true) (hi : i < s.size)
    (kk : ∀ v, (bytesI s)[i]? = some v → SQ P N all rest (putD d (.int .u8 v) T) L RR) : SQ P N all (⟨d, .index t x y, ty, pos, aft, none⟩ :: rest) T L RR :=
  SQ.reads (rd_sidx hx hy ht hj hi) rfl hd (by rintro _ _ ⟨rfl, v, hv, rfl⟩; exact kk v hv)
theorem SX.sidx {x y : Operand} {t n1 n2 i : Nat} {z : Value} {s : ByteArray} {k : IntKind} {j : Int} (hx : evO T x = some (.string s)) (hy : evO T y = some (.int k j)) (ht : tget tb.tab t = some ⟨.str, n1, n2, z⟩) (hj : Int.ofNat i = j) (hd : dstOk N d = true) (hi : i < s.size)
    (kk : ∀ v, (bytesI s)[i]? = some v → SX P rd N all restX (putD d (.int .u8 v) T) L E ks Q) : SX P rd N all (.item 0 ⟨d, .index t x y, ty, pos, aft, none⟩ restX) T L E ks Q :=
  SX.reads (rd_sidx hx hy ht hj hi) rfl hd (by rintro _ _ ⟨rfl, v, hv, rfl⟩; exact kk v hv)
theorem SO.scat {x y : Operand} {t cx : Nat} {a b : ByteArray} (hx : evO T x = some (.string a)) (hy : evO T y = some (.string b)) (hd : dstOk N d = true) (hb : a.size + b.size ≤ 9223372036854775807)
    (kk : SO P rd N all rest (putD d (.string (a ++ b)) T) L ks Q) : SO P rd N all (⟨d, .binOp .add t x y cx, ty, pos, aft, none⟩ :: rest) T L ks Q :=
  SO.reads (rd_scat hx hy hb) rfl rfl hd (by rintro _ _ ⟨rfl, rfl⟩; exact kk)
theorem SQ.scat {x y : Operand} {t cx : Nat} {a b : ByteArray} (hx : evO T x = some (.string a)) (hy : evO T y = some (.string b)) (hd : dstOk N d = true) (hb : a.size + b.size ≤ 9223372036854775807)
    (kk : SQ P N all rest (putD d (.string (a ++ b)) T) L RR) : SQ P N all (⟨d, .binOp .add t x y cx, ty, pos, aft, none⟩ :: rest) T L RR :=
  SQ.reads (rd_scat hx hy hb) rfl hd (by rintro _ _ ⟨rfl, rfl⟩; exact kk)
theorem SX.scat {x y : Operand} {t cx : Nat} {a b : ByteArray} (hx : evO T x = some (.string a)) (hy : evO T y = some (.string b)) (hd : dstOk N d = true) (hb : a.size + b.size ≤ 9223372036854775807)
    (kk : SX P rd N all restX (putD d (.string (a ++ b)) T) L E ks Q) : SX P rd N all (.item 0 ⟨d, .binOp .add t x y cx, ty, pos, aft, none⟩ restX) T L E ks Q :=
  SX.reads (rd_scat hx hy hb) rfl hd (by rintro _ _ ⟨rfl, rfl⟩; exact kk)
theorem SO.sslice {x : Operand} {lo hi : Option Operand} {s : ByteArray} {i j t n1 n2 : Nat} {z : Value} (hx : evO T x = some (.string s)) {vl vh : Option Value} {k1 k2 : IntKind} (hlo : evOo T lo = some vl) (hhi : evOo T hi = some vh) (ht : tget tb.tab t = some ⟨.str, n1, n2, z⟩) (hd : dstOk N d = true) (hl : vl = some (.int k1 i) ∨ (vl = none ∧ i = 0)) (hv : vh = some (.int k2 j) ∨ (vh = none ∧ j = s.size)) (h1 : i ≤ j) (h2 : j ≤ s.size)
    (kk : SO P rd N all rest (putD d (.string (s.extract i j)) T) L ks Q) : SO P rd N all (⟨d, .slice t x lo hi none, ty, pos, aft, none⟩ :: rest) T L ks Q :=
  SO.reads (rd_sslice hx hlo hhi ht hl hv h1 h2) rfl rfl hd (by rintro _ _ ⟨rfl, rfl⟩; exact kk)
theorem SQ.sslice {x : Operand} {lo hi : Option Operand} {s : ByteArray} {i j t n1 n2 : Nat} {z : Value} (hx : evO T x = some (.string s)) {vl vh : Option Value} {k1 k2 : IntKind} (hlo : evOo T lo = some vl) (hhi : evOo T hi = some vh) (ht : tget tb.tab t = some ⟨.str, n1, n2, z⟩) (hd : dstOk N d = true) (hl : vl = some (.int k1 i) ∨ (vl = none ∧ i = 0)) (hv : vh = some (.int k2 j) ∨ (vh = none ∧ j = s.size)) (h1 : i ≤ j) (h2 : j ≤ s.size)
    (kk : SQ P N all rest (putD d (.string (s.extract i j)) T) L RR) : SQ P N all (⟨d, .slice t x lo hi none, ty, pos, aft, none⟩ :: rest) T L RR :=
  SQ.reads (rd_sslice hx hlo hhi ht hl hv h1 h2) rfl hd (by rintro _ _ ⟨rfl, rfl⟩; exact kk)
theorem SX.sslice {x : Operand} {lo hi : Option Operand} {s : ByteArray} {i j t n1 n2 : Nat} {z : Value} (hx : evO T x = some (.string s)) {vl vh : Option Value} {k1 k2 : IntKind} (hlo : evOo T lo = some vl) (hhi : evOo T hi = some vh) (ht : tget tb.tab t = some ⟨.str, n1, n2, z⟩) (hd : dstOk N d = true) (hl : vl = some (.int k1 i) ∨ (vl = none ∧ i = 0)) (hv : vh = some (.int k2 j) ∨ (vh = none ∧ j = s.size)) (h1 : i ≤ j) (h2 : j ≤ s.size)
    (kk : SX P rd N all restX (putD d (.string (s.extract i j)) T) L E ks Q) : SX P rd N all (.item 0 ⟨d, .slice t x lo hi none, ty, pos, aft, none⟩ restX) T L E ks Q :=
  SX.reads (rd_sslice hx hlo hhi ht hl hv h1 h2) rfl hd (by rintro _ _ ⟨rfl, rfl⟩; exact kk)
theorem SO.indexH {α : Type} {ρ : Rep α} {x y : Operand} {t e : Nat} {sz n1 n2 b1 : Nat} {z z2 : Value} {ke : TK} {A : Option Addr} {n c i : Nat} {k : IntKind} {j : Int} {l : List α} {u : α} (hx : evO T x = some (.slice A n c)) (hy : evO T y = some (.int k j)) (hh : Has (slAt ρ A n l) L) (ht : tget tb.tab t = some ⟨.sl e, n1, n2, z⟩) (hte : tget tb.tab e = some ⟨ke, sz, b1, z2⟩) (hj : Int.ofNat i = j) (hd : dstOk N d = true) (hu : l[i]? = some u)
    (kk : SO P rd N all rest (putD d (.pointer (some (eadr A i sz 0))) T) L ks Q) : SO P rd N all (⟨d, .indexAddr t x y, ty, pos, aft, none⟩ :: rest) T L ks Q :=
  SO.reads (rd_indexH hx hy hh ht hte hj hu) rfl rfl hd (by rintro _ _ ⟨rfl, rfl⟩; exact kk)
theorem SQ.indexH {α : Type} {ρ : Rep α} {x y : Operand} {t e : Nat} {sz n1 n2 b1 : Nat} {z z2 : Value} {ke : TK} {A : Option Addr} {n c i : Nat} {k : IntKind} {j : Int} {l : List α} {u : α} (hx : evO T x = some (.slice A n c)) (hy : evO T y = some (.int k j)) (hh : Has (slAt ρ A n l) L) (ht : tget tb.tab t = some ⟨.sl e, n1, n2, z⟩) (hte : tget tb.tab e = some ⟨ke, sz, b1, z2⟩) (hj : Int.ofNat i = j) (hd : dstOk N d = true) (hu : l[i]? = some u)
    (kk : SQ P N all rest (putD d (.pointer (some (eadr A i sz 0))) T) L RR) : SQ P N all (⟨d, .indexAddr t x y, ty, pos, aft, none⟩ :: rest) T L RR :=
  SQ.reads (rd_indexH hx hy hh ht hte hj hu) rfl hd (by rintro _ _ ⟨rfl, rfl⟩; exact kk)
theorem SX.indexH {α : Type} {ρ : Rep α} {x y : Operand} {t e : Nat} {sz n1 n2 b1 : Nat} {z z2 : Value} {ke : TK} {A : Option Addr} {n c i : Nat} {k : IntKind} {j : Int} {l : List α} {u : α} (hx : evO T x = some (.slice A n c)) (hy : evO T y = some (.int k j)) (hh : Has (slAt ρ A n l) L) (ht : tget tb.tab t = some ⟨.sl e, n1, n2, z⟩) (hte : tget tb.tab e = some ⟨ke, sz, b1, z2⟩) (hj : Int.ofNat i = j) (hd : dstOk N d = true) (hu : l[i]? = some u)
    (kk : SX P rd N all restX (putD d (.pointer (some (eadr A i sz 0))) T) L E ks Q) : SX P rd N all (.item 0 ⟨d, .indexAddr t x y, ty, pos, aft, none⟩ restX) T L E ks Q :=
  SX.reads (rd_indexH hx hy hh ht hte hj hu) rfl hd (by rintro _ _ ⟨rfl, rfl⟩; exact kk)
theorem SO.sidxH {x y : Operand} {t n1 n2 i : Nat} {z : Value} {s : ByteArray} {k : IntKind} {j v : Int} (hx : evO T x = some (.string s)) (hy : evO T y = some (.int k j)) (ht : tget tb.tab t = some ⟨.str, n1, n2, z⟩) (hj : Int.ofNat i = j) (hd : dstOk N d = true) (hu : (bytesI s)[i]? = some v)
    (kk : SO P rd N all rest (putD d (.int .u8 v) T) L ks Q) : SO P rd N all (⟨d, .index t x y, ty, pos, aft, none⟩ :: rest) T L ks Q :=
  SO.reads (rd_sidx hx hy ht hj (by have := (List.getElem?_eq_some_iff.1 hu).1; rwa [bytesI_len] at this)) rfl rfl hd (by rintro _ _ ⟨rfl, v, hv, rfl⟩; rw [hu] at hv; cases hv; exact kk)
theorem SQ.sidxH {x y : Operand} {t n1 n2 i : Nat} {z : Value} {s : ByteArray} {k : IntKind} {j v : Int} (hx : evO T x = some (.string s)) (hy : evO T y = some (.int k j)) (ht : tget tb.tab t = some ⟨.str, n1, n2, z⟩) (hj : Int.ofNat i = j) (hd : dstOk N d = true) (hu : (bytesI s)[i]? = some v)
    (kk : SQ P N all rest (putD d (.int .u8 v) T) L RR) : SQ P N all (⟨d, .index t x y, ty, pos, aft, none⟩ :: rest) T L RR :=
  SQ.reads (rd_sidx hx hy ht hj (by have := (List.getElem?_eq_some_iff.1 hu).1; rwa [bytesI_len] at this)) rfl hd (by rintro _ _ ⟨rfl, v, hv, rfl⟩; rw [hu] at hv; cases hv; exact kk)
theorem SX.sidxH {x y : Operand} {t n1 n2 i : Nat} {z : Value} {s : ByteArray} {k : IntKind} {j v : Int} (hx : evO T x = some (.string s)) (hy : evO T y = some (.int k j)) (ht : tget tb.tab t = some ⟨.str, n1, n2, z⟩) (hj : Int.ofNat i = j) (hd : dstOk N d = true) (hu : (bytesI s)[i]? = some v)
    (kk : SX P rd N all restX (putD d (.int .u8 v) T) L E ks Q) : SX P rd N all (.item 0 ⟨d, .index t x y, ty, pos, aft, none⟩ restX) T L E ks Q :=
  SX.reads (rd_sidx hx hy ht hj (by have := (List.getElem?_eq_some_iff.1 hu).1; rwa [bytesI_len] at this)) rfl hd (by rintro _ _ ⟨rfl, v, hv, rfl⟩; rw [hu] at hv; cases hv; exact kk)
end
end Go.Sl

set_option linter.unusedVariables false
set_option linter.unusedSectionVars false
set_option linter.unusedSimpArgs false
namespace Go.Sl
section
variable {P : Program} [tb : Tab P] {rd : Option Nat} {N : Nat} {T : TT} {L L' L1 L2 : List HP} {Q : Post} {ks : List K}
variable {all : Array Oper} {rest : List Oper} {ty : TypeId} {pos : String} {aft : Array Edge} {d : Option Tmp} {α : Type} {ρ : Rep α}
def Cells (L : List HP) (b o : Nat) (cs : List Value) : Prop := ∀ F w, St w (F :: L) → ∀ j v, cs[j]? = some v → w.cell? ⟨b, o + j, none⟩ = some v
theorem Cells.pts {b o : Nat} {vs : List Value} (h : Take (Sl.pts b o vs) L L') (i k : Nat) : Cells L b (o + i) (cut vs i k) := by
  intro F w hst j v hj
  have h2 : St w (Sl.pts b o vs :: F :: L') := (hst.ent (Ent.cons h.ent)).ent Ent.swap
  have := (h2.cell (cut_get hj).1).1
  rwa [Nat.add_assoc]
theorem Cells.rod {b o : Nat} {vs : List Value} (h : Take (Sl.rod b o vs) L L') (i k : Nat) : Cells L b (o + i) (cut vs i k) := by
  intro F w hst j v hj
  have h2 : St w (Sl.rod b o vs :: F :: L') := (hst.ent (Ent.cons h.ent)).ent Ent.swap
  have := h2.rcell (cut_get hj).1
  rwa [Nat.add_assoc]
theorem SO.copy {x y : Operand} {b off o' dn dc b2 off2 sn sc k t t2 e sz n1 n2 b1 : Nat} {z z2 : Value} {ke : TK} {vs vs' cs : List Value} (hx : evO T x = some (.slice (some ⟨b, off, none⟩) dn dc)) (hy : evO T y = some (.slice (some ⟨b2, off2, none⟩) sn sc))
    (htk : Take (pts b o' vs) L L') (hs : Cells L b2 off2 cs) (ht : tget tb.tab t = some ⟨.sl e, n1, n2, z⟩) (hte : tget tb.tab e = some ⟨ke, sz, b1, z2⟩) (hk : Nat.min sn dn = k) (hc : cs.length = k * sz) (h1 : ∀ c ∈ cs, one c = true) (ho : o' ≤ off) (hl : off - o' + k * sz ≤ vs.length)
    (hv : lay vs (off - o') cs = vs') (hd : dstOk N d = true) (kk : SO P rd N all rest (putD d (.int .i64 k) T) (pts b o' vs' :: L') ks Q) : SO P rd N all (⟨d, .call ⟨.builtin .copy, #[x, y], #[t, t2]⟩, ty, pos, aft, none⟩ :: rest) T L ks Q := by
  refine SO.run (R := fun v L2 => v = .int .i64 k ∧ L2 = pts b o' vs' :: L') rfl rfl hd ?_ (by rintro _ _ ⟨rfl, rfl⟩; exact kk)
  intro q hq F w hst
  have hkk := (tab_ok ht).k
  simp only [TK.ok] at hkk
  have hsz := sizeOf_ok (tab_ok hte) w
  simp only at hsz
  have hst2 : St w (pts b o' vs :: F :: L') := hst.ent ((Ent.cons htk.ent).trans Ent.swap)
  rcases storeCells_ok (P := P) (A := pr True) (i := 0) cs vs w 0 (off - o') hst2 h1 (by omega) with ⟨w', hr, hst'⟩ | h
  · refine ⟨_, w', _, .inl ?_, ⟨rfl, rfl⟩, ?_⟩
    · have hf := run_first (P := P) (b := ⟨b2, off2, none⟩) (c := sc) (k := sn) rfl hc (hs F w hst)
      rw [show o' + (off - o') - 0 = off by omega] at hr
      simp only [execOp, resolve, invoke, builtin, Builtin.copy_, hq _ _ hx, hq _ _ hy, Sem.run_bind, Sem.run_pure, Result.andThen_ok, List.map_toArray, List.map_cons, List.map_nil, List.getElem?_toArray, List.getElem?_cons_zero, List.getElem?_cons_succ, run_und hkk, Builtin.lenOf, hsz, hk, hf, hr, goInt]
    · rw [hv] at hst'; exact hst'.ent Ent.swap
  · exact absurd h (by omega)
end
end Go.Sl

set_option linter.unusedVariables false
set_option linter.unusedSectionVars false
set_option linter.unusedSimpArgs false
namespace Go.Sl
def eq1 : TK → Value → Value → Option Bool
  | .int _, .int _ a, .int _ b => some (decide (a = b))
  | .str, .string a, .string b => some (eqS a b)
  | .bool, .bool a, .bool b => some (a == b)
  | _, _, _ => none
def intsOk : TK → Value → Value → Bool
  | .int k, .int k1 _, .int k2 _ => decide (k1 = k2)
  | _, _, _ => true
def eqFs (tab : List TI) : List (Nat × Nat) → List Value → List Value → Option Bool
  | [], _, _ => some true
  | (off, ty) :: fs, xs, ys => match xs[off]?, ys[off]?, tget tab ty with
    | some u, some v, some ti => match eq1 ti.k u v with
      | some b => bif intsOk ti.k u v then match eqFs tab fs xs ys with
        | some r => some (b && r)
        | none => none
        else none
      | none => none
    | _, _, _ => none
def eqOk (P : Program) (t : Nat) : Bool := match P.underlying t with
  | some (.struct F) => F.toList.all (fun f => decide (f.name ≠ "_")) && !P.stoodInHeld t && !P.eqGuardType P.depth t
  | _ => false
section
variable {P : Program} [tb : Tab P]
theorem eq1_ok {t : Nat} {ti : TI} (ht : ti.ok P t) {u v : Value} {b : Bool} (h : eq1 ti.k u v = some b) (hi : intsOk ti.k u v = true) (d : Nat) (w : World) : (Op.equalIn (d + 1) t u v).run P w = .ok b w ∧ ti.k.agg = false := by
  obtain ⟨k, n1, n2, z⟩ := ti
  have hk := ht.k
  simp only at h hi hk ⊢
  unfold eq1 at h
  split at h <;> first | (cases h; done) | skip
  · rename_i k0 k1 a k2 b'
    have : k1 = k2 := by simpa [intsOk] using hi
    subst this
    cases h
    simp only [TK.ok] at hk
    refine ⟨?_, rfl⟩
    rw [run_equalIn_int w d t k1 k0 a b' hk]; rfl
  · cases h
    simp only [TK.ok] at hk
    refine ⟨?_, rfl⟩
    rw [run_equalIn_string w d t _ _ hk, toList_eq]
  · cases h
    simp only [TK.ok] at hk
    exact ⟨run_equalIn_bool' w d t _ _ hk, rfl⟩
theorem eqFs_ok (d : Nat) {xs ys : List Value} : ∀ {F : List Field} {b : Bool} (hn : F.all (fun f => decide (f.name ≠ "_")) = true) (h : eqFs tb.tab (F.map fun f => (f.offset, f.type)) xs ys = some b) (w : World), (Op.eqFields (d + 1) xs.toArray ys.toArray F).run P w = .ok b w
  | [], b, _, h, w => by simp only [List.map_nil, eqFs] at h; cases h; rfl
  | f :: F, b, hn, h, w => by
    simp only [List.all_cons, Bool.and_eq_true, decide_eq_true_eq] at hn
    simp only [List.map_cons, eqFs] at h
    split at h
    · rename_i u v ti hu hv hti
      split at h
      · rename_i b1 hb1
        cases hi : intsOk ti.k u v with
        | false => rw [hi] at h; cases h
        | true =>
          rw [hi] at h
          simp only [cond_true] at h
          split at h
          · rename_i r hr
            cases h
            obtain ⟨h1, h2⟩ := eq1_ok (tab_ok hti) hb1 hi d w
            have hp : ∀ (cs : List Value) (c : Value), cs[f.offset]? = some c → (part f.type cs.toArray f.offset).run P w = .ok c w := fun cs c hc => by
              simp only [part, Sem.run_bind, isAgg_ok (tab_ok hti), Result.andThen_ok, h2]
              simp [hc]
            simp only [Op.eqFields, if_pos hn.1, Sem.run_bind, hp _ _ hu, hp _ _ hv, h1, Result.andThen_ok, ne_eq, hn.1, not_false_eq_true, if_true]
            cases b1 with
            | true => simp only [Bool.not_true, Bool.false_eq_true, if_false, Bool.true_and]; exact eqFs_ok d hn.2 hr w
            | false => simp
          · cases h
      · cases h
    · cases h
variable {rd : Option Nat} {N : Nat} {T : TT} {L E L' L1 : List HP} {Q : Post} {ks : List K} {RR : TT → List HP → Prop}
variable {all : Array Oper} {rest : List Oper} {restX : XO} {d : Option Tmp} {ty : TypeId} {pos : String} {aft : Array Edge}
theorem rd_agg {op : BinOp} {x y : Operand} {t cx n1 n2 : Nat} {z : Value} {fs : List (Nat × Nat)} {xs ys : List Value} {b r : Bool} (hx : evO T x = some (.agg xs.toArray)) (hy : evO T y = some (.agg ys.toArray)) (ht : tget tb.tab t = some ⟨.st fs, n1, n2, z⟩)
    (he : eqFs tb.tab fs xs ys = some b) (hok : eqOk P t = true) (hr : (op = .eql ∧ r = b) ∨ (op = .neq ∧ r = !b)) : Reads P T L ⟨d, .binOp op t x y cx, ty, pos, aft, none⟩ (fun u L' => u = .bool r ∧ L' = L) := by
  intro q hq rr oo F hs
  refine ⟨_, L, ⟨rfl, rfl⟩, hs, fun w _ => ?_⟩
  have hk := (tab_ok ht).k
  simp only [TK.ok] at hk
  obtain ⟨G, hG, hm⟩ := hk
  unfold eqOk at hok
  rw [hG] at hok
  simp only [Bool.and_eq_true, Bool.not_eq_true'] at hok
  obtain ⟨⟨h1, h2⟩, h3⟩ := hok
  subst hm
  have hF : P.fieldsOf t = G := by unfold Program.fieldsOf; rw [hG]
  have hrun : (Op.equal t (.agg xs.toArray) (.agg ys.toArray)).run P w = .ok b w := by
    unfold Op.equal
    rw [show Op.maxDepth = 9998 + 1 + 1 from rfl, run_equalIn_struct w _ t xs.toArray ys.toArray (by rw [hF]; exact hG) h2, hF]
    exact eqFs_ok _ h1 he w
  have hg : (eqGuard op t x y (.agg xs.toArray) (.agg ys.toArray)).run P w = .ok () w := by
    rcases hr with ⟨rfl, _⟩ | ⟨rfl, _⟩ <;> simp [eqGuard, Sem.run_bind, run_program, h3]
  rcases hr with ⟨rfl, rfl⟩ | ⟨rfl, rfl⟩ <;> simp only [execOp, hq _ _ hx, hq _ _ hy, Sem.run_bind, hg, Result.andThen_ok, binOp, hrun, Sem.run_pure]
theorem SO.agg {op : BinOp} {x y : Operand} {t cx n1 n2 : Nat} {z : Value} {fs : List (Nat × Nat)} {xs ys : List Value} {b r : Bool} (hx : evO T x = some (.agg xs.toArray)) (hy : evO T y = some (.agg ys.toArray)) (ht : tget tb.tab t = some ⟨.st fs, n1, n2, z⟩)
    (he : eqFs tb.tab fs xs ys = some b) (hr : (op = .eql ∧ r = b) ∨ (op = .neq ∧ r = !b)) (hok : eqOk P t = true) (hd : dstOk N d = true) (kk : SO P rd N all rest (putD d (.bool r) T) L ks Q) : SO P rd N all (⟨d, .binOp op t x y cx, ty, pos, aft, none⟩ :: rest) T L ks Q :=
  SO.reads (rd_agg hx hy ht he hok hr) rfl rfl hd (by rintro _ _ ⟨rfl, rfl⟩; exact kk)
theorem SQ.agg {op : BinOp} {x y : Operand} {t cx n1 n2 : Nat} {z : Value} {fs : List (Nat × Nat)} {xs ys : List Value} {b r : Bool} (hx : evO T x = some (.agg xs.toArray)) (hy : evO T y = some (.agg ys.toArray)) (ht : tget tb.tab t = some ⟨.st fs, n1, n2, z⟩)
    (he : eqFs tb.tab fs xs ys = some b) (hr : (op = .eql ∧ r = b) ∨ (op = .neq ∧ r = !b)) (hok : eqOk P t = true) (hd : dstOk N d = true) (kk : SQ P N all rest (putD d (.bool r) T) L RR) : SQ P N all (⟨d, .binOp op t x y cx, ty, pos, aft, none⟩ :: rest) T L RR :=
  SQ.reads (rd_agg hx hy ht he hok hr) rfl hd (by rintro _ _ ⟨rfl, rfl⟩; exact kk)
theorem SX.agg {op : BinOp} {x y : Operand} {t cx n1 n2 : Nat} {z : Value} {fs : List (Nat × Nat)} {xs ys : List Value} {b r : Bool} (hx : evO T x = some (.agg xs.toArray)) (hy : evO T y = some (.agg ys.toArray)) (ht : tget tb.tab t = some ⟨.st fs, n1, n2, z⟩)
    (he : eqFs tb.tab fs xs ys = some b) (hr : (op = .eql ∧ r = b) ∨ (op = .neq ∧ r = !b)) (hok : eqOk P t = true) (hd : dstOk N d = true) (kk : SX P rd N all restX (putD d (.bool r) T) L E ks Q) : SX P rd N all (.item 0 ⟨d, .binOp op t x y cx, ty, pos, aft, none⟩ restX) T L E ks Q :=
  SX.reads (rd_agg hx hy ht he hok hr) rfl hd (by rintro _ _ ⟨rfl, rfl⟩; exact kk)
def bytesS (l : List Int) : ByteArray := ⟨(l.map fun n => UInt8.ofNat n.toNat).toArray⟩
theorem SO.strOf {x : Operand} {t t2 e n1 n2 n3 n4 n5 n6 : Nat} {z0 z1 z2 : Value} {b o n c : Nat} {l : List Int} {vs : List Value} (hx : evO T x = some (.slice (some ⟨b, o, none⟩) n c)) (ht : tget tb.tab t = some ⟨.sl e, n3, n4, z1⟩) (hte : tget tb.tab e = some ⟨.int .u8, n5, n6, z2⟩) (ht2 : tget tb.tab t2 = some ⟨.str, n1, n2, z0⟩)
    (hh : Take (pts b o vs) L L') (hl : vs = l.map (Value.int .u8)) (hn : n = l.length) (hd : dstOk N d = true)
    (kk : SO P rd N all rest (putD d (.string (bytesS l)) T) L ks Q) : SO P rd N all (⟨d, .convert t t2 x, ty, pos, aft, none⟩ :: rest) T L ks Q := by
  refine SO.run (R := fun v L2 => v = .string (bytesS l) ∧ L2 = L) rfl rfl hd ?_ (by rintro _ _ ⟨rfl, rfl⟩; exact kk)
  intro q hq F w hst
  have hk1 := (tab_ok ht).k
  have hk2 := (tab_ok ht2).k
  have hke := (tab_ok hte).k
  simp only [TK.ok] at hk1 hk2 hke
  subst hl hn
  have h2 : St w (pts b o (l.map (Value.int .u8)) :: F :: L') := (hst.ent (Ent.cons hh.ent)).ent Ent.swap
  have hcs := loadCells_ok (P := P) (w := w) (b := b) (off := o) (l.map (Value.int .u8)) 0 #[] (fun j v hj => by have := (h2.cell hj).1; simpa using this)
  rw [List.length_map] at hcs
  refine ⟨_, w, L, .inl ?_, ⟨rfl, rfl⟩, hst⟩
  simp only [execOp, hq _ _ hx, convert, Sem.run_bind, run_und hk1, run_und hk2, run_und hke, Result.andThen_ok, Conv.bytesToString, loadCells, hcs]
  have hloop : ∀ (l : List Int) (s : ByteArray), (forIn (l.map (Value.int .u8)) s (fun c (s : ByteArray) => (do
      let .int .u8 n := c | stuck "bytesToString: byte expected"
      Pure.pure (ForInStep.yield (s.push (UInt8.ofNat n.toNat))) : Sem (ForInStep ByteArray)))).run P w = .ok ⟨s.data ++ (l.map fun n => UInt8.ofNat n.toNat).toArray⟩ w := by
    intro l
    induction l with
    | nil => intro s; simp
    | cons a l ih =>
      intro s
      simp only [List.map_cons, List.forIn_cons, Sem.run_bind, Sem.run_pure, Result.andThen_ok]
      rw [ih]
      congr 2
      simp [ByteArray.push]
  have := hloop l ByteArray.empty
  rw [← Array.forIn_toList]
  simp only [Array.toList_append, List.toList_toArray, List.nil_append, Array.toList_empty] at *
  erw [this]
  have he : (⟨ByteArray.empty.data ++ (l.map fun n => UInt8.ofNat n.toNat).toArray⟩ : ByteArray) = bytesS l := by
    unfold bytesS
    congr 1
    exact Array.empty_append
  rw [he]
  rfl
end
end Go.Sl

set_option linter.unusedVariables false
set_option linter.unusedSimpArgs false
namespace Go.Sl
open Go.Lib (compareBytes)
end Go.Sl

set_option linter.unusedVariables false
set_option linter.unusedSimpArgs false
namespace Go.Sl
def numT (most : Nat) (l : Tx) : Option Nat := if canD l = true ∧ valD l ≤ most then some (valD l) else none
def inV (l : Tx) : Option Tx := match l with
  | b :: r => if b = 91 ∧ r.getLast? = some 93 then some r.dropLast else none
  | [] => none
def wordsV (ws : List Tx) : Option (List Int) :=
  if ws.all canD = true ∧ ws.getLast? ≠ some [48] ∧ ws.length ≤ 8 ∧ (ws.all fun w => decide (valD w ≤ 1048576)) = true then some (ws.map fun w => (valD w : Int)) else none
def vecT (l : Tx) : Option (List Int) := match inV l with
  | none => none
  | some [] => some []
  | some m => wordsV (partsC 32 m)
def cut2 (c d : UInt8) : Tx → Option (Tx × Tx)
  | [] => none
  | [_] => none
  | a :: b :: r => if a = c ∧ b = d then some ([], r) else (cut2 c d (b :: r)).map fun x => (a :: x.1, x.2)
def cut1 (c : UInt8) (l : Tx) : Option (Tx × Tx) := if hasC c l then some (bef c l, behd c l) else none
def txB (l : Tx) : ByteArray := ⟨l.toArray⟩
def recT (l : Tx) : Option Rc := do
  let (a, l) ← cut1 58 l
  let (b, l) ← cut1 32 l
  let (c, l) ← cut2 93 32 l
  let (k, v) ← cut1 61 l
  let x ← numT 2147483647 a
  let y ← numT 2147483647 b
  let z ← vecT (c ++ [93])
  let r : Rc := ⟨x, y, z, txB k, txB v⟩
  if checkR r 8 = 0 then some r else none
inductive Ln
  | put (pos : Nat) (r : Rc)
  | sealing (n : Nat)
  | cut (n : Nat)
  | trim (n : Nat)
def lineT (l : Tx) : Option Ln := do
  let (k, l) ← cut1 32 l
  if k = [112] then
    let (w, t) ← cut1 32 l
    let n ← numT 2147483647 w
    let r ← recT t
    some (.put n r)
  else if hasC 32 l then none else do
    let n ← numT 2147483647 l
    if k = [115] then some (.sealing n) else if k = [99] then some (.cut n) else if k = [116] then some (.trim n) else none
abbrev Slt := Rc × Nat
structure Sg where
  m : List (Int × Slt)
  sealed : Nat
  trim : Nat
def Sg.take (s : Sg) (i : Nat) (t : Tx) : Option Sg := match lineT t with
  | some (.put n r) => if ((s.m.any fun p => decide (p.1 = n)) || decide (n < s.trim)) then none else some { s with m := s.m ++ [((n : Int), r, i)] }
  | some (.sealing n) => if n ≤ s.sealed then none else some { s with sealed := n }
  | some (.cut n) => some { s with m := s.m.filter fun p => decide (p.1 < n) }
  | some (.trim n) => if n ≤ s.trim then none else some { s with m := s.m.filter (fun p => decide ((n : Int) ≤ p.1)), trim := n }
  | none => none
def Sg.open : Sg → Nat → List Tx → Sg × Nat
  | s, i, [] => (s, i)
  | s, i, t :: l => match s.take i t with
    | some s' => Sg.open s' (i + 1) l
    | none => (s, i)
end Go.Sl

set_option linter.unusedVariables false
namespace Go.Sl
theorem dg_nat {k : Nat} (h : k < 10) : (UInt8.ofNat (48 + k)).toNat = 48 + k := by
  rw [UInt8.toNat_ofNat']; omega
theorem dec_dig : ∀ (n : Nat), (Lib.decDigits n).all isDig = true ∧ valF 0 (Lib.decDigits n) = n ∧ Lib.decDigits n ≠ [] ∧ ((Lib.decDigits n).head? = some 48 → n = 0) := by
  intro n
  induction n using Nat.strongRecOn with
  | _ n ih =>
    rw [Lib.decDigits]
    split
    · rename_i h
      refine ⟨?_, ?_, by simp, ?_⟩
      · simp only [List.all_cons, List.all_nil, isDig, dg_nat h]; simp; omega
      · simp only [valF, List.foldl, stepV, dg_nat h]; omega
      · intro e
        simp only [List.head?_cons, Option.some.injEq] at e
        have := congrArg UInt8.toNat e
        rw [dg_nat h] at this
        have h0 : (48 : UInt8).toNat = 48 := rfl
        omega
    · rename_i h
      obtain ⟨h1, h2, h3, h4⟩ := ih (n / 10) (by omega)
      have hm : n % 10 < 10 := Nat.mod_lt _ (by decide)
      refine ⟨?_, ?_, by simp, ?_⟩
      · simp only [List.all_append, h1, List.all_cons, List.all_nil, isDig, dg_nat hm]; simp; omega
      · rw [valF_app, h2]; simp only [valF, List.foldl, stepV, dg_nat hm]; omega
      · intro e
        have e2 : (Lib.decDigits (n / 10)).head? = some 48 := by
          cases he : Lib.decDigits (n / 10) with
          | nil => exact absurd he h3
          | cons b r => rw [he] at e; exact e
        have := h4 e2
        omega
theorem dec_can (n : Nat) : canD (Lib.decDigits n) = true ∧ valD (Lib.decDigits n) = n := by
  obtain ⟨h1, h2, h3, h4⟩ := dec_dig n
  refine ⟨?_, h2⟩
  by_cases h0 : n = 0
  · subst h0; rw [Lib.decDigits, dif_pos (by decide)]; rfl
  · cases he : Lib.decDigits n with
    | nil => exact absurd he h3
    | cons b r =>
      rw [he] at h1 h4
      simp only [canD, h1, Bool.true_and]
      by_cases hb : b = 48
      · subst hb; exact absurd (h4 rfl) h0
      · simp [hb]
theorem parse_can : ∀ (l : Tx) (a : Nat), l.all isDig = true → a < 18446744073709551616 → (valF a l < 18446744073709551616 → Lib.parseUint10 a l = .ok (valF a l)) ∧ (18446744073709551616 ≤ valF a l → Lib.parseUint10 a l = .range)
  | [], a, _, h => ⟨fun _ => rfl, fun h2 => absurd h2 (by show ¬ _ ≤ a; omega)⟩
  | b :: r, a, hd, h => by
    simp only [List.all_cons, Bool.and_eq_true, isDig, decide_eq_true_eq] at hd
    have hs : valF a (b :: r) = valF (stepV a b) r := rfl
    have hm := valF_mono r (stepV a b)
    have hst : stepV a b = a * 10 + (b.toNat - 48) := by unfold stepV; omega
    rw [hs]
    simp only [Lib.parseUint10, hd.1, and_self, if_true]
    by_cases h1 : 1844674407370955162 ≤ a
    · rw [if_pos h1]
      exact ⟨fun h2 => by omega, fun _ => rfl⟩
    · rw [if_neg h1]
      by_cases h3 : 18446744073709551616 ≤ a * 10 + (b.toNat - 48)
      · rw [if_pos h3]
        exact ⟨fun h2 => by omega, fun _ => rfl⟩
      · rw [if_neg h3, ← hst]
        exact parse_can r (stepV a b) (by simpa [isDig] using hd.2) (by omega)
theorem atoi_can {l : Tx} (h : canD l = true) : (valD l < 9223372036854775808 → Lib.atoiAll l = .ok (valD l : Int)) ∧ (9223372036854775808 ≤ valD l → Lib.atoiAll l = .range) := by
  cases l with
  | nil => cases h
  | cons b r =>
    simp only [canD, Bool.and_eq_true] at h
    have hb : 48 ≤ b.toNat ∧ b.toNat ≤ 57 := by
      have := h.1
      simp only [List.all_cons, Bool.and_eq_true, isDig, decide_eq_true_eq] at this
      exact this.1
    obtain ⟨h1, h2⟩ := parse_can (b :: r) 0 h.1 (by decide)
    have n43 : ¬ b.toNat = 43 := by omega
    have n45 : ¬ b.toNat = 45 := by omega
    have hm : Lib.parseMag (b :: r) = Lib.parseUint10 0 (b :: r) := by unfold Lib.parseMag; rw [if_neg (by simp)]
    unfold valD
    simp only [Lib.atoiAll, n43, n45, or_self, if_false, hm, false_and, not_false_eq_true, true_and]
    constructor
    · intro hv
      rw [h1 (by omega)]
      show (if 9223372036854775808 ≤ valF 0 (b :: r) then _ else _) = _
      rw [if_neg (by omega)]
    · intro hv
      by_cases h3 : valF 0 (b :: r) < 18446744073709551616
      · rw [h1 h3]
        show (if 9223372036854775808 ≤ valF 0 (b :: r) then _ else _) = _
        rw [if_pos hv]
      · rw [h2 (by omega)]
end Go.Sl

set_option linter.unusedVariables false
set_option linter.unusedSimpArgs false
namespace Go.Sl
def joinX : List Tx → Tx
  | [] => []
  | w :: ws => match ws with
    | [] => w
    | _ :: _ => w ++ 32 :: joinX ws
theorem parts_word {c : UInt8} : ∀ {w : Tx}, hasC c w = false → partsC c w = [w]
  | [], _ => rfl
  | b :: w, h => by
    unfold hasC at h
    simp only [List.any_cons, Bool.or_eq_false_iff, decide_eq_false_iff_not] at h
    simp only [partsC, h.1, if_false, parts_word (w := w) h.2]
theorem parts_cons {c : UInt8} : ∀ {w m : Tx}, hasC c w = false → partsC c (w ++ c :: m) = w :: partsC c m
  | [], m, _ => by simp [partsC]
  | b :: w, m, h => by
    unfold hasC at h
    simp only [List.any_cons, Bool.or_eq_false_iff, decide_eq_false_iff_not] at h
    simp only [List.cons_append, partsC, h.1, if_false, parts_cons (w := w) (m := m) h.2]
theorem parts_join : ∀ {ws : List Tx}, ws ≠ [] → (∀ w ∈ ws, hasC 32 w = false) → partsC 32 (joinX ws) = ws
  | [], h, _ => absurd rfl h
  | [w], _, h => parts_word (h w (by simp))
  | w :: u :: ws, _, h => by
    rw [show joinX (w :: u :: ws) = w ++ 32 :: joinX (u :: ws) from rfl, parts_cons (h w (by simp)), parts_join (by simp) fun x hx => h x (by simp [hx])]
theorem dec_no {c : UInt8} (hc : ¬ (48 ≤ c.toNat ∧ c.toNat ≤ 57)) (n : Nat) : hasC c (Lib.decDigits n) = false := by
  obtain ⟨h1, _⟩ := dec_dig n
  unfold hasC
  rw [List.any_eq_false]
  intro b hb
  have := List.all_eq_true.1 h1 b hb
  simp only [isDig, Bool.and_eq_true, decide_eq_true_eq] at this
  simp only [decide_eq_true_eq]
  rintro rfl
  exact hc this
theorem joinX_no {c : UInt8} (hc : c ≠ 32) : ∀ {ws : List Tx}, (∀ w ∈ ws, hasC c w = false) → hasC c (joinX ws) = false
  | [], _ => rfl
  | [w], h => h w (by simp)
  | w :: u :: ws, h => by
    rw [show joinX (w :: u :: ws) = w ++ 32 :: joinX (u :: ws) from rfl]
    have h1 := h w (by simp)
    have h2 := joinX_no hc (ws := u :: ws) fun x hx => h x (by simp [hx])
    unfold hasC at h1 h2 ⊢
    rw [List.any_append, List.any_cons, h1, h2]
    simp [Ne.symm hc]
theorem joinX_ne {ws : List Tx} (h : ws ≠ []) (hw : ∀ w ∈ ws, w ≠ []) : joinX ws ≠ [] := by
  cases ws with
  | nil => exact absurd rfl h
  | cons w ws =>
    cases ws with
    | nil => exact hw w (by simp)
    | cons u ws => simp [joinX]
def trimV : List Int → List Int
  | [] => []
  | n :: l => match trimV l with
    | [] => if n = 0 then [] else [n]
    | m :: r => n :: m :: r
theorem trimV_last : ∀ (l : List Int), (trimV l).getLast? ≠ some 0
  | [] => by simp [trimV]
  | n :: l => by
    have ih := trimV_last l
    simp only [trimV]
    split
    · split
      · simp
      · rename_i h; simpa using h
    · rename_i m r he
      rw [he] at ih
      rw [List.getLast?_cons_cons]; exact ih
theorem trimV_mem : ∀ {l : List Int} {x : Int}, x ∈ trimV l → x ∈ l
  | [], x, h => by simp [trimV] at h
  | n :: l, x, h => by
    simp only [trimV] at h
    split at h
    · split at h
      · simp at h
      · simp at h; simp [h]
    · rename_i m r he
      rcases List.mem_cons.1 h with h | h
      · simp [h]
      · rw [← he] at h; exact List.mem_cons_of_mem _ (trimV_mem h)
theorem trimV_len : ∀ (l : List Int), (trimV l).length ≤ l.length
  | [] => Nat.le_refl _
  | n :: l => by
    have ih := trimV_len l
    simp only [trimV]
    split
    · split <;> simp
    · rename_i m r he
      rw [he] at ih
      simp only [List.length_cons] at ih ⊢; omega
def vecX (v : List Int) : Tx := 91 :: (joinX ((trimV v).map fun n => Lib.decDigits n.toNat) ++ [93])
theorem dec_zero {n : Nat} (h : Lib.decDigits n = [48]) : n = 0 := (dec_dig n).2.2.2 (by rw [h]; rfl)
theorem vec_round {v : List Int} (h : v.length ≤ 8) (hb : ∀ x ∈ v, 0 ≤ x ∧ x ≤ 1048576) : vecT (vecX v) = some (trimV v) := by
  have hi : inV (vecX v) = some (joinX ((trimV v).map fun n => Lib.decDigits n.toNat)) := by
    unfold vecX inV
    simp
  unfold vecT
  rw [hi]
  by_cases he : trimV v = []
  · rw [he]; rfl
  · have hne : ((trimV v).map fun n => Lib.decDigits n.toNat) ≠ [] := by simpa using he
    have hj := joinX_ne hne (by
      intro w hw
      obtain ⟨n, _, rfl⟩ := List.mem_map.1 hw
      exact (dec_dig n.toNat).2.2.1)
    have hp := parts_join hne (by
      intro w hw
      obtain ⟨n, _, rfl⟩ := List.mem_map.1 hw
      exact dec_no (by decide) _)
    have hall : ∀ x ∈ trimV v, 0 ≤ x ∧ x ≤ 1048576 := fun x hx => hb x (trimV_mem hx)
    have hw : wordsV ((trimV v).map fun n => Lib.decDigits n.toNat) = some (trimV v) := by
      unfold wordsV
      rw [if_pos]
      · congr 1
        rw [List.map_map]
        conv => rhs; rw [← List.map_id (trimV v)]
        refine List.map_congr_left fun x hx => ?_
        simp only [Function.comp, (dec_can x.toNat).2, id]
        have := (hall x hx).1; omega
      · refine ⟨?_, ?_, ?_, ?_⟩
        · rw [List.all_eq_true]; intro w hw
          obtain ⟨n, _, rfl⟩ := List.mem_map.1 hw
          exact (dec_can n.toNat).1
        · rw [List.getLast?_map]
          intro e
          obtain ⟨n, hn, hz⟩ := Option.map_eq_some_iff.1 e
          have h0 := dec_zero hz
          have := (hall n (List.mem_of_getLast? hn)).1
          have hn0 : n = 0 := by omega
          subst hn0
          exact trimV_last v hn
        · rw [List.length_map]; exact Nat.le_trans (trimV_len v) h
        · rw [List.all_eq_true]; intro w hw
          obtain ⟨n, hn, rfl⟩ := List.mem_map.1 hw
          simp only [(dec_can n.toNat).2, decide_eq_true_eq]
          have := hall n hn; omega
    cases hm : joinX ((trimV v).map fun n => Lib.decDigits n.toNat) with
    | nil => exact absurd hm hj
    | cons b r =>
      show wordsV (partsC 32 (b :: r)) = _
      rw [← hm, hp, hw]
end Go.Sl

set_option linter.unusedVariables false
set_option linter.unusedSimpArgs false
namespace Go.Sl
theorem has_app (c : UInt8) (a m : Tx) : hasC c (a ++ m) = (hasC c a || hasC c m) := by unfold hasC; rw [List.any_append]
theorem cut1_app {c : UInt8} {a m : Tx} (h : hasC c a = false) : cut1 c (a ++ c :: m) = some (a, m) := by
  obtain ⟨h1, h2⟩ := bef_app (m := m) h
  unfold cut1
  rw [if_pos (by rw [has_app]; unfold hasC; simp), h1, h2]
theorem cut2_app {c d : UInt8} : ∀ {a m : Tx}, hasC c a = false → cut2 c d (a ++ c :: d :: m) = some (a, m)
  | [], m, _ => by simp [cut2]
  | [b], m, h => by
    unfold hasC at h
    simp only [List.any_cons, Bool.or_eq_false_iff, decide_eq_false_iff_not] at h
    simp [cut2, h.1]
  | b :: x :: a, m, h => by
    have h' := h
    unfold hasC at h
    simp only [List.any_cons, Bool.or_eq_false_iff, decide_eq_false_iff_not] at h
    have ih := cut2_app (c := c) (d := d) (a := x :: a) (m := m) (by unfold hasC; simp only [List.any_cons, Bool.or_eq_false_iff, decide_eq_false_iff_not]; exact h.2)
    rw [show (b :: x :: a) ++ c :: d :: m = b :: ((x :: a) ++ c :: d :: m) from rfl]
    rw [show (x :: a) ++ c :: d :: m = x :: (a ++ c :: d :: m) from rfl] at ih ⊢
    simp only [cut2, h.1, false_and, if_false] at ih ⊢
    rw [ih]; rfl
def recX (r : Rc) : Tx := Lib.decDigits r.site.toNat ++ 58 :: (Lib.decDigits r.seq.toNat ++ 32 :: (vecX r.dep ++ 32 :: (r.key.data.toList ++ 61 :: r.val.data.toList)))
theorem vecBad_all : ∀ {l : List Int}, vecBad l = 0 → ∀ x ∈ l, 0 ≤ x ∧ x ≤ 1048576
  | [], _, x, hx => by cases hx
  | y :: l, h, x, hx => by
    simp only [vecBad] at h
    split at h
    · cases h
    · split at h
      · cases h
      · rcases List.mem_cons.1 hx with rfl | hx
        · omega
        · exact vecBad_all h x hx
theorem vecBad_of : ∀ {l : List Int}, (∀ x ∈ l, 0 ≤ x ∧ x ≤ 1048576) → vecBad l = 0
  | [], _ => rfl
  | y :: l, h => by
    have := h y (by simp)
    simp only [vecBad]
    rw [if_neg (by omega), if_neg (by omega)]
    exact vecBad_of fun x hx => h x (by simp [hx])
theorem trimV_at : ∀ (l : List Int) (i : Nat), (trimV l).getD i 0 = l.getD i 0
  | [], i => rfl
  | n :: l, i => by
    have ih := trimV_at l
    simp only [trimV]
    split
    · rename_i he
      rw [he] at ih
      split
      · rename_i h0
        cases i with
        | zero => simp [h0]
        | succ i => simpa using ih i
      · cases i with
        | zero => simp
        | succ i => simpa using ih i
    · rename_i m r he
      rw [he] at ih
      cases i with
      | zero => simp
      | succ i => simpa using ih i
structure Rok (r : Rc) : Prop where
  site : 0 ≤ r.site ∧ r.site < 8
  seq : 1 ≤ r.seq ∧ r.seq ≤ 1048576
  len : r.dep.length ≤ 8
  dep : ∀ x ∈ r.dep, 0 ≤ x ∧ x ≤ 1048576
  own : getI r.dep r.site < r.seq
  key : 1 ≤ r.key.size ∧ r.key.size ≤ 8
  name : nameOk r.key = true
  val : valOk r.val = true
  vlen : r.val.size ≤ 16
theorem rok_of {r : Rc} (h : checkR r 8 = 0) : Rok r := by
  unfold checkR at h
  by_cases h1 : (8 : Int) < 1 ∨ (8 : Int) < 8 ∨ r.site < 0 ∨ 8 ≤ r.site ∨ r.seq < 1 ∨ 1048576 < r.seq
  · rw [if_pos h1] at h; cases h
  rw [if_neg h1] at h
  by_cases h2 : checkV r.dep 8 ≠ 0
  · rw [if_pos h2] at h; exact absurd h h2
  rw [if_neg h2] at h
  by_cases h3 : r.seq ≤ getI r.dep r.site
  · rw [if_pos h3] at h; cases h
  rw [if_neg h3] at h
  by_cases h4 : r.key.size < 1 ∨ 8 < r.key.size ∨ nameOk r.key = false
  · rw [if_pos h4] at h; cases h
  rw [if_neg h4] at h
  by_cases h5 : valOk r.val = false
  · rw [if_pos h5] at h; cases h
  rw [if_neg h5] at h
  by_cases h6 : 16 < r.val.size
  · rw [if_pos h6] at h; cases h
  unfold checkV at h2
  rw [if_neg (by omega)] at h2
  by_cases hl : (8 : Int) < r.dep.length
  · rw [if_pos hl] at h2; exact absurd (by decide) h2
  rw [if_neg hl] at h2
  have hv : vecBad r.dep = 0 := Decidable.not_not.1 h2
  simp only [not_or, Bool.not_eq_false] at h4 h5
  exact ⟨by omega, by omega, by omega, vecBad_all hv, by omega, by omega, h4.2.2, h5, by omega⟩
theorem rok_to {r : Rc} (h : Rok r) : checkR r 8 = 0 := by
  have h1 := h.site; have h2 := h.seq; have h3 := h.len; have h4 := h.key; have h5 := h.own; have h6 := h.vlen
  have hv : checkV r.dep 8 = 0 := by
    unfold checkV
    rw [if_neg (show ¬ ((8 : Int) < 1 ∨ (8 : Int) < 8) by omega), if_neg (show ¬ (8 : Int) < (r.dep.length : Int) by omega), vecBad_of h.dep]
  have n4 : ¬ (r.key.size < 1 ∨ 8 < r.key.size ∨ nameOk r.key = false) := by
    rintro (k | k | k)
    · omega
    · omega
    · rw [h.name] at k; cases k
  have n5 : ¬ valOk r.val = false := by rw [h.val]; decide
  have n1 : ¬ ((8 : Int) < 1 ∨ (8 : Int) < 8 ∨ r.site < 0 ∨ 8 ≤ r.site ∨ r.seq < 1 ∨ 1048576 < r.seq) := by omega
  unfold checkR
  rw [if_neg n1, if_neg (fun k => k hv), if_neg (show ¬ r.seq ≤ getI r.dep r.site by omega), if_neg n4, if_neg n5, if_neg (show ¬ 16 < r.val.size by omega)]
def Rc.trim (r : Rc) : Rc := { r with dep := trimV r.dep }
theorem rok_trim {r : Rc} (h : Rok r) : Rok r.trim :=
  ⟨h.site, h.seq, Nat.le_trans (trimV_len r.dep) h.len, fun x hx => h.dep x (trimV_mem hx), by
    have := h.own
    show getI (trimV r.dep) r.site < r.seq
    unfold getI at this ⊢
    rw [trimV_at]; exact this, h.key, h.name, h.val, h.vlen⟩
theorem num_round {m : Nat} {x : Int} (h0 : 0 ≤ x) (h : x ≤ m) : numT m (Lib.decDigits x.toNat) = some x.toNat := by
  unfold numT
  rw [(dec_can x.toNat).1, (dec_can x.toNat).2, if_pos ⟨rfl, by omega⟩]
theorem name_no {s : ByteArray} (h : nameOk s = true) : hasC 61 s.data.toList = false := by
  unfold hasC
  rw [List.any_eq_false]
  intro b hb
  have := List.all_eq_true.1 h b hb
  simp only [decide_eq_true_eq]
  rintro rfl
  exact absurd this (by decide)
theorem txB_list (s : ByteArray) : txB s.data.toList = s := rfl
theorem rec_round {r : Rc} (h : checkR r 8 = 0) : recT (recX r) = some r.trim := by
  have k := rok_of h
  have ht := rok_to (rok_trim k)
  have hs := k.site; have hq := k.seq
  have hv : ∀ m : Tx, vecX r.dep ++ 32 :: m = (91 :: joinX ((trimV r.dep).map fun n => Lib.decDigits n.toNat)) ++ 93 :: 32 :: m := fun m => by unfold vecX; simp
  have hn : hasC 93 (91 :: joinX ((trimV r.dep).map fun n => Lib.decDigits n.toNat)) = false := by
    have := joinX_no (c := 93) (by decide) (ws := (trimV r.dep).map fun n => Lib.decDigits n.toNat) (by
      intro w hw
      obtain ⟨n, _, rfl⟩ := List.mem_map.1 hw
      exact dec_no (by decide) _)
    unfold hasC at this ⊢
    rw [List.any_cons, this]; decide
  have hvec := vec_round k.len k.dep
  rw [show vecX r.dep = (91 :: joinX ((trimV r.dep).map fun n => Lib.decDigits n.toNat)) ++ [93] from rfl] at hvec
  unfold recT recX
  simp only [hv, cut1_app (dec_no (c := 58) (by decide) r.site.toNat), cut1_app (dec_no (c := 32) (by decide) r.seq.toNat), cut2_app hn, cut1_app (name_no k.name), Option.bind_eq_bind, Option.bind_some,
    num_round (m := 2147483647) hs.1 (by omega), num_round (m := 2147483647) (x := r.seq) (by omega) (by omega), hvec, txB_list]
  have e : (⟨(r.site.toNat : Int), (r.seq.toNat : Int), trimV r.dep, r.key, r.val⟩ : Rc) = r.trim := by
    unfold Rc.trim
    rw [show (r.site.toNat : Int) = r.site by omega, show (r.seq.toNat : Int) = r.seq by omega]
  have hx : ∀ x : Rc, x = r.trim → (if checkR x 8 = 0 then some x else none) = some r.trim := by
    rintro x rfl; rw [if_pos ht]
  exact hx _ e
end Go.Sl

set_option linter.unusedVariables false
set_option linter.unusedSimpArgs false
namespace Go.Sl
theorem cut_cons (b : UInt8) (l sep : Tx) : Lib.cut (b :: l) sep = if sep.isPrefixOf (b :: l) = true then ([], (b :: l).drop sep.length, true) else (b :: (Lib.cut l sep).1, (Lib.cut l sep).2.1, (Lib.cut l sep).2.2) := by
  have hg := Lib.index_ge l sep
  by_cases hp : sep.isPrefixOf (b :: l) = true
  · unfold Lib.cut
    simp [Lib.index, hp]
  · rw [if_neg hp]
    by_cases hm : Lib.index l sep = -1
    · have e : Lib.index (b :: l) sep = -1 := by simp [Lib.index, hp, hm]
      unfold Lib.cut
      rw [e, hm]; rfl
    · have e : Lib.index (b :: l) sep = Lib.index l sep + 1 := by simp [Lib.index, hp, hm]
      unfold Lib.cut
      rw [e, if_pos (by omega), if_pos (by omega)]
      obtain ⟨n, hn⟩ : ∃ n : Nat, Lib.index l sep = n := ⟨(Lib.index l sep).toNat, by omega⟩
      rw [hn]
      rw [show ((n : Int) + 1).toNat = n + 1 by omega, show (n : Int).toNat = n by omega, show n + 1 + sep.length = (n + sep.length) + 1 by omega]
      rfl
theorem cutL1 (c : UInt8) : ∀ l : Tx, Lib.cut l [c] = match cut1 c l with
    | some x => (x.1, x.2, true)
    | none => (l, [], false)
  | [] => by simp [Lib.cut, Lib.index, cut1, hasC]
  | b :: l => by
    rw [cut_cons, cutL1 c l]
    by_cases hb : b = c
    · subst hb
      simp [cut1, hasC, bef, behd]
    · have hb' : ¬ c = b := fun h => hb h.symm
      unfold cut1 hasC bef behd
      simp only [List.any_cons, hb, decide_false, Bool.false_or, List.takeWhile_cons, List.dropWhile_cons, Bool.not_false, if_true]
      by_cases hl : (l.any fun b => decide (b = c)) = true
      · simp [hl, hb']
      · simp [hl, hb']
theorem cutL2 (c d : UInt8) : ∀ l : Tx, Lib.cut l [c, d] = match cut2 c d l with
    | some x => (x.1, x.2, true)
    | none => (l, [], false)
  | [] => by simp [Lib.cut, Lib.index, cut2]
  | [a] => by
    rw [cut_cons]
    simp [cut2, Lib.cut, Lib.index]
  | a :: b :: l => by
    rw [cut_cons, cutL2 c d (b :: l)]
    by_cases hb : a = c ∧ b = d
    · obtain ⟨rfl, rfl⟩ := hb
      simp [cut2]
    · have hp : ¬ ([c, d].isPrefixOf (a :: b :: l) = true) := by
        simp
        intro h1 h2; exact hb ⟨h1.symm, h2.symm⟩
      rw [if_neg hp]
      simp only [cut2, hb, if_false]
      cases cut2 c d (b :: l) <;> rfl
end Go.Sl

set_option linter.unusedVariables false
set_option linter.unusedSimpArgs false
namespace Go.Sl
theorem cut_hit {c : UInt8} {l : Tx} (h : hasC c l = true) : ∃ n : Nat, Lib.index l [c] = n ∧ l.take n = bef c l ∧ l.drop (n + 1) = behd c l := by
  have e := cutL1 c l
  unfold cut1 at e
  rw [if_pos h] at e
  unfold Lib.cut at e
  by_cases hi : 0 ≤ Lib.index l [c]
  · rw [if_pos hi] at e
    injection e with e1 e2
    injection e2 with e2 e3
    exact ⟨(Lib.index l [c]).toNat, by omega, e1, e2⟩
  · rw [if_neg hi] at e
    injection e with e1 e2
    injection e2 with e2 e3
    cases e3
theorem cut_miss {c : UInt8} {l : Tx} (h : hasC c l = false) : Lib.index l [c] = -1 := by
  have e := cutL1 c l
  have hg := Lib.index_ge l [c]
  unfold cut1 at e
  rw [if_neg (by rw [h]; decide)] at e
  unfold Lib.cut at e
  by_cases hi : 0 ≤ Lib.index l [c]
  · rw [if_pos hi] at e
    injection e with e1 e2
    injection e2 with e2 e3
    cases e3
  · omega
theorem behd_len {c : UInt8} {l : Tx} (h : hasC c l = true) : (behd c l).length < l.length := by
  have := congrArg List.length (bef_aft h)
  rw [List.length_append, List.length_cons] at this
  omega
theorem splitL1 (c : UInt8) : ∀ (n : Nat) (l : Tx), l.length ≤ n → Lib.split l [c] = partsC c l
  | n, l, hn => by
    by_cases h : hasC c l = true
    · obtain ⟨i, hi, h1, h2⟩ := cut_hit h
      have hlt := behd_len h
      have hp : partsC c l = bef c l :: partsC c (behd c l) := by
        conv => lhs; rw [bef_aft h]
        exact parts_cons bef_no
      cases n with
      | zero => omega
      | succ n =>
        have ih := splitL1 c n (behd c l) (by omega)
        rw [hp, ← ih]
        unfold Lib.split
        rw [Lib.count_hit (by simp) hi]
        rw [show i + [c].length = i + 1 from rfl, h2, Nat.add_comm 1]
        simp only [Lib.splitK]
        rw [if_neg (by rw [hi]; intro e; have := beq_iff_eq.1 e; omega), hi]
        rw [show (i : Int).toNat + 0 = i by omega, show (i : Int).toNat + [c].length = i + 1 by simp, h1, h2]
    · have h0 : hasC c l = false := by simpa using h
      rw [parts_word h0]
      unfold Lib.split
      rw [Lib.count_miss (cut_miss h0)]
      rfl
termination_by n => n
end Go.Sl

set_option linter.unusedVariables false
set_option linter.unusedSimpArgs false
namespace Go.Sl
def digs : Tx := [48, 49, 50, 51, 52, 53, 54, 55, 56, 57]
set_option maxRecDepth 40000 in
theorem digs_has (b : UInt8) : digs.contains b = isDig b := by
  have : ∀ n : Fin 256, digs.contains (UInt8.ofNat n.1) = isDig (UInt8.ofNat n.1) := by decide
  have h := this ⟨b.toNat, b.toNat_lt⟩
  simpa using h
theorem dropWhile_nil {p : UInt8 → Bool} : ∀ {l : Tx}, l.dropWhile p = [] ↔ l.all p = true
  | [] => by simp
  | b :: l => by
    rw [List.dropWhile_cons]
    by_cases h : p b = true
    · rw [if_pos h, dropWhile_nil (l := l)]; simp [h]
    · rw [if_neg h]; simp [h]
theorem trim_digs (l : Tx) : Lib.trimS l digs = [] ↔ l.all isDig = true := by
  have e : (fun b => digs.contains b) = isDig := funext digs_has
  unfold Lib.trimS Lib.trimLeftS Lib.trimRightS
  rw [e, dropWhile_nil]
  constructor
  · intro h
    by_cases hn : l.reverse.dropWhile isDig = []
    · have := dropWhile_nil.1 hn
      rw [List.all_reverse] at this; exact this
    · exfalso
      have h2 := List.head_dropWhile_not isDig hn
      rw [List.all_reverse] at h
      have := List.all_eq_true.1 h _ (List.head_mem hn)
      rw [this] at h2; cases h2
  · intro h
    have : l.reverse.dropWhile isDig = [] := dropWhile_nil.2 (by rw [List.all_reverse]; exact h)
    rw [this]; rfl
theorem form_can (l : Tx) : canD l = false ↔ (l = [] ∨ Lib.trimS l digs ≠ [] ∨ (l.head? = some 48 ∧ l ≠ [48])) := by
  rw [ne_eq, trim_digs]
  cases l with
  | nil => simp [canD]
  | cons b r =>
    simp only [canD, reduceCtorEq, false_or, List.head?_cons, Option.some.injEq, ne_eq, List.cons.injEq]
    by_cases hd : (b :: r).all isDig = true
    · simp only [hd, Bool.true_and, not_true, false_or]
      by_cases hb : b = 48
      · cases r <;> simp [hb]
      · simp [hb]
    · rw [Bool.eq_false_iff.2 hd]; simp
end Go.Sl

set_option linter.unusedVariables false
set_option linter.unusedSimpArgs false
namespace Go.Sl
theorem joinX_lib : ∀ ws : List Tx, Lib.join ws [32] = joinX ws
  | [] => rfl
  | [w] => by simp [Lib.join, joinX, List.intercalate, List.intersperse]
  | w :: u :: ws => by
    have ih := joinX_lib (u :: ws)
    simp only [Lib.join, List.intercalate] at ih ⊢
    rw [show joinX (w :: u :: ws) = w ++ 32 :: joinX (u :: ws) from rfl, ← ih]
    simp [List.intersperse]
def lineP (n : Nat) (r : Rc) : Tx := [112] ++ 32 :: (Lib.decDigits n ++ 32 :: recX r)
def lineN (k : UInt8) (n : Nat) : Tx := [k] ++ 32 :: Lib.decDigits n
theorem num_nat {n : Nat} (h : n ≤ 2147483647) : numT 2147483647 (Lib.decDigits n) = some n := by
  have := num_round (m := 2147483647) (x := (n : Int)) (by omega) (by omega)
  simpa using this
theorem line_put {n : Nat} {r : Rc} (hn : n ≤ 2147483647) (h : checkR r 8 = 0) : lineT (lineP n r) = some (.put n r.trim) := by
  unfold lineT lineP
  rw [cut1_app (by decide)]
  simp only [Option.bind_eq_bind, Option.bind_some, if_true, cut1_app (dec_no (c := 32) (by decide) n), num_nat hn, rec_round h]
theorem line_num {k : UInt8} (hk : k ≠ 32) (hp : k ≠ 112) {n : Nat} (hn : n ≤ 2147483647) :
    lineT (lineN k n) = if k = 115 then some (.sealing n) else if k = 99 then some (.cut n) else if k = 116 then some (.trim n) else none := by
  unfold lineT lineN
  rw [cut1_app (by simp [hasC, hk])]
  have hl : ¬ ([k] : Tx) = [112] := by simpa using hp
  simp only [Option.bind_eq_bind, Option.bind_some, hl, if_false, dec_no (c := 32) (by decide) n, Bool.false_eq_true, num_nat hn, List.cons.injEq, and_true]
theorem line_seal {n : Nat} (hn : n ≤ 2147483647) : lineT (lineN 115 n) = some (.sealing n) := by rw [line_num (by decide) (by decide) hn, if_pos rfl]
theorem line_cut {n : Nat} (hn : n ≤ 2147483647) : lineT (lineN 99 n) = some (.cut n) := by rw [line_num (by decide) (by decide) hn, if_neg (by decide), if_pos rfl]
theorem line_trim {n : Nat} (hn : n ≤ 2147483647) : lineT (lineN 116 n) = some (.trim n) := by rw [line_num (by decide) (by decide) hn, if_neg (by decide), if_neg (by decide), if_pos rfl]
end Go.Sl

set_option linter.unusedVariables false
set_option linter.unusedSimpArgs false
namespace Go.Sl
def Sg.plays : Sg → Nat → List Tx → Option Sg
  | s, _, [] => some s
  | s, i, t :: l => match s.take i t with
    | some s' => Sg.plays s' (i + 1) l
    | none => none
theorem open_plays : ∀ {l : List Tx} {s s' : Sg} {i : Nat}, s.plays i l = some s' → s.open i l = (s', i + l.length)
  | [], s, s', i, h => by
    simp only [Sg.plays, Option.some.injEq] at h
    subst h; rfl
  | t :: l, s, s', i, h => by
    simp only [Sg.plays] at h
    simp only [Sg.open]
    cases ht : s.take i t with
    | none => rw [ht] at h; cases h
    | some x =>
      rw [ht] at h
      show x.open (i + 1) l = _
      rw [open_plays h, List.length_cons]
      show _ = (s', i + (l.length + 1))
      rw [show i + 1 + l.length = i + (l.length + 1) by omega]
theorem plays_app : ∀ {l : List Tx} {s : Sg} {i : Nat} {m : List Tx}, s.plays i (l ++ m) = (s.plays i l).bind fun x => x.plays (i + l.length) m
  | [], s, i, m => rfl
  | t :: l, s, i, m => by
    simp only [List.cons_append, Sg.plays]
    cases s.take i t with
    | none => rfl
    | some x =>
      show x.plays (i + 1) (l ++ m) = (x.plays (i + 1) l).bind _
      rw [plays_app]
      simp only [List.length_cons]
      rw [show i + 1 + l.length = i + (l.length + 1) by omega]
theorem plays_push {l : List Tx} {s x y : Sg} {i : Nat} {t : Tx} (h : s.plays i l = some x) (ht : x.take (i + l.length) t = some y) : s.plays i (l ++ [t]) = some y := by
  rw [plays_app, h]
  simp only [Option.bind_some, Sg.plays, ht]
theorem plays_front {l m : List Tx} {s x : Sg} {i : Nat} (h : s.plays i (l ++ m) = some x) : ∃ y, s.plays i l = some y := by
  rw [plays_app] at h
  cases hs : s.plays i l with
  | none => rw [hs] at h; cases h
  | some y => exact ⟨y, rfl⟩
end Go.Sl

set_option linter.unusedVariables false
set_option linter.unusedSimpArgs false
namespace Go.Sl
end Go.Sl

set_option linter.unusedVariables false
set_option linter.unusedSimpArgs false
namespace Go.Sl
structure Dk where
  room : Int
  lines : List ByteArray
  lasts : Nat
def usedL : List ByteArray → Nat
  | [] => 0
  | s :: l => s.size + 1 + usedL l
theorem usedL_app : ∀ (a b : List ByteArray), usedL (a ++ b) = usedL a + usedL b
  | [], b => by simp [usedL]
  | s :: a, b => by simp only [List.cons_append, usedL, usedL_app a b]; omega
theorem usedL_len : ∀ (l : List ByteArray), l.length ≤ usedL l
  | [] => Nat.zero_le _
  | s :: l => by have := usedL_len l; simp only [List.length_cons, usedL]; omega
theorem usedL_take (l : List ByteArray) (i : Nat) : usedL (l.take i) ≤ usedL l := by
  have h := usedL_app (l.take i) (l.drop i)
  rw [List.take_append_drop] at h; omega
theorem usedL_step {l : List ByteArray} {i : Nat} {s : ByteArray} (h : l[i]? = some s) : usedL (l.take (i + 1)) = usedL (l.take i) + (s.size + 1) := by
  have : l.take (i + 1) = l.take i ++ [s] := by rw [List.take_add_one, h]; rfl
  rw [this, usedL_app]; rfl
theorem usedL_size {l : List ByteArray} {s : ByteArray} (h : s ∈ l) : s.size + 1 ≤ usedL l := by
  induction l with
  | nil => cases h
  | cons a l ih =>
    simp only [usedL]
    rcases List.mem_cons.1 h with rfl | h
    · omega
    · have := ih h; omega
def nlT (s : ByteArray) : Bool := hasC 10 s.data.toList
def Dk.sync (d : Dk) : Dk := { d with lasts := d.lines.length }
def Dk.write (d : Dk) (s : ByteArray) : Int × Dk :=
  if nlT s = true then (2, d) else if d.room - usedL d.lines < s.size + 1 then (6, d) else (0, { d with lines := d.lines ++ [s] })
def fitN : Int → List ByteArray → Nat
  | _, [] => 0
  | k, s :: l => if k < s.size + 1 then 0 else fitN (k - (s.size + 1)) l + 1
theorem fitN_le : ∀ (k : Int) (l : List ByteArray), fitN k l ≤ l.length
  | _, [] => Nat.le_refl _
  | k, s :: l => by
    simp only [fitN, List.length_cons]
    have := fitN_le (k - (s.size + 1)) l
    split <;> omega
def keptD (d : Dk) (k : Int) : Nat := d.lasts + fitN (max k 0) (d.lines.drop d.lasts)
def Dk.front (d : Dk) (i : Nat) : Dk := { d with lines := d.lines.take i, lasts := i }
def Dk.crash (d : Dk) (k : Int) : Dk := d.front (keptD d k)
def Dk.cut (d : Dk) (i : Int) : Int × Dk := if i < 0 ∨ (d.lines.length : Int) < i then (1, d) else if d.lasts < d.lines.length then (12, d) else (0, d.front i.toNat)
structure Dk.Ok (d : Dk) : Prop where
  room : 1 ≤ d.room ∧ d.room ≤ 1048576
  used : (usedL d.lines : Int) ≤ d.room
  lasts : d.lasts ≤ d.lines.length
theorem Dk.Ok.len {d : Dk} (h : d.Ok) : d.lines.length ≤ 1048576 := by
  have h1 := usedL_len d.lines
  have h2 := h.used
  have h3 := h.room.2
  omega
theorem Dk.Ok.size {d : Dk} (h : d.Ok) {s : ByteArray} (hs : s ∈ d.lines) : s.size + 1 ≤ 1048576 := by
  have h1 := usedL_size hs
  have h2 := h.used
  have h3 := h.room.2
  omega
theorem kept_le {d : Dk} (h : d.Ok) (k : Int) : keptD d k ≤ d.lines.length := by
  have h1 := fitN_le (max k 0) (d.lines.drop d.lasts)
  rw [List.length_drop] at h1
  have := h.lasts
  unfold keptD; omega
theorem Dk.Ok.sync {d : Dk} (h : d.Ok) : d.sync.Ok := ⟨h.room, h.used, Nat.le_refl _⟩
theorem Dk.Ok.write {d : Dk} (h : d.Ok) (s : ByteArray) : (d.write s).2.Ok := by
  unfold Dk.write
  split
  · exact h
  · split
    · exact h
    · rename_i h1 h2
      refine ⟨h.room, ?_, ?_⟩
      · show ((usedL (d.lines ++ [s]) : Nat) : Int) ≤ d.room
        rw [usedL_app]
        simp only [usedL]; omega
      · have := h.lasts
        show d.lasts ≤ (d.lines ++ [s]).length
        rw [List.length_append]; omega
theorem Dk.Ok.front {d : Dk} (h : d.Ok) {i : Nat} (hi : i ≤ d.lines.length) : (d.front i).Ok := by
  refine ⟨h.room, ?_, ?_⟩
  · have h1 := usedL_take d.lines i
    have h2 := h.used
    show ((usedL (d.lines.take i) : Nat) : Int) ≤ d.room
    omega
  · show i ≤ (d.lines.take i).length
    rw [List.length_take]; omega
theorem Dk.Ok.crash {d : Dk} (h : d.Ok) (k : Int) : (d.crash k).Ok := h.front (kept_le h k)
theorem Dk.Ok.cut {d : Dk} (h : d.Ok) (i : Int) : (d.cut i).2.Ok := by
  unfold Dk.cut
  split
  · exact h
  · split
    · exact h
    · exact h.front (by omega)
def Sg.note (d : Dk) (k : UInt8) (n : Nat) : Int × Dk := if (d.write (txB (lineN k n))).1 = 0 then (0, (d.write (txB (lineN k n))).2.sync) else d.write (txB (lineN k n))
def Sg.above (s : Sg) (n : Int) : Sg := { s with m := s.m.filter fun p => decide (p.1 < n) }
def Sg.below (s : Sg) (n : Nat) : Sg := { s with m := s.m.filter (fun p => decide ((n : Int) ≤ p.1)), trim := n }
def Sg.put (s : Sg) (d : Dk) (ep pos : Int) (r : Rc) : Int × Sg × Dk :=
  if pos < 0 ∨ ep < 1 ∨ 2147483647 < pos ∨ 2147483647 < ep then (1, s, d)
  else if ep ≤ s.sealed then (7, s, d)
  else if pos < s.trim then (8, s, d)
  else if (mget s.m pos).isSome = true then (5, s, d)
  else if checkR r 8 ≠ 0 then (checkR r 8, s, d)
  else if (d.write (txB (lineP pos.toNat r))).1 ≠ 0 then ((d.write (txB (lineP pos.toNat r))).1, s, d)
  else (0, { s with m := mput s.m pos (r, d.lines.length) }, (d.write (txB (lineP pos.toNat r))).2)
def Sg.get (s : Sg) (pos : Int) : Rc × Int := if pos < s.trim then (rc0, 8) else match mget s.m pos with
  | none => (rc0, 9)
  | some x => (x.1, 0)
def nextM (l : List (Int × Slt)) (t : Int) : Int := l.foldl (fun a p => max a (p.1 + 1)) t
def Sg.sealG (s : Sg) (d : Dk) (ep : Int) : (Int × Int) × Sg × Dk :=
  if ep < 1 ∨ 2147483647 < ep then ((0, 1), s, d)
  else if ep ≤ s.sealed then ((0, 7), s, d)
  else if (Sg.note d 115 ep.toNat).1 ≠ 0 then ((0, (Sg.note d 115 ep.toNat).1), s, (Sg.note d 115 ep.toNat).2)
  else ((nextM s.m s.trim, 0), { s with sealed := ep.toNat }, (Sg.note d 115 ep.toNat).2)
def Sg.cutAt (s : Sg) (d : Dk) (pos : Int) : Int × Sg × Dk :=
  if pos < 0 ∨ 2147483647 < pos then (1, s, d)
  else if (Sg.note d 99 pos.toNat).1 ≠ 0 then ((Sg.note d 99 pos.toNat).1, s, (Sg.note d 99 pos.toNat).2)
  else (0, s.above pos, (Sg.note d 99 pos.toNat).2)
def Sg.trimAt (s : Sg) (d : Dk) (pos : Int) : Sg × Dk :=
  if s.trim < pos ∧ pos ≤ 2147483647 then (if (Sg.note d 116 pos.toNat).1 = 0 then (s.below pos.toNat, (Sg.note d 116 pos.toNat).2) else (s, (Sg.note d 116 pos.toNat).2)) else (s, d)
def Sg.lastsAt (s : Sg) (d : Dk) (pos : Int) : Bool := match mget s.m pos with
  | none => false
  | some x => decide (x.2 < d.lasts)
def insI (x : Int) : List Int → List Int
  | [] => [x]
  | y :: l => if x ≤ y then x :: y :: l else y :: insI x l
def sortI : List Int → List Int
  | [] => []
  | x :: l => insI x (sortI l)
def recM (l : List (Int × Slt)) (k : Int) : Rc := match mget l k with
  | none => rc0
  | some x => x.1
def Sg.keys (s : Sg) : List Int := sortI (keysM s.m)
def Sg.all (s : Sg) : List (Int × Rc) := s.keys.map fun k => (k, recM s.m k)
theorem ins_mem {x y : Int} : ∀ {l : List Int}, y ∈ insI x l ↔ y = x ∨ y ∈ l
  | [] => by simp [insI]
  | z :: l => by
    simp only [insI]
    split
    · simp
    · simp only [List.mem_cons, ins_mem (l := l)]
      constructor
      · rintro (h | h | h) <;> simp [h]
      · rintro (h | h | h) <;> simp [h]
theorem ins_perm (x : Int) : ∀ l : List Int, (insI x l).Perm (x :: l)
  | [] => List.Perm.refl _
  | z :: l => by
    simp only [insI]
    split
    · exact List.Perm.refl _
    · exact ((ins_perm x l).cons z).trans (List.Perm.swap x z l)
theorem sort_perm : ∀ l : List Int, (sortI l).Perm l
  | [] => List.Perm.refl _
  | x :: l => (ins_perm x (sortI l)).trans ((sort_perm l).cons x)
theorem ins_ris {x : Int} : ∀ {l : List Int}, l.Pairwise (· ≤ ·) → (insI x l).Pairwise (· ≤ ·)
  | [], _ => by simp [insI]
  | z :: l, h => by
    have h2 := List.pairwise_cons.1 h
    simp only [insI]
    split
    · rename_i hx
      refine List.pairwise_cons.2 ⟨fun y hy => ?_, h⟩
      rcases List.mem_cons.1 hy with rfl | hy
      · exact hx
      · exact Int.le_trans hx (h2.1 y hy)
    · rename_i hx
      refine List.pairwise_cons.2 ⟨fun y hy => ?_, ins_ris h2.2⟩
      rcases ins_mem.1 hy with rfl | hy
      · omega
      · exact h2.1 y hy
theorem sort_ris : ∀ l : List Int, (sortI l).Pairwise (· ≤ ·)
  | [] => List.Pairwise.nil
  | x :: l => ins_ris (sort_ris l)
theorem ris_uniq : ∀ {a b : List Int}, a.Pairwise (· ≤ ·) → b.Pairwise (· ≤ ·) → a.Perm b → a = b
  | [], b, _, _, h => by rw [List.nil_perm.1 h]
  | x :: a, [], _, _, h => absurd h.length_eq (by simp)
  | x :: a, y :: b, ha, hb, h => by
    have h1 := List.pairwise_cons.1 ha
    have h2 := List.pairwise_cons.1 hb
    have hx : x ∈ y :: b := h.subset (by simp)
    have hy : y ∈ x :: a := h.symm.subset (by simp)
    have e : x = y := by
      rcases List.mem_cons.1 hx with e | e
      · exact e
      · rcases List.mem_cons.1 hy with e2 | e2
        · exact e2.symm
        · exact Int.le_antisymm (h1.1 y e2) (h2.1 x e)
    subst e
    rw [ris_uniq h1.2 h2.2 (List.Perm.cons_inv h)]
def txs (l : List ByteArray) : List Tx := l.map fun s => s.data.toList
def Dk.opened (d : Dk) : Sg × Dk := (((⟨[], 0, 0⟩ : Sg).open 0 (txs d.lines)).1, if ((⟨[], 0, 0⟩ : Sg).open 0 (txs d.lines)).2 = d.lines.length then d else d.front ((⟨[], 0, 0⟩ : Sg).open 0 (txs d.lines)).2)
end Go.Sl

set_option linter.unusedVariables false
set_option linter.unusedSimpArgs false
namespace Go.Sl
theorem txB_tx (s : ByteArray) : txB s.data.toList = s := rfl
theorem tx_txB (l : Tx) : (txB l).data.toList = l := by simp [txB]
theorem size_txB (l : Tx) : (txB l).size = l.length := by simp [txB, ByteArray.size]
theorem txs_app (a b : List ByteArray) : txs (a ++ b) = txs a ++ txs b := by simp [txs]
theorem txs_len (a : List ByteArray) : (txs a).length = a.length := by simp [txs]
theorem has_cons (c b : UInt8) (m : Tx) : hasC c (b :: m) = (decide (b = c) || hasC c m) := rfl
theorem vec_nl (v : List Int) : hasC 10 (vecX v) = false := by
  unfold vecX
  rw [has_cons, has_app]
  have : hasC 10 (joinX ((trimV v).map fun n => Lib.decDigits n.toNat)) = false := by
    refine joinX_no (by decide) fun w hw => ?_
    obtain ⟨n, _, rfl⟩ := List.mem_map.1 hw
    exact dec_no (by decide) _
  rw [this]; rfl
theorem lineN_nl {k : UInt8} (hk : k ≠ 10) (n : Nat) : hasC 10 (lineN k n) = false := by
  unfold lineN
  simp only [has_app, has_cons, dec_no (c := 10) (by decide)]
  simp [hasC, hk]
theorem dec_len : ∀ (k n : Nat), n < 10 ^ (k + 1) → (Lib.decDigits n).length ≤ k + 1
  | 0, n, h => by
    rw [Lib.decDigits]
    rw [dif_pos (by omega)]; simp
  | k + 1, n, h => by
    rw [Lib.decDigits]
    split
    · simp
    · have := dec_len k (n / 10) (by rw [Nat.pow_succ] at h; omega)
      rw [List.length_append]; simp; omega
def rz (site seq : Int) : Rc := ⟨site, seq, [], ⟨#[107]⟩, bE⟩
theorem rz_ok {site seq : Int} (h : 0 ≤ site ∧ site < 8 ∧ 1 ≤ seq ∧ seq ≤ 1048576) : checkR (rz site seq) 8 = 0 := by
  refine rok_to ⟨⟨h.1, h.2.1⟩, ⟨h.2.2.1, h.2.2.2⟩, Nat.zero_le _, fun x hx => (by cases hx), ?_, (show 1 ≤ (⟨#[107]⟩ : ByteArray).size ∧ (⟨#[107]⟩ : ByteArray).size ≤ 8 by decide), (show nameOk ⟨#[107]⟩ = true by decide), (show valOk bE = true by decide), (show bE.size ≤ 16 by decide)⟩
  show getI [] site < seq
  unfold getI
  split
  · omega
  · simp; omega
theorem rz_trim (site seq : Int) : (rz site seq).trim = rz site seq := rfl
theorem lineN_len {k : UInt8} {n : Nat} (hn : n < 100000) : (lineN k n).length ≤ 8 := by
  have h1 := dec_len 4 n (by omega)
  unfold lineN
  simp only [List.length_append, List.length_cons, List.length_nil]
  omega
structure Ply (s : Sg) (d : Dk) : Prop where
  ok : d.Ok
  pl : (⟨[], 0, 0⟩ : Sg).plays 0 (txs d.lines) = some s
theorem write_ok {d : Dk} {t : Tx} (hn : hasC 10 t = false) (hr : (usedL d.lines : Int) + t.length + 1 ≤ d.room) : d.write (txB t) = (0, { d with lines := d.lines ++ [txB t] }) := by
  unfold Dk.write
  rw [if_neg (by unfold nlT; rw [tx_txB, hn]; decide), if_neg (by rw [size_txB]; omega)]
theorem note_eq {d : Dk} {k : UInt8} {n : Nat} (hk : k ≠ 10) (hr : (usedL d.lines : Int) + (lineN k n).length + 1 ≤ d.room) : Sg.note d k n = (0, { d with lines := d.lines ++ [txB (lineN k n)], lasts := d.lines.length + 1 }) := by
  unfold Sg.note
  rw [write_ok (lineN_nl hk n) hr, if_pos rfl]
  simp [Dk.sync]
theorem put_eq {s : Sg} {d : Dk} {ep pos : Int} {r : Rc} (h1 : 0 ≤ pos ∧ 1 ≤ ep ∧ pos ≤ 2147483647 ∧ ep ≤ 2147483647) (h2 : (s.sealed : Int) < ep) (h3 : (s.trim : Int) ≤ pos) (h4 : mget s.m pos = none) (h5 : checkR r 8 = 0)
    (hn : hasC 10 (lineP pos.toNat r) = false) (hr : (usedL d.lines : Int) + (lineP pos.toNat r).length + 1 ≤ d.room) :
    s.put d ep pos r = (0, { s with m := mput s.m pos (r, d.lines.length) }, { d with lines := d.lines ++ [txB (lineP pos.toNat r)] }) := by
  unfold Sg.put
  rw [if_neg (by omega), if_neg (by omega), if_neg (by omega), if_neg (by rw [h4]; decide), if_neg (by rw [h5]; decide), write_ok hn hr, if_neg (fun h => h rfl)]
theorem seal_eq {s : Sg} {d : Dk} {ep : Int} (h1 : 1 ≤ ep ∧ ep ≤ 2147483647) (h2 : (s.sealed : Int) < ep) (hr : (usedL d.lines : Int) + (lineN 115 ep.toNat).length + 1 ≤ d.room) :
    s.sealG d ep = ((nextM s.m s.trim, 0), { s with sealed := ep.toNat }, { d with lines := d.lines ++ [txB (lineN 115 ep.toNat)], lasts := d.lines.length + 1 }) := by
  unfold Sg.sealG
  rw [if_neg (by omega), if_neg (by omega), note_eq (by decide) hr, if_neg (fun h => h rfl)]
theorem cut_eq {s : Sg} {d : Dk} {pos : Int} (h1 : 0 ≤ pos ∧ pos ≤ 2147483647) (hr : (usedL d.lines : Int) + (lineN 99 pos.toNat).length + 1 ≤ d.room) :
    s.cutAt d pos = (0, s.above pos, { d with lines := d.lines ++ [txB (lineN 99 pos.toNat)], lasts := d.lines.length + 1 }) := by
  unfold Sg.cutAt
  rw [if_neg (by omega), note_eq (by decide) hr, if_neg (fun h => h rfl)]
theorem trim_eq {s : Sg} {d : Dk} {pos : Int} (h1 : (s.trim : Int) < pos ∧ pos ≤ 2147483647) (hr : (usedL d.lines : Int) + (lineN 116 pos.toNat).length + 1 ≤ d.room) :
    s.trimAt d pos = (s.below pos.toNat, { d with lines := d.lines ++ [txB (lineN 116 pos.toNat)], lasts := d.lines.length + 1 }) := by
  unfold Sg.trimAt
  rw [if_pos h1, note_eq (by decide) hr, if_pos rfl]
theorem push_ok {d : Dk} {t : Tx} {n : Nat} (h : d.Ok) (hn : n ≤ d.lines.length + 1) (hr : (usedL d.lines : Int) + t.length + 1 ≤ d.room) : (⟨d.room, d.lines ++ [txB t], n⟩ : Dk).Ok := by
  refine ⟨h.room, ?_, ?_⟩
  · show ((usedL (d.lines ++ [txB t]) : Nat) : Int) ≤ d.room
    rw [usedL_app]
    simp only [usedL, size_txB]; omega
  · show n ≤ (d.lines ++ [txB t]).length
    rw [List.length_append]; exact hn
theorem ply_push {s s' : Sg} {d : Dk} {t : Tx} {n : Nat} (h : Ply s d) (ht : s.take d.lines.length t = some s') (hn : n ≤ d.lines.length + 1) (hr : (usedL d.lines : Int) + t.length + 1 ≤ d.room) : Ply s' ⟨d.room, d.lines ++ [txB t], n⟩ := by
  refine ⟨push_ok h.ok hn hr, ?_⟩
  show (⟨[], 0, 0⟩ : Sg).plays 0 (txs (d.lines ++ [txB t])) = some s'
  rw [txs_app]
  refine plays_push h.pl ?_
  rw [txs_len, Nat.zero_add]
  show s.take d.lines.length (txB t).data.toList = some s'
  rw [tx_txB]; exact ht
theorem any_key {l : List (Int × Slt)} {n : Int} (h : mget l n = none) : (l.any fun p => decide (p.1 = n)) = false := by
  rw [Bool.eq_false_iff]
  intro hc
  obtain ⟨p, hp, he⟩ := List.any_eq_true.1 hc
  have : (mget l n).isSome = true := mget_isSome.2 (List.mem_map.2 ⟨p, hp, of_decide_eq_true he⟩)
  rw [h] at this; cases this
theorem mput_end {l : List (Int × Slt)} {n : Int} {x : Slt} (h : mget l n = none) : mput l n x = l ++ [(n, x)] := by
  refine mput_new fun p hp he => ?_
  have : (mget l n).isSome = true := mget_isSome.2 (List.mem_map.2 ⟨p, hp, he⟩)
  rw [h] at this; cases this
theorem take_put {s : Sg} {i n : Nat} {r : Rc} (hn : n ≤ 2147483647) (h3 : s.trim ≤ n) (h4 : mget s.m (n : Int) = none) (h5 : checkR r 8 = 0) (ht : r.trim = r) : s.take i (lineP n r) = some { s with m := mput s.m n (r, i) } := by
  unfold Sg.take
  rw [line_put hn h5]
  simp only
  rw [any_key h4, if_neg (by simp; omega), ht, mput_end h4]
theorem take_seal {s : Sg} {i n : Nat} (hn : n ≤ 2147483647) (h : s.sealed < n) : s.take i (lineN 115 n) = some { s with sealed := n } := by
  unfold Sg.take
  rw [line_seal hn]
  simp only
  rw [if_neg (by omega)]
theorem take_cut {s : Sg} {i n : Nat} (hn : n ≤ 2147483647) : s.take i (lineN 99 n) = some (s.above n) := by
  unfold Sg.take
  rw [line_cut hn]
  rfl
theorem take_trim {s : Sg} {i n : Nat} (hn : n ≤ 2147483647) (h : s.trim < n) : s.take i (lineN 116 n) = some (s.below n) := by
  unfold Sg.take
  rw [line_trim hn]
  simp only
  rw [if_neg (by omega)]; rfl
theorem ply_opened {s : Sg} {d : Dk} (h : Ply s d) : d.opened = (s, d) := by
  unfold Dk.opened
  rw [open_plays h.pl, txs_len]
  simp
theorem fit0 : ∀ (l : List ByteArray), fitN (max 0 0) l = 0
  | [] => rfl
  | s :: l => by
    simp only [fitN]
    rw [if_pos (by omega)]
theorem crash0 (d : Dk) : d.crash 0 = d.front d.lasts := by
  unfold Dk.crash keptD
  rw [fit0, Nat.add_zero]
theorem mget_filter {l : List (Int × Slt)} (f : Int → Bool) (k : Int) : mget (l.filter fun p => f p.1) k = if f k = true then mget l k else none := by
  induction l with
  | nil => simp [mget]
  | cons p l ih =>
    obtain ⟨k', v⟩ := p
    rw [List.filter_cons]
    by_cases hf : f k' = true
    · rw [if_pos (show f (k', v).1 = true from hf)]
      simp only [mget, ih]
      by_cases hk : k' = k
      · subst hk; rw [if_pos rfl, if_pos rfl, if_pos hf]
      · rw [if_neg hk, if_neg hk]
    · rw [if_neg (show ¬ f (k', v).1 = true from hf), ih]
      simp only [mget]
      by_cases hk : k' = k
      · subst hk; rw [if_neg hf, if_neg hf]
      · rw [if_neg hk]
end Go.Sl

set_option linter.unusedVariables false
set_option linter.unusedSimpArgs false
namespace Go.Sl
structure SealI (i : Nat) (s : Sg) (d : Dk) (pos sealed : Int) : Prop where
  ply : Ply s d
  room : d.room = 100000
  used : usedL d.lines ≤ 33 * i
  trim : s.trim = 0
  sl : (s.sealed : Int) = sealed
  bd : 0 ≤ pos ∧ pos ≤ i
  keys : keysM s.m = (List.range pos.toNat).map Int.ofNat
  syn : ∃ s2, (⟨[], 0, 0⟩ : Sg).plays 0 (txs (d.lines.take d.lasts)) = some s2 ∧ s2.sealed = s.sealed
theorem SealI.mono {i : Nat} {s : Sg} {d : Dk} {pos sealed : Int} (h : SealI i s d pos sealed) : SealI (i + 1) s d pos sealed :=
  ⟨h.ply, h.room, by have := h.used; omega, h.trim, h.sl, by have := h.bd; omega, h.keys, h.syn⟩
def rowM (k : Nat) : List (Int × Slt) := (List.range k).map fun j : Nat => ((j : Int), (rz 0 ((j : Int) + 1), j))
structure CutI (i : Nat) (s : Sg) (d : Dk) : Prop where
  ply : Ply s d
  room : d.room = 100000
  used : usedL d.lines ≤ 33 * i
  s : s = ⟨rowM i, 0, 0⟩
  len : d.lines.length = i
structure OnceI (i : Nat) (s : Sg) (d : Dk) (f : List Int) (n : Nat) : Prop where
  ok : d.Ok
  room : d.room = 100000
  used : usedL d.lines ≤ 33 * i
  sl : s.sealed = 0
  trim : s.trim = 0
  flen : f.length = 256
  at_ : ∀ v : Nat, v < 256 → (f.getD v 0 = 0 ∧ mget s.m (v : Int) = none) ∨ (f.getD v 0 ≠ 0 ∧ ∃ x, mget s.m (v : Int) = some x ∧ x.1.seq = f.getD v 0)
  key : ∀ k ∈ keysM s.m, 0 ≤ k ∧ k < 256
  nd : (keysM s.m).Nodup
  len : s.m.length = n
theorem OnceI.mono {i n : Nat} {s : Sg} {d : Dk} {f : List Int} (h : OnceI i s d f n) : OnceI (i + 1) s d f n :=
  ⟨h.ok, h.room, by have := h.used; omega, h.sl, h.trim, h.flen, h.at_, h.key, h.nd, h.len⟩
end Go.Sl

set_option linter.unusedVariables false
namespace Go.Sl
def RSlt : Rep Slt where
  V := Pl
  sz := 6
  agg := true
  cells := fun e h => [.int .i64 e.1.site, .int .i64 e.1.seq, .slice h.1 e.1.dep.length h.2, .string e.1.key, .string e.1.val, .int .i64 (e.2 : Int)]
  atoms := fun e h => [slAt RI h.1 e.1.dep.length e.1.dep, pr (e.1.dep.length ≤ h.2)]
  len := fun _ _ => rfl
  pers := fun e h A hA => by
    simp only [List.mem_cons, List.mem_nil_iff, or_false] at hA
    rcases hA with rfl | rfl
    · exact pers_slAt _ _ _ _
    · exact pers_pr _
  pos := by decide
  sc := fun h => by cases h
  one := fun _ _ v h => by
    simp only [List.mem_cons, List.mem_nil_iff, or_false] at h
    rcases h with rfl | rfl | rfl | rfl | rfl | rfl <;> rfl
  wit := fun _ h => h (none, 0)
abbrev dkAt (b : Nat) (x : Pl) (d : Dk) : List HP := [pts b 0 [.int .i64 d.room, .slice x.1 d.lines.length x.2, .int .i64 (d.lasts : Int)], sqAt false RS x.1 d.lines.length x.2 d.lines]
abbrev dkParts (b : Nat) (x : Pl) (d : Dk) : List HP := [pts b 0 [.int .i64 d.room], pts b 1 [.slice x.1 d.lines.length x.2], pts b 2 [.int .i64 (d.lasts : Int)], sqAt false RS x.1 d.lines.length x.2 d.lines]
theorem pts_three {b : Nat} {x y z : Value} {L : List HP} : Ent (pts b 0 [x, y, z] :: L) (pts b 0 [x] :: pts b 1 [y] :: pts b 2 [z] :: L) :=
  (pts_split (us := [x]) (vs := [y, z])).trans (Ent.cons (pts_split (b := b) (off := 1) (us := [y]) (vs := [z])))
theorem three_pts {b : Nat} {x y z : Value} {L : List HP} : Ent (pts b 0 [x] :: pts b 1 [y] :: pts b 2 [z] :: L) (pts b 0 [x, y, z] :: L) :=
  (Ent.cons (pts_join (b := b) (off := 1) (us := [y]) (vs := [z]))).trans (pts_join (us := [x]) (vs := [y, z]))
theorem dk_split {b : Nat} {x : Pl} {d : Dk} {L : List HP} : Ent (dkAt b x d ++ L) (dkParts b x d ++ L) := pts_three
theorem dk_join {b : Nat} {x : Pl} {d : Dk} {L : List HP} : Ent (dkParts b x d ++ L) (dkAt b x d ++ L) := three_pts
abbrev sgAt (sb db mb : Nat) (s : Sg) : List HP := [pts sb 0 [.pointer (some ⟨db, 0, none⟩), .map (some mb), .int .i64 (s.sealed : Int), .int .i64 (s.trim : Int)], mpAt (KI .i64) RSlt mb s.m]
def ELn : Enc (ByteArray × Nat) where
  V := Unit
  args := fun x _ => [.int .i64 (x.2 : Int), .string x.1]
  atoms := fun _ _ => []
  pers := fun _ _ _ h => by cases h
theorem zip_get {α : Type} {l : List α} {i : Nat} {r : α} (h : l[i]? = some r) : l.zipIdx[i]? = some (r, i) := by
  rw [List.getElem?_zipIdx, h]; simp
theorem zip_of {α : Type} {l : List α} {i : Nat} {x : α × Nat} (h : l.zipIdx[i]? = some x) : l[i]? = some x.1 ∧ x.2 = i := by
  rw [List.getElem?_zipIdx] at h
  cases hl : l[i]? with
  | none => rw [hl] at h; cases h
  | some a => rw [hl] at h; simp at h; subst h; simp
end Go.Sl

set_option linter.unusedVariables false
set_option linter.unusedSectionVars false
set_option linter.unusedSimpArgs false
namespace Go.Sl
section
variable {P : Program} [tb : Tab P] {rd : Option Nat} {N : Nat} {T : TT} {L L' : List HP} {Q : Post} {ks : List K}
variable {all : Array Oper} {rest : List Oper} {d : Option Tmp} {ty : TypeId} {pos : String} {aft : Array Edge}
variable {κ α : Type} [DecidableEq κ] {kr : KR κ} {ρ : Rep α}
end
end Go.Sl

set_option linter.unusedVariables false
set_option linter.unusedSectionVars false
set_option linter.unusedSimpArgs false
namespace Go.Sl
structure Plain {α : Type} (ρ : Rep α) (h : ρ.V) : Prop where
  at0 : ∀ x, ρ.atoms x h = []
  un : ∀ h', h' = h
def cellsOf {α : Type} (ρ : Rep α) (h : ρ.V) (l : List α) : List Value := flat ρ (l.map fun x => (x, h))
theorem cellsOf_len {α : Type} {ρ : Rep α} {h : ρ.V} (l : List α) : (cellsOf ρ h l).length = l.length * ρ.sz := by
  unfold cellsOf; rw [flat_length, List.length_map]
theorem cellsOf_app {α : Type} {ρ : Rep α} {h : ρ.V} (a b : List α) : cellsOf ρ h (a ++ b) = cellsOf ρ h a ++ cellsOf ρ h b := by
  unfold cellsOf; rw [List.map_append, flat_append]
theorem sq_cells {α : Type} {ρ : Rep α} {h : ρ.V} (hp : Plain ρ h) {a : Addr} {n c : Nat} {l : List α} {L : List HP} {W : World} (hs : St W (sqAt true ρ (some a) n c l :: L)) :
    a = ⟨a.block, a.off, none⟩ ∧ n ≤ c ∧ ∃ sp, sp.length = (c - n) * ρ.sz ∧ St W (pts a.block a.off (cellsOf ρ h l ++ sp) :: L) := by
  obtain ⟨h0, h1, h2, hsp, z, sp, hz, hl, h5⟩ := sq_open hs
  have hz2 : z = l.map fun x => (x, h) := by
    rw [← hz, List.map_map]
    conv => lhs; rw [← List.map_id z]
    refine List.map_congr_left fun p _ => ?_
    obtain ⟨x, k⟩ := p
    rw [hp.un k]; rfl
  refine ⟨addr_eta hsp, h2, sp, hl, ?_⟩
  subst hz2
  have hlen : (flat ρ (l.map fun x => (x, h))).length = n * ρ.sz := by rw [flat_length, List.length_map, h0]
  have h6 : St W (pts a.block a.off (flat ρ (l.map fun x => (x, h))) :: pts a.block (a.off + (flat ρ (l.map fun x => (x, h))).length) sp :: memA ρ (l.map fun x => (x, h)) :: L) := by rw [hlen]; exact h5
  exact (h6.ent pts_join).ent (Ent.cons Ent.drop)
theorem cells_sq {α : Type} {ρ : Rep α} {h : ρ.V} (hp : Plain ρ h) {b o n c : Nat} {l : List α} {L : List HP} {sp : List Value} (hn : n = l.length) (hl : n ≤ lim) (hc : n ≤ c) (hsp : sp.length = (c - n) * ρ.sz) :
    Ent (pts b o (cellsOf ρ h l ++ sp) :: L) (sqAt true ρ (some ⟨b, o, none⟩) n c l :: L) := by
  have h2 : Ent (pts b o (cellsOf ρ h l ++ sp) :: L) (pts b o (cellsOf ρ h l) :: pts b (o + n * ρ.sz) sp :: L) := by
    have := pts_split (b := b) (off := o) (us := cellsOf ρ h l) (vs := sp) (L := L)
    rwa [cellsOf_len, ← hn] at this
  refine h2.trans ?_
  have hm : ∀ (M : List HP), Ent M (memA ρ (l.map fun x => (x, h)) :: M) := fun M r o hM => ⟨own0, o, fun _ _ => .inl rfl, none_add, fun i u y e => by
    rw [List.getElem?_map, Option.map_eq_some_iff] at e
    obtain ⟨x, _, e⟩ := e
    cases e
    rw [hp.at0]; trivial, hM⟩
  refine (Ent.cons (Ent.cons (hm L))).trans ?_
  exact sq_shut (w := true) (a := ⟨b, o, none⟩) (z := l.map fun x => (x, h)) hn hl hc rfl (by rw [List.map_map]; exact List.map_id _) hsp
theorem lay_over : ∀ {B D C : List Value}, B.length = D.length → lay (B ++ C) 0 D = D ++ C
  | [], [], C, _ => by simp [lay]
  | b :: B, d :: D, C, h => by
    simp only [List.cons_append, lay]
    rw [lay_over (by simpa using h)]
theorem takes_self : ∀ {L : List HP}, Takes L L []
  | [] => .nil
  | A :: L => .cons .here takes_self
section
variable {P : Program} [tb : Tab P] {rd : Option Nat} {N : Nat} {T : TT} {L L' L1 : List HP} {Q : Post} {ks : List K}
variable {all : Array Oper} {rest : List Oper} {d : Option Tmp} {ty : TypeId} {pos : String} {aft : Array Edge}
theorem SO.cap {x : Operand} {t e n1 n2 : Nat} {z : Value} {A : Option Addr} {n c : Nat} (hx : evO T x = some (.slice A n c)) (ht : tget tb.tab t = some ⟨.sl e, n1, n2, z⟩) (hd : dstOk N d = true)
    (kk : SO P rd N all rest (putD d (.int .i64 c) T) L ks Q) : SO P rd N all (⟨d, .call ⟨.builtin .cap, #[x], #[t]⟩, ty, pos, aft, none⟩ :: rest) T L ks Q := by
  refine SO.run (R := fun v L2 => v = .int .i64 c ∧ L2 = L) rfl rfl hd ?_ (by rintro _ _ ⟨rfl, rfl⟩; exact kk)
  intro q hq F w hst
  refine ⟨_, w, L, .inl ?_, ⟨rfl, rfl⟩, hst⟩
  have := (tab_ok ht).k
  simp only [TK.ok] at this
  simp [execOp, resolve, invoke, builtin, Builtin.cap_, hq _ _ hx, run_und this, goInt]
theorem SK.cells {c : Code} {α : Type} {ρ : Rep α} {h : ρ.V} {a : Addr} {n m : Nat} {l : List α} (hp : Plain ρ h) (hh : Take (sqAt true ρ (some a) n m l) L L')
    (k : a.spot = none → ∀ sp : List Value, sp.length = (m - n) * ρ.sz → SK P rd N (.code c :: ks) T (pts a.block a.off (cellsOf ρ h l ++ sp) :: L') Q) : SK P rd N (.code c :: ks) T L Q := by
  refine SK.shift (L' := some1 (fun sp : List Value => a.spot = none ∧ sp.length = (m - n) * ρ.sz) (fun sp => [pts a.block a.off (cellsOf ρ h l ++ sp)]) :: L') (fun F w hst => ?_) (SK.tok .here fun sp hsp => k hsp.1 sp hsp.2)
  obtain ⟨h1, h2, sp, h3, h4⟩ := sq_cells hp ((hst.ent (Ent.cons hh.ent)).ent Ent.swap)
  refine (h4.ent ?_).ent Ent.swap
  exact ent_tok (p := fun sp : List Value => a.spot = none ∧ sp.length = (m - n) * ρ.sz) (M := fun sp => [pts a.block a.off (cellsOf ρ h l ++ sp)]) sp ⟨by rw [h1], h3⟩ (.cons .here takes_self)
theorem SO.cells {ops : List Oper} {α : Type} {ρ : Rep α} {h : ρ.V} {a : Addr} {n m : Nat} {l : List α} (hp : Plain ρ h) (hh : Take (sqAt true ρ (some a) n m l) L L')
    (k : a.spot = none → ∀ sp : List Value, sp.length = (m - n) * ρ.sz → SO P rd N all ops T (pts a.block a.off (cellsOf ρ h l ++ sp) :: L') ks Q) : SO P rd N all ops T L ks Q := by
  refine SO.shift (L' := some1 (fun sp : List Value => a.spot = none ∧ sp.length = (m - n) * ρ.sz) (fun sp => [pts a.block a.off (cellsOf ρ h l ++ sp)]) :: L') (fun F w hst => ?_) (SO.tok .here fun sp hsp => k hsp.1 sp hsp.2)
  obtain ⟨h1, h2, sp, h3, h4⟩ := sq_cells hp ((hst.ent (Ent.cons hh.ent)).ent Ent.swap)
  refine (h4.ent ?_).ent Ent.swap
  exact ent_tok (p := fun sp : List Value => a.spot = none ∧ sp.length = (m - n) * ρ.sz) (M := fun sp => [pts a.block a.off (cellsOf ρ h l ++ sp)]) sp ⟨by rw [h1], h3⟩ (.cons .here takes_self)
end
end Go.Sl

set_option linter.unusedVariables false
set_option linter.unusedSectionVars false
set_option linter.unusedSimpArgs false
namespace Go.Sl
theorem lay_flat {α : Type} {ρ : Rep α} (u : α) (h : ρ.V) : ∀ (z : List (α × ρ.V)) (i : Nat), i < z.length → lay (flat ρ z) (i * ρ.sz) (ρ.cells u h) = flat ρ (z.set i (u, h))
  | [], i, hi => by simp at hi
  | (x, k) :: z, 0, _ => by
    simp only [flat, List.set_cons_zero, Nat.zero_mul]
    exact lay_over (by rw [ρ.len, ρ.len])
  | (x, k) :: z, i + 1, hi => by
    simp only [flat, List.set_cons_succ]
    rw [show (i + 1) * ρ.sz = ρ.sz + i * ρ.sz by rw [Nat.add_mul]; omega]
    have key : ∀ (A B D : List Value) (m : Nat), lay (A ++ B) (A.length + m) D = A ++ lay B m D := by
      intro A
      induction A with
      | nil => intro B D m; simp
      | cons a A ih =>
        intro B D m
        cases D with
        | nil => simp [lay]
        | cons d D =>
          simp only [List.cons_append, List.length_cons, show A.length + 1 + m = (A.length + m) + 1 by omega, lay]
          rw [ih]
    have := key (ρ.cells x k) (flat ρ z) (ρ.cells u h) (i * ρ.sz)
    rw [ρ.len] at this
    rw [this, lay_flat u h z i (by simpa using hi)]
theorem memS_set {α : Type} {ρ : Rep α} {z : List (α × ρ.V)} {r : Ro} {u : α} {h : ρ.V} (i : Nat) (m : memS ρ z r) (ha : seps (ρ.atoms u h) r (fun _ _ => none)) : memS ρ (z.set i (u, h)) r := by
  intro j x k e
  by_cases hj : i = j
  · subst hj
    rw [List.getElem?_set] at e
    simp only [if_true] at e
    split at e
    · cases e; exact ha
    · cases e
  · rw [List.getElem?_set_ne hj] at e; exact m j x k e
section
variable {P : Program} [tb : Tab P] {rd : Option Nat} {N : Nat} {T : TT} {L L' L1 E : List HP} {Q : Post} {ks : List K} {RR : TT → List HP → Prop}
variable {all : Array Oper} {rest : List Oper} {restX : XO} {d : Option Tmp} {ty : TypeId} {pos : String} {aft : Array Edge} {α : Type} {ρ : Rep α}
theorem seps_pers0 : ∀ {M : List HP} {B : List HP} {r : Ro} {o : Own}, (∀ X ∈ M, Pers X) → seps (M ++ B) r o → seps M r (fun _ _ => none)
  | [], _, _, _, _, _ => trivial
  | X :: M, B, r, o, hp, ⟨a, b, d, le, hA, hL⟩ => ⟨_, _, fun _ _ => .inl rfl, none_add, hp X (by simp) _ _ hA, seps_pers0 (fun Y hY => hp Y (by simp [hY])) hL⟩
theorem SO.estoreW {x y : Operand} {t : Nat} {ti : TI} {A : Option Addr} {n c i sz : Nat} {l : List α} {u : α} {h : ρ.V} (hx : evO T x = some (.pointer (some (eadr A i sz 0)))) (hy : evO T y = some (ρ.val u h)) (hh : Take (sqAt true ρ A n c l) L L') (ha : HasAll (ρ.atoms u h) L')
    (ht : tget tb.tab t = some ti) (hsz : Nat.beq ρ.sz sz = true) (hti : Nat.beq ti.size ρ.sz = true) (hi : i < n)
    (kk : SO P rd N all rest T (sqAt true ρ A n c (l.set i u) :: L') ks Q) : SO P rd N all (⟨none, .store t x y, ty, pos, aft, none⟩ :: rest) T L ks Q := by
  refine SO.run (R := fun v L2 => L2 = sqAt true ρ A n c (l.set i u) :: L') rfl rfl rfl ?_ (by rintro v L2 rfl; exact kk)
  intro q hq F w hst
  have hsz := Nat.eq_of_beq_eq_true hsz
  subst hsz
  have hti := Nat.eq_of_beq_eq_true hti
  have hst2 : St w (sqAt true ρ A n c l :: F :: L') := hst.ent ((Ent.cons hh.ent).trans Ent.swap)
  cases A with
  | none =>
    obtain ⟨r, o, s, x1, y1, d1, le1, ⟨h0, _, _, h3, _⟩, _⟩ := hst2
    rw [(h3 rfl).1] at h0; simp at h0; omega
  | some a =>
    obtain ⟨h0, h1, h2, hsp, z, sp, hz, hl, h5⟩ := sq_open hst2
    have hzl : z.length = n := by rw [h0, ← hz]; simp
    have hcells : (ρ.val u h).cells.toList = ρ.cells u h := by
      unfold Rep.val
      cases hag : ρ.agg with
      | true => rfl
      | false =>
        have h1 := ρ.sc hag
        have h2 := ρ.len u h
        rw [h1] at h2
        match hc : ρ.cells u h, h2 with
        | [v], _ =>
          have hv : one v = true := ρ.one u h v (by rw [hc]; simp)
          cases v <;> first | rfl | (simp [one] at hv)
    obtain ⟨w', hr, hst'⟩ := storeVar_ok ht (n := i * ρ.sz) (v := ρ.val u h) h5 (fun c hc => by rw [hcells] at hc; exact ρ.one u h c hc) (by rw [hcells, ρ.len, hti]) (by
      rw [flat_length, hzl, hti]
      have : (i + 1) * ρ.sz ≤ n * ρ.sz := Nat.mul_le_mul_right _ hi
      rw [Nat.add_mul] at this; omega)
    rw [hcells, lay_flat u h z i (by omega)] at hst'
    refine ⟨undef, w', _, .inr ⟨?_, rfl⟩, rfl, ?_⟩
    · simp only [execOp, hq _ _ hx, hq _ _ hy, Instr.storeAt, Instr.sureAddr, Sem.run_bind, Sem.run_pure, Result.andThen_ok]
      rw [eadr_some hsp, Nat.add_zero, hr]; rfl
    ·
      have h6 : St w' (pts a.block a.off (flat ρ (z.set i (u, h))) :: pts a.block (a.off + n * ρ.sz) sp :: memA ρ (z.set i (u, h)) :: F :: L') := by
        refine hst'.ent (Ent.cons (Ent.cons ?_))
        rintro r o ⟨x1, y1, d1, le1, hm, hL⟩
        have hL2 : seps (F :: L') r y1 := hL
        have hat : seps (ρ.atoms u h) r (fun _ _ => none) := by
          have h7 := ((Ent.cons (ha.ent (ρ.pers u h))).trans ent_of_swap) r y1 hL2
          exact seps_pers0 (ρ.pers u h) h7
        exact ⟨x1, y1, d1, le1, memS_set i hm hat, hL⟩
      exact (h6.ent (sq_shut (w := true) (z := z.set i (u, h)) (by simp; omega) h1 h2 hsp (by rw [List.map_set, hz]) hl)).ent Ent.swap
theorem rd_eloadQ {w' : Bool} {x : Operand} {t : Nat} {ti : TI} {A : Option Addr} {n c i sz o : Nat} {l : List α} {u : α} (hx : evO T x = some (.pointer (some (eadr A i sz o)))) (hh : Take (sqAt w' ρ A n c l) L L') (hu : l[i]? = some u)
    (ht : tget tb.tab t = some ti) (hsz : Nat.beq ρ.sz sz = true) (hp : ∀ h, packOk ti (cut (ρ.cells u h) o ti.size)) : Reads P T L ⟨d, .load t x, ty, pos, aft, none⟩ (fun v L2 => ∃ h, v = packV ti (cut (ρ.cells u h) o ti.size) ∧ L2 = ρ.atoms u h ++ L) := by
  intro q hq rr oo F hs
  have hszz := Nat.eq_of_beq_eq_true hsz
  subst hszz
  have hs1 := ((Ent.cons hh.ent).trans Ent.swap) rr oo hs
  obtain ⟨x1, y1, d1, le1, hA, hL⟩ := hs1
  obtain ⟨h0, h1, h2, h3, h4⟩ := hA
  cases A with
  | none => rw [(h3 rfl).1] at hu; simp at hu
  | some a =>
    obtain ⟨hsp, z, sp, hz, hspl, hc, hd, hm⟩ := h4 a rfl
    obtain ⟨h, hzh⟩ := map_get hz hu
    refine ⟨_, _, ⟨h, rfl, rfl⟩, ?_, fun w sat => ?_⟩
    · have hat := hm i u h hzh
      have h7 : seps (big (ρ.atoms u h) :: F :: L) rr oo :=
        ⟨fun _ _ => none, oo, fun _ _ => .inl rfl, none_add, hat, hs⟩
      exact (Ent.swap.trans (Ent.cons ent_big)) rr oo h7
    · simp only [execOp, hq _ _ hx, Instr.loadAt, Instr.sureAddr, Sem.run_bind, Sem.run_pure, Result.andThen_ok]
      rw [eadr_some hsp]
      rw [loadVar_ok ht (hp h) (fun j v hj => by
        obtain ⟨h5, h6⟩ := cut_get hj
        have hlt : o + j < ρ.sz := by rw [← ρ.len u h]; exact row_lt h5
        have := hc (i * ρ.sz + (o + j)) v (by rw [flat_get z i (o + j) u h hzh hlt]; exact h5)
        rw [show a.off + (i * ρ.sz + o) + j = a.off + (i * ρ.sz + (o + j)) by omega]
        cases w' with
        | true => rw [if_pos rfl] at this; exact (sat.val _ _ _ (le1 _ _ _ (Own.le_add_left _ _ _ _ _ this))).1
        | false => rw [if_neg (by simp)] at this; exact sat.ro _ _ _ this)]
      rfl
theorem SO.eloadQ {w' : Bool} {x : Operand} {t : Nat} {ti : TI} {A : Option Addr} {n c i sz o : Nat} {l : List α} {u : α} (hx : evO T x = some (.pointer (some (eadr A i sz o)))) (hh : Take (sqAt w' ρ A n c l) L L') (hu : l[i]? = some u)
    (ht : tget tb.tab t = some ti) (hsz : Nat.beq ρ.sz sz = true) (hp : ∀ h, packOk ti (cut (ρ.cells u h) o ti.size)) (hd : dstOk N d = true)
    (kk : ∀ h, SO P rd N all rest (putD d (packV ti (cut (ρ.cells u h) o ti.size)) T) (ρ.atoms u h ++ L) ks Q) : SO P rd N all (⟨d, .load t x, ty, pos, aft, none⟩ :: rest) T L ks Q :=
  SO.reads (rd_eloadQ hx hh hu ht hsz hp) rfl rfl hd (by rintro _ _ ⟨h, rfl, rfl⟩; exact kk h)
theorem rd_indexQ {w' : Bool} {x y : Operand} {t e : Nat} {sz n1 n2 b1 : Nat} {z z2 : Value} {ke : TK} {A : Option Addr} {n c c' i : Nat} {k : IntKind} {j : Int} {l : List α} {u : α} (hx : evO T x = some (.slice A n c)) (hy : evO T y = some (.int k j))
    (hh : Take (sqAt w' ρ A n c' l) L L') (ht : tget tb.tab t = some ⟨.sl e, n1, n2, z⟩) (hte : tget tb.tab e = some ⟨ke, sz, b1, z2⟩) (hj : Int.ofNat i = j) (hu : l[i]? = some u) : Reads P T L ⟨d, .indexAddr t x y, ty, pos, aft, none⟩ (fun v L2 => v = .pointer (some (eadr A i sz 0)) ∧ L2 = L) := by
  intro q hq rr oo F hs
  have hs1 := (show seps L rr _ from hs.choose_spec.choose_spec.2.2.2)
  obtain ⟨h0, h1, h2, h3⟩ := sq_len hh rr _ hs1
  have hl : i < l.length := (List.getElem?_eq_some_iff.1 hu).1
  obtain ⟨v, L2, ⟨h4, h5, _⟩, h6, h7⟩ := rd_indexW (d := d) (ty := ty) (pos := pos) (aft := aft) hx hy hh ht hte hj (by omega) q hq rr oo F hs
  exact ⟨v, L2, ⟨h4, h5⟩, h6, h7⟩
theorem SO.indexQ {w' : Bool} {x y : Operand} {t e : Nat} {sz n1 n2 b1 : Nat} {z z2 : Value} {ke : TK} {A : Option Addr} {n c c' i : Nat} {k : IntKind} {j : Int} {l : List α} {u : α} (hx : evO T x = some (.slice A n c)) (hy : evO T y = some (.int k j))
    (hh : Take (sqAt w' ρ A n c' l) L L') (ht : tget tb.tab t = some ⟨.sl e, n1, n2, z⟩) (hte : tget tb.tab e = some ⟨ke, sz, b1, z2⟩) (hj : Int.ofNat i = j) (hd : dstOk N d = true) (hu : l[i]? = some u)
    (kk : SO P rd N all rest (putD d (.pointer (some (eadr A i sz 0))) T) L ks Q) : SO P rd N all (⟨d, .indexAddr t x y, ty, pos, aft, none⟩ :: rest) T L ks Q :=
  SO.reads (rd_indexQ hx hy hh ht hte hj hu) rfl rfl hd (by rintro _ _ ⟨rfl, rfl⟩; exact kk)
theorem SX.eloadQ {w' : Bool} {x : Operand} {t : Nat} {ti : TI} {A : Option Addr} {n c i sz o : Nat} {l : List α} {u : α} (hx : evO T x = some (.pointer (some (eadr A i sz o)))) (hh : Take (sqAt w' ρ A n c l) L L') (hu : l[i]? = some u)
    (ht : tget tb.tab t = some ti) (hsz : Nat.beq ρ.sz sz = true) (hp : ∀ h, packOk ti (cut (ρ.cells u h) o ti.size)) (hd : dstOk N d = true)
    (kk : ∀ h, SX P rd N all restX (putD d (packV ti (cut (ρ.cells u h) o ti.size)) T) (ρ.atoms u h ++ L) E ks Q) : SX P rd N all (.item 0 ⟨d, .load t x, ty, pos, aft, none⟩ restX) T L E ks Q :=
  SX.reads (rd_eloadQ hx hh hu ht hsz hp) rfl hd (by rintro _ _ ⟨h, rfl, rfl⟩; exact kk h)
theorem SX.indexQ {w' : Bool} {x y : Operand} {t e : Nat} {sz n1 n2 b1 : Nat} {z z2 : Value} {ke : TK} {A : Option Addr} {n c c' i : Nat} {k : IntKind} {j : Int} {l : List α} {u : α} (hx : evO T x = some (.slice A n c)) (hy : evO T y = some (.int k j))
    (hh : Take (sqAt w' ρ A n c' l) L L') (ht : tget tb.tab t = some ⟨.sl e, n1, n2, z⟩) (hte : tget tb.tab e = some ⟨ke, sz, b1, z2⟩) (hj : Int.ofNat i = j) (hd : dstOk N d = true) (hu : l[i]? = some u)
    (kk : SX P rd N all restX (putD d (.pointer (some (eadr A i sz 0))) T) L E ks Q) : SX P rd N all (.item 0 ⟨d, .indexAddr t x y, ty, pos, aft, none⟩ restX) T L E ks Q :=
  SX.reads (rd_indexQ hx hy hh ht hte hj hu) rfl hd (by rintro _ _ ⟨rfl, rfl⟩; exact kk)
theorem SK.share {c : Code} {w' : Bool} {A : Option Addr} {n m : Nat} {l : List α} (hh : Take (sqAt w' ρ A n m l) L L') (h : SK P rd N (.code c :: ks) T (slAt ρ A n l :: L') Q) : SK P rd N (.code c :: ks) T L Q := by
  refine SK.shift (fun F w hst => ?_) h
  have h1 : St w (sqAt w' ρ A n m l :: F :: L') := (hst.ent (Ent.cons hh.ent)).ent Ent.swap
  have h2 : St w (sqAt false ρ A n m l :: F :: L') := by cases w' with
    | true => exact h1.shut
    | false => exact h1
  exact (h2.ent (sl_of_sq.trans (Ent.cons Ent.drop))).ent Ent.swap
theorem SO.share {ops : List Oper} {w' : Bool} {A : Option Addr} {n m : Nat} {l : List α} (hh : Take (sqAt w' ρ A n m l) L L') (h : SO P rd N all ops T (slAt ρ A n l :: L') ks Q) : SO P rd N all ops T L ks Q := by
  refine SO.shift (fun F w hst => ?_) h
  have h1 : St w (sqAt w' ρ A n m l :: F :: L') := (hst.ent (Ent.cons hh.ent)).ent Ent.swap
  have h2 : St w (sqAt false ρ A n m l :: F :: L') := by cases w' with
    | true => exact h1.shut
    | false => exact h1
  exact (h2.ent (sl_of_sq.trans (Ent.cons Ent.drop))).ent Ent.swap
theorem zeros_flat {α : Type} {ρ : Rep α} (x : α) (h : ρ.V) : ∀ n, zeros (ρ.cells x h) n = flat ρ (List.replicate n (x, h))
  | 0 => rfl
  | n + 1 => by rw [List.replicate_succ]; simp only [zeros, flat]; rw [zeros_flat x h n]
theorem SO.makeSlice {t e n sz n1 n2 b1 : Nat} {z z2 : Value} {ke : TK} {x y : Operand} {u : α} {h : ρ.V} (hx : evO T x = some (.int .i64 n)) (hy : evO T y = some (.int .i64 n)) (ht : tget tb.tab t = some ⟨.sl e, n1, n2, z⟩) (hte : tget tb.tab e = some ⟨ke, sz, b1, z2⟩)
    (hz : z2.cells.toList = ρ.cells u h) (hsz : Nat.beq ρ.sz sz = true) (ha : ρ.atoms u h = []) (hb : Nat.ble b1 32768 = true) (hn : n ≤ lim) (hd : dstOk N d = true)
    (kk : ∀ b, SO P rd N all rest (putD d (.slice (some ⟨b, 0, none⟩) n n) T) (sqAt true ρ (some ⟨b, 0, none⟩) n n (List.replicate n u) :: L) ks Q) : SO P rd N all (⟨d, .makeSlice t x y, ty, pos, aft, none⟩ :: rest) T L ks Q := by
  refine SO.run (R := fun v L2 => ∃ b, v = .slice (some ⟨b, 0, none⟩) n n ∧ L2 = sqAt true ρ (some ⟨b, 0, none⟩) n n (List.replicate n u) :: L) rfl rfl hd ?_ (by rintro _ _ ⟨b, rfl, rfl⟩; exact kk b)
  intro q hq F w hst
  have hk := (tab_ok ht).k
  simp only [TK.ok] at hk
  have hsz := Nat.eq_of_beq_eq_true hsz
  subst hsz
  have hb := Nat.le_of_ble_eq_true hb
  have hs := sizeOf_ok (tab_ok hte) w
  have hzz := zero_ok (tab_ok hte) w
  obtain ⟨ti, hti, htib⟩ := info_ok (tab_ok hte) w
  simp only at hs hzz htib
  have hzs : z2.cells.size = ρ.sz := by rw [← Array.length_toList, hz, ρ.len]
  have hw : IntKind.i64.wrap (n : Int) = n := by
    simp only [lim] at hn
    simp only [IntKind.wrap, IntKind.bits, IntKind.signed]; simp; omega
  have hbig : ¬ ((n : Int) < 0) := by omega
  have hbig2 : ¬ ((ti.bytes : Int) * (n : Int) > 2 ^ 48) := by
    have h2 : ti.bytes * n ≤ 32768 * lim := Nat.mul_le_mul (by omega) hn
    have h3 : 32768 * lim = 70368744177664 := by decide
    rw [h3] at h2
    have h4 : (ti.bytes : Int) * (n : Int) = ((ti.bytes * n : Nat) : Int) := (Int.natCast_mul _ _).symm
    rw [h4]
    intro h
    have h5 : (2 : Int) ^ 48 = 281474976710656 := by decide
    rw [h5] at h
    omega
  have hbig3 : ¬ ((281474976710656 : Int) < (ti.bytes : Int) * (n : Int)) := by
    intro h; apply hbig2
    have h5 : (2 : Int) ^ 48 = 281474976710656 := by decide
    rw [h5]; exact h
  have hmark : ∀ (k : Nat) (w : World), (askRoom k).run P w = .ok () w := by
    intro k w; unfold askRoom; split <;> rfl
  have hcs : ((Array.range (n * ρ.sz)).map (z2.cells[· % z2.cells.size]!)).toList = flat ρ (List.replicate n (u, h)) := by
    rw [← zeros_flat, ← hz, ← hzs]
    exact range_zeros z2.cells n (by rw [hzs]; exact ρ.pos)
  have h2 := hst.alloc ((Array.range (n * ρ.sz)).map (z2.cells[· % z2.cells.size]!)) e
  rw [hcs] at h2
  rw [← List.append_nil (flat ρ (List.replicate n (u, h)))] at h2
  have h3 := h2
  have h4 := h3.ent pts_split
  have hfl : (flat ρ (List.replicate n (u, h))).length = n * ρ.sz := by rw [flat_length, List.length_replicate]
  rw [hfl] at h4
  have hm : ∀ (M : List HP), Ent M (memA ρ (List.replicate n (u, h)) :: M) := fun M r o hM => ⟨own0, o, fun _ _ => .inl rfl, none_add, fun i y k e => by
    have := List.mem_of_getElem? e
    have h5 := List.eq_of_mem_replicate this
    cases h5
    rw [ha]; trivial, hM⟩
  have h5 := (h4.ent (Ent.cons (Ent.cons (hm _)))).ent (sq_shut (w := true) (a := ⟨w.heap.size, 0, none⟩) (z := List.replicate n (u, h)) (l := List.replicate n u) (c := n) (by simp) hn (Nat.le_refl n) rfl (by simp) (by simp))
  refine ⟨_, _, _, .inl ?_, ⟨w.heap.size, rfl, rfl⟩, h5.ent Ent.swap⟩
  simp only [execOp, hq _ _ hx, hq _ _ hy, Instr.makeSlice, Sem.run_bind, run_und hk, Result.andThen_ok, asInt, asIntOf, Sem.run_pure, hti, hw]
  simp only [hbig, hbig2, decide_false, Bool.or_false, Bool.false_eq_true, if_false, Int.toNat_natCast, gt_iff_lt, Int.lt_irrefl, hmark, hs, Result.andThen_ok, Sem.run_bind, Sem.run_pure]
  by_cases h0 : n * ρ.sz = 0
  · simp only [h0, if_true, Sem.run_bind, Sem.run_pure, Result.andThen_ok, newRow, newObj]
    have e0 : ∀ f : Nat → Value, (Array.range 0).map f = #[] := by simp
    rw [e0, e0]
    rfl
  · simp only [h0, if_false, Sem.run_bind, hzz, Sem.run_pure, Result.andThen_ok, newRow, newObj, Sem.run]
end
end Go.Sl

set_option linter.unusedVariables false
namespace Go.Sl
theorem ent_app_r {A B C : List HP} (e : Ent A B) : Ent (A ++ C) (B ++ C) := ent_app_comm.trans ((Ent.app e).trans ent_app_comm)
theorem ent_dropR : ∀ {A B : List HP}, Ent (A ++ B) A := fun {A B} => by
  have h1 : Ent (A ++ B) (B ++ A) := ent_app_comm
  have h2 : ∀ {B : List HP}, Ent (B ++ A) A := fun {B} => by
    induction B with
    | nil => exact Ent.refl _
    | cons b B ih => exact Ent.drop.trans ih
  exact h1.trans h2
theorem Does.less {P : Program} {f : FuncId} {args : List Value} {pers pers' own : List HP} {X : Type} {ok : X → Prop} {ret : X → Value} {out : X → List HP} (s : Does P f args pers own X ok ret out) (hp : ∀ A ∈ pers', Pers A) (h : HasAll pers pers') : Does P f args pers' own X ok ret out :=
  ⟨s.entry, hp, fun F w hst => s.calls F w (hst.ent (Ent.cons (ent_app_r ((h.ent s.hpers).trans ent_dropR))))⟩
section
variable {P : Program} [tb : Tab P] {rd : Option Nat} {N : Nat} {T : TT} {L : List HP} {Q : Post} {ks : List K}
variable {all : Array Oper} {rest : List Oper} {d : Option Tmp} {ty : TypeId} {pos : String} {aft : Array Edge} {α : Type} {ρ : Rep α}
end
end Go.Sl

set_option linter.unusedVariables false
set_option linter.unusedSectionVars false
set_option linter.unusedSimpArgs false
namespace Go.Sl
section
variable {P : Program} [tb : Tab P] {rd : Option Nat} {N : Nat} {T : TT} {L L' L1 : List HP} {Q : Post} {ks : List K}
variable {all : Array Oper} {rest : List Oper} {d : Option Tmp} {ty : TypeId} {pos : String} {aft : Array Edge}
variable {κ α : Type} [DecidableEq κ] {kr : KR κ} {ρ : Rep α}
def leftZ (z : List (ZM κ ρ)) (seen : List Nat) : List (ZM κ ρ) := z.filter fun p => !seen.elem p.2.2
abbrev MI (κ : Type) {α : Type} (ρ : Rep α) := List (ZM κ ρ) × Nat × Nat × Nat × List Nat
def mitP (l left : List (κ × α)) (x : MI κ ρ) : Prop := x.1.map (·.1) = l ∧ (keysM l).Nodup ∧ ((x.1.map fun p : ZM κ ρ => p.2.2).Pairwise (· < ·) ∧ ∀ p ∈ x.1, p.2.2 < x.2.1) ∧
      (leftZ x.1 x.2.2.2.2).map (·.1) = left ∧ (∀ p ∈ x.1, p.2.2 < x.2.2.1) ∧ (∀ p ∈ x.1, p.2.2 < x.2.2.2.1)
def mitM (kr : KR κ) (r b : Nat) (x : MI κ ρ) : List HP := [ob b (.map (x.1.map (entM kr ρ)).toArray x.2.1), ob r (.mapIter (some b) x.2.2.1 x.2.2.2.2.toArray x.2.2.2.1), memA ρ (x.1.map fun p => (p.1.2, p.2.1))]
def mitAt (kr : KR κ) (ρ : Rep α) (r b : Nat) (l left : List (κ × α)) : HP := some1 (mitP (ρ := ρ) l left) (mitM kr r b)
theorem some1_open {w : World} {β : Type} {p : β → Prop} {M : β → List HP} (h : St w (some1 p M :: L)) : ∃ x, p x ∧ St w (M x ++ L) := by
  obtain ⟨x, h1⟩ := St.ex (A := fun x => big (Sl.pr (p x) :: M x)) h
  have h2 := h1.ent ent_big
  obtain ⟨h3, h4⟩ := St.pr h2
  exact ⟨x, h3, h4⟩
theorem mit_mp {r b : Nat} {l left : List (κ × α)} {w : World} (h : St w (mitAt kr ρ r b l left :: L)) : St w (mpAt kr ρ b l :: L) := by
  obtain ⟨⟨z, clock, since, last, seen⟩, ⟨h1, h2, h3, h4, h5, h6⟩, hs⟩ := some1_open h
  dsimp only at h1 h3 h4 h5 h6 hs
  refine (hs.ent ?_).ent (map_shut z clock h1 h2 h3)
  exact Ent.cons Ent.drop
theorem SO.rangeMap {x : Operand} {t kt e b n1 n2 : Nat} {z0 : Value} {l : List (κ × α)} (hx : evO T x = some (.map (some b))) (htk : Take (mpAt kr ρ b l) L L') (ht : tget tb.tab t = some ⟨.map kt e, n1, n2, z0⟩) (hd : dstOk N d = true)
    (kk : ∀ r, SO P rd N all rest (putD d (.pointer (some ⟨r, 0, none⟩)) T) (mitAt kr ρ r b l l :: L') ks Q) : SO P rd N all (⟨d, .range t x, ty, pos, aft, none⟩ :: rest) T L ks Q := by
  refine SO.run (R := fun v L2 => ∃ r, v = .pointer (some ⟨r, 0, none⟩) ∧ L2 = mitAt kr ρ r b l l :: L') rfl rfl hd ?_ (by rintro _ _ ⟨r, rfl, rfl⟩; exact kk r)
  intro q hq F w hst
  have h1 : St w (mpAt kr ρ b l :: F :: L') := hst.ent ((Ent.cons htk.ent).trans Ent.swap)
  obtain ⟨z, clock, hl, hn, hb, h2⟩ := map_open h1
  obtain ⟨ho, _⟩ := h2.obj
  have hk := (tab_ok ht).k
  simp only [TK.ok] at hk
  have h3 := h2.allocObj (.mapIter (some b) clock #[] clock) trivial
  refine ⟨_, _, _, .inl ?_, ⟨w.heap.size, rfl, rfl⟩, (h3.ent ?_).ent Ent.swap⟩
  · simp only [execOp, hq _ _ hx, Instr.range, Sem.run_bind, run_und hk, run_getMap ho trivial, Result.andThen_ok, Sem.run_pure, newObj, Sem.run]
  · refine Ent.trans Ent.swap ?_
    have hf : leftZ z [] = z := by unfold leftZ; simp
    exact ent_tok (p := mitP (ρ := ρ) l l) (M := mitM kr w.heap.size b) (R := F :: L') (L1 := []) ((z, clock, clock, clock, []) : MI κ ρ) ⟨hl, hn, hb, by show (leftZ z []).map (·.1) = l; rw [hf]; exact hl, hb.2, hb.2⟩ takes_self
theorem ent_swap_back : ∀ {B : List HP} {A : HP} {C : List HP}, Ent (B ++ (A :: C)) (A :: (B ++ C))
  | [], _, _ => Ent.refl _
  | b :: B, A, C => (Ent.cons (ent_swap_back (B := B))).trans Ent.swap
theorem memA_at {z : List (α × ρ.V)} {i : Nat} {u : α} {h : ρ.V} (hi : z[i]? = some (u, h)) : Ent (memA ρ z :: L) (ρ.atoms u h ++ L) := by
  rintro r o ⟨a, b, d, le, hm, hL⟩
  exact ent_big r o ⟨own0, o, fun _ _ => .inl rfl, none_add, hm i u h hi, seps_up (Ro.le_refl _) (Own.le_trans (Own.le_add_right d) le) hL⟩
theorem mit_shut {r b : Nat} {l left : List (κ × α)} (z : List (ZM κ ρ)) (clock since last : Nat) (seen : List Nat) (h1 : z.map (·.1) = l) (h2 : (keysM l).Nodup) (h3 : (z.map fun p : ZM κ ρ => p.2.2).Pairwise (· < ·) ∧ ∀ p ∈ z, p.2.2 < clock)
    (h4 : (leftZ z seen).map (·.1) = left) (h5 : ∀ p ∈ z, p.2.2 < since) (h6 : ∀ p ∈ z, p.2.2 < last) :
    Ent (ob b (.map (z.map (entM kr ρ)).toArray clock) :: ob r (.mapIter (some b) since seen.toArray last) :: memA ρ (z.map fun p => (p.1.2, p.2.1)) :: L) (mitAt kr ρ r b l left :: L) :=
  ent_tok (p := mitP (ρ := ρ) l left) (M := mitM kr r b) (R := L) (L1 := []) ((z, clock, since, last, seen) : MI κ ρ) ⟨h1, h2, h3, h4, h5, h6⟩ takes_self
theorem leftZ_push {z : List (ZM κ ρ)} {seen : List Nat} {n : Nat} : leftZ z (seen ++ [n]) = (leftZ z seen).filter fun p => !decide (p.2.2 = n) := by
  unfold leftZ
  rw [List.filter_filter]
  refine List.filter_congr fun p _ => ?_
  by_cases h : p.2.2 = n
  · simp [h]
  · simp [h]
theorem left_del {y : List (ZM κ ρ)} (hb : (y.map fun p : ZM κ ρ => p.2.2).Pairwise (· < ·)) (hk : (keysM (y.map (·.1))).Nodup) {j : Nat} {p : ZM κ ρ} (hj : y[j]? = some p) : (y.filter fun x => !decide (x.2.2 = p.2.2)).map (·.1) = mdel (y.map (·.1)) p.1.1 := by
  have hi := List.getElem?_eq_some_iff.1 hj
  have e : y = y.take j ++ p :: y.drop (j + 1) := by
    conv => lhs; rw [← List.take_append_drop j y, List.drop_eq_getElem_cons hi.1, hi.2]
  rw [e] at hb hk ⊢
  rw [List.map_append, List.map_cons, List.pairwise_append] at hb
  obtain ⟨_, hb2, hb3⟩ := hb
  have hb4 := List.pairwise_cons.1 hb2
  have f1 : (y.take j).filter (fun x => !decide (x.2.2 = p.2.2)) = y.take j := by
    rw [List.filter_eq_self]
    intro x hx
    have := hb3 x.2.2 (List.mem_map.2 ⟨x, hx, rfl⟩) p.2.2 (by simp)
    simp; omega
  have f2 : (y.drop (j + 1)).filter (fun x => !decide (x.2.2 = p.2.2)) = y.drop (j + 1) := by
    rw [List.filter_eq_self]
    intro x hx
    have := hb4.1 x.2.2 (List.mem_map.2 ⟨x, hx, rfl⟩)
    simp; omega
  rw [List.filter_append, List.filter_cons, f1, f2]
  simp only [decide_true, Bool.not_true, Bool.false_eq_true, if_false]
  rw [List.map_append, List.map_append, List.map_cons]
  refine (mdel_old (l1 := (y.take j).map (·.1)) (l2 := (y.drop (j + 1)).map (·.1)) (k := p.1.1) (v := p.1.2) fun x hx he => ?_).symm
  rw [List.map_append, List.map_cons] at hk
  unfold keysM at hk
  rw [List.map_append, List.map_cons] at hk
  have := (List.nodup_append.1 hk).2.2 x.1 (List.mem_map.2 ⟨x, hx, rfl⟩) p.1.1 (by simp)
  exact this he
theorem SO.deleteIt {x y : Operand} {t t2 e kt r b n1 n2 : Nat} {z0 : Value} {tik : TI} {l left : List (κ × α)} {key : κ} (hx : evO T x = some (.map (some b))) (htk : Take (mitAt kr ρ r b l left) L L') (hy : evO T y = some (kr.v key))
    (ht : tget tb.tab t = some ⟨.map kt e, n1, n2, z0⟩) (hkt : tget tb.tab kt = some tik) (hkk : kr.tk P kt tik.k) (hno : key ∉ keysM left) (hd : dstOk N d = true)
    (k : SO P rd N all rest (putD d (.tuple #[]) T) (mitAt kr ρ r b (mdel l key) left :: L') ks Q) : SO P rd N all (⟨d, .call ⟨.builtin .delete, #[x, y], #[t, t2]⟩, ty, pos, aft, none⟩ :: rest) T L ks Q := by
  refine SO.run (R := fun v L2 => v = .tuple #[] ∧ L2 = mitAt kr ρ r b (mdel l key) left :: L') rfl rfl hd ?_ (by rintro _ _ ⟨rfl, rfl⟩; exact k)
  intro q hq F w hst
  have h1 : St w (mitAt kr ρ r b l left :: F :: L') := hst.ent ((Ent.cons htk.ent).trans Ent.swap)
  obtain ⟨⟨z, clock, since, last, seen⟩, ⟨hl, hn, ⟨hb1, hb2⟩, hlf, h5, h6⟩, hs⟩ := some1_open h1
  dsimp only at hl hb1 hb2 hlf h5 h6 hs
  have h2 : St w (ob b (.map (z.map (entM kr ρ)).toArray clock) :: ob r (.mapIter (some b) since seen.toArray last) :: memA ρ (z.map fun p => (p.1.2, p.2.1)) :: F :: L') := hs
  obtain ⟨ho, _⟩ := h2.obj
  have hmt := (tab_ok ht).k
  simp only [TK.ok] at hmt
  have hkd := tab_ok hkt
  rcases split_key ρ z key with hnone | ⟨z1, p, z2, rfl, hz1, rfl⟩
  · have h3 := h2.setObj (z := .map (z.map (entM kr ρ)).toArray clock) trivial
    have hdl : mdel l key = l := mdel_none (fun p hp => by rw [← hl] at hp; obtain ⟨p', hp', rfl⟩ := List.mem_map.1 hp; exact hnone p' hp')
    refine ⟨.tuple #[], _, _, .inl ?_, ⟨rfl, rfl⟩, h3.ent ((mit_shut z clock since last seen (by rw [hdl]; exact hl) (nodup_mdel hn _) ⟨hb1, hb2⟩ hlf h5 h6).trans Ent.swap)⟩
    simp [execOp, resolve, invoke, builtin, hq _ _ hx, hq _ _ hy, Builtin.delete_, run_und hmt, run_getMap ho trivial, kr.chk P kt _ hkd hkk _ key, mfind_none hkd hkk hnone, run_setObj_some ho trivial]
  · have h3 := h2.setObj (z := .map ((z1 ++ z2).map (entM kr ρ)).toArray clock) trivial
    have hsub : ∀ q ∈ z1 ++ z2, q ∈ z1 ++ p :: z2 := fun q hq => by
      rcases List.mem_append.1 hq with hq | hq <;> simp [hq]
    have hmem : Ent (memA ρ ((z1 ++ p :: z2).map fun p => (p.1.2, p.2.1)) :: F :: L') (memA ρ ((z1 ++ z2).map fun p => (p.1.2, p.2.1)) :: F :: L') := by
      rintro r o ⟨x1, y1, d1, le1, hm, hL⟩
      refine ⟨x1, y1, d1, le1, ?_, hL⟩
      intro i a c e
      rw [List.getElem?_map, Option.map_eq_some_iff] at e
      obtain ⟨p', hp', e⟩ := e
      cases e
      obtain ⟨j, hj⟩ := List.getElem?_of_mem (hsub p' (List.mem_of_getElem? hp'))
      exact hm j p'.1.2 p'.2.1 (by rw [List.getElem?_map, hj]; rfl)
    have hlf2 : (leftZ (z1 ++ z2) seen).map (·.1) = left := by
      rw [← hlf]
      have hp : (!seen.elem p.2.2) = false := by
        rw [Bool.eq_false_iff]
        intro h
        refine hno ?_
        rw [← hlf]
        refine List.mem_map.2 ⟨p.1, List.mem_map.2 ⟨p, ?_, rfl⟩, rfl⟩
        exact List.mem_filter.2 ⟨by simp, h⟩
      unfold leftZ
      rw [List.filter_append, List.filter_append, List.filter_cons, if_neg (by rw [hp]; simp)]
    have hdl : (z1 ++ z2).map (·.1) = mdel l p.1.1 := by
      rw [List.map_append, ← hl, List.map_append, List.map_cons]
      exact (mdel_old (l1 := z1.map (·.1)) (l2 := z2.map (·.1)) (k := p.1.1) (v := p.1.2) (fun p hp => by obtain ⟨p', hp', rfl⟩ := List.mem_map.1 hp; exact hz1 p' hp')).symm
    have hb1' : ((z1 ++ z2).map fun p : ZM κ ρ => p.2.2).Pairwise (· < ·) := by
      rw [List.map_append, List.map_cons] at hb1
      rw [List.map_append]
      exact hb1.sublist (List.Sublist.append (List.Sublist.refl _) (List.sublist_cons_self _ _))
    refine ⟨.tuple #[], _, _, .inl ?_, ⟨rfl, rfl⟩, h3.ent (((Ent.cons (Ent.cons hmem)).trans (mit_shut (z1 ++ z2) clock since last seen hdl (nodup_mdel hn _) ⟨hb1', fun q hq => hb2 q (hsub q hq)⟩ hlf2 (fun q hq => h5 q (hsub q hq)) (fun q hq => h6 q (hsub q hq)))).trans Ent.swap)⟩
    have hf := fun w => mfind_some hkd hkk (p := p) (z2 := z2) hz1 w
    have he : ((z1 ++ p :: z2).map (entM kr ρ)).toArray.eraseIdxIfInBounds z1.length = ((z1 ++ z2).map (entM kr ρ)).toArray := by
      rw [List.map_append, List.map_cons, ext_erase _ _ _ _ (by simp), List.map_append]
    simp only [execOp, resolve, invoke, builtin, Array.map, hq _ _ hx, hq _ _ hy, Sem.run_bind, Sem.run_pure, Result.andThen_ok]
    have : (Builtin.delete_ #[t, t2] ty #[.map (some b), kr.v p.1.1]).run P w = .ok (.tuple #[]) { w with heap := w.heap.setIfInBounds b (.map ((z1 ++ z2).map (entM kr ρ)).toArray clock) } := by
      unfold Builtin.delete_
      simp only [List.getElem?_toArray, List.getElem?_cons_zero, List.getElem?_cons_succ, Sem.run_bind, run_und hmt, Result.andThen_ok, run_getMap ho trivial, kr.chk P kt _ hkd hkk _ p.1.1, hf, he, run_setObj_some ho trivial]
      rfl
    simp [hq _ _ hx, hq _ _ hy, this]
end
end Go.Sl

set_option linter.unusedVariables false
set_option linter.unusedSectionVars false
set_option linter.unusedSimpArgs false
namespace Go.Sl
section
variable {P : Program} [tb : Tab P] {rd : Option Nat} {N : Nat} {T : TT} {L L' L1 E : List HP} {Q : Post} {ks : List K}
variable {all : Array Oper} {rest : List Oper} {restX : XO} {d : Option Tmp} {ty : TypeId} {pos : String} {aft : Array Edge} {α : Type} {ρ : Rep α}
theorem run_slice3 {t e sz n1 n2 b1 : Nat} {z z2 : Value} {ke : TK} (ht : tget tb.tab t = some ⟨.sl e, n1, n2, z⟩) (hte : tget tb.tab e = some ⟨ke, sz, b1, z2⟩) {A : Option Addr} {n c hi : Nat} (h2 : hi ≤ c) {k2 k3 : IntKind} (w : World) :
    (Instr.sliceAt t (.slice A n c) none (some (.int k2 hi)) (some (.int k3 hi))).run P w = .ok (.slice (if hi = 0 then A else A.map (·.add (0 * sz))) hi hi) w := by
  have hk := (tab_ok ht).k
  simp only [TK.ok] at hk
  have hs := sizeOf_ok (tab_ok hte) w
  simp only at hs
  have b2 : (0 : Int) ≤ (hi : Int) ∧ (hi : Int) ≤ ((c : Nat) : Int) := ⟨by omega, by omega⟩
  have b3 : (0 : Int) ≤ (hi : Int) ∧ (hi : Int) ≤ ((hi : Nat) : Int) := ⟨by omega, by omega⟩
  simp [Instr.sliceAt, Instr.slice, Instr.sliceBounds, Instr.sliceBound, asIntOf, run_und hk, hs, b2, b3, h2, Int.ofNat_le]
theorem sq_clip {w : Bool} {A : Option Addr} {n c j : Nat} {l : List α} (hj : j ≤ n) : Ent (sqAt w ρ A n c l :: L) (sqAt w ρ A j j (l.take j) :: L) := by
  rintro r o ⟨a, b, d, le, ⟨h0, h1, h2, h3, h4⟩, hL⟩
  refine ⟨a, b, d, le, ⟨?_, by omega, Nat.le_refl _, fun h => ?_, fun x hx => ?_⟩, hL⟩
  · rw [List.length_take]; omega
  · obtain ⟨e1, e2⟩ := h3 h
    subst e1
    exact ⟨by simp, by simp at h0; omega⟩
  · obtain ⟨hs, z, sp, hz, hsp, hc, hd, hm⟩ := h4 x hx
    refine ⟨hs, z.take j, [], by rw [List.map_take, hz], by simp, fun i v e => hc i v ?_, fun i v e => by simp at e, ?_⟩
    · have e1 : z = z.take j ++ z.drop j := by simp
      rw [e1, flat_append]
      rw [List.getElem?_append_left (List.getElem?_eq_some_iff.1 e).1]
      exact e
    · intro i u h e
      rw [List.getElem?_take] at e
      split at e
      · exact hm i u h e
      · cases e
theorem sq_spot {w : Bool} {A : Option Addr} {n c : Nat} {l : List α} {r : Ro} {o : Own} (h : seps (sqAt w ρ A n c l :: L) r o) : A.map (·.add 0) = A := by
  obtain ⟨a, b, d, le, ⟨h0, h1, h2, h3, h4⟩, hL⟩ := h
  cases A with
  | none => rfl
  | some x =>
    obtain ⟨hs, _⟩ := h4 x rfl
    rw [addr_eta hs]; simp [Addr.add]
theorem rd_clip {w' : Bool} {x hi mx : Operand} {A : Option Addr} {n c j t e sz n1 n2 b1 : Nat} {z z2 : Value} {ke : TK} {l : List α} {k2 k3 : IntKind} (hx : evO T x = some (.slice A n c)) (hhi : evO T hi = some (.int k2 j)) (hmx : evO T mx = some (.int k3 j))
    (hh : Take (sqAt w' ρ A n c l) L L') (ht : tget tb.tab t = some ⟨.sl e, n1, n2, z⟩) (hte : tget tb.tab e = some ⟨ke, sz, b1, z2⟩) (hj : j ≤ n) :
    Reads P T L ⟨d, .slice t x none (some hi) (some mx), ty, pos, aft, none⟩ (fun v L2 => v = .slice A j j ∧ L2 = L) := by
  intro q hq rr oo F hs
  have hs1 := (show seps L rr _ from hs.choose_spec.choose_spec.2.2.2)
  have hc := (sq_len (ρ := ρ) (w := w') hh rr _ hs1).2.2.1
  have hA := sq_spot (hh.ent rr _ hs1)
  refine ⟨_, L, ⟨rfl, rfl⟩, hs, fun w sat => ?_⟩
  simp only [execOp, hq _ _ hx, hq _ _ hhi, hq _ _ hmx, Option.map_none, Option.map_some, Sem.run_bind, run_slice3 ht hte (show j ≤ c by omega), Result.andThen_ok]
  rw [Nat.zero_mul, hA]
  simp
theorem SO.clip {w' : Bool} {x hi mx : Operand} {A : Option Addr} {n c j t e sz n1 n2 b1 : Nat} {z z2 : Value} {ke : TK} {l : List α} {k2 k3 : IntKind} (hx : evO T x = some (.slice A n c)) (hhi : evO T hi = some (.int k2 j)) (hmx : evO T mx = some (.int k3 j))
    (hh : Take (sqAt w' ρ A n c l) L L') (ht : tget tb.tab t = some ⟨.sl e, n1, n2, z⟩) (hte : tget tb.tab e = some ⟨ke, sz, b1, z2⟩) (hd : dstOk N d = true) (hj : j ≤ n)
    (kk : SO P rd N all rest (putD d (.slice A j j) T) L ks Q) : SO P rd N all (⟨d, .slice t x none (some hi) (some mx), ty, pos, aft, none⟩ :: rest) T L ks Q :=
  SO.reads (rd_clip hx hhi hmx hh ht hte hj) rfl rfl hd (by rintro _ _ ⟨rfl, rfl⟩; exact kk)
theorem SX.clip {w' : Bool} {x hi mx : Operand} {A : Option Addr} {n c j t e sz n1 n2 b1 : Nat} {z z2 : Value} {ke : TK} {l : List α} {k2 k3 : IntKind} (hx : evO T x = some (.slice A n c)) (hhi : evO T hi = some (.int k2 j)) (hmx : evO T mx = some (.int k3 j))
    (hh : Take (sqAt w' ρ A n c l) L L') (ht : tget tb.tab t = some ⟨.sl e, n1, n2, z⟩) (hte : tget tb.tab e = some ⟨ke, sz, b1, z2⟩) (hd : dstOk N d = true) (hj : j ≤ n)
    (kk : SX P rd N all restX (putD d (.slice A j j) T) L E ks Q) : SX P rd N all (.item 0 ⟨d, .slice t x none (some hi) (some mx), ty, pos, aft, none⟩ restX) T L E ks Q :=
  SX.reads (rd_clip hx hhi hmx hh ht hte hj) rfl hd (by rintro _ _ ⟨rfl, rfl⟩; exact kk)
theorem SK.clipS {cd : Code} {w' : Bool} {A : Option Addr} {n c : Nat} {l : List α} (j : Nat) (hh : Take (sqAt w' ρ A n c l) L L') (hj : j ≤ n) (h : SK P rd N (.code cd :: ks) T (sqAt w' ρ A j j (l.take j) :: L') Q) : SK P rd N (.code cd :: ks) T L Q :=
  SK.shift (fun F w hst => hst.ent (Ent.cons (hh.ent.trans (sq_clip hj)))) h
theorem SO.clipS {ops : List Oper} {w' : Bool} {A : Option Addr} {n c : Nat} {l : List α} (j : Nat) (hh : Take (sqAt w' ρ A n c l) L L') (hj : j ≤ n) (h : SO P rd N all ops T (sqAt w' ρ A j j (l.take j) :: L') ks Q) : SO P rd N all ops T L ks Q :=
  SO.shift (fun F w hst => hst.ent (Ent.cons (hh.ent.trans (sq_clip hj)))) h
end
end Go.Sl
