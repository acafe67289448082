/- A part of a proof: a walk over the model by a small separation logic. -/
import Derived.Test.YtbaalaaoggplmaaDoorSlRun
/-! Calls: what a function does to the memory that it is given. -/
set_option linter.unusedVariables false
set_option linter.unusedSectionVars false
namespace Go.Sl

/-- A call of a function value, as an operation makes it. -/
def VCall (P : Program) (fv : Value) (args : List Value) (w : World) (R : Ending → World → Prop) : Prop :=
  ∃ d w1, (Deferred.ofValue fv args.toArray).run P w = .ok d w1 ∧
    ((∃ f as w2, (invoke d.target d.args).run P w1 = .ok (.enter f as) w2 ∧ CallsIn Fence.wide 0 P f as w2 R) ∨
     (∃ l fn tmps assign body w2, (invoke d.target d.args).run P w1 = .ok (.round l fn tmps assign body) w2 ∧ RoundIn Fence.wide 0 P l fn tmps assign body w2 R))

/-- What a call of 'fv' does: it reads 'pers', takes 'own', gives one of 'x', with 'out x'; all else stays. -/
structure VDoes (P : Program) (fv : Value) (args : List Value) (pers own : List HP) (X : Type) (ok : X → Prop) (ret : X → Value) (out : X → List HP) : Prop where
  hpers : ∀ A ∈ pers, Pers A
  calls : ∀ F w, St w (F :: (pers ++ own)) → VCall P fv args w fun e w' => ∃ x, ok x ∧ e = .returned (ret x) ∧ St w' (F :: out x)

structure Does (P : Program) (f : FuncId) (args : List Value) (pers own : List HP) (X : Type) (ok : X → Prop) (ret : X → Value) (out : X → List HP) : Prop where
  entry : ∀ as w, (callFunc f as).run P w = .ok (.enter f as) w
  hpers : ∀ A ∈ pers, Pers A
  calls : ∀ F w, St w (F :: (pers ++ own)) → Calls P f args.toArray w fun e w' => ∃ x, ok x ∧ e = .returned (ret x) ∧ St w' (F :: out x)

theorem Does.toF {P : Program} {f : FuncId} {as vs : List Value} {caps : Array Value} {pers own : List HP} {X : Type} {ok : X → Prop} {ret : X → Value} {out : X → List HP}
    (s : Does P f as pers own X ok ret out) (h : vs ++ caps.toList = as) : VDoes P (.func (.func f) #[] caps) vs pers own X ok ret out := by
  refine ⟨s.hpers, fun F w hst => ⟨{ target := .fn (.func f) caps, args := #[] ++ vs.toArray }, w, rfl, .inl ⟨f, vs.toArray ++ caps, w, ?_, ?_⟩⟩⟩
  · have : #[] ++ vs.toArray = vs.toArray := by simp
    rw [this]
    exact s.entry _ w
  · refine callsIn_wide.2 ?_
    have := s.calls F w hst
    rw [← h] at this
    have e : (vs ++ caps.toList).toArray = vs.toArray ++ caps := by cases caps; simp
    rw [e] at this
    exact this

/-- All that stands in the first list stands in the second one, and may be had twice. -/
class Triv (A : HP) : Prop where
  h : ∀ r o, A.h r o
inductive Has : HP → List HP → Prop
  | here {A : HP} {L : List HP} : Has A (A :: L)
  | there {A B : HP} {L : List HP} (h : Has A L) : Has A (B :: L)
  | triv {A : HP} {L : List HP} [t : Triv A] : Has A L
theorem Has.ent {A : HP} {L : List HP} (p : Pers A) (h : Has A L) : Ent L (A :: L) := by
  induction h with
  | here => exact Ent.dup p
  | there _ ih => exact (Ent.cons ih).trans Ent.swap
  | triv => exact fun r o h => ⟨fun _ _ => none, o, fun _ _ => .inl rfl, none_add, Triv.h _ _, h⟩
inductive HasAll : List HP → List HP → Prop
  | nil {L : List HP} : HasAll [] L
  | cons {A : HP} {As L : List HP} (h : Has A L) (t : HasAll As L) : HasAll (A :: As) L
theorem HasAll.ent {As L : List HP} (p : ∀ A ∈ As, Pers A) (h : HasAll As L) : Ent L (As ++ L) := by
  induction h with
  | nil => exact Ent.refl _
  | cons h _ ih =>
    have h1 := h.ent (p _ (by simp))
    have h2 := ih (fun A hA => p A (by simp [hA]))
    exact h1.trans (Ent.cons h2)

theorem ent_app_comm {A B : List HP} : Ent (A ++ B) (B ++ A) := by
  have : ∀ (A B : List HP), Ent (A ++ B) (B ++ A) := by
    intro A
    induction A with
    | nil => intro B; simp; exact Ent.refl _
    | cons a A ih =>
      intro B
      have h1 : Ent (a :: (A ++ B)) (a :: (B ++ A)) := Ent.cons (ih B)
      refine h1.trans ?_
      clear h1 ih
      induction B with
      | nil => exact Ent.refl _
      | cons b B ih => exact Ent.swap.trans (Ent.cons ih)
  exact this A B

section
variable {P : Program} {rd : Option Nat} {N : Nat} {T : TT} {L L1 : List HP} {Q : Post} {ks : List K}
variable {all : Array Oper} {rest : List Oper} {ty : TypeId} {pos : String} {aft : Array Edge} {d : Option Tmp}

theorem SO.callF {fx : Operand} {args : Array Operand} {tys : Array TypeId} {fv : Value} {vs : List Value} {pers own : List HP} {X : Type} {ok : X → Prop} {ret : X → Value} {out : X → List HP}
    (hf : evO T fx = some fv) (ha : evs T args.toList = some vs) (sp : VDoes P fv vs pers own X ok ret out) (hp : HasAll pers L) (ho : Takes own L L1) (hd : dstOk N d = true)
    (k : ∀ x, ok x → SO P rd N all rest (putD d (ret x) T) (out x ++ L1) ks Q) : SO P rd N all (⟨d, .call ⟨.value fx, args, tys⟩, ty, pos, aft, none⟩ :: rest) T L ks Q := by
  intro G a w hok
  refine wpListIn_plain rfl fun next hnext => ⟨fun _ _ => trivial, ?_⟩
  obtain ⟨D, hD, hm⟩ := hok.mem
  have hkn := hok.knows
  rw [Oper.semAt_eq _ _ _ (fun c e => by cases e)]
  -- all that is not handed over is the frame
  have hst : St w (big (big (G :: D.map mkA) :: L1) :: (pers ++ own)) := by
    refine hm.ent ?_
    have e1 : Ent L (pers ++ (own ++ L1)) := (hp.ent sp.hpers).trans (Ent.app ho.ent)
    refine (Ent.cons e1).trans ?_
    have e2 : Ent (big (G :: D.map mkA) :: (pers ++ (own ++ L1))) ((big (G :: D.map mkA) :: L1) ++ (pers ++ own)) := by
      have : Ent (pers ++ (own ++ L1)) (L1 ++ (pers ++ own)) := by rw [← List.append_assoc]; exact ent_app_comm
      exact Ent.cons this
    exact e2.trans big_ent
  obtain ⟨df, w1, hr1, hr2⟩ := sp.calls _ w hst
  have hargs : args.map a.eval = vs.toArray := by
    have := hkn.evs ha
    rw [← this]; cases args; simp
  have hrun : ∀ r, (invoke df.target df.args).run P w1 = r → (execOp a.eval ⟨d, .call ⟨.value fx, args, tys⟩, ty, pos, aft, none⟩).run P w = r := by
    intro r hr
    simp only [execOp, resolve, hargs, hkn _ _ hf, Sem.run_bind, hr1, Result.andThen_ok, hr]
  have fin : ∀ x w', ok x → St w' (big (big (G :: D.map mkA) :: L1) :: out x) → next (a.put d (ret x)) w' := by
    intro x w' hx hst'
    refine hnext _ _ (k x hx G _ _ ?_)
    have h1 : St w' (big (G :: D.map mkA) :: (out x ++ L1)) := by
      refine hst'.ent ?_
      refine ent_big.trans ?_
      exact Ent.cons ent_app_comm
    have h2 := hok.putD hd (ret x)
    refine ⟨h2.size, h2.get, D, ?_, h1⟩
    rw [← hD]; cases d <;> rfl
  rcases hr2 with ⟨f, as, w2, hinv, hc⟩ | ⟨l, fn, tmps, assign, body, w2, hinv, hc⟩
  · rw [hrun _ hinv, Oper.uponIn_enter]
    refine ⟨fun h => by simp [Fence.wide] at h, ?_⟩
    refine ⟨hc.1, fun cs hroom => ?_⟩
    obtain ⟨e, w', fr, ⟨x, hx, rfl, hs⟩, rest⟩ := hc.2 cs hroom
    exact ⟨.returned (ret x), w', fr, fin x w' hx hs, rest⟩
  · rw [hrun _ hinv, Oper.uponIn_round]
    refine ⟨fun h => by simp [Fence.wide] at h, ?_⟩
    refine ⟨hc.1, fun c cs hroom => ?_⟩
    obtain ⟨e, w', ⟨x, hx, rfl, hs⟩, rest⟩ := hc.2 c cs hroom
    exact ⟨.returned (ret x), w', fin x w' hx hs, rest⟩

theorem SO.call {fx : Operand} {args : Array Operand} {tys : Array TypeId} {f : FuncId} {caps : Array Value} {vs as : List Value} {pers own : List HP} {X : Type} {ok : X → Prop} {ret : X → Value} {out : X → List HP}
    (sp : Does P f as pers own X ok ret out) (hf : evO T fx = some (.func (.func f) #[] caps)) (ha : evs T args.toList = some vs) (he : vs ++ caps.toList = as) (hp : HasAll pers L) (ho : Takes own L L1) (hd : dstOk N d = true)
    (k : ∀ x, ok x → SO P rd N all rest (putD d (ret x) T) (out x ++ L1) ks Q) : SO P rd N all (⟨d, .call ⟨.value fx, args, tys⟩, ty, pos, aft, none⟩ :: rest) T L ks Q :=
  SO.callF hf ha (sp.toF he) hp ho hd k

/-- What pins what is known. -/
def pin (r : Ro) (o : Own) : HP := ⟨fun r' o' => r.le r' ∧ o.le o', fun _ _ _ _ hr ho ⟨h1, h2⟩ => ⟨Ro.le_trans h1 hr, Own.le_trans h2 ho⟩⟩

/-- A call that only reads and gives one value. -/
theorem SQ.call {RR : TT → List HP → Prop} {fx : Operand} {args : Array Operand} {tys : Array TypeId} {f : FuncId} {caps : Array Value} {vs as : List Value} {pers : List HP} {X : Type} {ok : X → Prop} {ret : X → Value} {out : X → List HP} {v : Value}
    (sp : Does P f as pers [] X ok ret out) (hf : evO T fx = some (.func (.func f) #[] caps)) (ha : evs T args.toList = some vs) (he : vs ++ caps.toList = as) (hv : ∀ x, ok x → ret x = v) (hp : HasAll pers L) (hd : dstOk N d = true)
    (k : SQ P N all rest (putD d v T) L RR) : SQ P N all (⟨d, .call ⟨.value fx, args, tys⟩, ty, pos, aft, none⟩ :: rest) T L RR := by
  intro r oo F a hs hagr
  have hkn := hagr.knows
  simp only [wpQuiet, Region.wanted, if_true]
  have hargs : args.map a.eval = vs.toArray := by
    have := hkn.evs ha
    rw [← this]; cases args; simp
  refine ⟨v, fun w hw => ?_, wpQuiet_mono ?_ rest _ (k r oo F _ hs (hagr.putD hd v))⟩
  · have hrun : (execOp a.eval ⟨d, .call ⟨.value fx, args, tys⟩, ty, pos, aft, none⟩).run P w = .ok (.enter f as.toArray) w := by
      have e : vs.toArray ++ caps = as.toArray := by rw [← he]; cases caps; simp
      simp only [execOp, resolve, hargs, hkn _ _ hf, Sem.run_bind, Deferred.ofValue, Sem.run_pure, Result.andThen_ok, invoke]
      rw [show (#[] : Array Value) ++ vs.toArray = vs.toArray by simp, e]
      exact sp.entry _ w
    unfold Oper.quietAt
    rw [hrun]
    refine ⟨rfl, ?_⟩
    have hst : St w (pin r oo :: (pers ++ [])) := by
      refine ⟨r, oo, hw, oo, fun _ _ => none, fun _ _ => .inr rfl, fun i j c e => ?_, ⟨Ro.le_refl _, Own.le_refl _⟩, ?_⟩
      · rcases Own.add_cases e with e | e
        · exact e
        · simp at e
      · rw [List.append_nil]
        have h1 := (hp.ent sp.hpers) r _ (show seps L r _ from hs.choose_spec.choose_spec.2.2.2)
        have : ∀ (A B : List HP) (o : Own), (∀ X ∈ A, Pers X) → seps (A ++ B) r o → seps A r (fun _ _ => none) := by
          intro A
          induction A with
          | nil => intros; trivial
          | cons X A ih =>
            rintro B o hp ⟨a, b, d, le, hA, hL⟩
            exact ⟨_, _, fun _ _ => .inl rfl, none_add, hp X (by simp) _ _ hA, ih B b (fun Y hY => hp Y (by simp [hY])) hL⟩
        exact this pers L _ sp.hpers h1
    refine (sp.calls _ w hst).mono ?_
    rintro e w' ⟨x, hx, rfl, r', o', s', a1, b1, d1, le1, ⟨h1, h2⟩, _⟩
    refine ⟨by rw [hv x hx], ?_⟩
    have s2 := s'.weaken (Own.le_trans h2 (Own.le_trans (Own.le_add_left a1 b1) le1))
    exact ⟨fun i j v e => s2.ro _ _ _ (h1.le _ _ _ e), s2.val, s2.obj, fun i j v c e e' => s2.dis _ _ _ _ (h1.le _ _ _ e) e', h1.bs ▸ s2.below, fun i j c e => h1.bs ▸ s2.low i j c e⟩
  · rintro a' ⟨h1, h2⟩; exact ⟨by rw [h1, put_defers_eq], h2⟩

/-! ### A function's end -/
def tupV : List Value → Value
  | [v] => v
  | vs => .tuple vs.toArray

/-- What the result variables hold. -/
inductive ResOk (P : Program) [tb : Tab P] (T : TT) (L : List HP) : List ResultVar → List Value → Prop
  | nil : ResOk P T L [] []
  | tmp {t : Nat} {v : Value} {rs : List ResultVar} {vs : List Value} (h : T.get t = some v) (r : ResOk P T L rs vs) : ResOk P T L (.tmp t :: rs) (v :: vs)
  | cell {t b off o' ty : Nat} {us : List Value} {L' : List HP} {ti : TI} {rs : List ResultVar} {vs : List Value} (h : T.get t = some (.pointer (some ⟨b, off, none⟩))) (tk : Take (pts b o' us) L L') (ht : tget tb.tab ty = some ti)
      (ho : Nat.ble o' off = true) (hp : packOk ti (cut us (off - o') ti.size)) (r : ResOk P T L rs vs) : ResOk P T L (.cell t ty :: rs) (packV ti (cut us (off - o') ti.size) :: vs)

theorem results_ok [tb : Tab P] {fn : Func} {vs : List Value} (h : ResOk P T L fn.results.toList vs) {a : Act} {w : World} {F : HP} (hst : St w (F :: L)) (hg : ∀ i v, T.get i = some v → a.tmps[i]? = some v) :
    (results fn a.tmps).run P w = .ok (tupV vs) w := by
  have key : ∀ (rs : List ResultVar) (vs : List Value), ResOk P T L rs vs →
      (rs.mapM (m := Sem) fun | .tmp t => pure (a.tmps.getD t undef) | .cell x t => do loadVar t (← asAddr (a.tmps.getD x undef))).run P w = .ok vs w := by
    intro rs vs h
    induction h with
    | nil => simp
    | tmp ht r ih =>
      rename_i t v rs us
      have h1 : a.tmps.getD t undef = v := by rw [Array.getD_eq_getD_getElem?, hg _ _ ht]; rfl
      rw [List.mapM_cons, Sem.run_bind, Sem.run_pure, Result.andThen_ok, Sem.run_bind, ih, Result.andThen_ok, Sem.run_pure, h1]
    | cell hp tk ht ho hpk r ih =>
      rename_i t b off o' ty us L' ti rs vs
      have h1 : a.tmps.getD t undef = .pointer (some ⟨b, off, none⟩) := by rw [Array.getD_eq_getD_getElem?, hg _ _ hp]; rfl
      have hst2 : St w (pts b o' us :: F :: L') := hst.ent ((Ent.cons tk.ent).trans Ent.swap)
      have ho := Nat.le_of_ble_eq_true ho
      have hl := loadVar_ok ht hpk (w := w) (b := b) (off := off) (fun j v hj => by
        have := (hst2.cell (cut_get hj).1).1
        rwa [show o' + (off - o' + j) = off + j by omega] at this)
      have ha : (asAddr (.pointer (some ⟨b, off, none⟩))).run P w = .ok ⟨b, off, none⟩ w := rfl
      rw [List.mapM_cons, Sem.run_bind, Sem.run_bind, h1, ha, Result.andThen_ok, hl, Result.andThen_ok, Sem.run_bind, ih, Result.andThen_ok, Sem.run_pure]
  simp only [results, Sem.run_bind]
  rw [Array.mapM_eq_mapM_toList]
  simp only [Sem.run_map, Sem.run_pure]
  refine (congrArg (fun r : Result (List Value) => (r.andThen fun (a : List Value) w' => Result.ok a.toArray w').andThen fun (a : Array Value) w' => Result.ok (if h : a.size = 1 then a[0] else Value.tuple a) w') (key _ _ h)).trans ?_
  match vs with
  | [] => rfl
  | [v] => rfl
  | v :: u :: vs => rfl

def T0 : Nat → List Value → TT
  | _, [] => []
  | i, v :: vs => (i, v) :: T0 (i + 1) vs
theorem T0_get : ∀ (vs : List Value) (i n : Nat) (v : Value), (T0 i vs).get n = some v → i ≤ n ∧ vs[n - i]? = some v
  | [], i, n, v, h => by simp [T0, TT.get] at h
  | u :: vs, i, n, v, h => by
    simp only [T0] at h
    rw [TT.get_cons] at h
    split at h
    · rename_i hi; subst hi; cases h; simp
    · obtain ⟨h1, h2⟩ := T0_get vs (i + 1) n v h
      refine ⟨by omega, ?_⟩
      rw [show n - i = (n - (i + 1)) + 1 by omega]; simpa using h2

theorem leaves_marks {fn : Func} {tmps : Array Value} {R : Ending → World → Prop} {v : Value} {L : List HP} : ∀ (D : List Nat) (w : World), St w (D.map mkA ++ L) →
    (∀ w, St w L → (results fn tmps).run P w = .ok v w ∧ R (.returned v) w) → LeavesInM Fence.wide 0 P fn tmps R (D.map mark) .returning w
  | [], w, hst, h => by
    obtain ⟨h1, h2⟩ := h w (by simpa using hst)
    simp only [List.map_nil, LeavesInM, LeavesIn]
    exact ⟨v, h1, h2⟩
  | r :: D, w, hst, h => by
    simp only [List.map_cons, LeavesInM]
    refine ⟨by simp, .inl ⟨r, { w with heap := w.heap.setIfInBounds r (.deferred none) }, rfl, ?_, ?_⟩⟩
    · obtain ⟨ho, _⟩ := hst.obj
      simp [Instr.takeDeferred, getObj, setObj, Sem.run, bind, Sem.bind, ho, pure]
    · refine leaves_marks D _ ?_ h
      have := hst.setObj (z := .deferred none) trivial
      exact this.ent Ent.drop

/-- What a function's body must come to. -/
def retQ (P : Program) [tb : Tab P] (rs : List ResultVar) (X : Type) (ok : X → Prop) (ret : X → Value) (out : X → List HP) : Post := fun e T L =>
  match e with
  | .normal => ∃ vs, ResOk P T L rs vs ∧ ∃ x, ok x ∧ tupV vs = ret x ∧ Ent L (out x)
  | .ret => ∃ vs, ResOk P T L rs vs ∧ ∃ x, ok x ∧ tupV vs = ret x ∧ Ent L (out x)
  | _ => False

theorem Does.of [tb : Tab P] {f : FuncId} {fn : Func} {c : Code} {args : List Value} {pers own : List HP} {X : Type} {ok : X → Prop} {ret : X → Value} {out : X → List HP}
    (he : ∀ as w, (callFunc f as).run P w = .ok (.enter f as) w) (hf : P.funcs[f]? = some fn) (hb : fn.body = some c) {N : Nat} (hN : fn.ntmps = N) {rs : List ResultVar} (hrs : fn.results.toList = rs) (hp : ∀ A ∈ pers, Pers A) (hn : Nat.ble args.length N = true)
    (h : SK P none N [.code c] (T0 0 args) (pers ++ own) (retQ P rs X ok ret out)) : Does P f args pers own X ok ret out := by
  subst hN hrs
  refine ⟨he, hp, fun F w hst => ?_⟩
  rw [← callsIn_wide (n := 0)]
  have hlen := Nat.le_of_ble_eq_true hn
  refine callsIn_of_wp_marks hf hb trivial ?_ rfl
  have hk := SK_code.1 h
  refine wpIn_mono (hk F _ w ⟨?_, fun i v e => ?_, [], rfl, ?_⟩) ?_
  · simp; omega
  · obtain ⟨_, h2⟩ := T0_get args 0 i v e
    simp only [Nat.sub_zero] at h2
    have := row_lt h2
    rw [Array.getElem?_append_left (by simpa using this)]
    simpa using h2
  · exact hst.ent (big_ent (A := [F]))
  · rintro e a w ⟨T, L, hok, hq⟩
    have fin : (∃ vs, ResOk P T L fn.results.toList vs ∧ ∃ x, ok x ∧ tupV vs = ret x ∧ Ent L (out x)) →
        LeavesInM Fence.wide 0 P fn a.tmps (fun e w' => ∃ x, ok x ∧ e = .returned (ret x) ∧ St w' (F :: out x)) a.defers .returning w := by
      rintro ⟨vs, hvs, x, hx, hret, hent⟩
      obtain ⟨D, hD, hm⟩ := hok.mem
      rw [hD]
      have e1 : Ent (big (F :: D.map mkA) :: L) (D.map mkA ++ (F :: L)) := by
        refine ent_big.trans ?_
        show Ent (F :: (D.map mkA ++ L)) _
        have h2 : Ent (F :: (D.map mkA ++ L)) ((D.map mkA ++ L) ++ [F]) := ent_app_comm (A := [F])
        refine h2.trans ?_
        rw [List.append_assoc]
        exact Ent.app ent_app_comm
      refine leaves_marks (v := ret x) D w (hm.ent e1) fun w' hst' => ⟨?_, x, hx, rfl, hst'.ent (Ent.cons hent)⟩
      rw [← hret]
      exact results_ok hvs hst' hok.get
    cases e with
    | normal => simp only [postK] at hq; rw [SK] at hq; exact fin hq
    | ret => exact fin hq
    | exit id => exact hq.elim
    | goto l => exact hq.elim
    | panic ch => exact hq.elim
    | outgrown => exact hq.elim

theorem SK.retX [tb : Tab P] {L' : List HP} {rs : List ResultVar} {X : Type} {ok : X → Prop} {ret : X → Value} {out : X → List HP} {vs : List Value} (hv : ResOk P T L rs vs) (x : X) (hx : ok x) (he : tupV vs = ret x) (ht : Takes (out x) L L') :
    SK P rd N (.code .ret :: ks) T L (retQ P rs X ok ret out) := SK.ret ⟨vs, hv, x, hx, he, ent_append_of_takes ht⟩
theorem SK.endX [tb : Tab P] {L' : List HP} {rs : List ResultVar} {X : Type} {ok : X → Prop} {ret : X → Value} {out : X → List HP} {vs : List Value} (hv : ResOk P T L rs vs) (x : X) (hx : ok x) (he : tupV vs = ret x) (ht : Takes (out x) L L') :
    SK P rd N [] T L (retQ P rs X ok ret out) := SK.nil ⟨vs, hv, x, hx, he, ent_append_of_takes ht⟩
theorem all_nil {p : HP → Prop} : ∀ A ∈ ([] : List HP), p A := fun _ h => by cases h
theorem all_cons {p : HP → Prop} {A : HP} {L : List HP} (h : p A) (t : ∀ B ∈ L, p B) : ∀ B ∈ A :: L, p B := fun B hB => by
  rcases List.mem_cons.1 hB with rfl | hB
  · exact h
  · exact t B hB
end
end Go.Sl
