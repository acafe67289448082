/- A part of a proof: a walk over the model by a small separation logic. -/
import Derived.Test.YtbaalaaoggplmaaDoorSlSeq
/-! Ranges over functions. -/
set_option linter.unusedVariables false
set_option linter.unusedSectionVars false
namespace Go.Sl

/-- What an iterator hands over: 'V': what is hidden. -/
structure Enc (α : Type) where
  V : Type
  args : α → V → List Value
  atoms : α → V → List HP
  pers : ∀ x h, ∀ A ∈ atoms x h, Pers A

abbrev yv (l : Nat) : Value := .func (.yield l) #[] #[]

/-- Function f, with what it has captured, hands over just 'xs', one behind the other, to whatever yield there is. -/
def Iter {α : Type} (P : Program) (f : FuncId) (caps : List Value) (e : Enc α) (xs : List α) (pers K0 : List HP) (Kb : Nat → List HP) (Ke : List HP) : Prop :=
  ∀ (l : Nat) (J Jx : Nat → HP),
    (∀ (i : Nat) (x : α) (h : e.V), xs[i]? = some x → VDoes P (yv l) (e.args x h) (e.atoms x h) [J i] Bool (fun _ => True) (fun b => .bool b) (fun b => [bif b then J (i + 1) else Jx i])) →
    Does P f (yv l :: caps) pers (J 0 :: K0) (Option Nat) (fun o => ∀ i, o = some i → i < xs.length) (fun _ => .tuple #[])
      (fun o => match o with | none => J xs.length :: Ke | some i => Jx i :: Kb i)

def busyA (l : Nat) (R : Loop) : HP := ob l (.loop { R with state := .busy })

def zipT : List Nat → List Value → TT → TT
  | t :: ts, v :: vs, T => zipT ts vs ((t, v) :: T)
  | _, _, T => T

/-- What a round must come to. -/
def roundQ (l : Nat) (R : Loop) (next : List HP) (Y : Type) (LX : Y → List HP) (cX : Y → Code) : Post := fun e T L =>
  match e with
  | .normal => Ent L (busyA l R :: next)
  | .ret => ∃ y, cX y = .ret ∧ Ent L (busyA l R :: LX y)
  | .exit id => ∃ y, cX y = .exit id ∧ Ent L (busyA l R :: LX y)
  | _ => False

section
variable {P : Program} {rd : Option Nat} {N : Nat} {T : TT} {L L1 : List HP} {Q : Post} {ks : List K}

theorem Ok.zip {F : HP} {w : World} : ∀ (ts : List Nat) (vs : List Value) (T : TT) (tmps : Array Value), (∀ t ∈ ts, t < N) → Ok F N T L { tmps := tmps, defers := [] } w →
    Ok F N (zipT ts vs T) L { tmps := (ts.zip vs).foldl (fun tmps (p : Nat × Value) => tmps.setIfInBounds p.1 p.2) tmps, defers := [] } w
  | [], vs, T, tmps, _, h => by cases vs <;> exact h
  | t :: ts, [], T, tmps, _, h => h
  | t :: ts, v :: vs, T, tmps, ht, h => by
    simp only [zipT, List.zip_cons_cons, List.foldl_cons]
    refine Ok.zip ts vs _ _ (fun t h => ht t (by simp [h])) ?_
    exact h.put (ht t (by simp)) v

def ltAll (N : Nat) : List Nat → Bool
  | [] => true
  | t :: ts => Nat.blt t N && ltAll N ts
theorem ltAll_ok : ∀ {ts : List Nat}, ltAll N ts = true → ∀ t ∈ ts, t < N
  | [], _, t, h => by cases h
  | u :: ts, h, t, ht => by
    simp only [ltAll, Bool.and_eq_true] at h
    rcases List.mem_cons.1 ht with rfl | ht
    · simpa [Nat.blt_eq] using h.1
    · exact ltAll_ok h.2 t ht

theorem run_getLoop {w : World} {l : Nat} {R : Loop} (h : w.heap[l]? = some (.loop R)) : (Instr.getLoop l).run P w = .ok R w := by
  simp [Instr.getLoop, getObj, Sem.run, bind, Sem.bind, h, pure]
theorem run_setLoop {w : World} {l : Nat} {R R' : Loop} (h : w.heap[l]? = some (.loop R)) : (setObj l (.loop R')).run P w = .ok () { w with heap := w.heap.setIfInBounds l (.loop R') } := by
  simp [setObj, Sem.run, h]

/-- One round, as the iterator meets it. -/
theorem yield_does {l : Nat} {R : Loop} {ps : List Nat} {asg body : Code} {α : Type} {e : Enc α} {x : α} {h : e.V} {LI LN : List HP} {Y : Type} {LX : Y → List HP} {cX : Y → Code} {tmps : Array Value}
    (hR1 : R.params = ps.toArray) (hR2 : R.assign = asg) (hR3 : R.body = body) (hR4 : R.tmps = tmps) (hR5 : R.state = .ready) (hR6 : R.pending = none) (hT : ∀ i v, T.get i = some v → tmps[i]? = some v) (hN : tmps.size = N)
    (hps : ltAll N ps = true) (hlen : Nat.beq (e.args x h).length ps.length = true)
    (round : SK P (some l) N [.code asg, .inv (fun T' L' => SK P (some l) N [.code body] T' (busyA l R :: L') (roundQ l R LN Y LX cX))] (zipT ps (e.args x h) T) (e.atoms x h ++ LI) (fun _ _ _ => False)) :
    VDoes P (yv l) (e.args x h) (e.atoms x h) [big (ob l (.loop R) :: LI)] Bool (fun _ => True) (fun b => .bool b)
      (fun b => [bif b then big (ob l (.loop R) :: LN) else ex fun y : Y => big (ob l (.loop { R with state := .done, pending := some (cX y) }) :: LX y)]) := by
  have hsz : (e.args x h).length = ps.length := Nat.eq_of_beq_eq_true hlen
  refine ⟨e.pers x h, fun F w hst => ⟨{ target := .fn (.yield l) #[], args := #[] ++ (e.args x h).toArray }, w, rfl, .inr ?_⟩⟩
  -- the record
  have hst1 : St w (ob l (.loop R) :: F :: (e.atoms x h ++ LI)) := by
    refine hst.ent ?_
    have e1 : Ent (F :: (e.atoms x h ++ [big (ob l (.loop R) :: LI)])) (F :: (big (ob l (.loop R) :: LI) :: e.atoms x h)) := Ent.cons ent_app_comm
    refine e1.trans ?_
    have e2 : Ent (F :: (big (ob l (.loop R) :: LI) :: e.atoms x h)) (F :: (ob l (.loop R) :: LI ++ e.atoms x h)) := Ent.cons ent_big
    refine e2.trans ?_
    refine Ent.swap.trans (Ent.cons (Ent.cons ent_app_comm))
  obtain ⟨hl, _⟩ := hst1.obj
  refine ⟨l, R.fn, ((ps.zip (e.args x h)).foldl (fun tmps (p : Nat × Value) => tmps.setIfInBounds p.1 p.2) tmps), asg, body, w, ?_, ?_⟩
  · have h0 : #[] ++ (e.args x h).toArray = (e.args x h).toArray := by simp
    rw [h0]
    simp only [invoke, Instr.yield, Sem.run_bind, run_getLoop hl, Result.andThen_ok]
    rw [hR1, hR2, hR3, hR4]
    simp only [List.size_toArray, hsz, ne_eq, not_true_eq_false, if_false, Sem.run_pure]
    have : (ps.toArray.zip (e.args x h).toArray).foldl (fun (tmps : Array Value) (x : Nat × Value) => match x with | (t, a) => tmps.setIfInBounds t a) tmps = (ps.zip (e.args x h)).foldl (fun (tmps : Array Value) (p : Nat × Value) => tmps.setIfInBounds p.1 p.2) tmps := by
      simp [List.zip_toArray]
    rw [← this]
  · refine roundIn_of_wpIn trivial ?_
    have hok0 : Ok (big [ob l (.loop R), F]) N T (e.atoms x h ++ LI) { tmps := tmps, defers := [] } w :=
      ⟨hN, hT, [], rfl, hst1.ent ((big_ent (A := [ob l (.loop R), F])).trans (big_ent (A := [_])))⟩
    have hok1 := Ok.zip ps (e.args x h) T tmps (ltAll_ok hps) hok0
    refine wpIn_mono (SK_code.1 round _ _ w hok1) ?_
    rintro e1 a1 w1 ⟨T1, L1, ok1, hq1⟩
    cases e1 with
    | normal =>
      simp only [postK] at hq1
      rw [SK] at hq1
      obtain ⟨D, hD, hm⟩ := ok1.mem
      have hm1 : St w1 (ob l (.loop R) :: F :: (D.map mkA ++ L1)) := by
        refine hm.ent ?_
        refine (ent_big (A := big [ob l (.loop R), F] :: D.map mkA)).trans ?_
        exact (ent_big (A := [ob l (.loop R), F]) (L := D.map mkA ++ L1))
      obtain ⟨hl1, _⟩ := hm1.obj
      have hm2 := hm1.setObj (z := .loop { R with state := .busy }) trivial
      have e2 : Ent (ob l (.loop { R with state := .busy }) :: F :: (D.map mkA ++ L1)) (F :: (D.map mkA ++ (ob l (.loop { R with state := .busy }) :: L1))) := by
        refine Ent.swap.trans (Ent.cons ?_)
        have : Ent (ob l (.loop { R with state := .busy }) :: (D.map mkA ++ L1)) ((D.map mkA ++ L1) ++ [ob l (.loop { R with state := .busy })]) := ent_app_comm (A := [_])
        refine this.trans ?_
        rw [List.append_assoc]
        exact Ent.app ent_app_comm
      refine ⟨_, ?_, wpIn_mono (SK_code.1 hq1 F a1 _ ⟨ok1.size, ok1.get, D, hD, hm2.ent (e2.trans (big_ent (A := F :: D.map mkA)))⟩) ?_⟩
      · simp only [Instr.beginRound, Sem.run_bind, run_getLoop hl1, run_setLoop hl1, Result.andThen_ok, hR5, Sem.run_pure]
      · rintro e2 a2 w2 ⟨T2, L2, ok2, hq2⟩
        obtain ⟨D2, hD2, hm2⟩ := ok2.mem
        have fin : ∀ {LL : List HP} (jump : Option Code), Ent L2 (busyA l R :: LL) → ∃ w', (Instr.endRound l jump).run P w2 = .ok (.bool jump.isNone) w' ∧
            St w' (F :: (ob l (.loop { R with state := if jump.isNone then .ready else .done, pending := jump }) :: LL)) := by
          intro LL jump he
          have h3 : St w2 (ob l (.loop { R with state := .busy }) :: F :: LL) := by
            refine (hm2.ent (Ent.cons he)).ent ?_
            refine Ent.swap.trans (Ent.cons ?_)
            refine (ent_big (A := F :: D2.map mkA)).trans ?_
            refine Ent.cons ?_
            have : ∀ (D : List Nat) (LL : List HP), Ent (D.map mkA ++ LL) LL := by
              intro D LL
              induction D with
              | nil => exact Ent.refl _
              | cons d D ih => exact Ent.drop.trans ih
            exact this D2 LL
          obtain ⟨hl3, _⟩ := h3.obj
          refine ⟨_, ?_, (h3.setObj (z := .loop { R with state := if jump.isNone then .ready else .done, pending := jump }) trivial).ent Ent.swap⟩
          simp only [Instr.endRound, Sem.run_bind, run_getLoop hl3, run_setLoop hl3, Result.andThen_ok, Sem.run_pure]
        cases e2 with
        | normal =>
          simp only [postK] at hq2; rw [SK] at hq2
          obtain ⟨w', hr, hs⟩ := fin none hq2
          refine ⟨_, w', hr, true, trivial, rfl, hs.ent (Ent.cons ?_)⟩
          have : ({ R with state := .ready, pending := none } : Loop) = R := by cases R; simp at hR5 hR6; simp [hR5, hR6]
          simp only [Option.isNone_none, if_true, this]
          have := big_ent (A := ob l (.loop R) :: LN) (L := [])
          simpa using this
        | ret =>
          obtain ⟨y, hy, he⟩ := hq2
          obtain ⟨w', hr, hs⟩ := fin (some .ret) he
          refine ⟨_, w', hr, false, trivial, rfl, hs.ent (Ent.cons ?_)⟩
          have := big_ent (A := ob l (.loop { R with state := .done, pending := some .ret }) :: LX y) (L := [])
          rw [List.append_nil] at this
          refine this.trans ?_
          rw [← hy]
          exact ent_ex (A := fun y : Y => big (ob l (.loop { R with state := .done, pending := some (cX y) }) :: LX y)) y
        | exit id =>
          simp only [postK, findK] at hq2
          obtain ⟨y, hy, he⟩ := hq2
          obtain ⟨w', hr, hs⟩ := fin (some (.exit id)) he
          refine ⟨_, w', hr, false, trivial, rfl, hs.ent (Ent.cons ?_)⟩
          have := big_ent (A := ob l (.loop { R with state := .done, pending := some (.exit id) }) :: LX y) (L := [])
          rw [List.append_nil] at this
          refine this.trans ?_
          rw [← hy]
          exact ent_ex (A := fun y : Y => big (ob l (.loop { R with state := .done, pending := some (cX y) }) :: LX y)) y
        | goto t => exact hq2.elim
        | panic c => exact hq2.elim
        | outgrown => exact hq2.elim
    | exit id => simp only [postK, findK] at hq1
    | goto t => exact hq1
    | ret => exact hq1
    | panic c => exact hq1
    | outgrown => exact hq1

theorem ent_of_swap {A : HP} {B C : List HP} : Ent (A :: (B ++ C)) (B ++ (A :: C)) := by
  have h : Ent (A :: (B ++ C)) ((B ++ C) ++ [A]) := ent_app_comm (A := [A])
  refine h.trans ?_
  rw [List.append_assoc]
  exact Ent.app ent_app_comm

/-- The ways on behind a range over a function. -/
theorem SK.range_core {α : Type} {e : Enc α} {xs : List α} {pers K0 Ke : List HP} {Kb : Nat → List HP} {f : FuncId} {caps : Array Value} (it : Iter P f caps.toList e xs pers K0 Kb Ke)
    (Y : Type) (LJ : Nat → List HP) (LX : Y → List HP) (cX : Y → Code) {fx : Operand} {ps : List Nat} {asg body : Code} (hf : evO T fx = some (.func (.func f) #[] caps)) (hp : HasAll pers L) (ho : Takes (LJ 0 ++ K0) L L1)
    (hps : ltAll N ps = true) (hlen : ∀ x h, Nat.beq (e.args x h).length ps.length = true)
    (round : ∀ (i : Nat) (x : α) (h : e.V) (l : Nat) (R : Loop), xs[i]? = some x →
      SK P (some l) N [.code asg, .inv (fun T' L' => SK P (some l) N [.code body] T' (busyA l R :: L') (roundQ l R (LJ (i + 1)) Y LX cX))] (zipT ps (e.args x h) T) (e.atoms x h ++ LJ i) (fun _ _ _ => False))
    (done : SK P rd N ks T (LJ xs.length ++ (Ke ++ L1)) Q)
    (stop : ∀ (y : Y) (i : Nat), i < xs.length → SK P rd N (.code (cX y) :: ks) T (LX y ++ (Kb i ++ L1)) Q)
    -- how the record is laid
    {G : HP} {a : Act} {w : World} (ok : Ok G N T L a w)
    (enter : ∀ fn, ∃ (l : Nat) (mk : List Deferred) (w1 : World) (R : Loop) (D : List Nat),
      (Instr.enterLoop fn a.tmps ps.toArray asg body rd).run P w = .ok (l, mk) w1 ∧ mk ++ a.defers = D.map mark ∧ R.params = ps.toArray ∧ R.assign = asg ∧ R.body = body ∧ R.tmps = a.tmps ∧ R.state = .ready ∧ R.pending = none ∧
      St w1 (big (G :: D.map mkA) :: ob l (.loop R) :: L)) :
    (Code.rangeFunc fx ps.toArray asg body).wpIn (FW rd) 0 P (lift G N (postK P rd N ks Q)) a w := by
  refine wpIn_rangeFunc fun fn hfn => ?_
  obtain ⟨l, mk, w1, R, D, hr, hmk, hR1, hR2, hR3, hR4, hR5, hR6, hst⟩ := enter fn
  have hkn := ok.knows
  -- the iterator, called with this loop's yield
  let J : Nat → HP := fun i => big (ob l (.loop R) :: LJ i)
  let Jx : Nat → HP := fun _ => ex fun y : Y => big (ob l (.loop { R with state := .done, pending := some (cX y) }) :: LX y)
  have hit := it l J Jx (fun i x h hx => by
    have := yield_does (P := P) (N := N) (T := T) (e := e) (x := x) (h := h) (LI := LJ i) (LN := LJ (i + 1)) (LX := LX) (cX := cX) hR1 hR2 hR3 hR4 hR5 hR6 ok.get ok.size hps (hlen x h) (round i x h l R hx)
    exact this)
  -- what is handed over, and what not
  have hst1 : St w1 (big (big (G :: D.map mkA) :: L1) :: (pers ++ (J 0 :: K0))) := by
    refine hst.ent ?_
    have e1 : Ent L (pers ++ ((LJ 0 ++ K0) ++ L1)) := (hp.ent hit.hpers).trans (Ent.app ho.ent)
    refine (Ent.cons (Ent.cons e1)).trans ?_
    -- [M, ob] ++ pers ++ LJ0 ++ K0 ++ L1
    have e2 : Ent (ob l (.loop R) :: (pers ++ ((LJ 0 ++ K0) ++ L1))) (L1 ++ (pers ++ (J 0 :: K0))) := by
      have e3 : Ent (ob l (.loop R) :: (pers ++ ((LJ 0 ++ K0) ++ L1))) (pers ++ (ob l (.loop R) :: ((LJ 0 ++ K0) ++ L1))) := ent_of_swap
      refine e3.trans ?_
      have e4 : Ent (ob l (.loop R) :: ((LJ 0 ++ K0) ++ L1)) ((J 0 :: K0) ++ L1) := by
        rw [List.append_assoc]
        exact big_ent (A := ob l (.loop R) :: LJ 0) (L := K0 ++ L1)
      refine (Ent.app e4).trans ?_
      rw [← List.append_assoc]
      exact ent_app_comm
    refine (Ent.cons e2).trans ?_
    exact big_ent (A := big (G :: D.map mkA) :: L1)
  refine ⟨l, mk, w1, { target := .fn (.func f) caps, args := #[] ++ #[yv l] }, w1, f, #[yv l] ++ caps, w1, hr, ?_, fun _ _ => trivial, ?_, fun h => by simp [Fence.wide] at h, ?_⟩
  · simp only [resolve, hkn _ _ hf]
    simp [Act.eval, Deferred.ofValue]
  · have := hit.entry (#[yv l] ++ caps) w1
    simpa [invoke] using this
  · have hc := hit.calls _ w1 hst1
    have hargs : (yv l :: caps.toList).toArray = #[yv l] ++ caps := by cases caps; simp
    rw [hargs, ← callsIn_wide (n := 0)] at hc
    refine ⟨trivial, fun cs hroom => ?_⟩
    obtain ⟨ee, w', fr, ⟨o, ho', rfl, hs⟩, rest⟩ := hc.2 cs hroom
    refine ⟨.returned (.tuple #[]), w', fr, ?_, rest⟩
    -- behind the call
    have fin : ∀ (R' : Loop) (L' : List HP), R'.state ≠ .busy → St w' (big (big (G :: D.map mkA) :: L1) :: ob l (.loop R') :: L') →
        ∃ w4, (Instr.endLoop l).run P w' = .ok R'.pending w4 ∧ St w4 (big (G :: D.map mkA) :: (L' ++ L1)) := by
      intro R' L' hb hs
      have h1 : St w' (ob l (.loop R') :: big (big (G :: D.map mkA) :: L1) :: L') := hs.ent Ent.swap
      obtain ⟨hl, _⟩ := h1.obj
      refine ⟨_, ?_, ((h1.setObj (z := .loop { R' with state := .exhausted }) trivial).ent Ent.drop).ent ?_⟩
      · simp only [Instr.endLoop, Sem.run_bind, run_getLoop hl, Result.andThen_ok]
        have : (R'.state == LoopState.busy) = false := by cases hh : R'.state <;> simp_all
        simp only [this, Bool.false_eq_true, if_false, Sem.run_pure, Sem.run_bind, run_setLoop hl, Result.andThen_ok]
      · refine (ent_big (A := big (G :: D.map mkA) :: L1) (L := L')).trans ?_
        exact Ent.cons ent_app_comm
    cases o with
    | none =>
      have h2 : St w' (big (big (G :: D.map mkA) :: L1) :: ob l (.loop R) :: (LJ xs.length ++ Ke)) := by
        refine hs.ent (Ent.cons ?_)
        exact ent_big (A := ob l (.loop R) :: LJ xs.length) (L := Ke)
      obtain ⟨w4, hr4, hs4⟩ := fin R _ (by rw [hR5]; simp) h2
      refine ⟨none, w4, by rw [hr4, hR6], ?_⟩
      rw [List.append_assoc] at hs4
      exact ⟨T, _, ⟨ok.size, ok.get, D, by rw [← hmk], hs4⟩, done⟩
    | some i =>
      have h2 := hs.ent Ent.swap
      obtain ⟨y, h2⟩ := St.ex h2
      have h3 : St w' (big (big (G :: D.map mkA) :: L1) :: ob l (.loop { R with state := .done, pending := some (cX y) }) :: (LX y ++ Kb i)) := by
        refine (h2.ent Ent.swap).ent (Ent.cons ?_)
        exact ent_big (A := ob l (.loop { R with state := .done, pending := some (cX y) }) :: LX y) (L := Kb i)
      obtain ⟨w4, hr4, hs4⟩ := fin _ _ (by simp) h3
      refine ⟨some (cX y), w4, hr4, ?_⟩
      rw [List.append_assoc] at hs4
      exact (SK_code.1 (stop y i (ho' i rfl))) G _ w4 ⟨ok.size, ok.get, D, by rw [← hmk], hs4⟩

/-- A range over a function, not in the body of another one. -/
theorem SK.range {α : Type} {e : Enc α} {xs : List α} {pers K0 Ke : List HP} {Kb : Nat → List HP} {f : FuncId} {caps : Array Value} (it : Iter P f caps.toList e xs pers K0 Kb Ke)
    (Y : Type) (LJ : Nat → List HP) (LX : Y → List HP) (cX : Y → Code) {fx : Operand} {ps : List Nat} {asg body : Code} (hf : evO T fx = some (.func (.func f) #[] caps)) (hp : HasAll pers L) (ho : Takes (LJ 0 ++ K0) L L1)
    (hps : ltAll N ps = true) (hlen : ∀ x h, Nat.beq (e.args x h).length ps.length = true)
    (round : ∀ (i : Nat) (x : α) (h : e.V) (l : Nat) (R : Loop), xs[i]? = some x →
      SK P (some l) N [.code asg, .inv (fun T' L' => SK P (some l) N [.code body] T' (busyA l R :: L') (roundQ l R (LJ (i + 1)) Y LX cX))] (zipT ps (e.args x h) T) (e.atoms x h ++ LJ i) (fun _ _ _ => False))
    (done : SK P none N ks T (LJ xs.length ++ (Ke ++ L1)) Q)
    (stop : ∀ (y : Y) (i : Nat), i < xs.length → SK P none N (.code (cX y) :: ks) T (LX y ++ (Kb i ++ L1)) Q) :
    SK P none N (.code (.rangeFunc fx ps.toArray asg body) :: ks) T L Q := by
  rw [SK_code]
  intro G a w ok
  refine SK.range_core it Y LJ LX cX hf hp ho hps hlen round done stop ok fun fn => ?_
  obtain ⟨D, hD, hm⟩ := ok.mem
  have h1 := hm.allocObj (.deferred (some [])) trivial
  have h2 := h1.allocObj (.loop { state := .ready, pending := none, fn := fn, tmps := a.tmps, params := ps.toArray, assign := asg, body := body, defers := w.heap.size }) trivial
  refine ⟨_, _, _, { state := .ready, pending := none, fn := fn, tmps := a.tmps, params := ps.toArray, assign := asg, body := body, defers := w.heap.size }, w.heap.size :: D, by simp only [Instr.enterLoop, newObj, bind, Sem.bind, Sem.run, pure]; rfl, ?_, rfl, rfl, rfl, rfl, rfl, rfl, h2.ent ?_⟩
  · rw [hD]; rfl
  · -- the mark's block goes to the marks
    refine Ent.swap.trans ?_
    have : Ent (ob w.heap.size (.deferred (some [])) :: big (G :: D.map mkA) :: L) (big (G :: (w.heap.size :: D).map mkA) :: L) := by
      refine (Ent.cons ent_big).trans ?_
      show Ent (mkA w.heap.size :: G :: (D.map mkA ++ L)) _
      refine Ent.swap.trans ?_
      exact big_ent (A := G :: (w.heap.size :: D).map mkA)
    refine (Ent.cons (Ent.refl _)).trans ?_
    refine Ent.swap.trans ?_
    refine (Ent.cons this).trans Ent.swap

/-- A range over a function in the body of another one. -/
theorem SK.rangeN {α : Type} {e : Enc α} {xs : List α} {pers K0 Ke : List HP} {Kb : Nat → List HP} {f : FuncId} {caps : Array Value} (it : Iter P f caps.toList e xs pers K0 Kb Ke)
    (Y : Type) (LJ : Nat → List HP) (LX : Y → List HP) (cX : Y → Code) {l₀ : Nat} {R₀ : Loop} {L₀ : List HP} (h₀ : Take (busyA l₀ R₀) L L₀) {fx : Operand} {ps : List Nat} {asg body : Code} (hf : evO T fx = some (.func (.func f) #[] caps)) (hp : HasAll pers L) (ho : Takes (LJ 0 ++ K0) L L1)
    (hps : ltAll N ps = true) (hlen : ∀ x h, Nat.beq (e.args x h).length ps.length = true)
    (round : ∀ (i : Nat) (x : α) (h : e.V) (l : Nat) (R : Loop), xs[i]? = some x →
      SK P (some l) N [.code asg, .inv (fun T' L' => SK P (some l) N [.code body] T' (busyA l R :: L') (roundQ l R (LJ (i + 1)) Y LX cX))] (zipT ps (e.args x h) T) (e.atoms x h ++ LJ i) (fun _ _ _ => False))
    (done : SK P (some l₀) N ks T (LJ xs.length ++ (Ke ++ L1)) Q)
    (stop : ∀ (y : Y) (i : Nat), i < xs.length → SK P (some l₀) N (.code (cX y) :: ks) T (LX y ++ (Kb i ++ L1)) Q) :
    SK P (some l₀) N (.code (.rangeFunc fx ps.toArray asg body) :: ks) T L Q := by
  rw [SK_code]
  intro G a w ok
  refine SK.range_core it Y LJ LX cX hf hp ho hps hlen round done stop ok fun fn => ?_
  obtain ⟨D, hD, hm⟩ := ok.mem
  obtain ⟨hl, _⟩ := ((hm.ent (Ent.cons h₀.ent)).ent Ent.swap).obj
  have h2 := hm.allocObj (.loop { state := .ready, pending := none, fn := fn, tmps := a.tmps, params := ps.toArray, assign := asg, body := body, defers := R₀.defers }) trivial
  refine ⟨_, _, _, { state := .ready, pending := none, fn := fn, tmps := a.tmps, params := ps.toArray, assign := asg, body := body, defers := R₀.defers }, D, by simp only [Instr.enterLoop, Sem.run_bind, run_getLoop hl, Result.andThen_ok, newObj, Sem.run, Sem.run_pure]; rfl, ?_, rfl, rfl, rfl, rfl, rfl, rfl, h2.ent Ent.swap⟩
  rw [← hD]; rfl
end
end Go.Sl
