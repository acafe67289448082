/- A part of a proof: a walk over the model by a small separation logic. -/
import Derived.Test.YtbaalaaoggplmaaDoorSlMixR
/-! Ranges over functions whose leaving knows the round. -/
set_option linter.unusedVariables false
set_option linter.unusedSectionVars false
namespace Go.Sl
section
variable {P : Program} {rd : Option Nat} {N : Nat} {T : TT} {L L1 : List HP} {Q : Post} {ks : List K}
/-- The ways on behind a range over a function. -/
theorem SK.rangeI_core {α : Type} {e : Enc α} {xs : List α} {pers K0 Ke : List HP} {Kb : Nat → List HP} {f : FuncId} {caps : Array Value} (it : Iter P f caps.toList e xs pers K0 Kb Ke)
    (Y : Type) (LJ : Nat → List HP) (LX : Nat → Y → List HP) (cX : Y → Code) {fx : Operand} {ps : List Nat} {asg body : Code} (hf : evO T fx = some (.func (.func f) #[] caps)) (hp : HasAll pers L) (ho : Takes (LJ 0 ++ K0) L L1)
    (hps : ltAll N ps = true) (hlen : ∀ x h, Nat.beq (e.args x h).length ps.length = true)
    (round : ∀ (i : Nat) (x : α) (h : e.V) (l : Nat) (R : Loop), xs[i]? = some x →
      SK P (some l) N [.code asg, .inv (fun T' L' => SK P (some l) N [.code body] T' (busyA l R :: L') (roundQ l R (LJ (i + 1)) Y (LX i) cX))] (zipT ps (e.args x h) T) (e.atoms x h ++ LJ i) (fun _ _ _ => False))
    (done : SK P rd N ks T (LJ xs.length ++ (Ke ++ L1)) Q)
    (stop : ∀ (y : Y) (i : Nat), i < xs.length → SK P rd N (.code (cX y) :: ks) T (LX i y ++ (Kb i ++ L1)) Q)
    -- how the record is laid
    {G : HP} {a : Act} {w : World} (ok : Ok G N T L a w)
    (enter : ∀ fn, ∃ (l : Nat) (mk : List Deferred) (w1 : World) (R : Loop) (D : List Nat),
      (Instr.enterLoop fn a.tmps ps.toArray asg body rd).run P w = .ok (l, mk) w1 ∧ mk ++ a.defers = D.map mark ∧ R.params = ps.toArray ∧ R.assign = asg ∧ R.body = body ∧ R.tmps = a.tmps ∧ R.state = .ready ∧ R.pending = none ∧
      St w1 (big (G :: D.map mkA) :: ob l (.loop R) :: L)) :
    (Code.rangeFunc fx ps.toArray asg body).wpIn (FW rd) 0 P (lift G N (postK P rd N ks Q)) a w := by
  refine wpIn_rangeFunc fun fn hfn => ?_
  obtain ⟨l, mk, w1, R, D, hr, hmk, hR1, hR2, hR3, hR4, hR5, hR6, hst⟩ := enter fn
  have hkn := ok.knows
  -- the iterator, called with this loop's yield
  let J : Nat → HP := fun i => big (ob l (.loop R) :: LJ i)
  let Jx : Nat → HP := fun i => ex fun y : Y => big (ob l (.loop { R with state := .done, pending := some (cX y) }) :: LX i y)
  have hit := it l J Jx (fun i x h hx => by
    have := yield_does (P := P) (N := N) (T := T) (e := e) (x := x) (h := h) (LI := LJ i) (LN := LJ (i + 1)) (LX := LX i) (cX := cX) hR1 hR2 hR3 hR4 hR5 hR6 ok.get ok.size hps (hlen x h) (round i x h l R hx)
    exact this)
  -- what is handed over, and what not
  have hst1 : St w1 (big (big (G :: D.map mkA) :: L1) :: (pers ++ (J 0 :: K0))) := by
    refine hst.ent ?_
    have e1 : Ent L (pers ++ ((LJ 0 ++ K0) ++ L1)) := (hp.ent hit.hpers).trans (Ent.app ho.ent)
    refine (Ent.cons (Ent.cons e1)).trans ?_
    -- [M, ob] ++ pers ++ LJ0 ++ K0 ++ L1
    have e2 : Ent (ob l (.loop R) :: (pers ++ ((LJ 0 ++ K0) ++ L1))) (L1 ++ (pers ++ (J 0 :: K0))) := by
      have e3 : Ent (ob l (.loop R) :: (pers ++ ((LJ 0 ++ K0) ++ L1))) (pers ++ (ob l (.loop R) :: ((LJ 0 ++ K0) ++ L1))) := ent_of_swap
      refine e3.trans ?_
      have e4 : Ent (ob l (.loop R) :: ((LJ 0 ++ K0) ++ L1)) ((J 0 :: K0) ++ L1) := by
        rw [List.append_assoc]
        exact big_ent (A := ob l (.loop R) :: LJ 0) (L := K0 ++ L1)
      refine (Ent.app e4).trans ?_
      rw [← List.append_assoc]
      exact ent_app_comm
    refine (Ent.cons e2).trans ?_
    exact big_ent (A := big (G :: D.map mkA) :: L1)
  refine ⟨l, mk, w1, { target := .fn (.func f) caps, args := #[] ++ #[yv l] }, w1, f, #[yv l] ++ caps, w1, hr, ?_, fun _ _ => trivial, ?_, fun h => by simp [Fence.wide] at h, ?_⟩
  · simp only [resolve, hkn _ _ hf]
    simp [Act.eval, Deferred.ofValue]
  · have := hit.entry (#[yv l] ++ caps) w1
    simpa [invoke] using this
  · have hc := hit.calls _ w1 hst1
    have hargs : (yv l :: caps.toList).toArray = #[yv l] ++ caps := by cases caps; simp
    rw [hargs, ← callsIn_wide (n := 0)] at hc
    refine ⟨trivial, fun cs hroom => ?_⟩
    obtain ⟨ee, w', fr, ⟨o, ho', rfl, hs⟩, rest⟩ := hc.2 cs hroom
    refine ⟨.returned (.tuple #[]), w', fr, ?_, rest⟩
    -- behind the call
    have fin : ∀ (R' : Loop) (L' : List HP), R'.state ≠ .busy → St w' (big (big (G :: D.map mkA) :: L1) :: ob l (.loop R') :: L') →
        ∃ w4, (Instr.endLoop l).run P w' = .ok R'.pending w4 ∧ St w4 (big (G :: D.map mkA) :: (L' ++ L1)) := by
      intro R' L' hb hs
      have h1 : St w' (ob l (.loop R') :: big (big (G :: D.map mkA) :: L1) :: L') := hs.ent Ent.swap
      obtain ⟨hl, _⟩ := h1.obj
      refine ⟨_, ?_, ((h1.setObj (z := .loop { R' with state := .exhausted }) trivial).ent Ent.drop).ent ?_⟩
      · simp only [Instr.endLoop, Sem.run_bind, run_getLoop hl, Result.andThen_ok]
        have : (R'.state == LoopState.busy) = false := by cases hh : R'.state <;> simp_all
        simp only [this, Bool.false_eq_true, if_false, Sem.run_pure, Sem.run_bind, run_setLoop hl, Result.andThen_ok]
      · refine (ent_big (A := big (G :: D.map mkA) :: L1) (L := L')).trans ?_
        exact Ent.cons ent_app_comm
    cases o with
    | none =>
      have h2 : St w' (big (big (G :: D.map mkA) :: L1) :: ob l (.loop R) :: (LJ xs.length ++ Ke)) := by
        refine hs.ent (Ent.cons ?_)
        exact ent_big (A := ob l (.loop R) :: LJ xs.length) (L := Ke)
      obtain ⟨w4, hr4, hs4⟩ := fin R _ (by rw [hR5]; simp) h2
      refine ⟨none, w4, by rw [hr4, hR6], ?_⟩
      rw [List.append_assoc] at hs4
      exact ⟨T, _, ⟨ok.size, ok.get, D, by rw [← hmk], hs4⟩, done⟩
    | some i =>
      have h2 := hs.ent Ent.swap
      obtain ⟨y, h2⟩ := St.ex h2
      have h3 : St w' (big (big (G :: D.map mkA) :: L1) :: ob l (.loop { R with state := .done, pending := some (cX y) }) :: (LX i y ++ Kb i)) := by
        refine (h2.ent Ent.swap).ent (Ent.cons ?_)
        exact ent_big (A := ob l (.loop { R with state := .done, pending := some (cX y) }) :: LX i y) (L := Kb i)
      obtain ⟨w4, hr4, hs4⟩ := fin _ _ (by simp) h3
      refine ⟨some (cX y), w4, hr4, ?_⟩
      rw [List.append_assoc] at hs4
      exact (SK_code.1 (stop y i (ho' i rfl))) G _ w4 ⟨ok.size, ok.get, D, by rw [← hmk], hs4⟩

/-- A range over a function, not in the body of another one. -/
theorem SK.rangeI {α : Type} {e : Enc α} {xs : List α} {pers K0 Ke : List HP} {Kb : Nat → List HP} {f : FuncId} {caps : Array Value} (it : Iter P f caps.toList e xs pers K0 Kb Ke)
    (Y : Type) (LJ : Nat → List HP) (LX : Nat → Y → List HP) (cX : Y → Code) {fx : Operand} {ps : List Nat} {asg body : Code} (hf : evO T fx = some (.func (.func f) #[] caps)) (hp : HasAll pers L) (ho : Takes (LJ 0 ++ K0) L L1)
    (hps : ltAll N ps = true) (hlen : ∀ x h, Nat.beq (e.args x h).length ps.length = true)
    (round : ∀ (i : Nat) (x : α) (h : e.V) (l : Nat) (R : Loop), xs[i]? = some x →
      SK P (some l) N [.code asg, .inv (fun T' L' => SK P (some l) N [.code body] T' (busyA l R :: L') (roundQ l R (LJ (i + 1)) Y (LX i) cX))] (zipT ps (e.args x h) T) (e.atoms x h ++ LJ i) (fun _ _ _ => False))
    (done : SK P none N ks T (LJ xs.length ++ (Ke ++ L1)) Q)
    (stop : ∀ (y : Y) (i : Nat), i < xs.length → SK P none N (.code (cX y) :: ks) T (LX i y ++ (Kb i ++ L1)) Q) :
    SK P none N (.code (.rangeFunc fx ps.toArray asg body) :: ks) T L Q := by
  rw [SK_code]
  intro G a w ok
  refine SK.rangeI_core it Y LJ LX cX hf hp ho hps hlen round done stop ok fun fn => ?_
  obtain ⟨D, hD, hm⟩ := ok.mem
  have h1 := hm.allocObj (.deferred (some [])) trivial
  have h2 := h1.allocObj (.loop { state := .ready, pending := none, fn := fn, tmps := a.tmps, params := ps.toArray, assign := asg, body := body, defers := w.heap.size }) trivial
  refine ⟨_, _, _, { state := .ready, pending := none, fn := fn, tmps := a.tmps, params := ps.toArray, assign := asg, body := body, defers := w.heap.size }, w.heap.size :: D, by simp only [Instr.enterLoop, newObj, bind, Sem.bind, Sem.run, pure]; rfl, ?_, rfl, rfl, rfl, rfl, rfl, rfl, h2.ent ?_⟩
  · rw [hD]; rfl
  · -- the mark's block goes to the marks
    refine Ent.swap.trans ?_
    have : Ent (ob w.heap.size (.deferred (some [])) :: big (G :: D.map mkA) :: L) (big (G :: (w.heap.size :: D).map mkA) :: L) := by
      refine (Ent.cons ent_big).trans ?_
      show Ent (mkA w.heap.size :: G :: (D.map mkA ++ L)) _
      refine Ent.swap.trans ?_
      exact big_ent (A := G :: (w.heap.size :: D).map mkA)
    refine (Ent.cons (Ent.refl _)).trans ?_
    refine Ent.swap.trans ?_
    refine (Ent.cons this).trans Ent.swap

/-- A range over a function in the body of another one. -/
theorem SK.rangeNI {α : Type} {e : Enc α} {xs : List α} {pers K0 Ke : List HP} {Kb : Nat → List HP} {f : FuncId} {caps : Array Value} (it : Iter P f caps.toList e xs pers K0 Kb Ke)
    (Y : Type) (LJ : Nat → List HP) (LX : Nat → Y → List HP) (cX : Y → Code) {l₀ : Nat} {R₀ : Loop} {L₀ : List HP} (h₀ : Take (busyA l₀ R₀) L L₀) {fx : Operand} {ps : List Nat} {asg body : Code} (hf : evO T fx = some (.func (.func f) #[] caps)) (hp : HasAll pers L) (ho : Takes (LJ 0 ++ K0) L L1)
    (hps : ltAll N ps = true) (hlen : ∀ x h, Nat.beq (e.args x h).length ps.length = true)
    (round : ∀ (i : Nat) (x : α) (h : e.V) (l : Nat) (R : Loop), xs[i]? = some x →
      SK P (some l) N [.code asg, .inv (fun T' L' => SK P (some l) N [.code body] T' (busyA l R :: L') (roundQ l R (LJ (i + 1)) Y (LX i) cX))] (zipT ps (e.args x h) T) (e.atoms x h ++ LJ i) (fun _ _ _ => False))
    (done : SK P (some l₀) N ks T (LJ xs.length ++ (Ke ++ L1)) Q)
    (stop : ∀ (y : Y) (i : Nat), i < xs.length → SK P (some l₀) N (.code (cX y) :: ks) T (LX i y ++ (Kb i ++ L1)) Q) :
    SK P (some l₀) N (.code (.rangeFunc fx ps.toArray asg body) :: ks) T L Q := by
  rw [SK_code]
  intro G a w ok
  refine SK.rangeI_core it Y LJ LX cX hf hp ho hps hlen round done stop ok fun fn => ?_
  obtain ⟨D, hD, hm⟩ := ok.mem
  obtain ⟨hl, _⟩ := ((hm.ent (Ent.cons h₀.ent)).ent Ent.swap).obj
  have h2 := hm.allocObj (.loop { state := .ready, pending := none, fn := fn, tmps := a.tmps, params := ps.toArray, assign := asg, body := body, defers := R₀.defers }) trivial
  refine ⟨_, _, _, { state := .ready, pending := none, fn := fn, tmps := a.tmps, params := ps.toArray, assign := asg, body := body, defers := R₀.defers }, D, by simp only [Instr.enterLoop, Sem.run_bind, run_getLoop hl, Result.andThen_ok, newObj, Sem.run, Sem.run_pure]; rfl, ?_, rfl, rfl, rfl, rfl, rfl, rfl, h2.ent Ent.swap⟩
  rw [← hD]; rfl
end
end Go.Sl
