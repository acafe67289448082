/- A part of a proof: a walk over the model by a small separation logic. -/
import Derived.Test.YtmbfcjffjgecjaaGreatDoorLib1
import Derived.Sort.Grow
import Derived.Test.YtmbfcjffjgecjaaGreatDoorLib0
import Derived.OpenShut
import Derived.Lib.SlTrimSet
set_option linter.unusedVariables false
set_option linter.unusedSectionVars false
namespace Go.Sl
def IterU {α : Type} (P : Program) (f : FuncId) (caps : List Value) (e : Enc α) (l : List α) (pers K0 : List HP) (Kb Ke : List HP) : Prop :=
  ∀ (q : Nat) (J Jx : List α → HP),
    (∀ (seen : List α) (x : α) (h : e.V), x ∈ l → x ∉ seen → seen.length < l.length → VDoes P (yv q) (e.args x h) (e.atoms x h) [J seen] Bool (fun _ => True) (fun b => .bool b) (fun b => [bif b then J (seen ++ [x]) else Jx seen])) →
    Does P f (yv q :: caps) pers (J [] :: K0) (Bool × List α) (fun o => o.1 = true → o.2.Perm l) (fun _ => .tuple #[])
      (fun o => bif o.1 then J o.2 :: Ke else Jx o.2 :: Kb)
section
variable {P : Program} {rd : Option Nat} {N : Nat} {T : TT} {L L1 : List HP} {Q : Post} {ks : List K}
theorem SK.rangeU {α : Type} {e : Enc α} {xs : List α} {pers K0 Ke Kb : List HP} {f : FuncId} {caps : Array Value} (it : IterU P f caps.toList e xs pers K0 Kb Ke)
    (LJ : List α → List HP) {fx : Operand} {ps : List Nat} {asg body : Code} (hf : evO T fx = some (.func (.func f) #[] caps)) (hp : HasAll pers L) (ho : Takes (LJ [] ++ K0) L L1)
    (hps : ltAll N ps = true) (hlen : ∀ x h, Nat.beq (e.args x h).length ps.length = true)
    (round : ∀ (seen : List α) (x : α) (h : e.V) (l : Nat) (R : Loop), x ∈ xs → x ∉ seen → seen.length < xs.length →
      SK P (some l) N [.code asg, .inv (fun T' L' => SK P (some l) N [.code body] T' (busyA l R :: L') (roundQ l R (LJ (seen ++ [x])) Empty (fun _ => []) (fun y => y.elim)))] (zipT ps (e.args x h) T) (e.atoms x h ++ LJ seen) (fun _ _ _ => False))
    (done : ∀ ys : List α, ys.Perm xs → SK P none N ks T (LJ ys ++ (Ke ++ L1)) Q) :
    SK P none N (.code (.rangeFunc fx ps.toArray asg body) :: ks) T L Q := by
  rw [SK_code]
  intro G a w ok
  refine wpIn_rangeFunc fun fn hfn => ?_
  have enter : ∃ (l : Nat) (mk : List Deferred) (w1 : World) (R : Loop) (D : List Nat),
      (Instr.enterLoop fn a.tmps ps.toArray asg body none).run P w = .ok (l, mk) w1 ∧ mk ++ a.defers = D.map mark ∧ R.params = ps.toArray ∧ R.assign = asg ∧ R.body = body ∧ R.tmps = a.tmps ∧ R.state = .ready ∧ R.pending = none ∧
      St w1 (big (G :: D.map mkA) :: ob l (.loop R) :: L) := by
    obtain ⟨D, hD, hm⟩ := ok.mem
    have h1 := hm.allocObj (.deferred (some [])) trivial
    have h2 := h1.allocObj (.loop { state := .ready, pending := none, fn := fn, tmps := a.tmps, params := ps.toArray, assign := asg, body := body, defers := w.heap.size }) trivial
    refine ⟨_, _, _, { state := .ready, pending := none, fn := fn, tmps := a.tmps, params := ps.toArray, assign := asg, body := body, defers := w.heap.size }, w.heap.size :: D, by simp only [Instr.enterLoop, newObj, bind, Sem.bind, Sem.run, pure]; rfl, ?_, rfl, rfl, rfl, rfl, rfl, rfl, h2.ent ?_⟩
    · rw [hD]; rfl
    · refine Ent.swap.trans ?_
      have : Ent (ob w.heap.size (.deferred (some [])) :: big (G :: D.map mkA) :: L) (big (G :: (w.heap.size :: D).map mkA) :: L) := by
        refine (Ent.cons ent_big).trans ?_
        show Ent (mkA w.heap.size :: G :: (D.map mkA ++ L)) _
        refine Ent.swap.trans ?_
        exact big_ent (A := G :: (w.heap.size :: D).map mkA)
      refine (Ent.cons (Ent.refl _)).trans ?_
      refine Ent.swap.trans ?_
      refine (Ent.cons this).trans Ent.swap
  obtain ⟨l, mk, w1, R, D, hr, hmk, hR1, hR2, hR3, hR4, hR5, hR6, hst⟩ := enter
  have hkn := ok.knows
  let J : List α → HP := fun s => big (ob l (.loop R) :: LJ s)
  let Jx : List α → HP := fun s => ex fun y : Empty => big (ob l (.loop { R with state := .done, pending := some y.elim }) :: [])
  have hit := it l J Jx (fun s x h hx hs hsl => by
    have := yield_does (P := P) (N := N) (T := T) (e := e) (x := x) (h := h) (LI := LJ s) (LN := LJ (s ++ [x])) (LX := fun _ => []) (cX := fun y : Empty => y.elim) hR1 hR2 hR3 hR4 hR5 hR6 ok.get ok.size hps (hlen x h) (round s x h l R hx hs hsl)
    exact this)
  have hst1 : St w1 (big (big (G :: D.map mkA) :: L1) :: (pers ++ (J [] :: K0))) := by
    refine hst.ent ?_
    have e1 : Ent L (pers ++ ((LJ [] ++ K0) ++ L1)) := (hp.ent hit.hpers).trans (Ent.app ho.ent)
    refine (Ent.cons (Ent.cons e1)).trans ?_
    have e2 : Ent (ob l (.loop R) :: (pers ++ ((LJ [] ++ K0) ++ L1))) (L1 ++ (pers ++ (J [] :: K0))) := by
      have e3 : Ent (ob l (.loop R) :: (pers ++ ((LJ [] ++ K0) ++ L1))) (pers ++ (ob l (.loop R) :: ((LJ [] ++ K0) ++ L1))) := ent_of_swap
      refine e3.trans ?_
      have e4 : Ent (ob l (.loop R) :: ((LJ [] ++ K0) ++ L1)) ((J [] :: K0) ++ L1) := by
        rw [List.append_assoc]
        exact big_ent (A := ob l (.loop R) :: LJ []) (L := K0 ++ L1)
      refine (Ent.app e4).trans ?_
      rw [← List.append_assoc]
      exact ent_app_comm
    refine (Ent.cons e2).trans ?_
    exact big_ent (A := big (G :: D.map mkA) :: L1)
  refine ⟨l, mk, w1, { target := .fn (.func f) caps, args := #[] ++ #[yv l] }, w1, f, #[yv l] ++ caps, w1, hr, ?_, fun _ _ => trivial, ?_, fun h => by simp [Fence.wide] at h, ?_⟩
  · simp only [resolve, hkn _ _ hf]
    simp [Act.eval, Deferred.ofValue]
  · have := hit.entry (#[yv l] ++ caps) w1
    simpa [invoke] using this
  · have hc := hit.calls _ w1 hst1
    have hargs : (yv l :: caps.toList).toArray = #[yv l] ++ caps := by cases caps; simp
    rw [hargs, ← callsIn_wide (n := 0)] at hc
    refine ⟨trivial, fun cs hroom => ?_⟩
    obtain ⟨ee, w', fr, ⟨o, ho', rfl, hs⟩, rest⟩ := hc.2 cs hroom
    refine ⟨.returned (.tuple #[]), w', fr, ?_, rest⟩
    obtain ⟨b, ys⟩ := o
    cases b with
    | true =>
      have h2 : St w' (big (big (G :: D.map mkA) :: L1) :: ob l (.loop R) :: (LJ ys ++ Ke)) := by
        refine hs.ent (Ent.cons ?_)
        exact ent_big (A := ob l (.loop R) :: LJ ys) (L := Ke)
      have h1 : St w' (ob l (.loop R) :: big (big (G :: D.map mkA) :: L1) :: (LJ ys ++ Ke)) := h2.ent Ent.swap
      obtain ⟨hl, _⟩ := h1.obj
      have hs4 := ((h1.setObj (z := .loop { R with state := .exhausted }) trivial).ent Ent.drop).ent ((ent_big (A := big (G :: D.map mkA) :: L1) (L := LJ ys ++ Ke)).trans (Ent.cons ent_app_comm))
      refine ⟨none, { w' with heap := w'.heap.setIfInBounds l (.loop { R with state := .exhausted }) }, ?_, ?_⟩
      · simp only [Instr.endLoop, Sem.run_bind, run_getLoop hl, Result.andThen_ok]
        have : (R.state == LoopState.busy) = false := by rw [hR5]; rfl
        simp only [this, Bool.false_eq_true, if_false, Sem.run_pure, Sem.run_bind, run_setLoop hl, Result.andThen_ok, hR6]
      · rw [List.append_assoc] at hs4
        exact ⟨T, _, ⟨ok.size, ok.get, D, by rw [← hmk], hs4⟩, done ys (ho' rfl)⟩
    | false =>
      have h2 := hs.ent Ent.swap
      obtain ⟨y, h2⟩ := St.ex h2
      exact y.elim
end
end Go.Sl

set_option linter.unusedVariables false
set_option linter.unusedSectionVars false
namespace Go.Sl
theorem stepR_scope {P : Program} {b : Frame} {a : Act} {k : List Item} {cs : List Frame} {w : World} {c : Code} : step P (lone (b.atR a (.code (.scope c) :: k)) cs w) = .next (lone (b.atR a (.code c :: .inScope c :: k)) cs w) :=
  step_lone_go (by simp [stepG, stepG.exec, Frame.atR])
theorem stepR_inScope {P : Program} {b : Frame} {a : Act} {k : List Item} {cs : List Frame} {w : World} {c : Code} : step P (lone (b.atR a (.inScope c :: k)) cs w) = .next (lone (b.atR a k) cs w) :=
  step_lone_go (by simp [stepG, stepG.exec, Frame.atR])
theorem wpIn_scope {F : Fence} {n : Nat} {P : Program} {c : Code} {Q : Exit → Act → World → Prop} {a : Act} {w : World} (hq : ∀ l a w, Q (.goto l) a w → False) (h : c.wpIn F n P Q a w) : (Code.scope c).wpIn F n P Q a w := by
  intro b k cs hro hb hr
  have h0 : (lone (b.atR a (.code (.scope c) :: k)) cs w).fenced P F := fenced_calm hb hr rfl
  obtain ⟨e, a₁, w₁, hQ, harr⟩ := h b (.inScope c :: k) cs hro hb hr
  cases e with
  | normal => exact ⟨.normal, a₁, w₁, hQ, .head h0 stepR_scope (StepsIn.trans harr (.one (fenced_calm hb hr rfl) stepR_inScope))⟩
  | exit id =>
    refine ⟨.exit id, a₁, w₁, hQ, .of_steps (.one h0 stepR_scope) ⟨fun k' hk => harr.1 k' (by simp [exitTo, hk]), fun h1 h2 => harr.2 h1 (by simp [exitTo, h2])⟩⟩
  | goto l => exact (hq _ _ _ hQ).elim
  | ret => exact ⟨_, a₁, w₁, hQ, .of_steps (.one h0 stepR_scope) harr⟩
  | panic ch => exact ⟨_, a₁, w₁, hQ, .of_steps (.one h0 stepR_scope) harr⟩
  | outgrown => exact ⟨_, a₁, w₁, hQ, .of_steps (.one h0 stepR_scope) harr⟩
section
variable {P : Program} {rd : Option Nat} {N : Nat} {T : TT} {L : List HP} {Q : Post} {ks : List K}
theorem SK.scope {c : Code} (hq : ∀ l T L, Q (.goto l) T L → False) (h : SK P rd N (.code c :: ks) T L Q) : SK P rd N (.code (.scope c) :: ks) T L Q := by
  rw [SK_code] at h ⊢
  intro F a w ok
  refine wpIn_scope ?_ (h F a w ok)
  rintro l a w ⟨T, L, ok, hQ⟩
  exact hq l T L hQ
theorem SK.label {l : Nat} (h : SK P rd N ks T L Q) : SK P rd N (.code (.label l) :: ks) T L Q :=
  SK_code.2 fun F a w ok => wpIn_label ⟨T, L, ok, h⟩
end
end Go.Sl

set_option linter.unusedVariables false
set_option linter.unusedSimpArgs false
namespace Go.Sl
open Go.Sort
abbrev vI (n : Int) : Value := .int .i64 n
theorem holds_pts {w : World} {L : List HP} {b off : Nat} {zs : List Int} {sp : List Value} (h : St w (pts b off (zs.map vI ++ sp) :: L)) : Holds vI w b off zs.toArray := by
  intro j hj
  have hj2 : j < zs.length := by simpa using hj
  have hv : (zs.map vI ++ sp)[j]? = some (vI zs[j]) := by
    rw [List.getElem?_append_left (by simpa using hj2), List.getElem?_map, List.getElem?_eq_getElem hj2]; rfl
  obtain ⟨h1, h2⟩ := h.cell hv
  refine ⟨?_, h2⟩
  rw [h1, getElem!_pos zs.toArray j hj]
  simp
theorem St.putRow {w : World} {L : List HP} {b off : Nat} {zs us : List Int} {sp : List Value} (h : St w (pts b off (zs.map vI ++ sp) :: L)) (hl : us.length = zs.length) : St (Go.Sort.putRow vI w b off us.toArray) (pts b off (us.map vI ++ sp) :: L) := by
  have key : ∀ k, k ≤ zs.length → St (Go.Sort.putRow vI w b off (us.take k ++ zs.drop k).toArray) (pts b off ((us.take k ++ zs.drop k).map vI ++ sp) :: L) := by
    intro k
    induction k with
    | zero =>
      intro _
      rw [List.take_zero, List.drop_zero, List.nil_append, putRow_self _ _ _ _ _ (holds_pts h)]
      exact h
    | succ k ih =>
      intro hk
      have h1 := ih (by omega)
      have hku : k < us.length := by omega
      have e : us.take (k + 1) ++ zs.drop (k + 1) = (us.take k ++ zs.drop k).set k us[k] := by
        apply List.ext_getElem?
        intro i
        by_cases hik : i = k
        · subst hik
          rw [List.getElem?_set_self (by rw [List.length_append, List.length_take, List.length_drop]; omega), List.getElem?_append_left (by rw [List.length_take]; omega), List.getElem?_take_of_lt (by omega), List.getElem?_eq_getElem hku]
        · rw [List.getElem?_set_ne (fun he => hik he.symm)]
          rcases Nat.lt_or_ge i k with hi | hi
          · rw [List.getElem?_append_left (by rw [List.length_take]; omega), List.getElem?_append_left (by rw [List.length_take]; omega), List.getElem?_take_of_lt (by omega), List.getElem?_take_of_lt hi]
          · rw [List.getElem?_append_right (by rw [List.length_take]; omega), List.getElem?_append_right (by rw [List.length_take]; omega), List.length_take, List.length_take, List.getElem?_drop, List.getElem?_drop]
            congr 1; omega
      have hlen : k < (us.take k ++ zs.drop k).length := by rw [List.length_append, List.length_take, List.length_drop]; omega
      have h2 := h1.store (i := k) (by rw [List.length_append, List.length_map]; omega) (vI us[k])
      rw [putRow_set _ _ _ _ _ _ _ (by simpa using hlen)] at h2
      rw [e]
      have e2 : ((us.take k ++ zs.drop k).map vI ++ sp).set k (vI us[k]) = ((us.take k ++ zs.drop k).set k us[k]).map vI ++ sp := by
        rw [List.set_append_left _ _ (by rw [List.length_map]; exact hlen), List.map_set]
      rw [e2] at h2
      have e3 : (us.take k ++ zs.drop k).toArray.setIfInBounds k us[k] = ((us.take k ++ zs.drop k).set k us[k]).toArray := by simp
      rw [e3] at h2
      exact h2
  have := key zs.length (Nat.le_refl _)
  rw [List.take_of_length_le (by omega), List.drop_length, List.append_nil] at this
  exact this
theorem plain_RI : Plain RI () := by
  constructor <;> intros <;> first | rfl | trivial
theorem cellsOf_RI (l : List Int) : cellsOf RI () l = l.map vI := by
  induction l with
  | nil => rfl
  | cons x l ih =>
    have := cellsOf_app (ρ := RI) (h := ()) [x] l
    rw [List.cons_append, List.nil_append] at this
    rw [this, ih]; rfl
end Go.Sl

set_option linter.unusedVariables false
namespace Go.Sl
open Go.ChangeShapes Go.WideShapes Go.RowKit
end Go.Sl

set_option linter.unusedVariables false
set_option linter.unusedSimpArgs false
namespace Go.Sl
def keepAt (d : Dk) (k : Int) (i : Nat) : Int := if i ≤ d.lasts then k else k - ((usedL (d.lines.take i) : Int) - (usedL (d.lines.take d.lasts) : Int))
structure CrashI (d : Dk) (k : Int) (i : Nat) : Prop where
  nn : 0 ≤ keepAt d k i
  eq : d.lasts ≤ i → d.lasts + fitN k (d.lines.drop d.lasts) = i + fitN (keepAt d k i) (d.lines.drop i)
theorem keepAt_le {d : Dk} {k : Int} {i : Nat} : keepAt d k i ≤ k := by
  unfold keepAt
  split
  · omega
  · rename_i h
    have h1 := usedL_app (d.lines.take d.lasts) ((d.lines.take i).drop d.lasts)
    have h2 : d.lines.take d.lasts = (d.lines.take i).take d.lasts := by rw [List.take_take, Nat.min_eq_left (by omega)]
    rw [h2, List.take_append_drop] at h1
    rw [h2]; omega
theorem crashI_zero {d : Dk} {k : Int} (hk : 0 ≤ k) : CrashI d k 0 := by
  have e : keepAt d k 0 = k := by unfold keepAt; rw [if_pos (Nat.zero_le _)]
  refine ⟨by rw [e]; exact hk, fun h => ?_⟩
  obtain h0 : d.lasts = 0 := by omega
  rw [e, h0]
theorem crashI_old {d : Dk} {k : Int} {i : Nat} (h : CrashI d k i) (hi : i < d.lasts) : CrashI d k (i + 1) ∧ keepAt d k (i + 1) = keepAt d k i := by
  have e1 : keepAt d k i = k := by unfold keepAt; rw [if_pos (by omega)]
  have e2 : keepAt d k (i + 1) = k := by unfold keepAt; rw [if_pos (by omega)]
  refine ⟨⟨by rw [e2, ← e1]; exact h.nn, fun hl => ?_⟩, by rw [e1, e2]⟩
  obtain h0 : d.lasts = i + 1 := by omega
  rw [e2, h0]
theorem crashI_new {d : Dk} {k : Int} {i : Nat} {s : ByteArray} (h : CrashI d k i) (hi : d.lasts ≤ i) (hs : d.lines[i]? = some s) (hk : ¬ keepAt d k i - ((s.size : Int) + 1) < 0) :
    CrashI d k (i + 1) ∧ keepAt d k (i + 1) = keepAt d k i - ((s.size : Int) + 1) := by
  have hu := usedL_step hs
  have e : keepAt d k (i + 1) = keepAt d k i - ((s.size : Int) + 1) := by
    unfold keepAt
    rw [if_neg (by omega)]
    split
    · obtain h0 : i = d.lasts := by omega
      subst h0; omega
    · omega
  have hd : d.lines.drop i = s :: d.lines.drop (i + 1) := by
    obtain ⟨h1, h2⟩ := List.getElem?_eq_some_iff.1 hs
    rw [List.drop_eq_getElem_cons h1, h2]
  refine ⟨⟨by rw [e]; omega, fun _ => ?_⟩, e⟩
  rw [h.eq hi, hd, e]
  simp only [fitN]
  rw [if_neg (by omega)]; omega
theorem crashI_stop {d : Dk} {k : Int} {i : Nat} {s : ByteArray} (h : CrashI d k i) (hi : d.lasts ≤ i) (hs : d.lines[i]? = some s) (hk : keepAt d k i - ((s.size : Int) + 1) < 0) : d.lasts + fitN k (d.lines.drop d.lasts) = i := by
  have hd : d.lines.drop i = s :: d.lines.drop (i + 1) := by
    obtain ⟨h1, h2⟩ := List.getElem?_eq_some_iff.1 hs
    rw [List.drop_eq_getElem_cons h1, h2]
  rw [h.eq hi, hd]
  simp only [fitN]
  rw [if_pos (by omega)]; rfl
theorem crashI_done {d : Dk} {k : Int} (h : CrashI d k d.lines.length) (hl : d.lasts ≤ d.lines.length) : d.lasts + fitN k (d.lines.drop d.lasts) = d.lines.length := by
  rw [h.eq hl, List.drop_length]; rfl
theorem max0 (k : Int) : (if k < 0 then 0 else k) = max k 0 := by
  split <;> omega
end Go.Sl

set_option linter.unusedVariables false
set_option linter.unusedSectionVars false
set_option linter.unusedSimpArgs false
namespace Go.Sl
section
variable {P : Program} [tb : Tab P] {rd : Option Nat} {N : Nat} {T : TT} {L L' L1 E : List HP} {Q : Post} {ks : List K}
variable {all : Array Oper} {rest : List Oper} {restX : XO} {d : Option Tmp} {ty : TypeId} {pos : String} {aft : Array Edge}
def neqN : Value → Option Bool
  | .nilIface => some false
  | .iface _ _ => some true
  | _ => none
theorem rd_neqNil {x : Operand} {t cx : Nat} {v : Value} {r : Bool} {ms : Array (String × Nat)} (hx : evO T x = some v) (hv : neqN v = some r) (hu : P.underlying t = some (.interface ms)) :
    Reads P T L ⟨d, .binOp .neq t x (.const .nilIface) cx, ty, pos, aft, none⟩ (fun u L' => u = .bool r ∧ L' = L) := by
  intro q hq rr oo F hs
  refine ⟨_, L, ⟨rfl, rfl⟩, hs, fun w sat => ?_⟩
  have hc : q (.const .nilIface) = .nilIface := hq _ _ rfl
  have hg : (eqGuard .neq t x (.const .nilIface) v .nilIface).run P w = .ok () w := by
    have key : ∀ (x : Operand) (v : Value), neqN v = some r → (eqGuard .neq t x (.const .nilIface) v .nilIface).run P w = .ok () w := by
      intro x v h
      cases v <;> simp only [neqN] at h <;> first | (cases h; done) | (cases x <;> rfl)
    exact key x v hv
  have he : (Op.equal t v .nilIface).run P w = .ok (!r) w := by
    unfold Op.equal
    rw [show Op.maxDepth = 9999 + 1 from rfl]
    cases v <;> simp only [neqN] at hv <;> cases hv
    · unfold Op.equalIn
      rw [Sem.run_bind, run_und hu, Result.andThen_ok]; rfl
    · unfold Op.equalIn
      rw [Sem.run_bind, run_und hu, Result.andThen_ok]; rfl
  have hb : (binOp .neq t v .nilIface).run P w = .ok (.bool r) w := by
    have e : binOp .neq t v .nilIface = (do Pure.pure (.bool (!(← Op.equal t v .nilIface)))) := by
      cases v <;> rfl
    rw [e, Sem.run_bind, he, Result.andThen_ok, Sem.run_pure, Bool.not_not]
  simp only [execOp, hq _ _ hx, hc, Sem.run_bind, hg, Result.andThen_ok, hb, Sem.run_pure]
theorem SO.neqNil {x : Operand} {t cx : Nat} {v : Value} {r : Bool} {ms : Array (String × Nat)} (hx : evO T x = some v) (hv : neqN v = some r) (hu : P.underlying t = some (.interface ms)) (hd : dstOk N d = true)
    (kk : SO P rd N all rest (putD d (.bool r) T) L ks Q) : SO P rd N all (⟨d, .binOp .neq t x (.const .nilIface) cx, ty, pos, aft, none⟩ :: rest) T L ks Q :=
  SO.reads (rd_neqNil hx hv hu) rfl rfl hd (by rintro _ _ ⟨rfl, rfl⟩; exact kk)
end
end Go.Sl

set_option linter.unusedVariables false
set_option linter.unusedSimpArgs false
namespace Go.Sl
structure MapOk (m : List (Int × Int)) : Prop where
  len : 0 < m.length ∧ m.length ≤ 1048576
  zero : ∀ x, m[0]? = some x → x.1 = 0
  ris : ∀ i x y, m[i]? = some x → m[i + 1]? = some y → x.1 ≤ y.1
  bd : ∀ x ∈ m, 0 ≤ x.1 ∧ x.1 ≤ 2147483647 ∧ 1 ≤ x.2 ∧ x.2 ≤ 8
def lastS (m : List (Int × Int)) : Nat → Int
  | 0 => 0
  | j + 1 => (m.getD j (0, 0)).1
theorem MapOk.at_ {m : List (Int × Int)} (h : MapOk m) {j : Nat} {x : Int × Int} (hx : m[j]? = some x) : (j = 0 → x.1 = 0) ∧ lastS m j ≤ x.1 ∧ lastS m (j + 1) = x.1 := by
  have e : lastS m (j + 1) = x.1 := by
    show (m.getD j (0, 0)).1 = _
    rw [List.getD, hx]; rfl
  refine ⟨fun hj => h.zero x (by rw [← hj]; exact hx), ?_, e⟩
  cases j with
  | zero => exact (h.bd x (List.mem_of_getElem? hx)).1
  | succ j =>
    show (m.getD j (0, 0)).1 ≤ _
    have hj : j < m.length := by
      have := (List.getElem?_eq_some_iff.1 hx).1
      omega
    rw [List.getD, List.getElem?_eq_getElem hj]
    exact h.ris j _ x (List.getElem?_eq_getElem hj) hx
def findI (m : List (Int × Int)) (pos : Int) : Nat → Nat
  | 0 => 0
  | i + 1 => if pos < (m.getD (i + 1) (0, 1)).1 then findI m pos i else i + 1
def spanI (m : List (Int × Int)) (pos : Int) : Nat := findI m pos (m.length - 1)
def spanAt (m : List (Int × Int)) (pos : Int) : Int × Int := m.getD (spanI m pos) (0, 1)
def epochM (m : List (Int × Int)) (pos : Int) : Int := (spanI m pos : Int) + 1
def stripeM (m : List (Int × Int)) (pos : Int) : Nat := ((pos - (spanAt m pos).1).toNat) % (spanAt m pos).2.toNat
theorem findI_le (m : List (Int × Int)) (pos : Int) : ∀ i, findI m pos i ≤ i
  | 0 => Nat.le_refl _
  | i + 1 => by
    unfold findI
    split
    · exact Nat.le_succ_of_le (findI_le m pos i)
    · exact Nat.le_refl _
theorem spanI_lt {m : List (Int × Int)} (h : MapOk m) (pos : Int) : spanI m pos < m.length := by
  have := findI_le m pos (m.length - 1)
  have := h.len.1
  unfold spanI; omega
theorem findI_at {m : List (Int × Int)} (h : MapOk m) {pos : Int} (hp : 0 ≤ pos) : ∀ i, i < m.length → (m.getD (findI m pos i) (0, 1)).1 ≤ pos
  | 0, hi => by
    show (m.getD 0 (0, 1)).1 ≤ pos
    rw [List.getD, List.getElem?_eq_getElem hi]
    have := h.zero _ (List.getElem?_eq_getElem hi)
    show (m[0]).1 ≤ pos
    omega
  | i + 1, hi => by
    unfold findI
    split
    · exact findI_at h hp i (by omega)
    · omega
theorem span_at {m : List (Int × Int)} (h : MapOk m) {pos : Int} (hp : 0 ≤ pos) : m[spanI m pos]? = some (spanAt m pos) ∧ 0 ≤ (spanAt m pos).1 ∧ (spanAt m pos).1 ≤ pos ∧ 1 ≤ (spanAt m pos).2 ∧ (spanAt m pos).2 ≤ 8 := by
  have hl := spanI_lt h pos
  have e : m[spanI m pos]? = some (spanAt m pos) := by
    unfold spanAt
    rw [List.getD, List.getElem?_eq_getElem hl]; rfl
  have hb := h.bd _ (List.mem_of_getElem? e)
  exact ⟨e, hb.1, findI_at h hp _ (by have := h.len.1; omega), hb.2.2.1, hb.2.2.2⟩
theorem stripe_lt {m : List (Int × Int)} (h : MapOk m) {pos : Int} (hp : 0 ≤ pos) : stripeM m pos < 8 := by
  obtain ⟨_, _, _, h3, h4⟩ := span_at h hp
  unfold stripeM
  have := Nat.mod_lt (pos - (spanAt m pos).1).toNat (show 0 < (spanAt m pos).2.toNat by omega)
  omega
def withI (l : List Int) (s : Nat) (q : Int) : List Int := (l ++ List.replicate (s + 1 - l.length) 0).set s q
theorem withI_len (l : List Int) (s : Nat) (q : Int) : (withI l s q).length = max l.length (s + 1) := by
  unfold withI
  rw [List.length_set, List.length_append, List.length_replicate]; omega
def coversB (k l : List Int) : Bool := (List.range (max k.length l.length)).all fun i => !decide (getI k (i : Int) < getI l (i : Int))
end Go.Sl

set_option linter.unusedVariables false
set_option linter.unusedSimpArgs false
namespace Go.Sl
def RSp : Rep (Int × Int) where
  V := Unit
  sz := 2
  agg := true
  cells := fun x _ => [.int .i64 x.1, .int .i64 x.2]
  atoms := fun _ _ => []
  len := fun _ _ => rfl
  pers := fun _ _ _ h => by cases h
  pos := by decide
  sc := fun h => by cases h
  one := fun _ _ v h => by
    simp only [List.mem_cons, List.mem_nil_iff, or_false] at h
    rcases h with rfl | rfl <;> rfl
  wit := fun _ h => h ()
def RPt : Rep Nat where
  V := Unit
  sz := 1
  agg := false
  cells := fun x _ => [.pointer (some ⟨x, 0, none⟩)]
  atoms := fun _ _ => []
  len := fun _ _ => rfl
  pers := fun _ _ _ h => by cases h
  pos := by decide
  sc := fun _ => rfl
  one := fun _ _ v h => by simp at h; subst h; rfl
  wit := fun _ h => h ()
structure SB where
  sb : Nat
  db : Nat
  mb : Nat
  p : Pl
  s : Sg
  d : Dk
def SB.v (x : SB) : Sg × Dk := (x.s, x.d)
abbrev sbAt (x : SB) : List HP := sgAt x.sb x.db x.mb x.s ++ dkAt x.db x.p x.d
def sbsL : List SB → List HP
  | [] => []
  | x :: l => sbAt x ++ sbsL l
def sbsA (l : List SB) : HP := big (sbsL l)
theorem sbsL_app : ∀ (a b : List SB), sbsL (a ++ b) = sbsL a ++ sbsL b
  | [], b => rfl
  | x :: a, b => by simp only [List.cons_append, sbsL, sbsL_app a b, List.append_assoc]
theorem ent_rot {A B L : List HP} : Ent (A ++ (B ++ L)) (B ++ (A ++ L)) := by
  have h : ∀ (A : List HP) (X : HP) (L : List HP), Ent (A ++ X :: L) (X :: (A ++ L)) := by
    intro A X L
    induction A with
    | nil => exact Ent.refl _
    | cons Y A ih => exact (Ent.cons (A := Y) ih).trans Ent.swap
  induction B generalizing A with
  | nil => exact Ent.refl _
  | cons X B ih => exact (h A X (B ++ L)).trans (Ent.cons ih)
theorem big_app {A B L : List HP} : Ent (big (A ++ B) :: L) (big A :: big B :: L) := by
  refine ent_big.trans ?_
  rw [List.append_assoc]
  refine Ent.trans ?_ (big_ent (A := A) (L := big B :: L))
  intro r o h
  have h2 := ent_rot (A := A) (B := B) (L := L) r o h
  have h3 := (ent_rot (A := [big B]) (B := A) (L := L)) r o (big_ent (A := B) (L := A ++ L) r o h2)
  exact h3
theorem app_big {A B L : List HP} : Ent (big A :: big B :: L) (big (A ++ B) :: L) := by
  refine Ent.trans ?_ big_ent
  rw [List.append_assoc]
  refine (ent_big (A := A) (L := big B :: L)).trans ?_
  intro r o h
  have h2 := (ent_rot (A := A) (B := [big B]) (L := L)) r o h
  exact ent_rot (A := B) (B := A) (L := L) r o (ent_big (A := B) (L := A ++ L) r o h2)
def sbsH (l : List SB) (k : Nat) : HP := big (sbsL (l.take k ++ l.drop (k + 1)))
theorem sbs_open {l : List SB} {k : Nat} {x : SB} {L : List HP} (h : l[k]? = some x) : Ent (sbsA l :: L) (sbAt x ++ (sbsH l k :: L)) := by
  obtain ⟨hk, rfl⟩ := List.getElem?_eq_some_iff.1 h
  have e : l = l.take k ++ l[k] :: l.drop (k + 1) := by rw [List.getElem_cons_drop]; exact (List.take_append_drop k l).symm
  have e2 : sbsL l = sbsL (l.take k) ++ (sbAt l[k] ++ sbsL (l.drop (k + 1))) := by
    conv => lhs; rw [e]
    rw [sbsL_app]; rfl
  unfold sbsA sbsH
  rw [e2, sbsL_app]
  refine big_app.trans ?_
  intro r o h
  have h2 := (Ent.cons (A := big (sbsL (l.take k))) (big_app (A := sbAt l[k]) (B := sbsL (l.drop (k + 1))) (L := L))) r o h
  have h3 := Ent.swap r o h2
  have h4 := (Ent.cons (A := big (sbAt l[k])) (app_big (A := sbsL (l.take k)) (B := sbsL (l.drop (k + 1))) (L := L))) r o h3
  exact ent_big (A := sbAt l[k]) r o h4
theorem sbs_shut {l : List SB} {k : Nat} {x : SB} {L : List HP} (hk : k < l.length) : Ent (sbAt x ++ (sbsH l k :: L)) (sbsA (l.set k x) :: L) := by
  have e2 : sbsL (l.set k x) = sbsL (l.take k) ++ (sbAt x ++ sbsL (l.drop (k + 1))) := by
    rw [List.set_eq_take_append_cons_drop, if_pos hk, sbsL_app]; rfl
  unfold sbsA sbsH
  rw [e2, sbsL_app]
  intro r o h
  have h1 := big_ent (A := sbAt x) r o h
  have h2 := (Ent.cons (A := big (sbAt x)) (big_app (A := sbsL (l.take k)) (B := sbsL (l.drop (k + 1))) (L := L))) r o h1
  have h3 := Ent.swap r o h2
  have h4 := (Ent.cons (A := big (sbsL (l.take k))) (app_big (A := sbAt x) (B := sbsL (l.drop (k + 1))) (L := L))) r o h3
  exact app_big (A := sbsL (l.take k)) r o h4
structure Lg where
  ob : Nat
  op : Pl
  own : Dk
  sA : Pl
  segs : List SB
  mA : Pl
  m : List (Int × Int)
  trim : Nat
  gA : Pl
  gone : List Int
  next : Nat
  down : Bool
abbrev lgHd (lb : Nat) (g : Lg) : List HP :=
  [pts lb 0 [.pointer (some ⟨g.ob, 0, none⟩), .slice g.sA.1 g.segs.length g.sA.2, .slice g.mA.1 g.m.length g.mA.2, .int .i64 (g.trim : Int), .slice g.gA.1 g.gone.length g.gA.2, .int .i64 (g.next : Int), .bool g.down],
    sqAt true RPt g.sA.1 g.segs.length g.sA.2 (g.segs.map (·.sb)), slAt RSp g.mA.1 g.m.length g.m]
abbrev lgAt (lb : Nat) (g : Lg) : List HP :=
  [pts lb 0 [.pointer (some ⟨g.ob, 0, none⟩), .slice g.sA.1 g.segs.length g.sA.2, .slice g.mA.1 g.m.length g.mA.2, .int .i64 (g.trim : Int), .slice g.gA.1 g.gone.length g.gA.2, .int .i64 (g.next : Int), .bool g.down],
    sqAt true RPt g.sA.1 g.segs.length g.sA.2 (g.segs.map (·.sb)), slAt RSp g.mA.1 g.m.length g.m, slAt RI g.gA.1 g.gone.length g.gone, pr (g.gone.length ≤ g.gA.2),
    pts g.ob 0 [.int .i64 g.own.room, .slice g.op.1 g.own.lines.length g.op.2, .int .i64 (g.own.lasts : Int)], sqAt false RS g.op.1 g.own.lines.length g.op.2 g.own.lines, sbsA g.segs]
abbrev lgPre (lb : Nat) (g : Lg) : List HP :=
  [pts lb 0 [.pointer (some ⟨g.ob, 0, none⟩), .slice g.sA.1 g.segs.length g.sA.2, .slice g.mA.1 g.m.length g.mA.2, .int .i64 (g.trim : Int), .slice g.gA.1 g.gone.length g.gA.2, .int .i64 (g.next : Int), .bool g.down],
    sqAt true RPt g.sA.1 g.segs.length g.sA.2 (g.segs.map (·.sb)), slAt RSp g.mA.1 g.m.length g.m, slAt RI g.gA.1 g.gone.length g.gone, pr (g.gone.length ≤ g.gA.2),
    pts g.ob 0 [.int .i64 g.own.room, .slice g.op.1 g.own.lines.length g.op.2, .int .i64 (g.own.lasts : Int)], sqAt false RS g.op.1 g.own.lines.length g.op.2 g.own.lines]
theorem ent_sbs {A L L' : List HP} {l : List SB} {k : Nat} {x : SB} (hk : k < l.length) (hh : Takes ((sbAt x ++ [sbsH l k]) ++ A) L L') : Ent L (A ++ [sbsA (l.set k x)]) := by
  refine (ent_append_of_takes hh).trans ?_
  rw [List.append_assoc]
  exact (sbs_shut (L := A) hk).trans (by
    intro r o h
    have := ent_rot (A := [sbsA (l.set k x)]) (B := A) (L := []) r o (by simpa using h)
    simpa using this)
theorem ent_lg {lb : Nat} {g : Lg} {L L' : List HP} {k : Nat} {x : SB} (hx : g.segs[k]? = some x) (hh : Takes ((sbAt x ++ [sbsH g.segs k]) ++ lgPre lb g) L L') : Ent L (lgAt lb g) := by
  obtain ⟨hk, e⟩ := List.getElem?_eq_some_iff.1 hx
  have h := ent_sbs hk hh
  rw [← e, List.set_getElem_self] at h
  exact h
structure LgOk (g : Lg) : Prop where
  m : MapOk g.m
  len : g.segs.length = 8
  own : g.own.Ok
  dk : ∀ x ∈ g.segs, x.d.Ok
  bd : g.trim ≤ g.next ∧ g.next ≤ 1000000
def SB.upd (x : SB) (p : Pl) (y : Sg × Dk) : SB := { x with p := p, s := y.1, d := y.2 }
def Lg.at (g : Lg) (pos : Int) : Option SB := g.segs[stripeM g.m pos]?
theorem LgOk.at_ {g : Lg} (h : LgOk g) {pos : Int} (hp : 0 ≤ pos) : ∃ x, g.segs[stripeM g.m pos]? = some x := by
  have := stripe_lt h.m hp
  exact ⟨_, List.getElem?_eq_getElem (by rw [h.len]; exact this)⟩
def Lg.putG (g : Lg) (x : SB) (p : Pl) (y : Int × Sg × Dk) : Lg := { g with segs := g.segs.set (stripeM g.m g.next) (x.upd p y.2), next := if y.1 = 0 then g.next + 1 else g.next }
theorem sb_map {l : List SB} {k : Nat} {x : SB} (h : l[k]? = some x) {p : Pl} {y : Sg × Dk} : (l.set k (x.upd p y)).map (·.sb) = l.map (·.sb) := by
  obtain ⟨hk, rfl⟩ := List.getElem?_eq_some_iff.1 h
  rw [List.map_set]
  show (l.map (·.sb)).set k l[k].sb = _
  have : l[k].sb = (l.map (·.sb))[k]'(by rw [List.length_map]; exact hk) := by rw [List.getElem_map]
  rw [this, List.set_getElem_self]
section
variable {P : Program} [tb : Tab P] {rd : Option Nat} {N : Nat} {T : TT} {L L' : List HP} {Q : Post} {ks : List K}
theorem SK.sbsOpen {c : Code} {l : List SB} {k : Nat} {x : SB} (hh : Take (sbsA l) L L') (hx : l[k]? = some x) (h : SK P rd N (.code c :: ks) T (sbAt x ++ (sbsH l k :: L')) Q) : SK P rd N (.code c :: ks) T L Q :=
  SK.shift (fun F w hst => hst.ent (Ent.cons (hh.ent.trans (sbs_open hx)))) h
theorem SK.sbsShut {c : Code} {l : List SB} {k : Nat} (x : SB) (hk : k < l.length) (hh : Takes (sbAt x ++ [sbsH l k]) L L') (h : SK P rd N (.code c :: ks) T (sbsA (l.set k x) :: L') Q) : SK P rd N (.code c :: ks) T L Q :=
  SK.shift (fun F w hst => hst.ent (Ent.cons (hh.ent.trans (by
    rw [List.append_assoc]
    exact sbs_shut hk)))) h
theorem SK.sbsBack {c : Code} {l : List SB} {k : Nat} (x : SB) (hx : l[k]? = some x) (hh : Takes (sbAt x ++ [sbsH l k]) L L') (h : SK P rd N (.code c :: ks) T (sbsA l :: L') Q) : SK P rd N (.code c :: ks) T L Q := by
  obtain ⟨hk, e⟩ := List.getElem?_eq_some_iff.1 hx
  have e2 : l.set k x = l := by rw [← e, List.set_getElem_self]
  refine SK.sbsShut x hk hh ?_
  rw [e2]; exact h
end
end Go.Sl
namespace Go.Sl
def Lg.get (g : Lg) (pos : Int) : Rc × Int :=
  if g.down = true then (rc0, 11) else if pos < 0 then (rc0, 1) else if pos < g.trim then (rc0, 8) else if (g.next : Int) ≤ pos then (rc0, 9) else
    match g.segs[stripeM g.m pos]? with
    | some x => x.s.get pos
    | none => (rc0, 9)
def Lg.rcd (g : Lg) (p : Nat) : Rc := match g.segs[stripeM g.m p]? with
  | some x => (x.s.get p).1
  | none => rc0
def Lg.lasts (g : Lg) (p : Nat) : Bool := match g.segs[stripeM g.m p]? with
  | some x => x.s.lastsAt x.d p
  | none => false
def headF (g : Lg) : Nat → Nat → Nat
  | 0, p => p
  | k + 1, p => if g.lasts p = true then headF g k (p + 1) else p
def Lg.head (g : Lg) : Nat := if g.down = true then 0 else headF g (g.next - g.trim) g.trim
def vecF (g : Lg) : Nat → Nat → List Int → List Int
  | 0, _, v => v
  | k + 1, p, v => vecF g k (p + 1) (withI v (g.rcd p).site.toNat (g.rcd p).seq)
theorem headF_le (g : Lg) : ∀ k p, p ≤ headF g k p ∧ headF g k p ≤ p + k
  | 0, p => ⟨Nat.le_refl _, Nat.le_refl _⟩
  | k + 1, p => by
    unfold headF
    have := headF_le g k (p + 1)
    split <;> omega
def Lg.sync (g : Lg) (k : Nat) (x : SB) : Lg := { g with segs := g.segs.set k (x.upd x.p (x.s, x.d.sync)) }
end Go.Sl

set_option linter.unusedVariables false
namespace Go.Sl
section
variable {α : Type} (f : α → List HP)
def famL : List α → List HP
  | [] => []
  | x :: l => f x ++ famL l
def famA (l : List α) : HP := big (famL f l)
theorem famL_app : ∀ (a b : List α), famL f (a ++ b) = famL f a ++ famL f b
  | [], b => rfl
  | x :: a, b => by simp only [List.cons_append, famL, famL_app a b, List.append_assoc]
def famH (l : List α) (k : Nat) : HP := big (famL f (l.take k ++ l.drop (k + 1)))
variable {f}
theorem fam_open {l : List α} {k : Nat} {x : α} {L : List HP} (h : l[k]? = some x) : Ent (famA f l :: L) (f x ++ (famH f l k :: L)) := by
  obtain ⟨hk, rfl⟩ := List.getElem?_eq_some_iff.1 h
  have e : l = l.take k ++ l[k] :: l.drop (k + 1) := by rw [List.getElem_cons_drop]; exact (List.take_append_drop k l).symm
  have e2 : famL f l = famL f (l.take k) ++ (f l[k] ++ famL f (l.drop (k + 1))) := by
    conv => lhs; rw [e]
    rw [famL_app]; rfl
  unfold famA famH
  rw [e2, famL_app]
  refine big_app.trans ?_
  intro r o h
  have h2 := (Ent.cons (A := big (famL f (l.take k))) (big_app (A := f l[k]) (B := famL f (l.drop (k + 1))) (L := L))) r o h
  have h3 := Ent.swap r o h2
  have h4 := (Ent.cons (A := big (f l[k])) (app_big (A := famL f (l.take k)) (B := famL f (l.drop (k + 1))) (L := L))) r o h3
  exact ent_big (A := f l[k]) r o h4
theorem fam_shut {l : List α} {k : Nat} {x : α} {L : List HP} (hk : k < l.length) : Ent (f x ++ (famH f l k :: L)) (famA f (l.set k x) :: L) := by
  have e2 : famL f (l.set k x) = famL f (l.take k) ++ (f x ++ famL f (l.drop (k + 1))) := by
    rw [List.set_eq_take_append_cons_drop, if_pos hk, famL_app]; rfl
  unfold famA famH
  rw [e2, famL_app]
  intro r o h
  have h1 := big_ent (A := f x) r o h
  have h2 := (Ent.cons (A := big (f x)) (big_app (A := famL f (l.take k)) (B := famL f (l.drop (k + 1))) (L := L))) r o h1
  have h3 := Ent.swap r o h2
  have h4 := (Ent.cons (A := big (famL f (l.take k))) (app_big (A := f x) (B := famL f (l.drop (k + 1))) (L := L))) r o h3
  exact app_big (A := famL f (l.take k)) r o h4
theorem fam_push {l : List α} {x : α} {L : List HP} : Ent (f x ++ (famA f l :: L)) (famA f (l ++ [x]) :: L) := by
  intro r o h
  have h1 := big_ent (A := f x) (L := famA f l :: L) r o h
  have h2 := Ent.swap r o h1
  unfold famA
  rw [famL_app]
  have e : famL f [x] = f x := by simp [famL]
  rw [e]
  exact app_big (A := famL f l) (B := f x) r o h2
theorem ent_famPush {A L L' : List HP} {l : List α} {x : α} (hh : Takes ((f x ++ [famA f l]) ++ A) L L') : Ent L (A ++ [famA f (l ++ [x])]) := by
  refine (ent_append_of_takes hh).trans ?_
  rw [List.append_assoc]
  refine (fam_push (f := f) (l := l) (x := x) (L := A)).trans ?_
  intro r o h
  have := ent_rot (A := [famA f (l ++ [x])]) (B := A) (L := []) r o (by simpa using h)
  simpa using this
theorem fam_nil {L : List HP} : Ent L (famA f [] :: L) := fun r o h => big_ent (A := []) r o h
theorem ent_fam {A L L' : List HP} {l : List α} {k : Nat} {x : α} (hx : l[k]? = some x) (hh : Takes ((f x ++ [famH f l k]) ++ A) L L') : Ent L (A ++ [famA f l]) := by
  obtain ⟨hk, e⟩ := List.getElem?_eq_some_iff.1 hx
  have e2 : l.set k x = l := by rw [← e, List.set_getElem_self]
  refine (ent_append_of_takes hh).trans ?_
  rw [List.append_assoc]
  refine (fam_shut (f := f) (L := A) hk).trans ?_
  rw [e2]
  intro r o h
  have := ent_rot (A := [famA f l]) (B := A) (L := []) r o (by simpa using h)
  simpa using this
section
variable {P : Program} [tb : Tab P] {rd : Option Nat} {N : Nat} {T : TT} {L L' : List HP} {Q : Post} {ks : List K}
theorem SK.famOpen {c : Code} {l : List α} {k : Nat} {x : α} (hh : Take (famA f l) L L') (hx : l[k]? = some x) (h : SK P rd N (.code c :: ks) T (f x ++ (famH f l k :: L')) Q) : SK P rd N (.code c :: ks) T L Q :=
  SK.shift (fun F w hst => hst.ent (Ent.cons (hh.ent.trans (fam_open hx)))) h
theorem SK.famShut {c : Code} {l : List α} {k : Nat} (x : α) (hk : k < l.length) (hh : Takes (f x ++ [famH f l k]) L L') (h : SK P rd N (.code c :: ks) T (famA f (l.set k x) :: L') Q) : SK P rd N (.code c :: ks) T L Q :=
  SK.shift (fun F w hst => hst.ent (Ent.cons (hh.ent.trans (by
    rw [List.append_assoc]
    exact fam_shut hk)))) h
theorem SK.famBack {c : Code} {l : List α} {k : Nat} (x : α) (hx : l[k]? = some x) (hh : Takes (f x ++ [famH f l k]) L L') (h : SK P rd N (.code c :: ks) T (famA f l :: L') Q) : SK P rd N (.code c :: ks) T L Q := by
  obtain ⟨hk, e⟩ := List.getElem?_eq_some_iff.1 hx
  have e2 : l.set k x = l := by rw [← e, List.set_getElem_self]
  refine SK.famShut x hk hh ?_
  rw [e2]; exact h
end
end
end Go.Sl

set_option linter.unusedVariables false
set_option linter.unusedSimpArgs false
namespace Go.Sl
def Sg.upto (s : Sg) (i : Nat) : Sg := { s with m := s.m.filter fun p => decide (p.2.2 < i) }
theorem upto_all {s : Sg} {i : Nat} (h : ∀ p ∈ s.m, p.2.2 < i) : s.upto i = s := by
  unfold Sg.upto
  rw [List.filter_eq_self.2 fun p hp => decide_eq_true (h p hp)]
theorem upto_upto {s : Sg} {i : Nat} : (s.upto i).upto i = s.upto i := upto_all fun p hp => of_decide_eq_true (List.mem_filter.1 hp).2
structure SgI (s : Sg) (d : Dk) : Prop where
  ok : d.Ok
  lt : ∀ p ∈ s.m, p.2.2 < d.lines.length
  nd : (keysM s.m).Nodup
  fr : ∀ i, d.lasts ≤ i → i ≤ d.lines.length → (⟨[], 0, 0⟩ : Sg).plays 0 (txs (d.lines.take i)) = some (s.upto i)
theorem SgI.ply {s : Sg} {d : Dk} (h : SgI s d) : Ply s d := ⟨h.ok, by
  have := h.fr d.lines.length h.ok.lasts (Nat.le_refl _)
  rwa [List.take_length, upto_all h.lt] at this⟩
theorem sgi_zero {room : Int} (h : 1 ≤ room ∧ room ≤ 1048576) : SgI ⟨[], 0, 0⟩ ⟨room, [], 0⟩ :=
  ⟨⟨h, by show ((0 : Nat) : Int) ≤ room; omega, Nat.le_refl _⟩, (by intro p hp; cases hp), List.nodup_nil, fun i h1 h2 => by
    have : i = 0 := Nat.le_zero.1 h2
    subst this; rfl⟩
theorem mput_nodup {l : List (Int × Slt)} {n : Int} {x : Slt} (h : mget l n = none) (hd : (keysM l).Nodup) : (keysM (mput l n x)).Nodup := by
  rw [mput_end h]
  unfold keysM at hd ⊢
  rw [List.map_append, List.nodup_append]
  refine ⟨hd, by simp, ?_⟩
  intro a ha b hb
  simp only [List.map_cons, List.map_nil, List.mem_singleton] at hb
  subst hb
  rintro rfl
  have : (mget l a).isSome = true := mget_isSome.2 ha
  rw [h] at this; cases this
theorem sgi_put {s : Sg} {d : Dk} {n : Nat} {r : Rc} (h : SgI s d) (hn : n ≤ 2147483647) (h3 : s.trim ≤ n) (h4 : mget s.m (n : Int) = none) (h5 : checkR r 8 = 0) (ht : r.trim = r) (hr : (usedL d.lines : Int) + (lineP n r).length + 1 ≤ d.room) :
    SgI { s with m := mput s.m (n : Int) (r, d.lines.length) } { d with lines := d.lines ++ [txB (lineP n r)] } := by
  have hp := push_ok (t := lineP n r) (n := d.lasts) h.ok (by have := h.ok.lasts; omega) hr
  refine ⟨hp, ?_, mput_nodup h4 h.nd, ?_⟩
  · intro p hp
    simp only at hp ⊢
    rw [mput_end h4] at hp
    rw [List.length_append]
    rcases List.mem_append.1 hp with hp | hp
    · have := h.lt p hp; simp; omega
    · simp at hp; subst hp; simp
  · intro i h1 h2
    simp only at h1 h2 ⊢
    rw [List.length_append] at h2
    simp only [List.length_cons, List.length_nil] at h2
    rcases Nat.lt_or_ge d.lines.length i with hlt | hle
    · have hi : i = d.lines.length + 1 := by omega
      have hall : ∀ p ∈ mput s.m (n : Int) (r, d.lines.length), p.2.2 < i := by
        intro p hp
        rw [mput_end h4] at hp
        rcases List.mem_append.1 hp with hp | hp
        · have := h.lt p hp; omega
        · simp at hp; subst hp; show d.lines.length < i; omega
      rw [upto_all (s := { s with m := mput s.m (n : Int) (r, d.lines.length) }) hall, List.take_of_length_le (by rw [List.length_append]; simp; omega)]
      exact (ply_push h.ply (take_put hn h3 h4 h5 ht) (n := d.lasts) (by have := h.ok.lasts; omega) hr).pl
    · rw [List.take_append_of_le_length hle, h.fr i h1 hle]
      congr 1
      unfold Sg.upto
      simp only [mput_end h4, List.filter_append]
      rw [List.filter_cons_of_neg (by simpa using hle)]
      simp
theorem sgi_note {s s' : Sg} {d : Dk} {t : Tx} (h : SgI s d) (ht : s.take d.lines.length t = some s') (hs : ∀ p ∈ s'.m, p ∈ s.m) (hd : (keysM s'.m).Nodup) (hr : (usedL d.lines : Int) + t.length + 1 ≤ d.room) : SgI s' ⟨d.room, d.lines ++ [txB t], d.lines.length + 1⟩ := by
  have hp := ply_push h.ply ht (n := d.lines.length + 1) (Nat.le_refl _) hr
  have hl : ∀ p ∈ s'.m, p.2.2 < d.lines.length + 1 := fun p hp => by have := h.lt p (hs p hp); omega
  refine ⟨hp.ok, fun p hp => by rw [List.length_append]; exact hl p hp, hd, fun i h1 h2 => ?_⟩
  simp only [List.length_append, List.length_cons, List.length_nil] at h1 h2 ⊢
  have hi : i = d.lines.length + 1 := by omega
  subst hi
  rw [upto_all hl, List.take_of_length_le (by rw [List.length_append]; simp)]
  exact hp.pl
theorem SgI.sync {s : Sg} {d : Dk} (h : SgI s d) : SgI s d.sync := ⟨h.ok.sync, h.lt, h.nd, fun i h1 h2 => h.fr i (Nat.le_trans h.ok.lasts h1) h2⟩
theorem filter_nodup {l : List (Int × Slt)} (f : Int × Slt → Bool) (h : (keysM l).Nodup) : (keysM (l.filter f)).Nodup := by
  unfold keysM at h ⊢
  exact h.sublist (List.Sublist.map _ List.filter_sublist)
theorem kept_ge (d : Dk) (k : Int) : d.lasts ≤ keptD d k := Nat.le_add_right _ _
theorem SgI.crash {s : Sg} {d : Dk} (h : SgI s d) (k : Int) : SgI (s.upto (keptD d k)) (d.crash k) := by
  have h1 := kept_ge d k
  have h2 := kept_le h.ok k
  have hl : (d.lines.take (keptD d k)).length = keptD d k := by rw [List.length_take]; omega
  refine ⟨h.ok.crash k, ?_, filter_nodup _ h.nd, ?_⟩
  · intro p hp
    show p.2.2 < (d.lines.take (keptD d k)).length
    rw [hl]
    exact of_decide_eq_true (List.mem_filter.1 hp).2
  · intro i h3 h4
    have h3' : keptD d k ≤ i := h3
    have h4' : i ≤ (d.lines.take (keptD d k)).length := h4
    rw [hl] at h4'
    have hi : i = keptD d k := by omega
    subst hi
    show (⟨[], 0, 0⟩ : Sg).plays 0 (txs ((d.lines.take (keptD d k)).take (keptD d k))) = _
    rw [List.take_take, Nat.min_self, upto_upto]
    exact h.fr _ h1 h2
theorem SgI.opened {s : Sg} {d : Dk} (h : SgI s d) (k : Int) : (d.crash k).opened = (s.upto (keptD d k), d.crash k) := ply_opened (h.crash k).ply
theorem upto_get {s : Sg} {i : Nat} (hd : (keysM s.m).Nodup) (p : Int) : mget (s.upto i).m p = (mget s.m p).filter fun x => decide (x.2 < i) := by
  unfold Sg.upto
  simp only
  generalize s.m = l at *
  induction l with
  | nil => rfl
  | cons x l ih =>
    obtain ⟨k, v⟩ := x
    have hd2 : (keysM l).Nodup := (List.nodup_cons.1 hd).2
    have hk : k ∉ keysM l := (List.nodup_cons.1 hd).1
    have ih := ih hd2
    rw [List.filter_cons]
    by_cases hv : v.2 < i
    · rw [if_pos (decide_eq_true hv)]
      simp only [mget, ih]
      split
      · simp [Option.filter, hv]
      · rfl
    · rw [if_neg (by simpa using hv), ih]
      simp only [mget]
      by_cases he : k = p
      · subst he
        have hn : mget l k = none := by
          cases hm : mget l k with
          | none => rfl
          | some y => exact absurd (mget_isSome.1 (by rw [hm]; rfl)) hk
        rw [if_pos rfl, hn]
        simp [Option.filter, hv]
      · rw [if_neg he]
theorem mem_mget {α : Type} : ∀ {l : List (Int × α)} {k : Int} {v : α}, mget l k = some v → (k, v) ∈ l
  | (k', v') :: l, k, v, h => by
    simp only [mget] at h
    split at h
    · rename_i he
      subst he
      injection h with h
      subst h
      exact List.mem_cons_self ..
    · exact List.mem_cons_of_mem _ (mem_mget h)
theorem sgi_seal {s : Sg} {d : Dk} {n : Nat} (h : SgI s d) (hn : n ≤ 2147483647) (h1 : s.sealed < n) (hr : (usedL d.lines : Int) + (lineN 115 n).length + 1 ≤ d.room) : SgI { s with sealed := n } ⟨d.room, d.lines ++ [txB (lineN 115 n)], d.lines.length + 1⟩ :=
  sgi_note h (take_seal hn h1) (fun p hp => hp) h.nd hr
theorem sgi_cut {s : Sg} {d : Dk} {n : Nat} (h : SgI s d) (hn : n ≤ 2147483647) (hr : (usedL d.lines : Int) + (lineN 99 n).length + 1 ≤ d.room) : SgI (s.above n) ⟨d.room, d.lines ++ [txB (lineN 99 n)], d.lines.length + 1⟩ :=
  sgi_note h (take_cut hn) (fun p hp => (List.mem_filter.1 hp).1) (filter_nodup _ h.nd) hr
theorem sgi_trim {s : Sg} {d : Dk} {n : Nat} (h : SgI s d) (hn : n ≤ 2147483647) (h1 : s.trim < n) (hr : (usedL d.lines : Int) + (lineN 116 n).length + 1 ≤ d.room) : SgI (s.below n) ⟨d.room, d.lines ++ [txB (lineN 116 n)], d.lines.length + 1⟩ :=
  sgi_note h (take_trim hn h1) (fun p hp => (List.mem_filter.1 hp).1) (filter_nodup _ h.nd) hr
end Go.Sl

set_option linter.unusedVariables false
set_option linter.unusedSimpArgs false
namespace Go.Sl
theorem inV_of {l m : Tx} (h : inV l = some m) : l = 91 :: (m ++ [93]) := by
  unfold inV at h
  cases l with
  | nil => cases h
  | cons b r =>
    simp only at h
    split at h
    · rename_i hb
      obtain ⟨rfl, h2⟩ := hb
      injection h with h
      obtain ⟨hne, hl⟩ := List.getLast?_eq_some_iff.1 h2
      subst h
      rw [hl]; simp
    · cases h
theorem vecT_parts {l : Tx} {v : List Int} (h : vecT l = some v) : ∃ m, l = 91 :: (m ++ [93]) ∧ ((m = [] ∧ v = []) ∨ (m ≠ [] ∧ wordsV (partsC 32 m) = some v)) := by
  unfold vecT at h
  cases hi : inV l with
  | none => rw [hi] at h; cases h
  | some m =>
    refine ⟨m, inV_of hi, ?_⟩
    rw [hi] at h
    cases m with
    | nil => left; exact ⟨rfl, (Option.some.inj h).symm⟩
    | cons b r => right; exact ⟨by simp, h⟩
theorem wordsV_parts {ws : List Tx} {v : List Int} (h : wordsV ws = some v) : (∀ w ∈ ws, canD w = true ∧ valD w ≤ 1048576) ∧ ws.getLast? ≠ some [48] ∧ ws.length ≤ 8 ∧ v = ws.map fun w => (valD w : Int) := by
  unfold wordsV at h
  split at h
  · rename_i hc
    obtain ⟨h1, h2, h3, h4⟩ := hc
    refine ⟨fun w hw => ⟨List.all_eq_true.1 h1 w hw, of_decide_eq_true (List.all_eq_true.1 h4 w hw)⟩, h2, h3, (Option.some.inj h).symm⟩
  · cases h
theorem cut1_len {c : UInt8} {l a m : Tx} (h : cut1 c l = some (a, m)) : a.length + m.length + 1 = l.length := by
  unfold cut1 at h
  split at h
  · rename_i hc
    injection h with h
    injection h with h1 h2
    have := congrArg List.length (bef_aft hc)
    rw [h1, h2, List.length_append, List.length_cons] at this
    omega
  · cases h
theorem cut2_len {c d : UInt8} : ∀ {l a m : Tx}, cut2 c d l = some (a, m) → a.length + m.length + 2 = l.length
  | [], _, _, h => by cases h
  | [_], _, _, h => by cases h
  | x :: y :: r, a, m, h => by
    simp only [cut2] at h
    split at h
    · injection h with h
      injection h with h1 h2
      subst h1; subst h2; simp
    · rw [Option.map_eq_some_iff] at h
      obtain ⟨⟨a', m'⟩, h1, h2⟩ := h
      injection h2 with h2 h3
      subst h2; subst h3
      have := cut2_len h1
      simp at this ⊢; omega
theorem recT_parts {l : Tx} {r : Rc} (h : recT l = some r) : ∃ a l1 b l2 c l3 k v x y z, cut1 58 l = some (a, l1) ∧ cut1 32 l1 = some (b, l2) ∧ cut2 93 32 l2 = some (c, l3) ∧ cut1 61 l3 = some (k, v) ∧ numT 2147483647 a = some x ∧ numT 2147483647 b = some y ∧ vecT (c ++ [93]) = some z ∧
    r = ⟨x, y, z, txB k, txB v⟩ ∧ checkR r 8 = 0 := by
  unfold recT at h
  simp only [Option.bind_eq_bind, Option.bind_eq_some_iff] at h
  obtain ⟨⟨a, l1⟩, h1, ⟨b, l2⟩, h2, ⟨c, l3⟩, h3, ⟨k, v⟩, h4, x, h5, y, h6, z, h7, h8⟩ := h
  split at h8
  · rename_i hc
    obtain rfl := Option.some.inj h8
    exact ⟨a, l1, b, l2, c, l3, k, v, x, y, z, h1, h2, h3, h4, h5, h6, h7, rfl, hc⟩
  · cases h8
end Go.Sl

set_option linter.unusedVariables false
set_option linter.unusedSimpArgs false
namespace Go.Sl
def lastN (l : List Int) : Nat := (trimV l).length
theorem lastN_le (l : List Int) : lastN l ≤ l.length := trimV_len l
theorem trimV_take : ∀ l : List Int, l.take (lastN l) = trimV l
  | [] => rfl
  | n :: l => by
    have ih := trimV_take l
    unfold lastN at ih ⊢
    simp only [trimV]
    split
    · split
      · rfl
      · rfl
    · rename_i m r he
      rw [he] at ih
      simp only [List.length_cons, List.take_succ_cons] at ih ⊢
      rw [ih]
theorem nzF_last : ∀ (l : List Int) (i : Nat), (nzF i l).foldl (fun _ p => p.1 + 1) 0 = if lastN l = 0 then 0 else i + lastN l
  | [], i => rfl
  | n :: l, i => by
    have ih := fun j => nzF_last l j
    have hgen : ∀ (m : List (Nat × Int)) (a : Nat), m.foldl (fun _ p => p.1 + 1) a = if m = [] then a else m.foldl (fun _ p => p.1 + 1) 0 := by
      intro m a
      cases m with
      | nil => rfl
      | cons p m => simp
    have hnil : nzF (i + 1) l = [] ↔ lastN l = 0 := by
      constructor
      · intro h
        have := ih (i + 1)
        rw [h] at this
        simp only [List.foldl_nil] at this
        split at this
        · assumption
        · omega
      · intro h
        unfold lastN at h
        have h0 : trimV l = [] := List.length_eq_zero_iff.1 h
        have : ∀ (l : List Int) (i : Nat), trimV l = [] → nzF i l = [] := by
          intro l
          induction l with
          | nil => intro _ _; rfl
          | cons a l ih2 =>
            intro i h
            simp only [trimV] at h
            split at h
            · rename_i ht
              split at h
              · rename_i ha
                simp [nzF, ha, ih2 (i + 1) ht]
              · cases h
            · cases h
        exact this l (i + 1) h0
    have hl : lastN (n :: l) = if lastN l = 0 then (if n = 0 then 0 else 1) else lastN l + 1 := by
      unfold lastN
      simp only [trimV]
      split
      · rename_i h0
        rw [h0]; simp only [List.length_nil, if_true]
        split <;> rfl
      · rename_i m r h0
        rw [h0]; simp
    rw [hl]
    by_cases hn : n = 0
    · subst hn
      have e : nzF i (0 :: l) = nzF (i + 1) l := by simp [nzF]
      rw [e, ih (i + 1)]
      by_cases h0 : lastN l = 0
      · simp [h0]
      · simp [h0]; omega
    · have e : nzF i (n :: l) = (i, n) :: nzF (i + 1) l := by simp [nzF, hn]
      rw [e, List.foldl_cons, hgen]
      by_cases h0 : lastN l = 0
      · rw [if_pos (hnil.2 h0)]; simp [h0, hn]
      · rw [if_neg (fun h => h0 (hnil.1 h)), ih (i + 1)]; simp [h0]; omega
def decs (l : List Int) : List ByteArray := l.map fun n => txB (Lib.decDigits n.toNat)
theorem decs_join (l : List Int) : Lib.join ((decs l).map (·.data.toList)) [32] = joinX (l.map fun n => Lib.decDigits n.toNat) := by
  rw [joinX_lib]
  congr 1
  unfold decs
  rw [List.map_map]
  exact List.map_congr_left fun n _ => by simp [txB]
theorem joinX_len (k : Nat) : ∀ ws : List Tx, (∀ w ∈ ws, w.length ≤ k) → (joinX ws).length ≤ ws.length * (k + 1)
  | [], _ => Nat.zero_le _
  | [w], h => by
    have := h w (by simp)
    show w.length ≤ 1 * (k + 1)
    omega
  | w :: u :: ws, h => by
    have h1 := h w (by simp)
    have h2 := joinX_len k (u :: ws) fun x hx => h x (by simp [hx])
    rw [show joinX (w :: u :: ws) = w ++ 32 :: joinX (u :: ws) from rfl]
    simp only [List.length_append, List.length_cons] at h2 ⊢
    have e : (ws.length + 1 + 1) * (k + 1) = (ws.length + 1) * (k + 1) + (k + 1) := Nat.succ_mul _ _
    omega
end Go.Sl

set_option linter.unusedVariables false
namespace Go.Sl
def SmR (r : Rc) : Prop := checkR r 8 = 0 ∧ r.trim = r
theorem smr_rz {a b : Int} (h : 0 ≤ a ∧ a < 8 ∧ 1 ≤ b ∧ b < 100000) : SmR (rz a b) := ⟨rz_ok ⟨h.1, h.2.1, h.2.2.1, by omega⟩, rz_trim a b⟩
theorem vecX_le {v : List Int} (h : ∀ x ∈ v, 0 ≤ x ∧ x ≤ 1048576) : (vecX v).length ≤ 2 + 8 * v.length := by
  have h1 := joinX_len 7 ((trimV v).map fun n => Lib.decDigits n.toNat) (by
    intro w hw
    obtain ⟨n, hn, rfl⟩ := List.mem_map.1 hw
    have := h n (trimV_mem hn)
    exact dec_len 6 n.toNat (by omega))
  rw [List.length_map] at h1
  have h2 := trimV_len v
  unfold vecX
  simp only [List.length_cons, List.length_append, List.length_nil]
  omega
theorem recX_le {r : Rc} (h : checkR r 8 = 0) : (recX r).length ≤ 102 := by
  have k := rok_of h
  have h1 := k.site; have h2 := k.seq; have h3 := k.len; have h4 := k.key; have h5 := k.vlen
  have h6 := vecX_le k.dep
  have h7 := dec_len 0 r.site.toNat (by omega)
  have h8 := dec_len 6 r.seq.toNat (by omega)
  have h9 : r.key.data.toList.length = r.key.size := Array.length_toList
  have h10 : r.val.data.toList.length = r.val.size := Array.length_toList
  unfold recX
  simp only [List.length_append, List.length_cons, List.length_nil, h9, h10]
  omega
theorem name_nl {s : ByteArray} (h : nameOk s = true) : hasC 10 s.data.toList = false := by
  unfold hasC
  rw [List.any_eq_false]
  intro b hb
  have h1 := List.all_eq_true.1 h b hb
  simp only [decide_eq_true_eq]
  rintro rfl
  revert h1; decide
theorem val_nl {s : ByteArray} (h : valOk s = true) : hasC 10 s.data.toList = false := by
  unfold hasC
  rw [List.any_eq_false]
  intro b hb
  have h1 := List.all_eq_true.1 h (b.toNat : Int) (List.mem_map.2 ⟨b, hb, rfl⟩)
  simp only [decide_eq_true_eq]
  rintro rfl
  revert h1; decide
theorem lineP_nlR {r : Rc} (h : checkR r 8 = 0) (n : Nat) : hasC 10 (lineP n r) = false := by
  have k := rok_of h
  unfold lineP recX
  simp only [has_app, has_cons, dec_no (c := 10) (by decide), vec_nl, name_nl k.name, val_nl k.val]
  decide
theorem lineP_le {n : Nat} {r : Rc} (h : checkR r 8 = 0) (hn : n < 100000) : (lineP n r).length ≤ 112 := by
  have h1 := recX_le h
  have h2 := dec_len 4 n (by omega)
  unfold lineP
  simp only [List.length_append, List.length_cons, List.length_nil]
  omega
end Go.Sl

set_option linter.unusedVariables false
set_option linter.unusedSimpArgs false
namespace Go.Sl
def RDS : Rep (Int × Rc × Int) where
  V := Pl
  sz := 7
  agg := true
  cells := fun x h => .int .i64 x.1 :: (RRec.cells x.2.1 h ++ [.int .i64 x.2.2])
  atoms := fun x h => RRec.atoms x.2.1 h
  len := fun _ _ => rfl
  pers := fun x h A hA => RRec.pers x.2.1 h A hA
  pos := by decide
  sc := fun h => by cases h
  one := fun x h v hv => by
    rcases List.mem_cons.1 hv with rfl | hv
    · rfl
    · rcases List.mem_append.1 hv with hv | hv
      · exact RRec.one x.2.1 h v hv
      · simp at hv; subst hv; rfl
  wit := fun _ h => h (none, 0)
structure DD where
  sb : Nat
  db : Nat
  sp : Pl
  dp : Pl
  room : Int
  lines : List ByteArray
  lasts : Int
  l : List (Int × Rc × Int)
  sealed : Int
  trimd : Int
abbrev ddD (x : DD) : List HP := [pts x.db 0 [.int .i64 x.room, .slice x.dp.1 x.lines.length x.dp.2, .int .i64 x.lasts], slAt RS x.dp.1 x.lines.length x.lines, pr (x.lines.length ≤ x.dp.2)]
abbrev ddS (x : DD) : List HP := [pts x.sb 0 [.pointer (some ⟨x.db, 0, none⟩), .slice x.sp.1 x.l.length x.sp.2, .int .i64 x.sealed, .int .i64 x.trimd], slAt RDS x.sp.1 x.l.length x.l, pr (x.l.length ≤ x.sp.2)]
abbrev ddAt (x : DD) : List HP := ddS x ++ ddD x
structure DLg where
  ob : Nat
  sA : Pl
  segs : List DD
  mA : Pl
  m : List (Int × Int)
  next : Nat
  trim : Nat
  vA : Pl
  v : List Int
  down : Bool
abbrev dlHd (lb : Nat) (d : DLg) : List HP :=
  [pts lb 0 [.pointer (some ⟨d.ob, 0, none⟩), .slice d.sA.1 d.segs.length d.sA.2, .slice d.mA.1 d.m.length d.mA.2, .int .i64 (d.next : Int), .int .i64 (d.trim : Int), .slice d.vA.1 d.v.length d.vA.2, .bool d.down],
    slAt RPt d.sA.1 d.segs.length (d.segs.map (·.sb)), slAt RSp d.mA.1 d.m.length d.m, slAt RI d.vA.1 d.v.length d.v, pr (d.v.length ≤ d.vA.2)]
abbrev dlAt (lb : Nat) (d : DLg) : List HP := dlHd lb d ++ [famA ddAt d.segs]
def atI : List (Int × Rc × Int) → Int → Nat
  | [], _ => 0
  | x :: l, p => if x.1 < p then atI l p + 1 else 0
def hasD (l : List (Int × Rc × Int)) (p : Int) : Bool := match l[atI l p]? with
  | some x => decide (x.1 = p)
  | none => false
theorem atI_le : ∀ (l : List (Int × Rc × Int)) (p : Int), atI l p ≤ l.length
  | [], _ => Nat.le_refl _
  | x :: l, p => by
    unfold atI
    have := atI_le l p
    simp only [List.length_cons]
    split <;> omega
theorem atI_lt : ∀ {l : List (Int × Rc × Int)} {p : Int} {i : Nat} {x : Int × Rc × Int}, i < atI l p → l[i]? = some x → x.1 < p
  | [], _, _, _, h, _ => absurd h (Nat.not_lt_zero _)
  | y :: l, p, i, x, h, hx => by
    unfold atI at h
    split at h
    · rename_i hy
      cases i with
      | zero => simp at hx; subst hx; exact hy
      | succ i => exact atI_lt (l := l) (i := i) (by omega) (by simpa using hx)
    · exact absurd h (Nat.not_lt_zero _)
theorem atI_ge : ∀ {l : List (Int × Rc × Int)} {p : Int} {x : Int × Rc × Int}, l[atI l p]? = some x → ¬ x.1 < p
  | [], _, _, h => by simp at h
  | y :: l, p, x, h => by
    unfold atI at h
    split at h
    · exact atI_ge (l := l) (by simpa using h)
    · rename_i hy
      simp at h; subst h; exact hy
theorem atI_all : ∀ {l : List (Int × Rc × Int)} {p : Int}, (∀ x ∈ l, x.1 < p) → atI l p = l.length
  | [], _, _ => rfl
  | x :: l, p, h => by
    unfold atI
    rw [if_pos (h x (by simp)), atI_all (l := l) fun y hy => h y (by simp [hy])]
    rfl
def DD.lastsAt (x : DD) (p : Int) : Bool := match x.l[atI x.l p]? with
  | some y => decide (y.1 = p) && decide (y.2.2 < x.lasts)
  | none => false
end Go.Sl

set_option linter.unusedVariables false
set_option linter.unusedSectionVars false
set_option linter.unusedSimpArgs false
namespace Go.Sl
section
variable (P : Program) (rd : Option Nat) (N : Nat)
def SZ (D0 : World → Prop) (all : Array Oper) (its : XO) (T : TT) (B E : List HP) (ks : List K) (Q : Post) : Prop :=
  ∀ (G : HP) (r : Ro) (oB : Own) (a : Act) (w : World), seps (G :: B) r oB → Ok (pin r oB) N T E a w → D0 w → wpX P rd all (lift G N (postK P rd N ks Q)) its (fun w => Sat w r oB ∧ D0 w) a w
def SW (D0 : World → Prop) (all : Array Oper) (its : XO) (T : TT) (B E : List HP) (ks : List K) (Q : Post) : Prop :=
  ∀ (G : HP) (r : Ro) (oB : Own) (a : Act) (w : World), seps (G :: B) r oB → Ok (pin r oB) N T E a w → wpX P rd all (lift G N (postK P rd N ks Q)) its (fun w => Sat w r oB ∧ D0 w) a w ∧ D0 w
end
def lent (b off : Nat) (vs : List Value) (w : World) : Prop := ∀ i v, vs[i]? = some v → w.cell? ⟨b, off + i, none⟩ = some v
section
variable {P : Program} [tb : Tab P] {rd : Option Nat} {N : Nat} {T : TT} {B E E' L M : List HP} {Q : Post} {ks : List K} {D0 : World → Prop}
variable {all : Array Oper} {rest : XO} {o : Oper} {d : Option Tmp} {ty : TypeId} {pos : String} {aft : Array Edge}
theorem lent_of {b off : Nat} {vs : List Value} (h : Take (pts b off vs) E E') : ∀ F u, St u (F :: E) → lent b off vs u := by
  intro F u hst i v hv
  exact ((hst.ent ((Ent.cons h.ent).trans Ent.swap)).cell hv).1
theorem SZ.nil (hd : DropP E E') (h : SK P rd N ks T (E' ++ B) Q) : SZ P rd N D0 all .nil T B E ks Q := fun G r oB a w hs ok _ => by
  have := ok_unpin hs (ok.ent hd.ent)
  exact ⟨T, E' ++ B, this, h⟩
theorem SZ.reads {R : Value → List HP → Prop} (hr : Reads P T B o R) (hg : o.guard = none) (hd : dstOk N o.dst = true)
    (h : ∀ v B', R v B' → SZ P rd N D0 all rest (putD o.dst v T) B' E ks Q) : SZ P rd N D0 all (.item 0 o rest) T B E ks Q := by
  intro G r oB a w hs ok hD
  obtain ⟨v, B', hR, hs', hrun⟩ := hr a.eval ok.knows r oB G hs
  simp only [wpX, Region.wanted, hg, if_true]
  exact ⟨v, fun w' hw' => hrun w' hw'.1, h v B' hR G r oB _ w hs' (ok.putD hd v) hD⟩
theorem SZ.pure {v : Value} (hg : o.guard = none) (h : pureOp tb.tab T o.op = some v) (hd : dstOk N o.dst = true)
    (k : SZ P rd N D0 all rest (putD o.dst v T) B E ks Q) : SZ P rd N D0 all (.item 0 o rest) T B E ks Q := SZ.reads (reads_pure h) hg hd (by rintro _ _ ⟨rfl, rfl⟩; exact k)
theorem SZ.pure2 {v : Value} (hg : o.guard = none) (h : pureOp2 tb.tab T o.op = some v) (hd : dstOk N o.dst = true)
    (k : SZ P rd N D0 all rest (putD o.dst v T) B E ks Q) : SZ P rd N D0 all (.item 0 o rest) T B E ks Q := SZ.reads (reads_pure2 h) hg hd (by rintro _ _ ⟨rfl, rfl⟩; exact k)
theorem SZ.load {x : Operand} {t b off o' : Nat} {vs : List Value} {ti : TI} (hx : evO T x = some (.pointer (some ⟨b, off, none⟩))) (hl : ∀ u, D0 u → lent b o' vs u)
    (ht : tget tb.tab t = some ti) (ho : Nat.ble o' off = true) (hp : packOk ti (cut vs (off - o') ti.size)) (hd : dstOk N d = true)
    (k : SZ P rd N D0 all rest (putD d (packV ti (cut vs (off - o') ti.size)) T) B E ks Q) : SZ P rd N D0 all (.item 0 ⟨d, .load t x, ty, pos, aft, none⟩ rest) T B E ks Q := by
  intro G r oB a w hs ok hD
  have ho := Nat.le_of_ble_eq_true ho
  simp only [wpX, Region.wanted, if_true]
  refine ⟨packV ti (cut vs (off - o') ti.size), fun w' hw' => ?_, k G r oB _ w hs (ok.putD hd _) hD⟩
  simp only [execOp, ok.knows _ _ hx, Instr.loadAt, Instr.sureAddr, Sem.run_bind, Sem.run_pure, Result.andThen_ok]
  rw [loadVar_ok ht hp (fun j v hj => by
    have := hl w' hw'.2 _ _ (cut_get hj).1
    rwa [show o' + (off - o' + j) = off + j by omega] at this)]
  rfl
theorem SZ.step {k : Nat} (hg : o.guard = none) (hn : notDefer o.op = true) (h : SO P rd N all [o] T E [.inv fun T' E' => SW P rd N D0 all rest T' B E' ks Q] (fun _ _ _ => False)) : SZ P rd N D0 all (.item (k + 1) o rest) T B E ks Q := by
  intro G r oB a w hs ok hD
  have h1 := h (pin r oB) a w ok
  simp only [wpListIn, wpX, Region.wanted, hg, if_true] at h1 ⊢
  refine wpIn_swap hn ?_ ?_ ?_ h1
  · rintro c a' w' ⟨T', L', _, hq⟩; exact hq.elim
  · rintro ⟨a', w', T', L', _, hq⟩; exact hq.elim
  · rintro a' w' ⟨T', E', ok', hq⟩
    simp only [postK] at hq
    rw [SK] at hq
    obtain ⟨hwp, hd⟩ := hq G r oB a' w' hs ok'
    exact ⟨fun w => Sat w r oB ∧ D0 w, ⟨ok_sat ok', hd⟩, .inr fun _ h => h, hwp⟩
theorem SW.go (hD : ∀ F u, St u (F :: E) → D0 u) (h : SZ P rd N D0 all rest T B E ks Q) : SW P rd N D0 all rest T B E ks Q := fun G r oB a w hs ok => by
  obtain ⟨D, hD', hst⟩ := ok.mem
  have hd := hD _ _ hst
  exact ⟨h G r oB a w hs ok hd, hd⟩
theorem SK.regionZ {D0 : World → Prop} {l : List Oper} {L0 Ps : List HP} (id : Nat) (ord : XT) (E0 : List HP) (hE : Takes E0 L L0) (hP : PersSub L0 Ps) (hm : P.follows .mixedOrders = true) (hok : canOk N l ord = true) (hnp : ∀ c T L, Q (.panic c) T L → False) (hD0 : ∀ F u, St u (F :: (E0 ++ Ps)) → D0 u)
    (h : SZ P rd N D0 l.toArray (pickK l ord) T L0 (E0 ++ Ps) ks Q) : SK P rd N (.code (.region id l.toArray true) :: ks) T L Q := by
  rw [SK_code]
  intro G a0 w ok
  simp only [canOk, Bool.and_eq_true] at hok
  obtain ⟨⟨⟨hok1, hok2⟩, hok3⟩, hok4⟩ := hok
  obtain ⟨D, hD, hst⟩ := ok.mem
  have h1 : St w (D.map mkA ++ (E0 ++ (G :: L0))) := by
    have h2 : St w ((G :: D.map mkA) ++ L) := hst.ent (ent_big (A := G :: D.map mkA))
    have h3 : St w ((G :: D.map mkA) ++ (E0 ++ L0)) := h2.ent (Ent.app hE.ent)
    refine h3.ent ?_
    have e1 := ent_app_comm (A := [G]) (B := D.map mkA ++ (E0 ++ L0))
    simp only [List.append_assoc, List.cons_append, List.nil_append] at e1 ⊢
    refine e1.trans (Ent.app (Ent.app ?_))
    exact (ent_app_comm (A := L0) (B := [G])).trans (Ent.refl _)
  obtain ⟨r, oo, s, hs⟩ := h1
  have hsplit : ∀ (A B : List HP) (r : Ro) (o : Own), seps (A ++ B) r o → ∃ x y, Own.disj x y ∧ Own.le (x.add y) o ∧ seps A r x ∧ seps B r y := by
    intro A B r
    induction A with
    | nil => intro o h; exact ⟨own0, o, fun _ _ => .inl rfl, none_add, trivial, h⟩
    | cons A As ih =>
      rintro o ⟨p, q, d, le, hA, hq⟩
      have := (big_ent (A := A :: As) (L := B)) r o ⟨p, q, d, le, hA, hq⟩
      obtain ⟨x, y, d', le', hx, hy⟩ := this
      exact ⟨x, y, d', le', hx, hy⟩
  have hs2 : seps ((D.map mkA ++ E0) ++ (G :: L0)) r oo := by rw [List.append_assoc]; exact hs
  obtain ⟨x1, oB, d1, le1, hE0, hB⟩ := hsplit _ _ r oo hs2
  have hpin : St w (pin r oB :: (D.map mkA ++ E0)) := by
    have h5 : seps ((D.map mkA ++ E0) ++ [pin r oB]) r oo := by
      have : ∀ (A : List HP) (x y o : Own), Own.disj x y → Own.le (x.add y) o → seps A r x → y = oB → seps (A ++ [pin r oB]) r o := by
        intro A x y o d le hA hy
        subst hy
        have := (ent_big (A := A) (L := [pin r y])) r o ⟨x, y, d, le, hA, y, own0, fun _ _ => .inr rfl, (fun i j c e => by
          rcases Own.add_cases e with e | e
          · exact e
          · cases e), ⟨Ro.le_refl _, Own.le_refl _⟩, trivial⟩
        exact this
      exact this _ x1 oB oo d1 le1 hE0 rfl
    exact St.ent (ent_app_comm (B := [pin r oB])) ⟨r, oo, s, h5⟩
  have htold := hP.told (r := r) (o := oB) (by obtain ⟨_, _, d, le, _, h⟩ := hB; exact seps_up (Ro.le_refl _) (Own.le_trans (Own.le_add_right d) le) h)
  have hst2 : St w (big (pin r oB :: D.map mkA) :: (E0 ++ Ps)) := by
    obtain ⟨r', o', s', p, q, d, le, ⟨hr, ho⟩, hq⟩ := hpin
    have hq2 : seps (Ps ++ (D.map mkA ++ E0)) r' q := seps_more (fun A hA => A.up _ _ _ _ hr (Own.le_refl _) (htold A hA)) hq
    have h6 : St w (pin r oB :: (Ps ++ (D.map mkA ++ E0))) := ⟨r', o', s', p, q, d, le, ⟨hr, ho⟩, hq2⟩
    refine h6.ent ?_
    have e1 := ent_app_comm (A := Ps) (B := D.map mkA ++ E0)
    rw [List.append_assoc] at e1
    exact (Ent.cons e1).trans (big_ent (A := pin r oB :: D.map mkA))
  refine wpIn_region_any hm ?_
  have hdrew : St { w with drawn := w.drawn + 1 } (big (pin r oB :: D.map mkA) :: (E0 ++ Ps)) := hst2.drew _
  have ok2 : Ok (pin r oB) N T (E0 ++ Ps) a0 { w with drawn := w.drawn + 1 } := ⟨ok.size, ok.get, D, hD, hdrew⟩
  have hd0 := hD0 _ _ hdrew
  have hw := h G r oB a0 _ hB ok2 hd0
  refine TInv.run (fun c a w ⟨T, L, _, hq⟩ => hnp c T L hq) _ ord [] [] _ a0 _ a0 _ ?_ hok4 ⟨hw, fun p hp => ⟨pathOk_ok hok1 hok2 (List.all_eq_true.1 hok3 p hp), ?_⟩⟩
  · refine Nat.le_trans (List.length_filter_le _ _) (by simp)
  · refine ⟨rfl, by simp, fun i h => ?_, fun i => ?_, fun q h => (by cases h), ⟨ok_sat ok2, hd0⟩, trivial, rfl, ok.size, ok.size, fun _ _ => rfl, fun q h => by cases h⟩
    · rw [getD_rep] at h; cases h
    · rw [getD_rep]; simp
end
end Go.Sl

set_option linter.unusedVariables false
set_option linter.unusedSimpArgs false
namespace Go.Sl
theorem ent_lg1 {C : HP} {lb : Nat} {g : Lg} {L L' : List HP} {k : Nat} {x : SB} (hx : g.segs[k]? = some x) (hh : Takes ((sbAt x ++ [sbsH g.segs k]) ++ (C :: lgPre lb g)) L L') : Ent L (C :: lgAt lb g) := by
  obtain ⟨hk, e⟩ := List.getElem?_eq_some_iff.1 hx
  have h := ent_sbs hk hh
  rw [← e, List.set_getElem_self] at h
  exact h
end Go.Sl
namespace Go.Sl
structure SegCr (keep : List Int) (l0 : List SB) (k : Nat) (l : List SB) : Prop where
  len : l.length = l0.length
  sb : l.map (·.sb) = l0.map (·.sb)
  old : ∀ i, k ≤ i → l[i]? = l0[i]?
  new : ∀ i x, i < k → l0[i]? = some x → ∃ p, l[i]? = some (x.upd p (x.s, x.d.crash (keep.getD i 0)))
theorem segCr_zero (keep : List Int) (l : List SB) : SegCr keep l 0 l := ⟨rfl, rfl, fun _ _ => rfl, fun i x h => absurd h (Nat.not_lt_zero i)⟩
theorem segCr_step {keep : List Int} {l0 l : List SB} {k : Nat} {x : SB} (h : SegCr keep l0 k l) (hx : l[k]? = some x) (p : Pl) : SegCr keep l0 (k + 1) (l.set k (x.upd p (x.s, x.d.crash (keep.getD k 0)))) := by
  obtain ⟨hk, _⟩ := List.getElem?_eq_some_iff.1 hx
  refine ⟨by rw [List.length_set]; exact h.len, by rw [sb_map hx]; exact h.sb, fun i hi => ?_, fun i y hi hy => ?_⟩
  · rw [List.getElem?_set_ne (by omega)]
    exact h.old i (by omega)
  · by_cases e : i = k
    · subst e
      rw [← h.old i (Nat.le_refl _), hx] at hy
      obtain rfl := Option.some.inj hy
      exact ⟨p, List.getElem?_set_self hk⟩
    · rw [List.getElem?_set_ne (fun h => e h.symm)]
      exact h.new i y (by omega) hy
def Lg.fell (g : Lg) (p : Pl) (l : List SB) : Lg := { g with segs := l, op := p, own := g.own.crash 0, down := true }
end Go.Sl

set_option linter.unusedVariables false
set_option linter.unusedSimpArgs false
namespace Go.Sl
structure LI (room : Int) (n : Nat) (R : Nat → Rc) (g : Lg) : Prop where
  m : MapOk g.m
  lastm : ∀ y, g.m[g.m.length - 1]? = some y → y.1 ≤ (g.next : Int)
  ml : g.m.length ≤ 100
  len : g.segs.length = 8
  bd : g.trim ≤ g.next ∧ g.next ≤ n ∧ n ≤ 7000
  own : g.own.Ok
  sg : ∀ x ∈ g.segs, SgI x.s x.d
  rm : ∀ x ∈ g.segs, x.d.room = room ∧ usedL x.d.lines ≤ 128 * n
  sl : ∀ x ∈ g.segs, x.s.sealed < g.m.length ∧ x.s.trim = g.trim
  mg : ∀ k x, g.segs[k]? = some x → ∀ p : Int, (mget x.s.m p).map (·.1) = if (g.trim : Int) ≤ p ∧ p < g.next ∧ stripeM g.m p = k then some (R p.toNat) else none
  rz : ∀ p, g.trim ≤ p → p < g.next → SmR (R p)
theorem LI.ok {room : Int} {n : Nat} {R : Nat → Rc} {g : Lg} (h : LI room n R g) : LgOk g :=
  ⟨h.m, h.len, h.own, fun x hx => (h.sg x hx).ok, by have := h.bd; omega⟩
theorem LI.mono {room : Int} {n n' : Nat} {R : Nat → Rc} {g : Lg} (h : LI room n R g) (hn : n ≤ n') (hb : n' ≤ 7000) : LI room n' R g :=
  ⟨h.m, h.lastm, h.ml, h.len, by have := h.bd; omega, h.own, h.sg, fun x hx => ⟨(h.rm x hx).1, by have := (h.rm x hx).2; omega⟩, h.sl, h.mg, h.rz⟩
theorem LI.congr {room : Int} {n : Nat} {R R' : Nat → Rc} {g : Lg} (h : LI room n R g) (he : ∀ p, g.trim ≤ p → p < g.next → R' p = R p) : LI room n R' g :=
  ⟨h.m, h.lastm, h.ml, h.len, h.bd, h.own, h.sg, h.rm, h.sl, fun k x hx p => by
    rw [h.mg k x hx p]
    by_cases hc : (g.trim : Int) ≤ p ∧ p < g.next ∧ stripeM g.m p = k
    · rw [if_pos hc, if_pos hc, he p.toNat (by omega) (by omega)]
    · rw [if_neg hc, if_neg hc], fun p h1 h2 => by rw [he p h1 h2]; exact h.rz p h1 h2⟩
theorem findI_stop {m : List (Int × Int)} {pos : Int} : ∀ {i : Nat}, (∀ y, m[i]? = some y → y.1 ≤ pos) → i < m.length → findI m pos i = i
  | 0, _, _ => rfl
  | i + 1, h, hi => by
    unfold findI
    have := h _ (List.getElem?_eq_getElem hi)
    rw [if_neg]
    rw [List.getD, List.getElem?_eq_getElem hi]
    show ¬ pos < (m[i + 1]).1
    omega
theorem LI.epoch {room : Int} {n : Nat} {R : Nat → Rc} {g : Lg} (h : LI room n R g) : epochM g.m (g.next : Int) = (g.m.length : Int) := by
  have hl := h.m.len.1
  unfold epochM spanI
  rw [findI_stop h.lastm (by omega)]
  omega
theorem LI.get {room : Int} {n : Nat} {R : Nat → Rc} {g : Lg} (h : LI room n R g) {p : Nat} (h1 : g.trim ≤ p) (h2 : p < g.next) {x : SB} (hx : g.segs[stripeM g.m p]? = some x) : ∃ i, mget x.s.m (p : Int) = some (R p, i) ∧ i < x.d.lines.length := by
  have := h.mg _ x hx p
  rw [if_pos ⟨by omega, by omega, rfl⟩] at this
  obtain ⟨y, hy, e⟩ := Option.map_eq_some_iff.1 this
  refine ⟨y.2, ?_, ?_⟩
  · rw [hy]
    simp only [Int.toNat_natCast] at e
    rw [← e]
  · have hm := mem_mget hy
    exact (h.sg x (List.mem_of_getElem? hx)).lt _ hm
theorem LI.set {room : Int} {n n' : Nat} {R : Nat → Rc} {g g' : Lg} (h : LI room n R g) {k : Nat} {x : SB} {p : Pl} {y : Sg × Dk} (hx : g.segs[k]? = some x) (hs : g'.segs = g.segs.set k (x.upd p y)) (hm : g'.m = g.m) (ht : g'.trim = g.trim)
    (hn : g.next ≤ g'.next ∧ g'.next ≤ n') (hn' : n ≤ n' ∧ n' ≤ 7000) (ho : g'.own.Ok) (h1 : SgI y.1 y.2) (h2 : y.2.room = room ∧ usedL y.2.lines ≤ 128 * n') (h3 : y.1.sealed < g.m.length ∧ y.1.trim = g.trim)
    (h4 : ∀ j z, g'.segs[j]? = some z → ∀ p : Int, (mget z.s.m p).map (·.1) = if (g.trim : Int) ≤ p ∧ p < g'.next ∧ stripeM g.m p = j then some (R p.toNat) else none)
    (h5 : ∀ p, g.next ≤ p → p < g'.next → SmR (R p)) : LI room n' R g' := by
  have hor : ∀ z, z ∈ g'.segs → z ∈ g.segs ∨ z = x.upd p y := fun z hz => by rw [hs] at hz; exact List.mem_or_eq_of_mem_set hz
  have hb := h.bd
  refine ⟨by rw [hm]; exact h.m, fun y hy => by rw [hm] at hy; have := h.lastm y hy; omega, by rw [hm]; exact h.ml, by rw [hs, List.length_set]; exact h.len, by rw [ht]; omega, ho, ?_, ?_, ?_, ?_, ?_⟩
  · intro z hz
    rcases hor z hz with hz | rfl
    · exact h.sg z hz
    · exact h1
  · intro z hz
    rcases hor z hz with hz | rfl
    · have := h.rm z hz; exact ⟨this.1, by omega⟩
    · exact h2
  · intro z hz
    rw [hm, ht]
    rcases hor z hz with hz | rfl
    · exact h.sl z hz
    · exact h3
  · rw [hm, ht]; exact h4
  · intro q hq1 hq2
    rw [ht] at hq1
    rcases Nat.lt_or_ge q g.next with hlt | hge
    · exact h.rz q hq1 hlt
    · exact h5 q hge hq2
theorem li_put {room : Int} {n : Nat} {R : Nat → Rc} {g : Lg} (h : LI room n R g) {r : Rc} (hr : R g.next = r) (hk : SmR r) (hroom : (128 * n + 128 : Int) ≤ room) (hn : n < 7000) {x : SB} (hx : g.segs[stripeM g.m g.next]? = some x) :
    (x.s.put x.d (epochM g.m g.next) g.next r).1 = 0 ∧ (x.s.put x.d (epochM g.m g.next) g.next r).2.2.lasts = x.d.lasts ∧ (x.s.put x.d (epochM g.m g.next) g.next r).2.2.lines.length = x.d.lines.length + 1 ∧ ∀ p, LI room (n + 1) R (g.putG x p (x.s.put x.d (epochM g.m g.next) g.next r)) := by
  have hb := h.bd
  have hm := List.mem_of_getElem? hx
  have hsl := h.sl x hm
  have hrm := h.rm x hm
  have hml := h.ml
  have hlp := h.m.len.1
  have hl := lineP_le (n := g.next) hk.1 (by omega)
  have hno : mget x.s.m (g.next : Int) = none := by
    have := h.mg _ x hx g.next
    rw [if_neg (by omega)] at this
    exact Option.map_eq_none_iff.1 this
  have hck := hk.1
  have hru : (usedL x.d.lines : Int) + (lineP g.next r).length + 1 ≤ x.d.room := by rw [hrm.1]; omega
  have e := put_eq (s := x.s) (d := x.d) (ep := epochM g.m g.next) (pos := (g.next : Int)) (r := r) ⟨by omega, by rw [h.epoch]; omega, by omega, by rw [h.epoch]; omega⟩ (by rw [h.epoch]; omega) (by omega) hno hck
    (by rw [Int.toNat_natCast]; exact lineP_nlR hk.1 _) (by rw [Int.toNat_natCast]; exact hru)
  rw [Int.toNat_natCast] at e
  rw [e]
  refine ⟨rfl, rfl, by simp, fun p => ?_⟩
  have hsg := sgi_put (h.sg x hm) (n := g.next) (r := r) (by omega) (by omega) hno hck hk.2 hru
  have hkl := (List.getElem?_eq_some_iff.1 hx).1
  refine h.set hx rfl rfl rfl (n' := n + 1) (by simp only [Lg.putG, if_true]; omega) (by omega) h.own hsg ⟨hrm.1, ?_⟩ hsl ?_ ?_
  · show usedL (x.d.lines ++ [txB (lineP g.next r)]) ≤ _
    rw [usedL_app]
    simp only [usedL, size_txB]; omega
  · intro j z hz q
    simp only [Lg.putG, if_true] at hz ⊢
    by_cases hj : stripeM g.m g.next = j
    · subst hj
      rw [List.getElem?_set_self hkl] at hz
      obtain rfl := Option.some.inj hz
      show (mget (mput x.s.m (g.next : Int) (r, x.d.lines.length)) q).map (·.1) = _
      rw [mget_mput]
      by_cases hq : q = (g.next : Int)
      · subst hq
        rw [if_pos rfl, if_pos ⟨by omega, by omega, rfl⟩, Int.toNat_natCast, hr]; rfl
      · rw [if_neg (by first | exact hq | exact fun h => hq h.symm), h.mg _ x hx q]
        by_cases hc : (g.trim : Int) ≤ q ∧ q < g.next ∧ stripeM g.m q = stripeM g.m g.next
        · rw [if_pos hc, if_pos (by omega)]
        · rw [if_neg hc, if_neg (by intro hh; exact hc ⟨hh.1, by omega, hh.2.2⟩)]
    · rw [List.getElem?_set_ne hj] at hz
      rw [h.mg j z hz q]
      by_cases hc : (g.trim : Int) ≤ q ∧ q < g.next ∧ stripeM g.m q = j
      · rw [if_pos hc, if_pos ⟨hc.1, by omega, hc.2.2⟩]
      · rw [if_neg hc, if_neg]
        rintro ⟨h1, h2, h3⟩
        rcases Int.lt_or_le q g.next with hl | hl
        · exact hc ⟨h1, hl, h3⟩
        · have : q = g.next := by omega
          subst this
          exact hj h3
  · intro q h1 h2
    simp only [Lg.putG, if_true] at h2
    have : q = g.next := by omega
    subst this
    rw [hr]; exact hk
theorem li_sync {room : Int} {n : Nat} {R : Nat → Rc} {g : Lg} (h : LI room n R g) {k : Nat} {x : SB} (hx : g.segs[k]? = some x) : LI room n R (g.sync k x) := by
  have hm := List.mem_of_getElem? hx
  have hb := h.bd
  refine h.set hx rfl rfl rfl (n' := n) ⟨Nat.le_refl _, hb.2.1⟩ (by omega) h.own (h.sg x hm).sync (h.rm x hm) (h.sl x hm) ?_ (fun p h1 h2 => absurd h1 (Nat.not_le.2 h2))
  intro j z hz q
  have hk := (List.getElem?_eq_some_iff.1 hx).1
  simp only [Lg.sync] at hz ⊢
  by_cases hj : k = j
  · subst hj
    rw [List.getElem?_set_self hk] at hz
    obtain rfl := Option.some.inj hz
    exact h.mg k x hx q
  · rw [List.getElem?_set_ne hj] at hz
    exact h.mg j z hz q
theorem head_eq {g : Lg} (hd : g.down = false) {q : Nat} (h1 : g.trim ≤ q) (h2 : q ≤ g.next) (h3 : ∀ p, g.trim ≤ p → p < q → g.lasts p = true) (h4 : q = g.next ∨ g.lasts q = false) : g.head = q := by
  have hgen : ∀ k p, g.trim ≤ p → p ≤ q → k + p = g.next → headF g k p = q := by
    intro k
    induction k with
    | zero => intro p hp1 hp2 hk; show p = q; omega
    | succ k ih =>
      intro p hp1 hp2 hk
      unfold headF
      by_cases hpq : p = q
      · subst hpq
        rcases h4 with h4 | h4
        · omega
        · rw [h4]; rfl
      · rw [h3 p hp1 (by omega), if_pos rfl]
        exact ih (p + 1) (by omega) (by omega) (by omega)
  unfold Lg.head
  rw [hd, if_neg (by decide)]
  exact hgen _ _ (Nat.le_refl _) h1 (by omega)
theorem LI.lasts {room : Int} {n : Nat} {R : Nat → Rc} {g : Lg} (h : LI room n R g) {p : Nat} (h1 : g.trim ≤ p) (h2 : p < g.next) {x : SB} (hx : g.segs[stripeM g.m p]? = some x) (hs : x.d.lasts = x.d.lines.length) : g.lasts p = true := by
  obtain ⟨i, hi, hl⟩ := h.get h1 h2 hx
  unfold Lg.lasts Sg.lastsAt
  rw [hx]
  simp only [hi]
  exact decide_eq_true (by omega)
theorem LI.lasts_no {room : Int} {n : Nat} {R : Nat → Rc} {g : Lg} (h : LI room n R g) {p : Nat} (h1 : g.trim ≤ p) (h2 : p < g.next) {x : SB} (hx : g.segs[stripeM g.m p]? = some x) (hs : x.d.lasts = 0) : g.lasts p = false := by
  obtain ⟨i, hi, hl⟩ := h.get h1 h2 hx
  unfold Lg.lasts Sg.lastsAt
  rw [hx]
  simp only [hi]
  exact decide_eq_false (by omega)
def Lg.synced (g : Lg) : Prop := ∀ x ∈ g.segs, x.d.lasts = x.d.lines.length
theorem LI.head {room : Int} {n : Nat} {R : Nat → Rc} {g : Lg} (h : LI room n R g) (hd : g.down = false) (hs : g.synced) : g.head = g.next := by
  refine head_eq hd h.bd.1 (Nat.le_refl _) (fun p h1 h2 => ?_) (.inl rfl)
  obtain ⟨x, hx⟩ := h.ok.at_ (pos := (p : Int)) (by omega)
  exact h.lasts h1 h2 hx (hs x (List.mem_of_getElem? hx))
theorem LI.rcd {room : Int} {n : Nat} {R : Nat → Rc} {g : Lg} (h : LI room n R g) {p : Nat} (h1 : g.trim ≤ p) (h2 : p < g.next) : g.rcd p = R p := by
  obtain ⟨x, hx⟩ := h.ok.at_ (pos := (p : Int)) (by omega)
  obtain ⟨i, hi, hl⟩ := h.get h1 h2 hx
  have := (h.sl x (List.mem_of_getElem? hx)).2
  unfold Lg.rcd Sg.get
  rw [hx]
  simp only [hi]
  rw [if_neg (by omega)]
end Go.Sl

set_option linter.unusedVariables false
set_option linter.unusedSimpArgs false
namespace Go.Sl
structure SegUp (f : SB → Sg × Dk) (l0 : List SB) (k : Nat) (l : List SB) : Prop where
  len : l.length = l0.length
  sb : l.map (·.sb) = l0.map (·.sb)
  old : ∀ i, k ≤ i → l[i]? = l0[i]?
  new : ∀ i x, i < k → l0[i]? = some x → ∃ p, l[i]? = some (x.upd p (f x))
theorem segUp_zero (f : SB → Sg × Dk) (l : List SB) : SegUp f l 0 l := ⟨rfl, rfl, fun _ _ => rfl, fun i x h => absurd h (Nat.not_lt_zero i)⟩
theorem segUp_step {f : SB → Sg × Dk} {l0 l : List SB} {k : Nat} {x : SB} (h : SegUp f l0 k l) (hx : l[k]? = some x) (p : Pl) : SegUp f l0 (k + 1) (l.set k (x.upd p (f x))) := by
  obtain ⟨hk, _⟩ := List.getElem?_eq_some_iff.1 hx
  refine ⟨by rw [List.length_set]; exact h.len, by rw [sb_map hx]; exact h.sb, fun i hi => ?_, fun i y hi hy => ?_⟩
  · rw [List.getElem?_set_ne (by omega)]
    exact h.old i (by omega)
  · by_cases e : i = k
    · subst e
      rw [← h.old i (Nat.le_refl _), hx] at hy
      obtain rfl := Option.some.inj hy
      exact ⟨p, List.getElem?_set_self hk⟩
    · rw [List.getElem?_set_ne (fun h => e h.symm)]
      exact h.new i y (by omega) hy
def hasS (l : List SB) (p : Int) : Bool := l.any fun x => (mget x.s.m p).isSome
structure SegOp (l0 : List SB) (k : Nat) (l : List SB) : Prop where
  len : l.length = l0.length
  old : ∀ i, k ≤ i → l[i]? = l0[i]?
  new : ∀ i x, i < k → l0[i]? = some x → ∃ sb mb p, l[i]? = some ⟨sb, x.db, mb, p, x.d.opened.1, x.d.opened.2⟩
theorem segOp_zero (l : List SB) : SegOp l 0 l := ⟨rfl, fun _ _ => rfl, fun i x h => absurd h (Nat.not_lt_zero i)⟩
theorem segOp_step {l0 l : List SB} {k : Nat} {x : SB} (h : SegOp l0 k l) (hx : l[k]? = some x) (sb mb : Nat) (p : Pl) : SegOp l0 (k + 1) (l.set k ⟨sb, x.db, mb, p, x.d.opened.1, x.d.opened.2⟩) := by
  obtain ⟨hk, _⟩ := List.getElem?_eq_some_iff.1 hx
  refine ⟨by rw [List.length_set]; exact h.len, fun i hi => ?_, fun i y hi hy => ?_⟩
  · rw [List.getElem?_set_ne (by omega)]
    exact h.old i (by omega)
  · by_cases e : i = k
    · subst e
      rw [← h.old i (Nat.le_refl _), hx] at hy
      obtain rfl := Option.some.inj hy
      exact ⟨sb, mb, p, List.getElem?_set_self hk⟩
    · rw [List.getElem?_set_ne (fun h => e h.symm)]
      exact h.new i y (by omega) hy
def keptP (g : Lg) (keep : List Int) (p : Nat) : Bool := match g.segs[stripeM g.m p]? with
  | some x => match mget x.s.m p with
    | some y => decide (y.2 < keptD x.d (keep.getD (stripeM g.m p) 0))
    | none => false
  | none => false
theorem keptP_of_lasts {g : Lg} {keep : List Int} {p : Nat} (h : g.lasts p = true) : keptP g keep p = true := by
  unfold Lg.lasts Sg.lastsAt at h
  unfold keptP
  split at h
  · split at h
    · cases h
    · have := of_decide_eq_true h
      rename_i x hx _ y hy
      simp only [hx, hy]
      exact decide_eq_true (by have := kept_ge x.d (keep.getD (stripeM g.m p) 0); omega)
  · cases h
section
variable {room : Int} {n : Nat} {R : Nat → Rc} {g : Lg} {keep : List Int} {l : List SB}
theorem fallen_at (h : LI room n R g) (hc : SegCr keep g.segs 8 l) {i : Nat} {x : SB} (hx : g.segs[i]? = some x) : ∃ z, l[i]? = some z ∧ z.d = x.d.crash (keep.getD i 0) ∧ z.d.opened = (x.s.upto (keptD x.d (keep.getD i 0)), x.d.crash (keep.getD i 0)) := by
  have hi : i < 8 := by
    have := (List.getElem?_eq_some_iff.1 hx).1
    rw [h.len] at this; exact this
  obtain ⟨p, hp⟩ := hc.new i x hi hx
  exact ⟨_, hp, rfl, (h.sg x (List.mem_of_getElem? hx)).opened _⟩
theorem has_iff (h : LI room n R g) (hc : SegCr keep g.segs 8 l) {l2 : List SB} (ho : SegOp l 8 l2) (p : Int) : hasS l2 p = true ↔ ∃ q : Nat, p = (q : Int) ∧ g.trim ≤ q ∧ q < g.next ∧ keptP g keep q = true := by
  unfold hasS
  rw [List.any_eq_true]
  constructor
  · rintro ⟨z2, hz2, hs⟩
    obtain ⟨i, hi, rfl⟩ := List.mem_iff_getElem.1 hz2
    have hlen : i < g.segs.length := by rw [← hc.len, ← ho.len]; exact hi
    have hx := List.getElem?_eq_getElem hlen
    obtain ⟨z, hz, hd, hop⟩ := fallen_at h hc hx
    obtain ⟨sb, mb, pl, hz3⟩ := ho.new i z (by rw [h.len] at hlen; exact hlen) hz
    rw [List.getElem?_eq_getElem hi] at hz3
    have e := Option.some.inj hz3
    rw [e] at hs
    simp only [hop] at hs
    rw [upto_get (h.sg _ (List.getElem_mem hlen)).nd] at hs
    have hmg := h.mg i _ hx p
    cases hm : mget g.segs[i].s.m p with
    | none => rw [hm] at hs; cases hs
    | some y =>
      rw [hm] at hs hmg
      have hy : y.2 < keptD g.segs[i].d (keep.getD i 0) := by
        by_cases hlt : y.2 < keptD g.segs[i].d (keep.getD i 0)
        · exact hlt
        · exact absurd hs (by simp only [Option.filter, decide_eq_false hlt]; exact fun h => by cases h)
      split at hmg
      · rename_i hcnd
        obtain ⟨c1, c2, c3⟩ := hcnd
        refine ⟨p.toNat, by omega, by omega, by omega, ?_⟩
        have hpe : ((p.toNat : Nat) : Int) = p := by omega
        unfold keptP
        rw [hpe, c3, hx]
        simp only [hm]
        exact decide_eq_true hy
      · cases hmg
  · rintro ⟨q, rfl, h1, h2, hk⟩
    unfold keptP at hk
    split at hk
    · rename_i x hx
      split at hk
      · rename_i y hy
        have hl := of_decide_eq_true hk
        obtain ⟨z, hz, hd, hop⟩ := fallen_at h hc hx
        have hlen : stripeM g.m q < 8 := by
          have := (List.getElem?_eq_some_iff.1 hx).1
          rw [h.len] at this; exact this
        obtain ⟨sb, mb, pl, hz3⟩ := ho.new _ z hlen hz
        refine ⟨_, List.mem_of_getElem? hz3, ?_⟩
        simp only [hop]
        rw [upto_get (h.sg x (List.mem_of_getElem? hx)).nd, hy]
        simp only [Option.filter, decide_eq_true hl]; rfl
      · cases hk
    · cases hk
def reB (nx : Nat) (more : Bool) (x : SB) : Sg × Dk := if more = true then (x.d.opened.1.cutAt x.d.opened.2 nx).2 else x.d.opened
structure SegRe (l0 : List SB) (nx : Nat) (more : Bool) (l : List SB) : Prop where
  len : l.length = l0.length
  at_ : ∀ (i : Nat) (x : SB), l0[i]? = some x → ∃ sb mb p, l[i]? = some (⟨sb, x.db, mb, p, (reB nx more x).1, (reB nx more x).2⟩ : SB)
theorem re_at (h : LI room n R g) (hc : SegCr keep g.segs 8 l) {nx : Nat} {more : Bool} (hn : n < 7000) (hx0 : nx ≤ g.next) (hroom : (128 * n + 128 : Int) ≤ room) {i : Nat} {x : SB} (hx : g.segs[i]? = some x) : ∃ z, l[i]? = some z ∧ (z.d.opened.1.cutAt z.d.opened.2 nx).1 = 0 ∧ SgI (reB nx more z).1 (reB nx more z).2 ∧ (reB nx more z).2.room = room ∧ usedL (reB nx more z).2.lines ≤ 128 * (n + 1) ∧ (reB nx more z).2.lasts = (reB nx more z).2.lines.length ∧
    (reB nx more z).1.sealed = x.s.sealed ∧ (reB nx more z).1.trim = x.s.trim ∧ ∀ p : Int, mget (reB nx more z).1.m p = if more = true ∧ ¬ p < nx then none else (mget x.s.m p).filter fun y => decide (y.2 < keptD x.d (keep.getD i 0)) := by
  obtain ⟨z, hz, hd, hop⟩ := fallen_at h hc hx
  have hm := List.mem_of_getElem? hx
  have hsg := h.sg x hm
  have hcr := hsg.crash (keep.getD i 0)
  have hrm := h.rm x hm
  have hb := h.bd
  have hu : usedL (x.d.crash (keep.getD i 0)).lines ≤ 128 * n := Nat.le_trans (usedL_take _ _) hrm.2
  have hl := lineN_len (k := 99) (n := nx) (by omega)
  have hlen : (x.d.crash (keep.getD i 0)).lines.length = (x.d.crash (keep.getD i 0)).lasts := by
    show (x.d.lines.take (keptD x.d (keep.getD i 0))).length = keptD x.d (keep.getD i 0)
    have := kept_le hsg.ok (keep.getD i 0)
    rw [List.length_take]; omega
  have hroom2 : (x.d.crash (keep.getD i 0)).room = room := hrm.1
  have ec := cut_eq (s := x.s.upto (keptD x.d (keep.getD i 0))) (d := x.d.crash (keep.getD i 0)) (pos := (nx : Int)) ⟨by omega, by omega⟩ (by rw [Int.toNat_natCast, hroom2]; omega)
  rw [Int.toNat_natCast] at ec
  have hcut := sgi_cut hcr (n := nx) (by omega) (by rw [hroom2]; omega)
  refine ⟨z, hz, by rw [hop]; simp only [ec], ?_⟩
  unfold reB
  rw [hop]
  cases more with
  | true =>
    rw [if_pos rfl]
    simp only [ec]
    refine ⟨hcut, hroom2, ?_, ?_, rfl, rfl, ?_⟩
    · rw [usedL_app]; simp only [usedL, size_txB]; omega
    · rw [List.length_append]; rfl
    · intro p
      show mget ((x.s.upto (keptD x.d (keep.getD i 0))).m.filter fun q => decide (q.1 < (nx : Int))) p = _
      rw [mget_filter (fun k => decide (k < (nx : Int))) p, upto_get hsg.nd]
      by_cases hp : p < (nx : Int)
      · simp [hp]
      · simp [hp]
  | false =>
    rw [if_neg (by decide)]
    refine ⟨hcr, hroom2, Nat.le_trans hu (by omega), hlen.symm, rfl, rfl, ?_⟩
    intro p
    rw [upto_get hsg.nd]
    simp
theorem li_back (h : LI room n R g) (hc : SegCr keep g.segs 8 l) {nx : Nat} {more : Bool} {l' : List SB} (hr : SegRe l nx more l') (hn : n < 7000) (hroom : (128 * n + 128 : Int) ≤ room) (hn1 : g.trim ≤ nx) (hn2 : nx ≤ g.next) (hk : ∀ p, g.trim ≤ p → p < nx → keptP g keep p = true)
    (hmore : more = true ∨ ∀ p, nx ≤ p → p < g.next → keptP g keep p = false) (hlast : ∀ y, g.m[g.m.length - 1]? = some y → y.1 ≤ (nx : Int)) {g' : Lg} (hs : g'.segs = l') (hm : g'.m = g.m) (ht : g'.trim = g.trim) (hnx : g'.next = nx) (ho : g'.own.Ok) : LI room (n + 1) R g' ∧ g'.synced := by
  have hb := h.bd
  have hall : ∀ (i : Nat) (z2 : SB), l'[i]? = some z2 → ∃ x z, g.segs[i]? = some x ∧ l[i]? = some z ∧ z2.s = (reB nx more z).1 ∧ z2.d = (reB nx more z).2 := by
    intro i z2 hz2
    have hi := (List.getElem?_eq_some_iff.1 hz2).1
    have hlen : i < g.segs.length := by rw [← hc.len, ← hr.len]; exact hi
    obtain ⟨z, hz, _⟩ := re_at (more := more) h hc hn hn2 hroom (List.getElem?_eq_getElem hlen)
    obtain ⟨sb, mb, p, hp⟩ := hr.at_ i z hz
    rw [hz2] at hp
    have e := Option.some.inj hp
    exact ⟨_, z, List.getElem?_eq_getElem hlen, hz, by rw [e], by rw [e]⟩
  have hmem : ∀ z2 ∈ l', ∃ i, l'[i]? = some z2 := fun z2 hz2 => by
    obtain ⟨i, hi, rfl⟩ := List.mem_iff_getElem.1 hz2
    exact ⟨i, List.getElem?_eq_getElem hi⟩
  have hre : ∀ (i : Nat) (z2 : SB), l'[i]? = some z2 → ∃ x, g.segs[i]? = some x ∧ SgI z2.s z2.d ∧ z2.d.room = room ∧ usedL z2.d.lines ≤ 128 * (n + 1) ∧ z2.d.lasts = z2.d.lines.length ∧ z2.s.sealed = x.s.sealed ∧ z2.s.trim = x.s.trim ∧ ∀ p : Int, mget z2.s.m p = if more = true ∧ ¬ p < nx then none else (mget x.s.m p).filter fun y => decide (y.2 < keptD x.d (keep.getD i 0)) := by
    intro i z2 hz2
    obtain ⟨x, z, hx, hz, e1, e2⟩ := hall i z2 hz2
    obtain ⟨z', hz', _, hrest⟩ := re_at (more := more) h hc hn hn2 hroom hx
    rw [hz] at hz'
    obtain rfl := Option.some.inj hz'
    rw [e1, e2]
    exact ⟨x, hx, hrest⟩
  refine ⟨⟨by rw [hm]; exact h.m, by rw [hm, hnx]; exact hlast, by rw [hm]; exact h.ml, by rw [hs, hr.len, hc.len]; exact h.len, by rw [ht, hnx]; omega, ho, ?_, ?_, ?_, ?_, ?_⟩, ?_⟩
  · intro z2 hz2
    rw [hs] at hz2
    obtain ⟨i, hi⟩ := hmem z2 hz2
    obtain ⟨x, hx, h1, _⟩ := hre i z2 hi
    exact h1
  · intro z2 hz2
    rw [hs] at hz2
    obtain ⟨i, hi⟩ := hmem z2 hz2
    obtain ⟨x, hx, _, h2, h3, _⟩ := hre i z2 hi
    exact ⟨h2, h3⟩
  · intro z2 hz2
    rw [hs] at hz2
    obtain ⟨i, hi⟩ := hmem z2 hz2
    obtain ⟨x, hx, _, _, _, _, h5, h6, _⟩ := hre i z2 hi
    have := h.sl x (List.mem_of_getElem? hx)
    rw [hm, ht, h5, h6]; exact this
  · intro k z2 hz2 p
    rw [hs] at hz2
    obtain ⟨x, hx, _, _, _, _, _, _, h7⟩ := hre k z2 hz2
    rw [h7 p, hm, ht, hnx]
    have hmg := h.mg k x hx p
    by_cases hcnd : (g.trim : Int) ≤ p ∧ p < g.next ∧ stripeM g.m p = k
    · rw [if_pos hcnd] at hmg
      obtain ⟨y, hy, e⟩ := Option.map_eq_some_iff.1 hmg
      have hpe : ((p.toNat : Nat) : Int) = p := by omega
      have hkp : keptP g keep p.toNat = decide (y.2 < keptD x.d (keep.getD k 0)) := by
        unfold keptP
        rw [hpe, hcnd.2.2, hx]
        simp only [hy]
      by_cases hp : p < (nx : Int)
      · rw [if_neg (fun hh => hh.2 hp), if_pos ⟨hcnd.1, hp, hcnd.2.2⟩, hy]
        have := hk p.toNat (by omega) (by omega)
        rw [hkp] at this
        simp only [Option.filter, this, if_true, Option.map_some, e]
      · rw [if_neg (show ¬ ((g.trim : Int) ≤ p ∧ p < (nx : Int) ∧ stripeM g.m p = k) from fun hh => hp hh.2.1)]
        rcases hmore with hmore | hmore
        · rw [if_pos ⟨hmore, hp⟩]; rfl
        · have := hmore p.toNat (by omega) (by omega)
          rw [hkp] at this
          rw [hy]
          split
          · rfl
          · simp only [Option.filter, this]; rfl
    · rw [if_neg hcnd] at hmg
      have hno : mget x.s.m p = none := Option.map_eq_none_iff.1 hmg
      rw [if_neg (show ¬ ((g.trim : Int) ≤ p ∧ p < (nx : Int) ∧ stripeM g.m p = k) by omega), hno]
      split <;> rfl
  · intro p h1 h2
    rw [ht] at h1
    rw [hnx] at h2
    exact h.rz p h1 (by omega)
  · intro z2 hz2
    rw [hs] at hz2
    obtain ⟨i, hi⟩ := hmem z2 hz2
    obtain ⟨x, hx, _, _, _, h4, _⟩ := hre i z2 hi
    exact h4
end
theorem first_missing (f : Nat → Bool) (a : Nat) : ∀ k, ∃ q, a ≤ q ∧ q ≤ a + k ∧ (∀ p, a ≤ p → p < q → f p = true) ∧ (q = a + k ∨ f q = false)
  | 0 => ⟨a, Nat.le_refl _, by omega, fun p h1 h2 => by omega, .inl rfl⟩
  | k + 1 => by
    obtain ⟨q, h1, h2, h3, h4⟩ := first_missing f a k
    rcases h4 with h4 | h4
    · cases hf : f q with
      | false => exact ⟨q, h1, by omega, h3, .inr hf⟩
      | true => exact ⟨q + 1, by omega, by omega, fun p hp1 hp2 => by
          by_cases e : p = q
          · subst e; exact hf
          · exact h3 p hp1 (by omega), .inl (by omega)⟩
    · exact ⟨q, h1, by omega, h3, .inr h4⟩
end Go.Sl

set_option linter.unusedVariables false
set_option linter.unusedSimpArgs false
namespace Go.Sl
theorem li_up {room : Int} {n n' : Nat} {R : Nat → Rc} {g g' : Lg} {f : SB → Sg × Dk} {l : List SB} (h : LI room n R g) (hs : SegUp f g.segs 8 l) (e1 : g'.segs = l) (hM : MapOk g'.m) (hlm : ∀ y, g'.m[g'.m.length - 1]? = some y → y.1 ≤ (g'.next : Int)) (hml : g'.m.length ≤ 100)
    (hbd : g'.trim ≤ g'.next ∧ g'.next ≤ n' ∧ n' ≤ 7000) (ho : g'.own.Ok) (hx : ∀ i x, g.segs[i]? = some x → SgI (f x).1 (f x).2 ∧ ((f x).2.room = room ∧ usedL (f x).2.lines ≤ 128 * n') ∧ ((f x).1.sealed < g'.m.length ∧ (f x).1.trim = g'.trim) ∧
      ∀ p : Int, (mget (f x).1.m p).map (·.1) = if (g'.trim : Int) ≤ p ∧ p < g'.next ∧ stripeM g'.m p = i then some (R p.toNat) else none) (hrz : ∀ p, g'.trim ≤ p → p < g'.next → SmR (R p)) : LI room n' R g' := by
  have hall : ∀ (i : Nat) (z : SB), l[i]? = some z → ∃ x, g.segs[i]? = some x ∧ z.s = (f x).1 ∧ z.d = (f x).2 := by
    intro i z hz
    have hi := (List.getElem?_eq_some_iff.1 hz).1
    have hlen : i < g.segs.length := by rw [← hs.len]; exact hi
    obtain ⟨p, hp⟩ := hs.new i _ (by rw [h.len] at hlen; exact hlen) (List.getElem?_eq_getElem hlen)
    rw [hz] at hp
    have e := Option.some.inj hp
    exact ⟨_, List.getElem?_eq_getElem hlen, by rw [e]; rfl, by rw [e]; rfl⟩
  have hmem : ∀ z ∈ l, ∃ i, l[i]? = some z := fun z hz => by
    obtain ⟨i, hi, rfl⟩ := List.mem_iff_getElem.1 hz
    exact ⟨i, List.getElem?_eq_getElem hi⟩
  refine ⟨hM, hlm, hml, by rw [e1, hs.len]; exact h.len, hbd, ho, ?_, ?_, ?_, ?_, hrz⟩
  · intro z hz
    rw [e1] at hz
    obtain ⟨i, hi⟩ := hmem z hz
    obtain ⟨x, hx2, h1, h2⟩ := hall i z hi
    rw [h1, h2]; exact (hx i x hx2).1
  · intro z hz
    rw [e1] at hz
    obtain ⟨i, hi⟩ := hmem z hz
    obtain ⟨x, hx2, h1, h2⟩ := hall i z hi
    rw [h2]; exact (hx i x hx2).2.1
  · intro z hz
    rw [e1] at hz
    obtain ⟨i, hi⟩ := hmem z hz
    obtain ⟨x, hx2, h1, h2⟩ := hall i z hi
    rw [h1]; exact (hx i x hx2).2.2.1
  · intro k z hz p
    rw [e1] at hz
    obtain ⟨x, hx2, h1, h2⟩ := hall k z hz
    rw [h1]; exact (hx k x hx2).2.2.2 p
theorem up_synced {n : Nat} {g g' : Lg} {f : SB → Sg × Dk} {l : List SB} (hl : g.segs.length = 8) (hs : SegUp f g.segs 8 l) (e1 : g'.segs = l) (hx : ∀ x ∈ g.segs, (f x).2.lasts = (f x).2.lines.length) : g'.synced := by
  intro z hz
  rw [e1] at hz
  obtain ⟨i, hi, rfl⟩ := List.mem_iff_getElem.1 hz
  have hlen : i < g.segs.length := by rw [← hs.len]; exact hi
  obtain ⟨p, hp⟩ := hs.new i _ (by rw [hl] at hlen; exact hlen) (List.getElem?_eq_getElem hlen)
  rw [List.getElem?_eq_getElem hi] at hp
  rw [Option.some.inj hp]
  exact hx _ (List.getElem_mem hlen)
theorem li_trim {room : Int} {n : Nat} {R : Nat → Rc} {g g' : Lg} {l : List SB} (h : LI room n R g) {pos : Nat} (h1 : g.trim ≤ pos ∧ pos ≤ g.next) (hn : n < 7000) (hroom : (128 * n + 128 : Int) ≤ room) (hs : SegUp (fun x => x.s.trimAt x.d pos) g.segs 8 l) (e1 : g'.segs = l) (hm : g'.m = g.m) (ht : g'.trim = pos) (hnx : g'.next = g.next) (ho : g'.own.Ok) :
    LI room (n + 1) R g' ∧ (g.synced → g'.synced) := by
  have hb := h.bd
  have hf : ∀ x ∈ g.segs, x.s.trimAt x.d pos = if g.trim < pos then (x.s.below pos, { x.d with lines := x.d.lines ++ [txB (lineN 116 pos)], lasts := x.d.lines.length + 1 }) else (x.s, x.d) := by
    intro x hx
    have hsl := h.sl x hx
    have hrm := h.rm x hx
    by_cases hlt : g.trim < pos
    · rw [if_pos hlt]
      have hl := lineN_len (k := 116) (n := pos) (by omega)
      have := trim_eq (s := x.s) (d := x.d) (pos := (pos : Int)) ⟨by omega, by omega⟩ (by rw [Int.toNat_natCast, hrm.1]; omega)
      rw [Int.toNat_natCast] at this
      exact this
    · rw [if_neg hlt]
      unfold Sg.trimAt
      rw [if_neg (by omega)]
  refine ⟨li_up h hs e1 (by rw [hm]; exact h.m) (by rw [hm, hnx]; exact h.lastm) (by rw [hm]; exact h.ml) (by rw [ht, hnx]; omega) ho ?_ (by rw [ht, hnx]; exact fun p hp1 hp2 => h.rz p (by omega) hp2), fun hsy => up_synced (n := n) h.len hs e1 ?_⟩
  · intro i x hx
    have hmm := List.mem_of_getElem? hx
    have hsl := h.sl x hmm
    have hrm := h.rm x hmm
    rw [hf x hmm, hm, ht, hnx]
    by_cases hlt : g.trim < pos
    · rw [if_pos hlt]
      have hl := lineN_len (k := 116) (n := pos) (by omega)
      refine ⟨sgi_trim (h.sg x hmm) (by omega) (by omega) (by rw [hrm.1]; omega), ⟨hrm.1, ?_⟩, ⟨hsl.1, rfl⟩, ?_⟩
      · show usedL (x.d.lines ++ [txB (lineN 116 pos)]) ≤ _
        rw [usedL_app]; simp only [usedL, size_txB]; omega
      · intro p
        show (mget (x.s.m.filter fun q => decide ((pos : Int) ≤ q.1)) p).map (·.1) = _
        rw [mget_filter (fun k => decide ((pos : Int) ≤ k)) p]
        have hmg := h.mg i x hx p
        by_cases hp : (pos : Int) ≤ p
        · rw [if_pos (decide_eq_true hp), hmg]
          by_cases hc : (g.trim : Int) ≤ p ∧ p < g.next ∧ stripeM g.m p = i
          · rw [if_pos hc, if_pos ⟨hp, hc.2⟩]
          · rw [if_neg hc, if_neg (fun hh => hc ⟨by omega, hh.2⟩)]
        · rw [if_neg (by simpa using hp), if_neg (fun hh => hp hh.1)]; rfl
    · rw [if_neg hlt]
      have he : g.trim = pos := by omega
      refine ⟨h.sg x hmm, ⟨hrm.1, by show usedL x.d.lines ≤ _; omega⟩, ⟨hsl.1, by rw [← he]; exact hsl.2⟩, fun p => ?_⟩
      rw [← he]; exact h.mg i x hx p
  · intro x hx
    show (x.s.trimAt x.d pos).2.lasts = (x.s.trimAt x.d pos).2.lines.length
    rw [hf x hx]
    split
    · simp
    · exact hsy x hx
theorem findI_app {m l : List (Int × Int)} {p : Int} : ∀ i, i < m.length → findI (m ++ l) p i = findI m p i
  | 0, _ => rfl
  | i + 1, hi => by
    unfold findI
    rw [findI_app i (by omega)]
    have : (m ++ l).getD (i + 1) (0, 1) = m.getD (i + 1) (0, 1) := by
      rw [List.getD, List.getD, List.getElem?_append_left hi]
    rw [this]
theorem stripe_app {m : List (Int × Int)} (hm : 0 < m.length) {y : Int × Int} {p : Int} (hp : p < y.1) : stripeM (m ++ [y]) p = stripeM m p := by
  have hs : spanI (m ++ [y]) p = spanI m p := by
    unfold spanI
    rw [List.length_append]
    obtain ⟨k, hk⟩ : ∃ k, m.length = k + 1 := ⟨m.length - 1, by omega⟩
    show findI (m ++ [y]) p (m.length + 1 - 1) = _
    rw [Nat.add_sub_cancel, hk, Nat.add_sub_cancel]
    rw [show findI (m ++ [y]) p (k + 1) = if p < ((m ++ [y]).getD (k + 1) (0, 1)).1 then findI (m ++ [y]) p k else k + 1 from rfl, if_pos]
    · exact findI_app (m := m) (l := [y]) (p := p) k (by omega)
    · rw [List.getD, ← hk, List.getElem?_append_right (Nat.le_refl _), Nat.sub_self]
      exact hp
  unfold stripeM spanAt
  rw [hs]
  have hlt : spanI m p < m.length := by
    have := findI_le m p (m.length - 1)
    unfold spanI; omega
  rw [List.getD, List.getD, List.getElem?_append_left hlt]
theorem map_app {m : List (Int × Int)} (h : MapOk m) {f n : Int} (hl : ∀ y, m[m.length - 1]? = some y → y.1 ≤ f) (hf : 0 ≤ f ∧ f ≤ 2147483647) (hn : 1 ≤ n ∧ n ≤ 8) (hml : m.length ≤ 99) : MapOk (m ++ [(f, n)]) := by
  have h0 := h.len.1
  refine ⟨by rw [List.length_append]; simp; omega, ?_, ?_, ?_⟩
  · intro x hx
    rw [List.getElem?_append_left h0] at hx
    exact h.zero x hx
  · intro i x y hx hy
    have hi := (List.getElem?_eq_some_iff.1 hy).1
    rw [List.length_append] at hi
    simp only [List.length_cons, List.length_nil] at hi
    rcases Nat.lt_or_ge (i + 1) m.length with hlt | hge
    · rw [List.getElem?_append_left (by omega)] at hx
      rw [List.getElem?_append_left hlt] at hy
      exact h.ris i x y hx hy
    · have hie : i = m.length - 1 := by omega
      rw [List.getElem?_append_left (by omega)] at hx
      rw [List.getElem?_append_right (by omega), show i + 1 - m.length = 0 by omega] at hy
      have := Option.some.inj hy
      subst this
      rw [hie] at hx
      exact hl x hx
  · intro x hx
    rcases List.mem_append.1 hx with hx | hx
    · exact h.bd x hx
    · simp at hx; subst hx
      exact ⟨hf.1, hf.2, hn.1, hn.2⟩
theorem li_resize {room : Int} {n : Nat} {R : Nat → Rc} {g g' : Lg} {l : List SB} {N : Int} (h : LI room n R g) (hN : 1 ≤ N ∧ N ≤ 8) (hml : g.m.length ≤ 99) (hn : n < 7000) (hroom : (128 * n + 128 : Int) ≤ room) (hs : SegUp (fun x => (x.s.sealG x.d (g.m.length : Int)).2) g.segs 8 l) (e1 : g'.segs = l) (hm : g'.m = g.m ++ [((g.next : Int), N)]) (ht : g'.trim = g.trim) (hnx : g'.next = g.next) (ho : g'.own.Ok) :
    LI room (n + 1) R g' ∧ g'.synced ∧ ∀ x ∈ g.segs, (x.s.sealG x.d (g.m.length : Int)).1.2 = 0 := by
  have hb := h.bd
  have h0 := h.m.len.1
  have hf : ∀ x ∈ g.segs, x.s.sealG x.d (g.m.length : Int) = ((nextM x.s.m x.s.trim, 0), { x.s with sealed := g.m.length }, { x.d with lines := x.d.lines ++ [txB (lineN 115 g.m.length)], lasts := x.d.lines.length + 1 }) := by
    intro x hx
    have hsl := h.sl x hx
    have hrm := h.rm x hx
    have hl := lineN_len (k := 115) (n := g.m.length) (by omega)
    have := seal_eq (s := x.s) (d := x.d) (ep := (g.m.length : Int)) ⟨by omega, by omega⟩ (by omega) (by rw [Int.toNat_natCast, hrm.1]; omega)
    rw [Int.toNat_natCast] at this
    exact this
  have hlen' : g'.m.length = g.m.length + 1 := by rw [hm, List.length_append]; rfl
  refine ⟨li_up h hs e1 (by rw [hm]; exact map_app h.m h.lastm ⟨by omega, by omega⟩ hN hml) ?_ (by omega) (by rw [ht, hnx]; omega) ho ?_ (by rw [ht, hnx]; exact h.rz), up_synced (n := n) h.len hs e1 ?_, fun x hx => by rw [hf x hx]⟩
  · intro y hy
    rw [hlen', Nat.add_sub_cancel, hm, List.getElem?_append_right (Nat.le_refl _), Nat.sub_self] at hy
    have := Option.some.inj hy
    subst this
    rw [hnx]; exact Int.le_refl _
  · intro i x hx
    have hmm := List.mem_of_getElem? hx
    have hsl := h.sl x hmm
    have hrm := h.rm x hmm
    have hl := lineN_len (k := 115) (n := g.m.length) (by omega)
    rw [hf x hmm, ht, hnx, hlen']
    refine ⟨sgi_seal (h.sg x hmm) (by omega) hsl.1 (by rw [hrm.1]; omega), ⟨hrm.1, ?_⟩, ⟨by show g.m.length < _; omega, hsl.2⟩, ?_⟩
    · show usedL (x.d.lines ++ [txB (lineN 115 g.m.length)]) ≤ _
      rw [usedL_app]; simp only [usedL, size_txB]; omega
    · intro p
      show (mget x.s.m p).map (·.1) = _
      rw [h.mg i x hx p]
      by_cases hp : p < (g.next : Int)
      · rw [hm, stripe_app h0 hp]
      · rw [if_neg (by omega), if_neg (by omega)]
  · intro x hx
    show (x.s.sealG x.d (g.m.length : Int)).2.2.lasts = (x.s.sealG x.d (g.m.length : Int)).2.2.lines.length
    rw [hf x hx]
    simp
inductive OL
  | m (l : List (Int × Int))
  | t (q : Nat) (v : List Int)
def spanX (p : Int × Int) : Tx := Lib.decDigits p.1.toNat ++ 47 :: Lib.decDigits p.2.toNat
def mapX (l : List (Int × Int)) : Tx := joinX (l.map spanX)
def OL.text : OL → Tx
  | .m l => [109, 32] ++ mapX l
  | .t q v => [116, 32] ++ (Lib.decDigits q ++ 32 :: vecX v)
def OL.ok : OL → Prop
  | .m l => MapOk l ∧ l.length ≤ 100
  | .t q v => q ≤ 100000 ∧ v.length ≤ 8 ∧ ∀ x ∈ v, 0 ≤ x ∧ x ≤ 1048576
abbrev OSt := List (Int × Int) × Nat × List Int
def OL.step (s : OSt) : OL → OSt
  | .m l => (l, s.2.1, s.2.2)
  | .t q v => (s.1, q, trimV v)
structure OwnI (g : Lg) (ls : List OL) : Prop where
  lines : g.own.lines = ls.map fun o => txB o.text
  ok : ∀ o ∈ ls, o.ok
  dk : g.own.Ok
  sync : g.own.lasts = g.own.lines.length
  fm : ∀ t v, ∃ t' v', ls.foldl OL.step (g.m, t, v) = (g.m, t', v')
  ft : ∀ m v, ∃ m' v', ls.foldl OL.step (m, g.trim, v) = (m', g.trim, v') ∧ (v' = v ∨ v' = trimV g.gone)
theorem own_zero {g : Lg} {room : Int} (h : g.own = ⟨room, [], 0⟩) (hr : 1 ≤ room ∧ room ≤ 1048576) : OwnI g [] := by
  refine ⟨(by rw [h]; rfl), (fun o ho => by cases ho), ?_, (by rw [h]; rfl), fun t v => ⟨t, v, rfl⟩, fun m v => ⟨m, v, rfl, .inl rfl⟩⟩
  rw [h]
  exact ⟨hr, by show ((0 : Nat) : Int) ≤ room; omega, Nat.le_refl _⟩
theorem foldT : ∀ (ls : List OL) (m : List (Int × Int)) (t : Nat) (v : List Int), ∃ m' t' v', ls.foldl OL.step (m, t, v) = (m', t', v')
  | _, _, _, _ => ⟨_, _, _, rfl⟩
theorem OwnI.congr {g g' : Lg} {ls : List OL} (h : OwnI g ls) (ho : g'.own = g.own) (hm : g'.m = g.m) (ht : g'.trim = g.trim) (hv : trimV g'.gone = trimV g.gone) : OwnI g' ls := by
  refine ⟨by rw [ho]; exact h.lines, h.ok, by rw [ho]; exact h.dk, by rw [ho]; exact h.sync, by rw [hm]; exact h.fm, ?_⟩
  rw [ht, hv]; exact h.ft
theorem OwnI.end_ {g : Lg} {ls : List OL} (h : OwnI g ls) : ∃ v', ls.foldl OL.step (g.m, g.trim, g.gone) = (g.m, g.trim, v') ∧ (v' = g.gone ∨ v' = trimV g.gone) := by
  obtain ⟨t', v', e⟩ := h.fm g.trim g.gone
  obtain ⟨m2, v2, e2, hv⟩ := h.ft g.m g.gone
  rw [e] at e2
  injection e2 with a1 a2
  injection a2 with a2 a3
  subst a1 a2 a3
  exact ⟨v', e, hv⟩
theorem own_push {g g' : Lg} {ls : List OL} {o : OL} (h : OwnI g ls) (ho : o.ok) (hr : (usedL g.own.lines : Int) + o.text.length + 1 ≤ g.own.room) (hd : g'.own = { g.own with lines := g.own.lines ++ [txB o.text], lasts := g.own.lines.length + 1 })
    (hm : ∀ t v, ∃ t' v', OL.step ((ls.foldl OL.step (g'.m, t, v))) o = (g'.m, t', v')) (ht : ∀ m v, ∃ m' v', OL.step (ls.foldl OL.step (m, g'.trim, v)) o = (m', g'.trim, v') ∧ (v' = v ∨ v' = trimV g'.gone)) : OwnI g' (ls ++ [o]) := by
  refine ⟨by rw [hd, List.map_append, ← h.lines]; rfl, ?_, by rw [hd]; exact push_ok h.dk (Nat.le_refl _) hr, by rw [hd]; simp, ?_, ?_⟩
  · intro x hx
    rcases List.mem_append.1 hx with hx | hx
    · exact h.ok x hx
    · simp at hx; subst hx; exact ho
  · intro t v
    rw [List.foldl_append]; exact hm t v
  · intro m v
    rw [List.foldl_append]; exact ht m v
theorem own_m {g g' : Lg} {ls : List OL} (h : OwnI g ls) (ho : (OL.m g'.m).ok) (hr : (usedL g.own.lines : Int) + (OL.m g'.m).text.length + 1 ≤ g.own.room) (hd : g'.own = { g.own with lines := g.own.lines ++ [txB (OL.m g'.m).text], lasts := g.own.lines.length + 1 }) (ht : g'.trim = g.trim) (hv : g'.gone = g.gone) : OwnI g' (ls ++ [.m g'.m]) := by
  refine own_push h ho hr hd (fun t v => ?_) (fun m v => ?_)
  · obtain ⟨m', t', v', e⟩ := foldT ls g'.m t v
    exact ⟨t', v', by rw [e]; rfl⟩
  · rw [ht, hv] at *
    obtain ⟨m', v', e, h3⟩ := h.ft m v
    exact ⟨g'.m, v', by rw [e]; rfl, h3⟩
theorem own_t {g g' : Lg} {ls : List OL} {v : List Int} (h : OwnI g ls) (ho : (OL.t g'.trim v).ok) (hr : (usedL g.own.lines : Int) + (OL.t g'.trim v).text.length + 1 ≤ g.own.room) (hd : g'.own = { g.own with lines := g.own.lines ++ [txB (OL.t g'.trim v).text], lasts := g.own.lines.length + 1 }) (hm : g'.m = g.m) (hv : g'.gone = v) : OwnI g' (ls ++ [.t g'.trim v]) := by
  refine own_push h ho hr hd (fun t w => ?_) (fun m w => ?_)
  · rw [hm]
    obtain ⟨t', v', e⟩ := h.fm t w
    exact ⟨g'.trim, trimV v, by rw [e]; rfl⟩
  · obtain ⟨m', t', v', e⟩ := foldT ls m g'.trim w
    exact ⟨m', trimV v, by rw [e]; rfl, .inr (by rw [hv])⟩
theorem vecX_len {v : List Int} (h : ∀ x ∈ v, 0 ≤ x ∧ x ≤ 1048576) : (vecX v).length ≤ 2 + 8 * v.length := by
  have h1 := joinX_len 7 ((trimV v).map fun n => Lib.decDigits n.toNat) (by
    intro w hw
    obtain ⟨n, hn, rfl⟩ := List.mem_map.1 hw
    have := h n (trimV_mem hn)
    exact dec_len 6 n.toNat (by omega))
  rw [List.length_map] at h1
  have h2 := trimV_len v
  unfold vecX
  simp only [List.length_cons, List.length_append, List.length_nil]
  omega
theorem tX_len {q : Nat} {v : List Int} (hq : q < 100000) (h : ∀ x ∈ v, 0 ≤ x ∧ x ≤ 1048576) : (OL.t q v).text.length ≤ 10 + 8 * v.length := by
  have h1 := vecX_len h
  have h2 := dec_len 4 q (by omega)
  simp only [OL.text, List.length_cons, List.length_append, List.length_nil]
  omega
theorem mX_len {l : List (Int × Int)} (h : ∀ x ∈ l, 0 ≤ x.1 ∧ x.1 < 100000 ∧ 1 ≤ x.2 ∧ x.2 ≤ 8) : (OL.m l).text.length ≤ 2 + 8 * l.length := by
  have h1 := joinX_len 7 (l.map spanX) (by
    intro w hw
    obtain ⟨p, hp, rfl⟩ := List.mem_map.1 hw
    have := h p hp
    have a := dec_len 4 p.1.toNat (by omega)
    have b := dec_len 0 p.2.toNat (by omega)
    simp only [spanX, List.length_cons, List.length_append]
    omega)
  rw [List.length_map] at h1
  simp only [OL.text, mapX, List.length_cons, List.length_append, List.length_nil]
  omega
theorem own_crash {g : Lg} {ls : List OL} (h : OwnI g ls) : g.own.crash 0 = g.own := by
  rw [crash0, h.sync]
  unfold Dk.front
  rw [List.take_length, ← h.sync]
end Go.Sl

set_option linter.unusedVariables false
set_option linter.unusedSimpArgs false
namespace Go.Sl
structure LNew (room : Int) (k : Int) (g : Lg) : Prop where
  m : g.m = [(0, k)]
  trim : g.trim = 0
  gone : g.gone = []
  next : g.next = 0
  down : g.down = false
  own : g.own = ⟨room, [], 0⟩
  len : g.segs.length = 8
  segs : ∀ x ∈ g.segs, x.s = ⟨[], 0, 0⟩ ∧ x.d = ⟨room, [], 0⟩
theorem map_one {k : Int} (h : 1 ≤ k ∧ k ≤ 8) : MapOk [(0, k)] := by
  refine ⟨by simp, fun x hx => by simp at hx; rw [← hx], fun i x y hx hy => by simp at hy, fun x hx => by simp at hx; subst hx; exact ⟨Int.le_refl _, by show (0 : Int) ≤ _; omega, h.1, h.2⟩⟩
theorem stripe_one {k : Int} (h : 1 ≤ k ∧ k ≤ 8) {p : Nat} : stripeM [(0, k)] p = p % k.toNat := by
  have e : spanAt [(0, k)] (p : Int) = (0, k) := rfl
  unfold stripeM
  rw [e]
  simp
theorem LNew.li {room k : Int} {g : Lg} (h : LNew room k g) (hk : 1 ≤ k ∧ k ≤ 8) (hr : 1 ≤ room ∧ room ≤ 1048576) (R : Nat → Rc) : LI room 0 R g := by
  have hmem : ∀ {i : Nat} {x : SB}, g.segs[i]? = some x → x.s = ⟨[], 0, 0⟩ := fun hx => (h.segs _ (List.mem_of_getElem? hx)).1
  refine ⟨by rw [h.m]; exact map_one hk, fun y hy => by rw [h.m] at hy; simp at hy; subst hy; rw [h.next]; exact Int.le_refl _, by rw [h.m]; simp, h.len, by rw [h.trim, h.next]; omega, ?_, ?_, ?_, ?_, ?_, fun p h1 h2 => by rw [h.next] at h2; omega⟩
  · rw [h.own]; exact (sgi_zero hr).ok
  · intro x hx
    obtain ⟨e1, e2⟩ := h.segs x hx
    rw [e1, e2]; exact sgi_zero hr
  · intro x hx
    obtain ⟨e1, e2⟩ := h.segs x hx
    rw [e2]; exact ⟨rfl, Nat.le_refl _⟩
  · intro x hx
    obtain ⟨e1, e2⟩ := h.segs x hx
    rw [e1, h.m, h.trim]; exact ⟨Nat.zero_lt_one, rfl⟩
  · intro i x hx p
    rw [hmem hx, h.next, h.trim, if_neg (by omega)]; rfl
theorem put_segs {g : Lg} {x z : SB} {p : Pl} {y : Int × Sg × Dk} {j : Nat} (hx : g.segs[stripeM g.m g.next]? = some x) (hz : (g.putG x p y).segs[j]? = some z) : (j = stripeM g.m g.next ∧ z = x.upd p y.2) ∨ (j ≠ stripeM g.m g.next ∧ g.segs[j]? = some z) := by
  have hk := (List.getElem?_eq_some_iff.1 hx).1
  simp only [Lg.putG] at hz
  by_cases hj : j = stripeM g.m g.next
  · subst hj
    rw [List.getElem?_set_self hk] at hz
    exact .inl ⟨rfl, (Option.some.inj hz).symm⟩
  · rw [List.getElem?_set_ne (fun h => hj h.symm)] at hz
    exact .inr ⟨hj, hz⟩
theorem sync_segs {g : Lg} {x z : SB} {k j : Nat} (hx : g.segs[k]? = some x) (hz : (g.sync k x).segs[j]? = some z) : (j = k ∧ z.s = x.s ∧ z.d = x.d.sync) ∨ (j ≠ k ∧ g.segs[j]? = some z) := by
  have hk := (List.getElem?_eq_some_iff.1 hx).1
  simp only [Lg.sync] at hz
  by_cases hj : j = k
  · subst hj
    rw [List.getElem?_set_self hk] at hz
    have e := (Option.some.inj hz).symm
    exact .inl ⟨rfl, by rw [e]; rfl, by rw [e]; rfl⟩
  · rw [List.getElem?_set_ne (fun h => hj h.symm)] at hz
    exact .inr ⟨hj, hz⟩
structure Rows (room : Int) (K i : Nat) (R : Nat → Rc) (g : Lg) : Prop where
  li : LI room i R g
  m : g.m = [(0, (K : Int))]
  trim : g.trim = 0
  next : g.next = i
  down : g.down = false
  segs : ∀ j z, g.segs[j]? = some z → z.d.lasts = 0 ∧ (0 < z.d.lines.length ↔ j < K ∧ j < i)
theorem rows_put {room : Int} {K i : Nat} {R : Nat → Rc} {g : Lg} (h : Rows room K i R g) (hk : 1 ≤ K ∧ K ≤ 8) {r : Rc} (hr : R i = r) (hk2 : SmR r) (hroom : (128 * i + 128 : Int) ≤ room) (hn : i < 7000) {x : SB} (hx : g.segs[stripeM g.m g.next]? = some x) :
    (x.s.put x.d (epochM g.m g.next) g.next r).1 = 0 ∧ ∀ p, Rows room K (i + 1) R (g.putG x p (x.s.put x.d (epochM g.m g.next) g.next r)) := by
  obtain ⟨h1, h2, h3, h4⟩ := li_put h.li (r := r) (by rw [h.next]; exact hr) hk2 hroom hn hx
  refine ⟨h1, fun p => ⟨h4 p, h.m, h.trim, ?_, h.down, fun j z hz => ?_⟩⟩
  · simp only [Lg.putG, h1, if_true]; rw [h.next]
  · have hst : stripeM g.m g.next = i % K := by rw [h.m, h.next, stripe_one (by omega)]; simp
    have hlt : i % K < K := Nat.mod_lt _ (by omega)
    have hle : i % K ≤ i := Nat.mod_le _ _
    rcases put_segs hx hz with ⟨rfl, rfl⟩ | ⟨hj, hz⟩
    · have hxs := h.segs _ x hx
      refine ⟨h2.trans hxs.1, ?_⟩
      show 0 < (x.s.put x.d (epochM g.m g.next) g.next r).2.2.lines.length ↔ _
      rw [h3, hst]
      omega
    · have hzs := h.segs j z hz
      refine ⟨hzs.1, hzs.2.trans ?_⟩
      rw [hst] at hj
      constructor
      · omega
      · rintro ⟨h5, h6⟩
        refine ⟨h5, ?_⟩
        by_cases he : j = i
        · subst he
          rw [Nat.mod_eq_of_lt h5] at hj
          exact absurd rfl hj
        · omega
end Go.Sl
namespace Go.Sl
structure SyncI (room : Int) (K c : Nat) (S : Nat → Bool) (R : Nat → Rc) (g : Lg) : Prop where
  li : LI room c R g
  m : g.m = [(0, (K : Int))]
  trim : g.trim = 0
  next : g.next = c
  down : g.down = false
  segs : ∀ j z, g.segs[j]? = some z → (S j = true → z.d.lasts = z.d.lines.length) ∧ (S j = false → z.d.lasts = 0) ∧ (0 < z.d.lines.length ↔ j < K ∧ j < c)
theorem Rows.syncI {room : Int} {K c : Nat} {R : Nat → Rc} {g : Lg} (h : Rows room K c R g) : SyncI room K c (fun _ => false) R g :=
  ⟨h.li, h.m, h.trim, h.next, h.down, fun j z hz => ⟨(fun hf => by cases hf), fun _ => (h.segs j z hz).1, (h.segs j z hz).2⟩⟩
theorem SyncI.step {room : Int} {K c : Nat} {S : Nat → Bool} {R : Nat → Rc} {g : Lg} (h : SyncI room K c S R g) {k : Nat} {x : SB} (hx : g.segs[k]? = some x) : SyncI room K c (fun i => S i || decide (i = k)) R (g.sync k x) := by
  refine ⟨li_sync h.li hx, h.m, h.trim, h.next, h.down, fun j z hz => ?_⟩
  rcases sync_segs hx hz with ⟨rfl, e1, e2⟩ | ⟨hj, hz⟩
  · have := h.segs _ x hx
    rw [e2]
    refine ⟨fun _ => rfl, fun hf => by simp at hf, ?_⟩
    show 0 < x.d.lines.length ↔ _
    exact this.2.2
  · have := h.segs _ z hz
    refine ⟨fun hs => this.1 (by simpa [hj] using hs), fun hs => this.2.1 (by simpa [hj] using hs), this.2.2⟩
theorem SyncI.congr {room : Int} {K c : Nat} {S S' : Nat → Bool} {R : Nat → Rc} {g : Lg} (h : SyncI room K c S R g) (he : ∀ j, j < 8 → S' j = S j) : SyncI room K c S' R g :=
  ⟨h.li, h.m, h.trim, h.next, h.down, fun j z hz => by
    have hj := (List.getElem?_eq_some_iff.1 hz).1
    rw [h.li.len] at hj
    rw [he j hj]; exact h.segs j z hz⟩
theorem SyncI.waits {room : Int} {K c : Nat} {S : Nat → Bool} {R : Nat → Rc} {g : Lg} (h : SyncI room K c S R g) {k : Nat} {x : SB} (hx : g.segs[k]? = some x) : decide ((0 : Int) < (x.d.lines.length : Int) - (x.d.lasts : Int)) = (!S k && decide (k < K ∧ k < c)) := by
  have := h.segs k x hx
  cases hs : S k with
  | true =>
    have e := this.1 hs
    rw [e]; simp
  | false =>
    have e := this.2.1 hs
    have h3 := this.2.2
    rw [e]
    simp only [Bool.not_false, Bool.true_and]
    congr 1
    apply propext
    omega
theorem SyncI.lasts {room : Int} {K c : Nat} {S : Nat → Bool} {R : Nat → Rc} {g : Lg} (h : SyncI room K c S R g) (hk : 1 ≤ K ∧ K ≤ 8) {p : Nat} (hp : p < c) : g.lasts p = S (p % K) := by
  obtain ⟨x, hx⟩ := h.li.ok.at_ (pos := (p : Int)) (by omega)
  have hst : stripeM g.m p = p % K := by rw [h.m, stripe_one (by omega)]; simp
  have := h.segs _ x hx
  rw [hst] at this
  cases hs : S (p % K) with
  | true => exact h.li.lasts (by rw [h.trim]; omega) (by rw [h.next]; exact hp) hx (this.1 hs)
  | false => exact h.li.lasts_no (by rw [h.trim]; omega) (by rw [h.next]; exact hp) hx (this.2.1 hs)
theorem SyncI.head {room : Int} {K c : Nat} {S : Nat → Bool} {R : Nat → Rc} {g : Lg} (h : SyncI room K c S R g) (hk : 1 ≤ K ∧ K ≤ 8) {q : Nat} (hq : q ≤ c) (h1 : ∀ p, p < q → S (p % K) = true) (h2 : q = c ∨ S (q % K) = false) : g.head = q := by
  refine head_eq h.down (by rw [h.trim]; omega) (by rw [h.next]; exact hq) (fun p _ hp => by rw [h.lasts hk (by omega)]; exact h1 p hp) ?_
  rcases Nat.lt_or_ge q c with hlt | hge
  · rcases h2 with h2 | h2
    · omega
    · exact .inr (by rw [h.lasts hk hlt]; exact h2)
  · exact .inl (by rw [h.next]; omega)
end Go.Sl

set_option linter.unusedVariables false
set_option linter.unusedSimpArgs false
namespace Go.Sl
def putAll (l : List (Int × Bool)) (a : List (Int × Rc)) : List (Int × Bool) := a.foldl (fun l p => mput l p.1 true) l
def posM (segs : List SB) : List (Int × Bool) := segs.foldl (fun l x => putAll l x.s.all) []
theorem putAll_take {l : List (Int × Bool)} {a : List (Int × Rc)} {i : Nat} {p : Int × Rc} (h : a[i]? = some p) : putAll l (a.take (i + 1)) = mput (putAll l (a.take i)) p.1 true := by
  unfold putAll
  rw [List.take_add_one, h]
  simp
theorem posM_take {segs : List SB} {i : Nat} {x : SB} (h : segs[i]? = some x) : posM (segs.take (i + 1)) = putAll (posM (segs.take i)) x.s.all := by
  unfold posM
  rw [List.take_add_one, h]
  simp
theorem putAll_get : ∀ (a : List (Int × Rc)) (l : List (Int × Bool)) (p : Int), mget (putAll l a) p = if p ∈ a.map (·.1) then some true else mget l p
  | [], l, p => by simp [putAll]
  | q :: a, l, p => by
    show mget (putAll (mput l q.1 true) a) p = _
    rw [putAll_get a, mget_mput]
    by_cases h1 : p ∈ a.map (·.1)
    · rw [if_pos h1, if_pos (by simp only [List.map_cons, List.mem_cons]; exact .inr h1)]
    · rw [if_neg h1]
      by_cases h2 : p = q.1
      · rw [if_pos h2, if_pos (by simp only [List.map_cons, List.mem_cons]; exact .inl h2)]
      · rw [if_neg h2, if_neg (by simp only [List.map_cons, List.mem_cons]; rintro (h | h); exact h2 h; exact h1 h)]
theorem all_keys {s : Sg} {p : Int} : p ∈ s.all.map (·.1) ↔ (mget s.m p).isSome = true := by
  rw [mget_isSome]
  unfold Sg.all
  rw [List.map_map, show ((·.1) ∘ fun k => (k, recM s.m k) : Int → Int) = id from rfl, List.map_id]
  unfold Sg.keys
  exact (sort_perm _).mem_iff
theorem foldl_get : ∀ (segs : List SB) (l : List (Int × Bool)) (p : Int), mget (segs.foldl (fun l x => putAll l x.s.all) l) p = if hasS segs p = true then some true else mget l p
  | [], l, p => by simp [hasS]
  | x :: segs, l, p => by
    rw [List.foldl_cons, foldl_get segs, putAll_get]
    unfold hasS
    rw [List.any_cons]
    by_cases h1 : (segs.any fun x => (mget x.s.m p).isSome) = true
    · rw [if_pos h1, if_pos (by rw [h1, Bool.or_true])]
    · rw [if_neg h1]
      by_cases h2 : (mget x.s.m p).isSome = true
      · rw [if_pos (all_keys.2 h2), if_pos (by rw [h2]; rfl)]
      · rw [if_neg (fun h => h2 (all_keys.1 h)), if_neg (by
          rw [Bool.or_eq_true]
          rintro (h | h)
          · exact h2 h
          · exact h1 h)]
theorem posM_get (segs : List SB) (p : Int) : mget (posM segs) p = if hasS segs p = true then some true else none := foldl_get segs [] p
def hasO (l : List SB) (p : Int) : Bool := l.any fun x => (mget x.d.opened.1.m p).isSome
def moreO (l : List SB) (nx : Nat) : Bool := l.any fun x => (keysM x.d.opened.1.m).any fun p => decide ((nx : Int) ≤ p)
theorem op_any {l0 l : List SB} (h : SegOp l0 8 l) (hl : l0.length = 8) (f : Sg → Bool) : (l.any fun x => f x.s) = l0.any fun x => f x.d.opened.1 := by
  have e : l.map (fun x => f x.s) = l0.map (fun x => f x.d.opened.1) := by
    apply List.ext_getElem?
    intro i
    rw [List.getElem?_map, List.getElem?_map]
    rcases Nat.lt_or_ge i 8 with hi | hi
    · have hx := List.getElem?_eq_getElem (l := l0) (i := i) (by omega)
      obtain ⟨sb, mb, p, hp⟩ := h.new i _ hi hx
      rw [hp, hx]; rfl
    · rw [List.getElem?_eq_none (by rw [h.len]; omega), List.getElem?_eq_none (by omega)]; rfl
  have h2 : ∀ (l : List SB) (g : SB → Bool), l.any g = (l.map g).any id := fun l g => by rw [List.any_map]; rfl
  rw [h2 l, h2 l0, e]
theorem op_has {l0 l : List SB} (h : SegOp l0 8 l) (hl : l0.length = 8) (p : Int) : hasS l p = hasO l0 p := op_any h hl fun s => (mget s.m p).isSome
theorem op_more {l0 l : List SB} (h : SegOp l0 8 l) (hl : l0.length = 8) (nx : Nat) : ((keysM (posM l)).any fun p => decide ((nx : Int) ≤ p)) = moreO l0 nx := by
  have e := op_any h hl fun s => (keysM s.m).any fun p => decide ((nx : Int) ≤ p)
  unfold moreO
  rw [← e, Bool.eq_iff_iff, List.any_eq_true, List.any_eq_true]
  constructor
  · rintro ⟨p, hp, hd⟩
    have h1 : (mget (posM l) p).isSome = true := mget_isSome.2 hp
    rw [posM_get] at h1
    have h2 : hasS l p = true := by
      by_cases hh : hasS l p = true
      · exact hh
      · rw [if_neg hh] at h1; cases h1
    obtain ⟨x, hx, hs⟩ := List.any_eq_true.1 h2
    exact ⟨x, hx, List.any_eq_true.2 ⟨p, mget_isSome.1 hs, hd⟩⟩
  · rintro ⟨x, hx, ha⟩
    obtain ⟨p, hp, hd⟩ := List.any_eq_true.1 ha
    refine ⟨p, ?_, hd⟩
    have h2 : hasS l p = true := List.any_eq_true.2 ⟨x, hx, mget_isSome.2 hp⟩
    have h1 : (mget (posM l) p).isSome = true := by rw [posM_get, if_pos h2]; rfl
    exact mget_isSome.1 h1
theorem re_op {l0 l : List SB} {nx : Nat} (h : SegOp l0 8 l) (hl : l0.length = 8) : SegRe l0 nx false l := ⟨h.len, fun i x hx => by
  have hi := (List.getElem?_eq_some_iff.1 hx).1
  obtain ⟨sb, mb, p, hp⟩ := h.new i x (by omega) hx
  exact ⟨sb, mb, p, hp⟩⟩
theorem re_cut {l0 l l' : List SB} {nx : Nat} (h : SegOp l0 8 l) (hl : l0.length = 8) (h2 : SegUp (fun x => (x.s.cutAt x.d nx).2) l 8 l') : SegRe l0 nx true l' := ⟨h2.len.trans h.len, fun i x hx => by
  have hi := (List.getElem?_eq_some_iff.1 hx).1
  obtain ⟨sb, mb, p, hp⟩ := h.new i x (by omega) hx
  obtain ⟨p2, hp2⟩ := h2.new i _ (by omega) hp
  exact ⟨sb, mb, p2, hp2⟩⟩
end Go.Sl

set_option linter.unusedVariables false
set_option linter.unusedSimpArgs false
namespace Go.Sl
theorem segOp_ex {l : List SB} (h : l.length = 8) : SegOp l 8 (l.map fun x => ⟨0, x.db, 0, x.p, x.d.opened.1, x.d.opened.2⟩) :=
  ⟨by rw [List.length_map], fun i hi => by rw [List.getElem?_eq_none (by rw [List.length_map]; omega), List.getElem?_eq_none (by omega)], fun i x _ hx => ⟨0, 0, x.p, by rw [List.getElem?_map, hx]; rfl⟩⟩
structure ReOk (l : List SB) (nx : Nat) : Prop where
  len : l.length = 8
  ply : ∀ x ∈ l, Ply x.d.opened.1 x.d
  op : ∀ x ∈ l, x.d.opened.2 = x.d
  cut : ∀ x ∈ l, (x.d.opened.1.cutAt x.d nx).1 = 0
theorem li_recover {room : Int} {n : Nat} {R : Nat → Rc} {g : Lg} {keep : List Int} {l : List SB} (h : LI room n R g) (hc : SegCr keep g.segs 8 l) (hn : n < 7000) (hroom : (128 * n + 128 : Int) ≤ room) :
    ∃ nx, g.trim ≤ nx ∧ nx ≤ g.next ∧ (∀ p, g.trim ≤ p → p < nx → keptP g keep p = true) ∧ (nx = g.next ∨ keptP g keep nx = false) ∧ (∀ p : Nat, g.trim ≤ p → p < nx → hasO l p = true) ∧ hasO l nx = false ∧ ReOk l nx ∧
      ∀ l' g', SegRe l nx (moreO l nx) l' → (∀ y, g.m[g.m.length - 1]? = some y → y.1 ≤ (nx : Int)) → g'.segs = l' → g'.m = g.m → g'.trim = g.trim → g'.next = nx → g'.own.Ok → LI room (n + 1) R g' ∧ g'.synced := by
  have hl8 : l.length = 8 := by rw [hc.len]; exact h.len
  obtain ⟨nx, h1, h2, h3, h4⟩ := first_missing (keptP g keep) g.trim (g.next - g.trim)
  have hb := h.bd
  rw [show g.trim + (g.next - g.trim) = g.next by omega] at h2 h4
  have hop := segOp_ex hl8
  have hhas : ∀ p : Int, hasO l p = true ↔ ∃ q : Nat, p = (q : Int) ∧ g.trim ≤ q ∧ q < g.next ∧ keptP g keep q = true := fun p => by
    rw [← op_has hop hl8]; exact has_iff h hc hop p
  refine ⟨nx, h1, h2, h3, h4, fun p hp1 hp2 => (hhas p).2 ⟨p, rfl, hp1, by omega, h3 p hp1 hp2⟩, ?_, ?_, ?_⟩
  · rw [Bool.eq_false_iff]
    intro hh
    obtain ⟨q, e, q1, q2, q3⟩ := (hhas nx).1 hh
    have e2 : nx = q := by omega
    subst e2
    rcases h4 with h4 | h4
    · omega
    · rw [h4] at q3; cases q3
  · have hz : ∀ x ∈ l, Ply x.d.opened.1 x.d ∧ x.d.opened.2 = x.d ∧ (x.d.opened.1.cutAt x.d nx).1 = 0 := by
      intro z hz
      obtain ⟨i, hi, rfl⟩ := List.mem_iff_getElem.1 hz
      have hx := List.getElem?_eq_getElem (l := g.segs) (i := i) (by rw [h.len]; omega)
      obtain ⟨z2, hz2, hd, hop2⟩ := fallen_at h hc hx
      obtain ⟨z3, hz3, hcut, _⟩ := re_at (more := true) h hc hn h2 hroom hx
      rw [List.getElem?_eq_getElem hi] at hz2 hz3
      obtain rfl := Option.some.inj hz2
      obtain rfl := Option.some.inj hz3
      have hsg := (h.sg _ (List.mem_of_getElem? hx)).crash (keep.getD i 0)
      rw [hop2] at hcut ⊢
      rw [hd] at *
      exact ⟨hsg.ply, rfl, hcut⟩
    exact ⟨hl8, fun x hx => (hz x hx).1, fun x hx => (hz x hx).2.1, fun x hx => (hz x hx).2.2⟩
  · intro l' g' hr hlast e1 e2 e3 e4 e5
    refine li_back h hc hr hn hroom h1 h2 h3 ?_ hlast e1 e2 e3 e4 e5
    cases hm : moreO l nx with
    | true => exact .inl rfl
    | false =>
      right
      intro p hp1 hp2
      rw [Bool.eq_false_iff]
      intro hk
      have hh := (hhas p).2 ⟨p, rfl, by omega, hp2, hk⟩
      obtain ⟨x, hx, hs⟩ := List.any_eq_true.1 hh
      have : moreO l nx = true := List.any_eq_true.2 ⟨x, hx, List.any_eq_true.2 ⟨p, mget_isSome.1 hs, decide_eq_true (by omega)⟩⟩
      rw [hm] at this; cases this
end Go.Sl

set_option linter.unusedVariables false
set_option linter.unusedSimpArgs false
namespace Go.Sl
theorem ent_lgC {C : List HP} {lb : Nat} {g : Lg} {L L' : List HP} {k : Nat} {x : SB} (hx : g.segs[k]? = some x) (hh : Takes ((sbAt x ++ [sbsH g.segs k]) ++ (C ++ lgPre lb g)) L L') : Ent L (C ++ lgAt lb g) := by
  obtain ⟨hk, e⟩ := List.getElem?_eq_some_iff.1 hx
  have h := ent_sbs hk hh
  rw [← e, List.set_getElem_self, List.append_assoc] at h
  exact h
theorem ent_push {A L L' : List HP} {l : List SB} {x : SB} (hh : Takes ((sbAt x ++ [sbsA l]) ++ A) L L') : Ent L (A ++ [sbsA (l ++ [x])]) := by
  refine (ent_append_of_takes hh).trans ?_
  rw [List.append_assoc]
  have e : sbsL (l ++ [x]) = sbsL l ++ sbAt x := by rw [sbsL_app]; show sbsL l ++ (sbAt x ++ []) = _; rw [List.append_nil]
  intro r o h
  have h1 := big_ent (A := sbAt x) (L := big (sbsL l) :: A) r o h
  have h2 := Ent.swap r o h1
  have h3 := app_big (A := sbsL l) (B := sbAt x) (L := A) r o h2
  rw [← e] at h3
  have h4 : seps (sbsA (l ++ [x]) :: A) r o := h3
  have := ent_rot (A := [sbsA (l ++ [x])]) (B := A) (L := []) r o (by simpa using h4)
  simpa using this
theorem ent_none {L : List HP} : Ent L (sbsA [] :: L) := by
  have : Ent ([] ++ L) (big [] :: L) := big_ent (A := []) (L := L)
  exact this
def Lg.rows (g : Lg) : List (Int × Rc) := (List.range (g.head - g.trim)).map fun i => (((g.trim + i : Nat) : Int), g.rcd (g.trim + i))
theorem rows_at {g : Lg} {i : Nat} (h : i < g.head - g.trim) : g.rows[i]? = some (((g.trim + i : Nat) : Int), g.rcd (g.trim + i)) := by
  unfold Lg.rows
  rw [List.getElem?_map, List.getElem?_range h]; rfl
theorem rows_len (g : Lg) : g.rows.length = g.head - g.trim := by unfold Lg.rows; rw [List.length_map, List.length_range]
end Go.Sl

set_option linter.unusedVariables false
set_option linter.unusedSimpArgs false
namespace Go.Sl
def LPutR (g : Lg) (r : Rc) (g' : Lg) : Prop := ∃ sx p, g.segs[stripeM g.m g.next]? = some sx ∧ g' = g.putG sx p (sx.s.put sx.d (epochM g.m g.next) g.next r)
def LPut (g : Lg) (a b : Int) (g' : Lg) : Prop := LPutR g (rz a b) g'
def LSync (g : Lg) (k : Nat) (g' : Lg) : Prop := ∃ sx, g.segs[k]? = some sx ∧ g' = g.sync k sx
structure LBack (room : Int) (n : Nat) (R : Nat → Rc) (g : Lg) (keep : List Int) (g' : Lg) : Prop where
  li : LI room n R g'
  sy : g'.synced
  m : g'.m = g.m
  trim : g'.trim = g.trim
  down : g'.down = false
  gone : g'.gone = g.gone ∨ g'.gone = trimV g.gone
  own : g'.own = g.own
  nx : g.trim ≤ g'.next ∧ g'.next ≤ g.next
  kept : ∀ p, g.trim ≤ p → p < g'.next → keptP g keep p = true
  stop : g'.next = g.next ∨ keptP g keep g'.next = false
theorem LPutR.rest {g g' : Lg} {r : Rc} (h : LPutR g r g') : g'.own = g.own ∧ g'.m = g.m ∧ g'.trim = g.trim ∧ g'.gone = g.gone ∧ g'.down = g.down := by
  obtain ⟨sx, p, hx, rfl⟩ := h
  exact ⟨rfl, rfl, rfl, rfl, rfl⟩
theorem LPut.rest {g g' : Lg} {a b : Int} (h : LPut g a b g') : g'.own = g.own ∧ g'.m = g.m ∧ g'.trim = g.trim ∧ g'.gone = g.gone ∧ g'.down = g.down := LPutR.rest h
theorem LSync.rest {g g' : Lg} {k : Nat} (h : LSync g k g') : g'.own = g.own ∧ g'.m = g.m ∧ g'.trim = g.trim ∧ g'.gone = g.gone ∧ g'.down = g.down ∧ g'.next = g.next := by
  obtain ⟨sx, hx, rfl⟩ := h
  exact ⟨rfl, rfl, rfl, rfl, rfl, rfl⟩
theorem LPutR.li {room : Int} {n : Nat} {R : Nat → Rc} {g g' : Lg} {r : Rc} (hp : LPutR g r g') (h : LI room n R g) (hr : R g.next = r) (hk : SmR r) (hroom : (128 * n + 128 : Int) ≤ room) (hn : n < 7000) : LI room (n + 1) R g' ∧ g'.next = g.next + 1 := by
  obtain ⟨sx, p, hx, rfl⟩ := hp
  obtain ⟨h1, h2, h3, h4⟩ := li_put h hr hk hroom hn hx
  exact ⟨h4 p, by simp only [Lg.putG, h1, if_true]⟩
theorem LPut.li {room : Int} {n : Nat} {R : Nat → Rc} {g g' : Lg} {a b : Int} (hp : LPut g a b g') (h : LI room n R g) (hr : R g.next = rz a b) (hab : 0 ≤ a ∧ a < 8 ∧ 1 ≤ b ∧ b < 100000) (hroom : (128 * n + 128 : Int) ≤ room) (hn : n < 7000) : LI room (n + 1) R g' ∧ g'.next = g.next + 1 := LPutR.li hp h hr (smr_rz hab) hroom hn
theorem LPutR.rows {room : Int} {K i : Nat} {R : Nat → Rc} {g g' : Lg} {r : Rc} (hp : LPutR g r g') (h : Rows room K i R g) (hk : 1 ≤ K ∧ K ≤ 8) (hr : R i = r) (hs : SmR r) (hroom : (128 * i + 128 : Int) ≤ room) (hn : i < 7000) : Rows room K (i + 1) R g' := by
  obtain ⟨sx, p, hx, rfl⟩ := hp
  exact (rows_put h hk hr hs hroom hn hx).2 p
theorem LPut.rows {room : Int} {K i : Nat} {R : Nat → Rc} {g g' : Lg} {a b : Int} (hp : LPut g a b g') (h : Rows room K i R g) (hk : 1 ≤ K ∧ K ≤ 8) (hr : R i = rz a b) (hab : 0 ≤ a ∧ a < 8 ∧ 1 ≤ b ∧ b < 100000) (hroom : (128 * i + 128 : Int) ≤ room) (hn : i < 7000) : Rows room K (i + 1) R g' := LPutR.rows hp h hk hr (smr_rz hab) hroom hn
theorem LSync.li {room : Int} {n : Nat} {R : Nat → Rc} {g g' : Lg} {k : Nat} (hp : LSync g k g') (h : LI room n R g) : LI room n R g' := by
  obtain ⟨sx, hx, rfl⟩ := hp
  exact li_sync h hx
theorem LSync.syncI {room : Int} {K c k : Nat} {S : Nat → Bool} {R : Nat → Rc} {g g' : Lg} (hp : LSync g k g') (h : SyncI room K c S R g) : SyncI room K c (fun i => S i || decide (i = k)) R g' := by
  obtain ⟨sx, hx, rfl⟩ := hp
  exact h.step hx
def Lg.syncTo (g : Lg) (k : Nat) : Prop := ∀ j z, j < k → g.segs[j]? = some z → z.d.lasts = z.d.lines.length
theorem LSync.to {g g' : Lg} {k : Nat} (hp : LSync g k g') (h : g.syncTo k) : g'.syncTo (k + 1) := by
  obtain ⟨sx, hx, rfl⟩ := hp
  intro j z hj hz
  rcases sync_segs hx hz with ⟨rfl, e1, e2⟩ | ⟨hj2, hz⟩
  · rw [e2]; rfl
  · exact h j z (by omega) hz
theorem LPutR.sync {g g' g'' : Lg} {r : Rc} {k : Nat} (hp : LPutR g r g') (hs : LSync g' k g'') (hk : stripeM g.m g.next = k) (h : g.synced) : g''.synced := by
  obtain ⟨sx, p, hx, rfl⟩ := hp
  obtain ⟨sy, hy, rfl⟩ := hs
  subst hk
  intro z hz
  obtain ⟨j, hj, rfl⟩ := List.mem_iff_getElem.1 hz
  rcases sync_segs hy (List.getElem?_eq_getElem hj) with ⟨rfl, e1, e2⟩ | ⟨hj2, hz2⟩
  · rw [e2]; rfl
  · rcases put_segs hx hz2 with ⟨hj3, _⟩ | ⟨_, hz3⟩
    · exact absurd hj3 hj2
    · exact h _ (List.mem_of_getElem? hz3)
theorem LPut.sync {g g' g'' : Lg} {a b : Int} {k : Nat} (hp : LPut g a b g') (hs : LSync g' k g'') (hk : stripeM g.m g.next = k) (h : g.synced) : g''.synced := LPutR.sync hp hs hk h
theorem LBack.head_le {room : Int} {n : Nat} {R : Nat → Rc} {g g' : Lg} {keep : List Int} (h : LBack room n R g keep g') (hd : g.down = false) : g.head ≤ g'.next := by
  have hge : ∀ k p, headF g k p ≤ g.trim ∨ ∀ q, p ≤ q → q < headF g k p → g.lasts q = true := by
    intro k
    induction k with
    | zero => intro p; right; intro q h1 h2; exact absurd h2 (Nat.not_lt.2 h1)
    | succ k ih =>
      intro p
      unfold headF
      by_cases hl : g.lasts p = true
      · rw [if_pos hl]
        rcases ih (p + 1) with h1 | h1
        · exact .inl h1
        · right
          intro q h2 h3
          by_cases he : q = p
          · subst he; exact hl
          · exact h1 q (by omega) h3
      · rw [if_neg hl]
        right; intro q h1 h2; omega
  have hh : g.head = headF g (g.next - g.trim) g.trim := by unfold Lg.head; rw [hd, if_neg (by decide)]
  have hb := headF_le g (g.next - g.trim) g.trim
  rw [← hh] at hb
  have hnx := h.nx
  rcases hge (g.next - g.trim) g.trim with h1 | h1
  · rw [← hh] at h1; omega
  · rw [← hh] at h1
    rcases h.stop with h2 | h2
    · omega
    · by_cases hc : g'.next < g.head
      · have := keptP_of_lasts (keep := keep) (h1 g'.next h.nx.1 hc)
        rw [h2] at this; cases this
      · omega
theorem LBack.all {room : Int} {n m : Nat} {R R' : Nat → Rc} {g g' : Lg} {keep : List Int} (h : LBack room n R g keep g') (hg : LI room m R' g) (hd : g.down = false) (hs : g.synced) : g'.next = g.next := by
  have h1 := h.head_le hd
  rw [hg.head hd hs] at h1
  have := h.nx
  omega
end Go.Sl

set_option linter.unusedVariables false
set_option linter.unusedSimpArgs false
namespace Go.Sl
theorem indexB_parts (c : UInt8) : ∀ r : Tx, (Lib.indexByte r c = -1 ∧ partsC c r = [r]) ∨ ∃ i : Nat, Lib.indexByte r c = (i : Int) ∧ i < r.length ∧ partsC c r = r.take i :: partsC c (r.drop (i + 1))
  | [] => .inl ⟨rfl, rfl⟩
  | b :: r => by
    by_cases hb : b = c
    · subst hb
      right
      refine ⟨0, by simp [Lib.indexByte], by simp, ?_⟩
      simp [partsC]
    · have hb2 : (b == c) = false := by simpa using hb
      rcases indexB_parts c r with ⟨h1, h2⟩ | ⟨i, h1, h2, h3⟩
      · left
        refine ⟨by simp [Lib.indexByte, hb2, h1], ?_⟩
        simp only [partsC, hb, if_false, h2]
      · right
        refine ⟨i + 1, ?_, by simp only [List.length_cons]; omega, ?_⟩
        · have hne : ((i : Int) == -1) = false := by simp
          simp only [Lib.indexByte, hb2, Bool.false_eq_true, if_false, h1, hne]
          omega
        · simp only [partsC, hb, if_false, h3]
          simp
theorem span_no {c : UInt8} (hc : ¬ (48 ≤ c.toNat ∧ c.toNat ≤ 57)) (h : c ≠ 47) (p : Int × Int) : hasC c (spanX p) = false := by
  unfold spanX
  rw [has_app, has_cons, dec_no hc, dec_no hc]
  simp [Ne.symm h]
theorem map_parts {m : List (Int × Int)} (h : m ≠ []) : partsC 32 (mapX m) = m.map spanX := by
  refine parts_join (by simpa using h) fun w hw => ?_
  obtain ⟨p, _, rfl⟩ := List.mem_map.1 hw
  exact span_no (by decide) (by decide) p
theorem span_ne (p : Int × Int) : spanX p ≠ [] := by
  unfold spanX
  have := (dec_dig p.1.toNat).2.2.1
  intro h
  rw [List.append_eq_nil_iff] at h
  exact this h.1
theorem map_ne {m : List (Int × Int)} (h : m ≠ []) : mapX m ≠ [] := joinX_ne (by simpa using h) fun w hw => by
  obtain ⟨p, _, rfl⟩ := List.mem_map.1 hw
  exact span_ne p
theorem span_cut (p : Int × Int) : Lib.cut (spanX p) [47] = (Lib.decDigits p.1.toNat, Lib.decDigits p.2.toNat, true) := by
  rw [cutL1]
  unfold spanX
  rw [cut1_app (dec_no (by decide) _)]
theorem span_len {p : Int × Int} (h : 0 ≤ p.1 ∧ p.1 ≤ 2147483647 ∧ 1 ≤ p.2 ∧ p.2 ≤ 8) : (spanX p).length ≤ 12 := by
  have a := dec_len 9 p.1.toNat (by omega)
  have b := dec_len 0 p.2.toNat (by omega)
  simp only [spanX, List.length_cons, List.length_append]
  omega
theorem map_len {m : List (Int × Int)} (h : ∀ x ∈ m, 0 ≤ x.1 ∧ x.1 ≤ 2147483647 ∧ 1 ≤ x.2 ∧ x.2 ≤ 8) : (mapX m).length ≤ m.length * 13 := by
  have h1 := joinX_len 12 (m.map spanX) (by
    intro w hw
    obtain ⟨p, hp, rfl⟩ := List.mem_map.1 hw
    exact span_len (h p hp))
  rw [List.length_map] at h1
  exact h1
end Go.Sl

set_option linter.unusedVariables false
set_option linter.unusedSimpArgs false
namespace Go.Sl
theorem joinX_nl {ws : List Tx} (h : ∀ w ∈ ws, hasC 10 w = false) : hasC 10 (joinX ws) = false := joinX_no (by decide) h
theorem ol_nl (o : OL) : hasC 10 o.text = false := by
  cases o with
  | m l =>
    show hasC 10 ([109, 32] ++ mapX l) = false
    rw [has_app]
    have : hasC 10 (mapX l) = false := joinX_nl fun w hw => by
      obtain ⟨p, _, rfl⟩ := List.mem_map.1 hw
      exact span_no (by decide) (by decide) p
    rw [this]; rfl
  | t q v =>
    show hasC 10 ([116, 32] ++ (Lib.decDigits q ++ 32 :: vecX v)) = false
    simp only [has_app, has_cons, dec_no (c := 10) (by decide), vec_nl]; rfl
theorem ol_write {d : Dk} (o : OL) (hr : (usedL d.lines : Int) + o.text.length + 1 ≤ d.room) : d.write (txB o.text) = (0, { d with lines := d.lines ++ [txB o.text] }) := write_ok (ol_nl o) hr
def LTrim (g : Lg) (pos : Nat) (v : List Int) (g' : Lg) : Prop := ∃ l gA op, SegUp (fun x => x.s.trimAt x.d pos) g.segs 8 l ∧ g' = { g with segs := l, trim := pos, gone := v, gA := gA, op := op, own := (g.own.write (txB (OL.t pos v).text)).2.sync }
def LSize (g : Lg) (N : Int) (g' : Lg) : Prop := ∃ l mA op, SegUp (fun x => (x.s.sealG x.d (g.m.length : Int)).2) g.segs 8 l ∧ g' = { g with segs := l, m := g.m ++ [((g.next : Int), N)], mA := mA, op := op, own := (g.own.write (txB (OL.m (g.m ++ [((g.next : Int), N)])).text)).2.sync }
theorem LTrim.rest {g g' : Lg} {pos : Nat} {v : List Int} (h : LTrim g pos v g') : g'.m = g.m ∧ g'.trim = pos ∧ g'.gone = v ∧ g'.next = g.next ∧ g'.down = g.down ∧ g'.own = (g.own.write (txB (OL.t pos v).text)).2.sync := by
  obtain ⟨l, a, o, h1, rfl⟩ := h
  exact ⟨rfl, rfl, rfl, rfl, rfl, rfl⟩
theorem LSize.rest {g g' : Lg} {N : Int} (h : LSize g N g') : g'.m = g.m ++ [((g.next : Int), N)] ∧ g'.trim = g.trim ∧ g'.gone = g.gone ∧ g'.next = g.next ∧ g'.down = g.down ∧ g'.own = (g.own.write (txB (OL.m (g.m ++ [((g.next : Int), N)])).text)).2.sync := by
  obtain ⟨l, a, o, h1, rfl⟩ := h
  exact ⟨rfl, rfl, rfl, rfl, rfl, rfl⟩
theorem LTrim.li {room : Int} {n pos : Nat} {R : Nat → Rc} {g g' : Lg} {v : List Int} (ht : LTrim g pos v g') (h : LI room n R g) (h1 : g.trim ≤ pos ∧ pos ≤ g.next) (hn : n < 7000) (hroom : (128 * n + 128 : Int) ≤ room) : LI room (n + 1) R g' ∧ (g.synced → g'.synced) := by
  obtain ⟨l, a, o, hs, rfl⟩ := ht
  exact li_trim h h1 hn hroom hs rfl rfl rfl rfl (h.own.write _).sync
theorem LSize.li {room : Int} {n : Nat} {R : Nat → Rc} {g g' : Lg} {N : Int} (ht : LSize g N g') (h : LI room n R g) (hN : 1 ≤ N ∧ N ≤ 8) (hml : g.m.length ≤ 99) (hn : n < 7000) (hroom : (128 * n + 128 : Int) ≤ room) : LI room (n + 1) R g' ∧ g'.synced := by
  obtain ⟨l, a, o, hs, rfl⟩ := ht
  obtain ⟨h1, h2, _⟩ := li_resize (g' := { g with segs := l, m := g.m ++ [((g.next : Int), N)], mA := a, op := o, own := (g.own.write (txB (OL.m (g.m ++ [((g.next : Int), N)])).text)).2.sync }) h hN hml hn hroom hs rfl rfl rfl rfl (h.own.write _).sync
  exact ⟨h1, h2⟩
theorem LTrim.own {g g' : Lg} {pos : Nat} {v : List Int} {ls : List OL} (ht : LTrim g pos v g') (h : OwnI g ls) (hp : pos < 100000) (hl : v.length ≤ 8) (hv : ∀ x ∈ v, 0 ≤ x ∧ x ≤ 1048576) (hr : (usedL g.own.lines : Int) + 10 + 8 * v.length + 1 ≤ g.own.room) : OwnI g' (ls ++ [.t pos v]) ∧ usedL g'.own.lines ≤ usedL g.own.lines + 11 + 8 * v.length ∧ g'.own.room = g.own.room := by
  obtain ⟨e1, e2, e3, e4, e5, e6⟩ := ht.rest
  have hx := tX_len hp hv
  rw [ol_write (.t pos v) (by omega)] at e6
  simp only [Dk.sync, List.length_append, List.length_cons, List.length_nil] at e6
  have hh := own_t (g := g) (g' := g') (v := v) h (by rw [e2]; exact ⟨by omega, hl, hv⟩) (by rw [e2]; omega) (by rw [e2, e6]) e1 e3
  rw [e2] at hh
  refine ⟨hh, ?_, by rw [e6]⟩
  rw [e6]
  show usedL (g.own.lines ++ [txB (OL.t pos v).text]) ≤ _
  rw [usedL_app]; simp only [usedL, size_txB]; omega
theorem LSize.own {g g' : Lg} {N : Int} {ls : List OL} (ht : LSize g N g') (h : OwnI g ls) (hm : MapOk (g.m ++ [((g.next : Int), N)])) (hml : g.m.length ≤ 99) (hb : ∀ x ∈ g.m ++ [((g.next : Int), N)], x.1 < 100000) (hr : (usedL g.own.lines : Int) + 2 + 8 * (g.m.length + 1) + 1 ≤ g.own.room) : OwnI g' (ls ++ [.m (g.m ++ [((g.next : Int), N)])]) ∧ usedL g'.own.lines ≤ usedL g.own.lines + 11 + 8 * g.m.length ∧ g'.own.room = g.own.room := by
  obtain ⟨e1, e2, e3, e4, e5, e6⟩ := ht.rest
  have hx := mX_len (l := g.m ++ [((g.next : Int), N)]) fun x hx => ⟨(hm.bd x hx).1, hb x hx, (hm.bd x hx).2.2.1, (hm.bd x hx).2.2.2⟩
  rw [List.length_append] at hx
  simp only [List.length_cons, List.length_nil] at hx
  rw [ol_write (.m (g.m ++ [((g.next : Int), N)])) (by omega)] at e6
  simp only [Dk.sync, List.length_append, List.length_cons, List.length_nil] at e6
  have hh := own_m (g := g) (g' := g') h (by rw [e1]; exact ⟨hm, by rw [List.length_append]; simp; omega⟩) (by rw [e1]; omega) (by rw [e1, e6]) e2 e3
  rw [e1] at hh
  refine ⟨hh, ?_, by rw [e6]⟩
  rw [e6]
  show usedL (g.own.lines ++ [txB (OL.m (g.m ++ [((g.next : Int), N)])).text]) ≤ _
  rw [usedL_app]; simp only [usedL, size_txB]; omega
section
variable {g0 g1 g2 g3 g4 g5 g6 g7 g8 g9 : Lg}
end
end Go.Sl

set_option linter.unusedVariables false
set_option linter.unusedSimpArgs false
namespace Go.Sl
theorem take_len {s s' : Sg} {i : Nat} {t : Tx} (h : s.take i t = some s') : s'.m.length ≤ s.m.length + 1 := by
  unfold Sg.take at h
  split at h
  · split at h
    · cases h
    · injection h with h; subst h; simp
  · split at h
    · cases h
    · injection h with h; subst h; simp
  · injection h with h; subst h
    have := List.length_filter_le (fun p : Int × Slt => decide (p.1 < (‹Nat› : Int))) s.m
    simp only; omega
  · split at h
    · cases h
    · injection h with h; subst h
      simp only
      exact Nat.le_succ_of_le (List.length_filter_le _ _)
  · cases h
theorem plays_len : ∀ {l : List Tx} {s s' : Sg} {i : Nat}, s.plays i l = some s' → s'.m.length ≤ s.m.length + l.length
  | [], s, s', i, h => by simp only [Sg.plays] at h; injection h with h; subst h; simp
  | t :: l, s, s', i, h => by
    simp only [Sg.plays] at h
    cases ht : s.take i t with
    | none => rw [ht] at h; cases h
    | some s2 =>
      rw [ht] at h
      have h1 := take_len ht
      have h2 := plays_len (l := l) h
      simp only [List.length_cons]; omega
theorem ply_len {s : Sg} {d : Dk} (h : Ply s d) : s.m.length ≤ usedL d.lines := by
  have h1 := plays_len h.pl
  rw [txs_len] at h1
  have := usedL_len d.lines
  simp at h1; omega
theorem LI.keys {room : Int} {n : Nat} {R : Nat → Rc} {g : Lg} (h : LI room n R g) : ∀ x ∈ g.segs, ∀ k ∈ keysM x.s.m, 0 ≤ k ∧ k ≤ 2147483647 := by
  intro x hx k hk
  obtain ⟨i, hi, rfl⟩ := List.mem_iff_getElem.1 hx
  have h1 := h.mg i _ (List.getElem?_eq_getElem hi) k
  have h2 := mget_isSome.2 hk
  have hb := h.bd
  split at h1
  · rename_i hc
    omega
  · have h3 := Option.map_eq_none_iff.1 h1
    rw [h3] at h2; cases h2
theorem LI.sites {room : Int} {n : Nat} {R : Nat → Rc} {g : Lg} (h : LI room n R g) : ∀ i, g.trim ≤ i → i < g.next → 0 ≤ (g.rcd i).site ∧ (g.rcd i).site ≤ 63 := by
  intro i h1 h2
  rw [h.rcd h1 h2]
  have := (rok_of (h.rz i h1 h2).1).site
  omega
theorem back_len {room : Int} {n : Nat} {R : Nat → Rc} {g : Lg} {keep : List Int} {l : List SB} {nx : Nat} (h : LI room n R g) (hc : SegCr keep g.segs 8 l) (hr : ReOk l nx) : ∀ x ∈ l, x.d.opened.1.m.length ≤ 1000000 := by
  intro z hz
  obtain ⟨i, hi, rfl⟩ := List.mem_iff_getElem.1 hz
  have hlen : i < g.segs.length := by rw [← hc.len]; exact hi
  have hx := List.getElem?_eq_getElem hlen
  obtain ⟨z2, hz2, hd, hop⟩ := fallen_at h hc hx
  rw [List.getElem?_eq_getElem hi] at hz2
  obtain rfl := Option.some.inj hz2
  rw [hop]
  have h1 := ply_len (h.sg _ (List.getElem_mem hlen)).ply
  have h2 := (h.rm _ (List.getElem_mem hlen)).2
  have hb := h.bd
  have h3 : (g.segs[i].s.upto (keptD g.segs[i].d (keep.getD i 0))).m.length ≤ g.segs[i].s.m.length := List.length_filter_le _ _
  show (g.segs[i].s.upto (keptD g.segs[i].d (keep.getD i 0))).m.length ≤ 1000000
  omega
end Go.Sl

set_option linter.unusedVariables false
set_option linter.unusedSimpArgs false
namespace Go.Sl
section
variable {g0 g1 g2 g3 g4 g5 g6 g7 g8 g9 : Lg}
end
end Go.Sl

set_option linter.unusedVariables false
set_option linter.unusedSimpArgs false
namespace Go.Sl
end Go.Sl

set_option linter.unusedVariables false
set_option linter.unusedSimpArgs false
namespace Go.Sl
def yR (p : Nat) : Rc := rz 0 ((p + 1 : Nat) : Int)
structure ResB (n c i : Nat) (g : Lg) : Prop where
  li : LI 100000 n yR g
  trim : g.trim = 0
  gone : g.gone = []
  next : g.next = c
  down : g.down = false
  ml : g.m.length = i + 1
  own : ∃ ls, OwnI g ls
  used : usedL g.own.lines ≤ 120 * i
  room : g.own.room = 100000
  mb : ∀ x ∈ g.m, x.1 < 100000
theorem OwnI.same {g g' : Lg} {ls : List OL} (h : OwnI g ls) (h1 : g'.own = g.own) (h2 : g'.m = g.m) (h3 : g'.trim = g.trim) (h4 : g'.gone = g.gone) : OwnI g' ls := h.congr h1 h2 h3 (by rw [h4])
theorem LPutR.waits {room : Int} {n : Nat} {R : Nat → Rc} {g g' : Lg} {r : Rc} (q : LPutR g r g') (h : LI room n R g) (hr : R g.next = r) (hsm : SmR r) (hroom : (128 * n + 128 : Int) ≤ room) (hn : n < 7000) : g'.lasts g.next = false := by
  obtain ⟨l', e'⟩ := q.li h hr hsm hroom hn
  obtain ⟨a1, a2, a3, a4, a5⟩ := q.rest
  obtain ⟨sx, p, hx, rfl⟩ := q
  obtain ⟨h1, h2, h3, h4⟩ := li_put h hr hsm hroom hn hx
  have hk := (List.getElem?_eq_some_iff.1 hx).1
  have hb := h.bd
  have hm := List.mem_of_getElem? hx
  have hno : mget sx.s.m (g.next : Int) = none := by
    have := h.mg _ sx hx g.next
    rw [if_neg (by omega)] at this
    exact Option.map_eq_none_iff.1 this
  have hl := lineP_le (n := g.next) hsm.1 (by omega)
  have hsl := h.sl sx hm
  have hrm := h.rm sx hm
  have hml := h.ml
  have hlp := h.m.len.1
  have hck := hsm.1
  have e := put_eq (s := sx.s) (d := sx.d) (ep := epochM g.m g.next) (pos := (g.next : Int)) (r := r) ⟨by omega, by rw [h.epoch]; omega, by omega, by rw [h.epoch]; omega⟩ (by rw [h.epoch]; omega) (by omega) hno hck
    (by rw [Int.toNat_natCast]; exact lineP_nlR hsm.1 _) (by rw [Int.toNat_natCast, hrm.1]; omega)
  rw [e]
  unfold Lg.lasts Sg.lastsAt
  simp only [Lg.putG, if_true]
  rw [List.getElem?_set_self hk]
  simp only [SB.upd]
  rw [mget_mput, if_pos rfl]
  simp only
  have hla := (h.ok.dk sx hm).lasts
  exact decide_eq_false (by omega)
theorem LPut.waits {room : Int} {n : Nat} {R : Nat → Rc} {g g' : Lg} {a b : Int} (q : LPut g a b g') (h : LI room n R g) (hr : R g.next = rz a b) (hab : 0 ≤ a ∧ a < 8 ∧ 1 ≤ b ∧ b < 100000) (hroom : (128 * n + 128 : Int) ≤ room) (hn : n < 7000) : g'.lasts g.next = false := LPutR.waits q h hr (smr_rz hab) hroom hn
theorem head_le {g : Lg} (hd : g.down = false) {q : Nat} (h1 : g.trim ≤ q) (h2 : q < g.next) (h3 : g.lasts q = false) : g.head ≤ q := by
  have hgen : ∀ k p, p ≤ q → q < p + k → headF g k p ≤ q := by
    intro k
    induction k with
    | zero => intro p hp hq; omega
    | succ k ih =>
      intro p hp hq
      unfold headF
      by_cases hpq : p = q
      · subst hpq
        rw [h3]
        exact Nat.le_refl _
      · by_cases hl : g.lasts p = true
        · rw [if_pos hl]; exact ih (p + 1) (by omega) (by omega)
        · rw [if_neg hl]; exact hp
  unfold Lg.head
  rw [hd, if_neg (by decide)]
  exact hgen _ _ h1 (by omega)
theorem ResB.put {n c i : Nat} {g g' : Lg} (h : ResB n c i g) (hn : n < 200) (hc : c < 200) (q : LPut g 0 ((c + 1 : Nat) : Int) g') : ResB (n + 1) (c + 1) i g' ∧ g'.head ≠ g'.next := by
  have hr : yR g.next = rz 0 ((c + 1 : Nat) : Int) := by rw [h.next]; rfl
  have hab : (0 : Int) ≤ 0 ∧ (0 : Int) < 8 ∧ (1 : Int) ≤ ((c + 1 : Nat) : Int) ∧ ((c + 1 : Nat) : Int) < 100000 := by omega
  obtain ⟨l, e⟩ := q.li h.li hr hab (by omega) (by omega)
  have hw := q.waits h.li hr hab (by omega) (by omega)
  obtain ⟨a1, a2, a3, a4, a5⟩ := q.rest
  obtain ⟨ls, ho⟩ := h.own
  have hd : g'.down = false := a5.trans h.down
  refine ⟨⟨l, a3.trans h.trim, a4.trans h.gone, by rw [e, h.next], hd, by rw [a2]; exact h.ml, ⟨ls, ho.same a1 a2 a3 a4⟩, by rw [a1]; exact h.used, by rw [a1]; exact h.room, by rw [a2]; exact h.mb⟩, ?_⟩
  have := head_le hd (q := g.next) (by rw [a3, h.trim]; omega) (by rw [e]; omega) hw
  rw [e]; omega
theorem ResB.sync {n c i k : Nat} {g g' : Lg} (h : ResB n c i g) (q : LSync g k g') : ResB n c i g' := by
  obtain ⟨a1, a2, a3, a4, a5, a6⟩ := q.rest
  obtain ⟨ls, ho⟩ := h.own
  exact ⟨q.li h.li, a3.trans h.trim, a4.trans h.gone, a6.trans h.next, a5.trans h.down, by rw [a2]; exact h.ml, ⟨ls, ho.same a1 a2 a3 a4⟩, by rw [a1]; exact h.used, by rw [a1]; exact h.room, by rw [a2]; exact h.mb⟩
theorem ResB.size {n c i N : Nat} {g g' : Lg} (h : ResB n c i g) (hn : n < 200) (hc : c < 200) (hi : i < 12) (hN : 1 ≤ N ∧ N ≤ 8) (q : LSize g (N : Int) g') : ResB (n + 1) c (i + 1) g' ∧ g'.synced ∧ g'.m[g'.m.length - 1]? = some ((c : Int), (N : Int)) := by
  obtain ⟨l, sy⟩ := q.li h.li (by omega) (by rw [h.ml]; omega) (by omega) (by omega)
  obtain ⟨a1, a2, a3, a4, a5, a6⟩ := q.rest
  obtain ⟨ls, ho⟩ := h.own
  have hm := map_app h.li.m (f := (g.next : Int)) (n := (N : Int)) h.li.lastm ⟨by omega, by rw [h.next]; omega⟩ (by omega) (by rw [h.ml]; omega)
  have hmb : ∀ x ∈ g.m ++ [((g.next : Int), (N : Int))], x.1 < 100000 := by
    intro x hx
    rcases List.mem_append.1 hx with hx | hx
    · exact h.mb x hx
    · simp at hx; subst hx; show (g.next : Int) < 100000; rw [h.next]; omega
  have hu := h.used
  obtain ⟨w1, w2, w3⟩ := q.own ho hm (by rw [h.ml]; omega) hmb (by rw [h.room, h.ml]; omega)
  refine ⟨⟨l, a2.trans h.trim, a3.trans h.gone, a4.trans h.next, a5.trans h.down, by rw [a1, List.length_append, h.ml]; rfl, ⟨_, w1⟩, ?_, by rw [w3, h.room], by rw [a1]; exact hmb⟩, sy, ?_⟩
  · rw [h.ml] at w2; omega
  · rw [a1, List.length_append]
    show (g.m ++ [((g.next : Int), (N : Int))])[g.m.length + 1 - 1]? = _
    rw [Nat.add_sub_cancel, List.getElem?_append_right (Nat.le_refl _), Nat.sub_self, h.next]; rfl
end Go.Sl

set_option linter.unusedVariables false
set_option linter.unusedSimpArgs false
namespace Go.Sl
def holeF (b : Nat → Bool) (c : Nat) : Nat → Nat → Nat
  | 0, _ => c
  | k + 1, i => if !b i && decide (i < c) then i else holeF b c k (i + 1)
theorem holeF_le (b : Nat → Bool) (c : Nat) : ∀ k i, holeF b c k i ≤ c
  | 0, i => Nat.le_refl _
  | k + 1, i => by
    unfold holeF
    split
    · rename_i h
      simp only [Bool.and_eq_true, decide_eq_true_eq] at h
      omega
    · exact holeF_le b c k (i + 1)
theorem holeF_ok (b : Nat → Bool) (c : Nat) : ∀ k i, (∀ j, i ≤ j → j < i + k → j < holeF b c k i → b j = true) ∧ (holeF b c k i = c ∨ (i ≤ holeF b c k i ∧ holeF b c k i < i + k ∧ b (holeF b c k i) = false))
  | 0, i => ⟨fun j h1 h2 => by omega, .inl rfl⟩
  | k + 1, i => by
    have ih := holeF_ok b c k (i + 1)
    have hle := holeF_le b c k (i + 1)
    unfold holeF
    split
    · rename_i h
      simp only [Bool.and_eq_true, decide_eq_true_eq, Bool.not_eq_true'] at h
      exact ⟨fun j h1 _ h3 => by omega, .inr ⟨Nat.le_refl _, by omega, h.1⟩⟩
    · rename_i h
      simp only [Bool.and_eq_true, decide_eq_true_eq, Bool.not_eq_true', not_and] at h
      refine ⟨fun j h1 h2 h3 => ?_, ?_⟩
      · by_cases hj : j = i
        · subst hj
          cases hb : b j with
          | true => rfl
          | false => exact absurd (h hb) (by omega)
        · exact ih.1 j (by omega) (by omega) h3
      · rcases ih.2 with h1 | ⟨h1, h2, h3⟩
        · exact .inl h1
        · exact .inr ⟨by omega, by omega, h3⟩
end Go.Sl

set_option linter.unusedVariables false
set_option linter.unusedSimpArgs false
namespace Go.Sl
def bitB (w j : Nat) : Bool := decide (w / 2 ^ j % 2 = 1)
def hR (H : Nat) (p : Nat) : Rc := if p < H then rz 0 ((p + 1 : Nat) : Int) else rz 1 ((p - H + 1 : Nat) : Int)
structure HolI (K c t w : Nat) (g : Lg) : Prop where
  sy : SyncI 100000 K c (fun j => decide (t ≤ j ∧ j < K) && bitB w j) (fun p => rz 0 ((p + 1 : Nat) : Int)) g
  own : g.own = ⟨100000, [], 0⟩
theorem HolI.skip {K c t w : Nat} {g : Lg} (h : HolI K c (t + 1) w g) (hb : bitB w t = false) : HolI K c t w g := by
  refine ⟨h.sy.congr fun j hj => ?_, h.own⟩
  by_cases hjt : j = t
  · subst hjt; rw [hb]; simp
  · have : decide (t ≤ j ∧ j < K) = decide (t + 1 ≤ j ∧ j < K) := by apply decide_eq_decide.2; omega
    rw [this]
theorem HolI.step {K c t w : Nat} {g g' : Lg} (h : HolI K c (t + 1) w g) (ht : t < K) (hb : bitB w t = true) (q : LSync g t g') : HolI K c t w g' := by
  obtain ⟨a1, _⟩ := q.rest
  refine ⟨(q.syncI h.sy).congr fun j hj => ?_, a1.trans h.own⟩
  by_cases hjt : j = t
  · subst hjt; rw [hb]; simp [ht]
  · have : decide (t ≤ j ∧ j < K) = decide (t + 1 ≤ j ∧ j < K) := by apply decide_eq_decide.2; omega
    simp only [this, hjt, decide_false, Bool.or_false]
theorem HolI.head {K c w : Nat} {g : Lg} (h : HolI K c 0 w g) (hk : 1 ≤ K ∧ K ≤ 8) : g.head = holeF (bitB w) c K 0 := by
  have hle := holeF_le (bitB w) c K 0
  obtain ⟨h1, h2⟩ := holeF_ok (bitB w) c K 0
  refine h.sy.head hk hle (fun p hp => ?_) ?_
  · have hm : p % K < K := Nat.mod_lt _ (by omega)
    have hl : p % K ≤ p := Nat.mod_le _ _
    rw [h1 (p % K) (Nat.zero_le _) (by omega) (by omega)]
    simp [hm]
  · rcases h2 with h2 | ⟨_, h3, h4⟩
    · exact .inl h2
    · right
      rw [Nat.mod_eq_of_lt (by omega), h4]
      simp
structure PutH (K n H i : Nat) (g : Lg) : Prop where
  li : LI 100000 (n + i) (hR H) g
  m : g.m = [(0, (K : Int))]
  trim : g.trim = 0
  next : g.next = H + i
  down : g.down = false
  own : g.own = ⟨100000, [], 0⟩
theorem PutH.put {K n H i : Nat} {g g' : Lg} (h : PutH K n H i g) (hn : n + i < 200) (q : LPut g 1 ((i + 1 : Nat) : Int) g') : PutH K n H (i + 1) g' := by
  have hr : hR H g.next = rz 1 ((i + 1 : Nat) : Int) := by
    unfold hR
    rw [h.next, if_neg (by omega), Nat.add_sub_cancel_left]
  obtain ⟨l, e⟩ := q.li h.li hr (by omega) (by omega) (by omega)
  obtain ⟨a1, a2, a3, a4, a5⟩ := q.rest
  exact ⟨l, a2.trans h.m, a3.trans h.trim, by rw [e, h.next]; omega, a5.trans h.down, a1.trans h.own⟩
theorem PutH.sync {K n H i k : Nat} {g g' : Lg} (h : PutH K n H i g) (q : LSync g k g') : PutH K n H i g' := by
  obtain ⟨a1, a2, a3, a4, a5, a6⟩ := q.rest
  exact ⟨q.li h.li, a2.trans h.m, a3.trans h.trim, a6.trans h.next, a5.trans h.down, a1.trans h.own⟩
end Go.Sl

set_option linter.unusedVariables false
set_option linter.unusedSimpArgs false
namespace Go.Sl
theorem getI_with (l : List Int) (s : Nat) (q : Int) (i : Nat) : getI (withI l s q) (i : Int) = if i = s then q else getI l (i : Int) := by
  rw [getI_nat, getI_nat]
  unfold withI
  simp only [List.getD_eq_getElem?_getD]
  by_cases h : i = s
  · subst h
    rw [if_pos rfl, List.getElem?_set_self (by rw [List.length_append, List.length_replicate]; omega)]
    rfl
  · rw [if_neg h, List.getElem?_set_ne (fun e => h e.symm)]
    rcases Nat.lt_or_ge i l.length with hl | hl
    · rw [List.getElem?_append_left hl]
    · rw [List.getElem?_append_right hl, List.getElem?_eq_none (l := l) hl]
      cases hr : (List.replicate (s + 1 - l.length) (0 : Int))[i - l.length]? with
      | none => rfl
      | some x =>
        have := List.eq_of_mem_replicate (List.mem_of_getElem? hr)
        subst this; rfl
theorem covers_iff' {a b : List Int} : coversB a b = true ↔ ∀ i : Nat, getI b (i : Int) ≤ getI a (i : Int) := by
  unfold coversB
  rw [List.all_eq_true]
  constructor
  · intro h i
    by_cases hi : i < max a.length b.length
    · have := h i (List.mem_range.2 hi)
      simp at this; exact this
    · rw [getI_nat, getI_nat, List.getD_eq_getElem?_getD, List.getD_eq_getElem?_getD, List.getElem?_eq_none (by omega), List.getElem?_eq_none (by omega)]
      exact Int.le_refl _
  · intro h i _
    have := h i
    simp; exact this
def flawK (was : List Int) (r : Rc) : Int :=
  if r.seq ≤ getI was r.site then 1 else if getI was r.site + 1 < r.seq then 2 else if coversB was r.dep = false then 3 else 0
def nextV (was : List Int) (r : Rc) : List Int := withI was r.site.toNat (if getI was r.site < r.seq then r.seq else getI was r.site)
def flawsF (was : List Int) : List (Int × Rc) → List (Int × Int)
  | [] => []
  | (p, r) :: l => (if flawK was r = 0 then [] else [(p, flawK was r)]) ++ flawsF (nextV was r) l
def vecL (was : List Int) : List (Int × Rc) → List Int
  | [] => was
  | (p, r) :: l => vecL (nextV was r) l
theorem flaws_app : ∀ (a b : List (Int × Rc)) (w : List Int), flawsF w (a ++ b) = flawsF w a ++ flawsF (vecL w a) b
  | [], b, w => rfl
  | (p, r) :: a, b, w => by
    simp only [List.cons_append, flawsF, vecL, flaws_app a b, List.append_assoc]
theorem vecL_app : ∀ (a b : List (Int × Rc)) (w : List Int), vecL w (a ++ b) = vecL (vecL w a) b
  | [], b, w => rfl
  | (p, r) :: a, b, w => by simp only [List.cons_append, vecL, vecL_app a b]
def likeV (a b : List Int) : Prop := ∀ i : Nat, getI a (i : Int) = getI b (i : Int)
theorem getI_neg {l : List Int} {i : Int} (h : i < 0) : getI l i = 0 := by unfold getI; rw [if_pos h]
theorem likeV.at {a b : List Int} (h : likeV a b) (i : Int) : getI a i = getI b i := by
  by_cases hi : i < 0
  · rw [getI_neg hi, getI_neg hi]
  · have := h i.toNat
    rwa [show ((i.toNat : Nat) : Int) = i by omega] at this
theorem likeV.covers {a b c : List Int} (h : likeV a b) : coversB a c = coversB b c := by
  rw [Bool.eq_iff_iff, covers_iff', covers_iff']
  constructor <;> intro h2 i <;> have := h2 i <;> have := h i <;> omega
theorem likeV.flaw {a b : List Int} (h : likeV a b) (r : Rc) : flawK a r = flawK b r := by
  unfold flawK
  rw [h.at, h.covers]
theorem likeV.next {a b : List Int} (h : likeV a b) (r : Rc) : likeV (nextV a r) (nextV b r) := by
  intro i
  unfold nextV
  rw [getI_with, getI_with, h.at r.site, h i]
theorem likeV.flaws : ∀ (l : List (Int × Rc)) {a b : List Int}, likeV a b → flawsF a l = flawsF b l
  | [], _, _, _ => rfl
  | (p, r) :: l, a, b, h => by
    simp only [flawsF]
    rw [h.flaw r, likeV.flaws l (h.next r)]
theorem likeV.vecL : ∀ (l : List (Int × Rc)) {a b : List Int}, likeV a b → likeV (vecL a l) (vecL b l)
  | [], _, _, h => h
  | (p, r) :: l, a, b, h => likeV.vecL l (h.next r)
def VBd (w : List Int) : Prop := w.length ≤ 64 ∧ ∀ i : Int, 0 ≤ getI w i ∧ getI w i ≤ 1000000000
def RBd (r : Rc) : Prop := (0 ≤ r.site ∧ r.site ≤ 63) ∧ 0 ≤ r.seq ∧ r.seq ≤ 1000000000
theorem VBd.next {w : List Int} {r : Rc} (h : VBd w) (hr : RBd r) : VBd (nextV w r) := by
  obtain ⟨h1, h2⟩ := h
  obtain ⟨⟨a, b⟩, c, d⟩ := hr
  have hs := h2 r.site
  refine ⟨?_, fun i => ?_⟩
  · unfold nextV; rw [withI_len]; omega
  · by_cases hi : i < 0
    · rw [getI_neg hi]; omega
    · have := getI_with w r.site.toNat (if getI w r.site < r.seq then r.seq else getI w r.site) i.toNat
      rw [show ((i.toNat : Nat) : Int) = i by omega] at this
      unfold nextV
      rw [this]
      have := h2 i
      split
      · split <;> omega
      · omega
theorem VBd.take {w : List Int} : ∀ {l : List (Int × Rc)}, VBd w → (∀ x ∈ l, RBd x.2) → VBd (vecL w l) := by
  intro l
  induction l generalizing w with
  | nil => intro h _; exact h
  | cons x l ih =>
    obtain ⟨p, r⟩ := x
    intro h hl
    exact ih (h.next (hl (p, r) (by simp))) fun y hy => hl y (by simp [hy])
theorem flaws_snoc {w : List Int} {l : List (Int × Rc)} {i : Nat} {p : Int} {r : Rc} (h : l[i]? = some (p, r)) : flawsF w (l.take (i + 1)) = flawsF w (l.take i) ++ (if flawK (vecL w (l.take i)) r = 0 then [] else [(p, flawK (vecL w (l.take i)) r)]) ∧ vecL w (l.take (i + 1)) = nextV (vecL w (l.take i)) r := by
  rw [List.take_add_one, h]
  simp only [Option.toList_some]
  rw [flaws_app, vecL_app]
  simp only [flawsF, vecL, List.append_nil, and_self]
theorem flaws_len (w : List Int) : ∀ l : List (Int × Rc), (flawsF w l).length ≤ l.length := by
  intro l
  induction l generalizing w with
  | nil => exact Nat.le_refl _
  | cons x l ih =>
    obtain ⟨p, r⟩ := x
    simp only [flawsF, List.length_append, List.length_cons]
    have := ih (nextV w r)
    split <;> simp <;> omega
end Go.Sl

set_option linter.unusedVariables false
set_option linter.unusedSimpArgs false
namespace Go.Sl
def posD (K j : Nat) : Nat → List Nat
  | 0 => []
  | c + 1 => posD K j c ++ (if c % K = j then [c] else [])
def cntD (K j c : Nat) : Nat := (posD K j c).length
def slotsD (R : Nat → Rc) (K j : Nat) : Nat → List (Int × Rc × Int)
  | 0 => []
  | c + 1 => slotsD R K j c ++ (if c % K = j then [((c : Int), R c, (cntD K j c : Int))] else [])
def linesD (R : Nat → Rc) (K j : Nat) : Nat → List ByteArray
  | 0 => []
  | c + 1 => linesD R K j c ++ (if c % K = j then [txB (lineP c (R c))] else [])
section
variable {R : Nat → Rc} {K j : Nat}
theorem cnt_succ (c : Nat) : cntD K j (c + 1) = cntD K j c + (if c % K = j then 1 else 0) := by
  unfold cntD
  simp only [posD, List.length_append]
  split <;> rfl
theorem cnt_mono {a b : Nat} (h : a ≤ b) : cntD K j a ≤ cntD K j b := by
  induction b with
  | zero => rw [Nat.le_zero.1 h]; exact Nat.le_refl _
  | succ b ih =>
    rcases Nat.lt_or_ge b a with h1 | h1
    · have : a = b + 1 := by omega
      subst this; exact Nat.le_refl _
    · have := ih h1
      rw [cnt_succ]; omega
theorem cnt_lt {p u : Nat} (hp : p % K = j) : cntD K j p < cntD K j u ↔ p < u := by
  constructor
  · intro h
    rcases Nat.lt_or_ge p u with h1 | h1
    · exact h1
    · have := cnt_mono (K := K) (j := j) h1; omega
  · intro h
    have h1 := cnt_mono (K := K) (j := j) (show p + 1 ≤ u from h)
    rw [cnt_succ, if_pos hp] at h1; omega
theorem cnt_le (c : Nat) : cntD K j c ≤ c := by
  induction c with
  | zero => exact Nat.le_refl _
  | succ c ih => rw [cnt_succ]; split <;> omega
theorem slots_len (c : Nat) : (slotsD R K j c).length = cntD K j c := by
  induction c with
  | zero => rfl
  | succ c ih =>
    rw [cnt_succ]
    simp only [slotsD, List.length_append, ih]
    split <;> rfl
theorem lines_len (c : Nat) : (linesD R K j c).length = cntD K j c := by
  induction c with
  | zero => rfl
  | succ c ih =>
    rw [cnt_succ]
    simp only [linesD, List.length_append, ih]
    split <;> rfl
theorem slots_lt {c : Nat} : ∀ x ∈ slotsD R K j c, x.1 < (c : Int) := by
  induction c with
  | zero => intro x hx; cases hx
  | succ c ih =>
    intro x hx
    simp only [slotsD] at hx
    rcases List.mem_append.1 hx with hx | hx
    · have := ih x hx; omega
    · split at hx
      · simp at hx; subst hx; show (c : Int) < ((c + 1 : Nat) : Int); omega
      · cases hx
theorem slots_at {p c : Nat} (hp : p % K = j) (hc : p < c) : (slotsD R K j c)[cntD K j p]? = some ((p : Int), R p, (cntD K j p : Int)) := by
  induction c with
  | zero => omega
  | succ c ih =>
    simp only [slotsD]
    rcases Nat.lt_or_ge p c with h1 | h1
    · have := (List.getElem?_eq_some_iff.1 (ih h1)).1
      rw [List.getElem?_append_left this]
      exact ih h1
    · have : p = c := by omega
      subst this
      rw [if_pos hp, List.getElem?_append_right (by rw [slots_len]; exact Nat.le_refl _), slots_len, Nat.sub_self]
      rfl
theorem atI_app (a b : List (Int × Rc × Int)) (p : Int) : atI (a ++ b) p = if atI a p < a.length then atI a p else a.length + atI b p := by
  induction a with
  | nil => simp [atI]
  | cons x a ih =>
    simp only [List.cons_append, atI, ih, List.length_cons]
    by_cases hx : x.1 < p
    · simp only [if_pos hx]
      by_cases h : atI a p < a.length
      · rw [if_pos h, if_pos (by omega)]
      · rw [if_neg h, if_neg (by omega)]; omega
    · simp only [if_neg hx]
      rw [if_pos (by omega)]
theorem slots_ix {p c : Nat} (hp : p % K = j) (hc : p < c) : atI (slotsD R K j c) p = cntD K j p := by
  induction c with
  | zero => omega
  | succ c ih =>
    simp only [slotsD]
    rw [atI_app, slots_len]
    rcases Nat.lt_or_ge p c with h1 | h1
    · rw [ih h1, if_pos ((cnt_lt hp).2 h1)]
    · have : p = c := by omega
      subst this
      rw [atI_all slots_lt, slots_len, if_neg (Nat.lt_irrefl _), if_pos hp]
      simp [atI]
theorem usedL_app' (a b : List ByteArray) : usedL (a ++ b) = usedL a + usedL b := by
  induction a with
  | nil => simp [usedL]
  | cons x a ih => simp only [List.cons_append, usedL, ih]; omega
theorem lines_used {c : Nat} (h : ∀ p, p < c → checkR (R p) 8 = 0) (hc : c < 100000) : usedL (linesD R K j c) ≤ 128 * c := by
  induction c with
  | zero => exact Nat.le_refl _
  | succ c ih =>
    have h1 := ih (fun p hp => h p (by omega)) (by omega)
    have h2 := lineP_le (n := c) (h c (by omega)) (by omega)
    simp only [linesD]
    rw [usedL_app']
    split
    · simp only [usedL, size_txB]; omega
    · simp only [usedL]; omega
theorem pos_ge {c : Nat} (hj : K ≤ j) (hK : 0 < K) : cntD K j c = 0 := by
  induction c with
  | zero => rfl
  | succ c ih =>
    rw [cnt_succ, ih, if_neg]
    have := Nat.mod_lt c hK
    omega
end
structure DI (room : Int) (K c : Nat) (us : Nat → Nat) (R : Nat → Rc) (d : DLg) : Prop where
  m : d.m = [(0, (K : Int))]
  len : d.segs.length = 8
  next : d.next = c
  trim : d.trim = 0
  v : d.v = []
  down : d.down = false
  sg : ∀ (j : Nat) (x : DD), d.segs[j]? = some x → x.l = slotsD R K j c ∧ x.lines = linesD R K j c ∧ x.lasts = (cntD K j (us j) : Int) ∧ x.sealed = 0 ∧ x.trimd = 0 ∧ x.room = room
  rs : ∀ p, p < c → checkR (R p) 8 = 0 ∧ (R p).dep = []
  cb : c ≤ 1000
theorem DI.at_ {room : Int} {K c : Nat} {us : Nat → Nat} {R : Nat → Rc} {d : DLg} (h : DI room K c us R d) (hK : 1 ≤ K ∧ K ≤ 8) (p : Nat) : ∃ x, d.segs[p % K]? = some x := by
  have : p % K < K := Nat.mod_lt _ (by omega)
  exact ⟨_, List.getElem?_eq_getElem (by rw [h.len]; omega)⟩
theorem DI.lasts {room : Int} {K c : Nat} {us : Nat → Nat} {R : Nat → Rc} {d : DLg} (h : DI room K c us R d) {p : Nat} (hp : p < c) {x : DD} (hx : d.segs[p % K]? = some x) : x.lastsAt p = decide (p < us (p % K)) := by
  obtain ⟨e1, e2, e3, _⟩ := h.sg _ x hx
  unfold DD.lastsAt
  rw [e1, slots_ix rfl hp, slots_at rfl hp, e3]
  simp only [decide_true, Bool.true_and]
  apply decide_eq_decide.2
  rw [← cnt_lt (K := K) (j := p % K) (u := us (p % K)) rfl]
  omega
theorem DI.slot {room : Int} {K c : Nat} {us : Nat → Nat} {R : Nat → Rc} {d : DLg} (h : DI room K c us R d) {p : Nat} (hp : p < c) {x : DD} (hx : d.segs[p % K]? = some x) : ∃ ln, x.l[atI x.l p]? = some ((p : Int), R p, ln) := by
  obtain ⟨e1, _⟩ := h.sg _ x hx
  rw [e1, slots_ix rfl hp, slots_at rfl hp]
  exact ⟨_, rfl⟩
theorem DI.put {room : Int} {K c : Nat} {us : Nat → Nat} {R : Nat → Rc} {d d' : DLg} (h : DI room K c us R d) (hc : c < 1000) (hr : checkR (R c) 8 = 0 ∧ (R c).dep = []) {x : DD} (hx : d.segs[c % K]? = some x) {sp dp : Pl}
    (e : d' = { d with next := c + 1, segs := d.segs.set (c % K) { x with sp := sp, dp := dp, lines := x.lines ++ [txB (lineP c (R c))], l := x.l ++ [((c : Int), R c, (x.lines.length : Int))] } }) : DI room K (c + 1) us R d' := by
  subst e
  obtain ⟨hk, _⟩ := List.getElem?_eq_some_iff.1 hx
  refine ⟨h.m, by rw [List.length_set]; exact h.len, rfl, h.trim, h.v, h.down, fun j z hz => ?_, fun p hp => ?_, by omega⟩
  · by_cases hj : c % K = j
    · subst hj
      rw [List.getElem?_set_self hk] at hz
      obtain rfl := Option.some.inj hz
      obtain ⟨e1, e2, e3, e4, e5, e6⟩ := h.sg _ x hx
      simp only [slotsD, linesD, if_true]
      refine ⟨?_, by rw [e2], e3, e4, e5, e6⟩
      rw [e1, e2, lines_len]
    · rw [List.getElem?_set_ne hj] at hz
      have := h.sg j z hz
      simp only [slotsD, linesD, if_neg hj, List.append_nil]
      exact this
  · rcases Nat.lt_or_ge p c with h1 | h1
    · exact h.rs p h1
    · have : p = c := by omega
      subst this; exact hr
theorem DI.sync {room : Int} {K c k : Nat} {us : Nat → Nat} {R : Nat → Rc} {d d' : DLg} (h : DI room K c us R d) {x : DD} (hx : d.segs[k]? = some x)
    (e : d' = { d with segs := d.segs.set k { x with lasts := (x.lines.length : Int) } }) : DI room K c (fun j => if j = k then c else us j) R d' := by
  subst e
  obtain ⟨hk, _⟩ := List.getElem?_eq_some_iff.1 hx
  refine ⟨h.m, by rw [List.length_set]; exact h.len, h.next, h.trim, h.v, h.down, fun j z hz => ?_, h.rs, h.cb⟩
  by_cases hj : k = j
  · subst hj
    rw [List.getElem?_set_self hk] at hz
    obtain rfl := Option.some.inj hz
    obtain ⟨e1, e2, e3, e4, e5, e6⟩ := h.sg _ x hx
    rw [if_pos rfl]
    refine ⟨e1, e2, ?_, e4, e5, e6⟩
    show (x.lines.length : Int) = _
    rw [e2, lines_len]
  · rw [List.getElem?_set_ne hj] at hz
    rw [if_neg (fun e => hj e.symm)]
    exact h.sg j z hz
theorem DI.congr {room : Int} {K c : Nat} {us us' : Nat → Nat} {R : Nat → Rc} {d : DLg} (h : DI room K c us R d) (hK : 1 ≤ K) (he : ∀ j, j < K → us' j = us j) : DI room K c us' R d :=
  ⟨h.m, h.len, h.next, h.trim, h.v, h.down, fun j z hz => by
    obtain ⟨e1, e2, e3, e4, e5, e6⟩ := h.sg j z hz
    refine ⟨e1, e2, ?_, e4, e5, e6⟩
    rw [e3]
    rcases Nat.lt_or_ge j K with h1 | h1
    · rw [he j h1]
    · rw [pos_ge h1 hK, pos_ge h1 hK], h.rs, h.cb⟩
def vecR (R : Nat → Rc) : Nat → Nat → List Int → List Int
  | 0, _, v => v
  | k + 1, p, v => vecR R k (p + 1) (withI v (R p).site.toNat (R p).seq)
theorem vecR_snoc (R : Nat → Rc) : ∀ (k p : Nat) (v : List Int), vecR R (k + 1) p v = withI (vecR R k p v) (R (p + k)).site.toNat (R (p + k)).seq
  | 0, p, v => rfl
  | k + 1, p, v => by
    show vecR R (k + 1) (p + 1) _ = _
    rw [vecR_snoc R k (p + 1)]
    simp only [vecR]
    rw [show p + 1 + k = p + (k + 1) by omega]
theorem vecF_R {g : Lg} {R : Nat → Rc} : ∀ (k p : Nat) (v : List Int), (∀ i, p ≤ i → i < p + k → g.rcd i = R i) → vecF g k p v = vecR R k p v
  | 0, _, _, _ => rfl
  | k + 1, p, v, h => by
    unfold vecF vecR
    rw [h p (Nat.le_refl _) (by omega)]
    exact vecF_R k (p + 1) _ fun i h1 h2 => h i (by omega) (by omega)
theorem vecR_len (R : Nat → Rc) (h : ∀ p, 0 ≤ (R p).site ∧ (R p).site ≤ 63) : ∀ (k p : Nat) (v : List Int), v.length ≤ 64 → (vecR R k p v).length ≤ 64
  | 0, _, v, hv => hv
  | k + 1, p, v, hv => by
    unfold vecR
    refine vecR_len R h k (p + 1) _ ?_
    rw [withI_len]
    have := h p
    omega
end Go.Sl

set_option linter.unusedVariables false
set_option linter.unusedSectionVars false
set_option linter.unusedSimpArgs false
namespace Go.Sl
section
variable {P : Program} [tb : Tab P] {rd : Option Nat} {N : Nat} {T : TT} {L L' L1 : List HP} {Q : Post} {ks : List K}
variable {all : Array Oper} {rest : List Oper} {d : Option Tmp} {ty : TypeId} {pos : String} {aft : Array Edge}
variable {κ α : Type} [DecidableEq κ] {kr : KR κ} {ρ : Rep α}
def nowM (k : κ) (u : α) (h : ρ.V) (x : MI κ ρ) : Prop := x.2.1 = x.2.2.2.1 ∧ ∃ born : Nat, ((k, u), (h, born)) ∈ x.1 ∧ x.2.2.2.2.getLast? = some born
def mitN (kr : KR κ) (ρ : Rep α) (r b : Nat) (l left : List (κ × α)) (k : κ) (u : α) (h : ρ.V) : HP := some1 (fun x => mitP (ρ := ρ) l left x ∧ nowM k u h x) (mitM kr r b)
theorem mitN_at {r b : Nat} {l left : List (κ × α)} {k : κ} {u : α} {h : ρ.V} {w : World} (hs : St w (mitN kr ρ r b l left k u h :: L)) : St w (mitAt kr ρ r b l left :: L) := by
  obtain ⟨⟨z, clock, since, last, seen⟩, ⟨⟨h1, h2, h3, h4, h5, h6⟩, _⟩, hs⟩ := some1_open hs
  exact hs.ent (mit_shut z clock since last seen h1 h2 h3 h4 h5 h6)
theorem mitN_shut {r b : Nat} {l left : List (κ × α)} {k : κ} {u : α} {h : ρ.V} (z : List (ZM κ ρ)) (clock since last : Nat) (seen : List Nat) (h1 : z.map (·.1) = l) (h2 : (keysM l).Nodup) (h3 : (z.map fun p : ZM κ ρ => p.2.2).Pairwise (· < ·) ∧ ∀ p ∈ z, p.2.2 < clock)
    (h4 : (leftZ z seen).map (·.1) = left) (h5 : ∀ p ∈ z, p.2.2 < since) (h6 : ∀ p ∈ z, p.2.2 < last) (h7 : clock = last) (h8 : ∃ born : Nat, ((k, u), (h, born)) ∈ z ∧ seen.getLast? = some born) :
    Ent (ob b (.map (z.map (entM kr ρ)).toArray clock) :: ob r (.mapIter (some b) since seen.toArray last) :: memA ρ (z.map fun p => (p.1.2, p.2.1)) :: L) (mitN kr ρ r b l left k u h :: L) :=
  ent_tok (p := fun x => mitP (ρ := ρ) l left x ∧ nowM k u h x) (M := mitM kr r b) (R := L) (L1 := []) ((z, clock, since, last, seen) : MI κ ρ) ⟨⟨h1, h2, h3, h4, h5, h6⟩, h7, h8⟩ takes_self
theorem SO.nextMapN {x : Operand} {r b : Nat} {l left : List (κ × α)} (hx : evO T x = some (.pointer (some ⟨r, 0, none⟩))) (htk : Take (mitAt kr ρ r b l left) L L') (hd : dstOk N d = true)
    (over : left = [] → SO P rd N all rest (putD d (.tuple #[.bool false]) T) (mitAt kr ρ r b l [] :: L') ks Q)
    (some_ : ∀ (k : κ) (u : α) (h : ρ.V), (k, u) ∈ left → (k, u) ∈ l → SO P rd N all rest (putD d (.tuple #[.bool true, kr.v k, ρ.val u h]) T) (ρ.atoms u h ++ mitN kr ρ r b l (mdel left k) k u h :: L') ks Q) :
    SO P rd N all (⟨d, .next x false, ty, pos, aft, none⟩ :: rest) T L ks Q := by
  refine SO.run (R := fun v L2 => (left = [] ∧ v = .tuple #[.bool false] ∧ L2 = mitAt kr ρ r b l [] :: L') ∨ ∃ k u h, (k, u) ∈ left ∧ (k, u) ∈ l ∧ v = .tuple #[.bool true, kr.v k, ρ.val u h] ∧ L2 = ρ.atoms u h ++ mitN kr ρ r b l (mdel left k) k u h :: L') rfl rfl hd ?_
    (by rintro _ _ (⟨h, rfl, rfl⟩ | ⟨k, u, h, h1, h2, rfl, rfl⟩) <;> first | exact over h | exact some_ k u h h1 h2)
  intro q hq F w hst
  have h1 : St w (mitAt kr ρ r b l left :: F :: L') := hst.ent ((Ent.cons htk.ent).trans Ent.swap)
  obtain ⟨⟨z, clock, since, last, seen⟩, ⟨hl, hn, ⟨hb1, hb2⟩, hlf, h5, h6⟩, hs⟩ := some1_open h1
  dsimp only at hl hb1 hb2 hlf h5 h6 hs
  have hs2 : St w (ob b (.map (z.map (entM kr ρ)).toArray clock) :: ob r (.mapIter (some b) since seen.toArray last) :: memA ρ (z.map fun p => (p.1.2, p.2.1)) :: F :: L') := hs
  obtain ⟨hob, _⟩ := hs2.obj
  obtain ⟨hor, _⟩ := (hs2.ent Ent.swap).obj
  have htest : (!seen.toArray.isEmpty && !(z.map (entM kr ρ)).toArray.isEmpty && (z.map (entM kr ρ)).toArray.all (fun x => decide (x.born ≥ last))) = false := by
    cases z with
    | nil => simp
    | cons p z =>
      have := h6 p (by simp)
      have h7 : decide (p.2.2 ≥ last) = false := decide_eq_false (by omega)
      simp [entM, h7]
  have hfil : (z.map (entM kr ρ)).toArray.filter (fun e => !seen.toArray.contains e.born) = ((leftZ z seen).map (entM kr ρ)).toArray := by
    unfold leftZ
    rw [List.filter_toArray]
    congr 1
    rw [List.filter_map]
    congr 1
    refine List.filter_congr fun p _ => ?_
    show (!seen.toArray.contains p.2.2) = !seen.elem p.2.2
    simp
  have hmem : ∀ x ∈ ((leftZ z seen).map (entM kr ρ)).toArray, x.born < since := fun x hx => by
    simp only [List.mem_toArray, List.mem_map] at hx
    obtain ⟨p, hp, rfl⟩ := hx
    exact h5 p (List.mem_filter.1 hp).1
  have e1 : ((leftZ z seen).map (entM kr ρ)).toArray.filter (fun x => decide (x.born < since)) = ((leftZ z seen).map (entM kr ρ)).toArray := Array.filter_eq_self.2 (fun x hx => by simpa using hmem x hx)
  have e2 : ((leftZ z seen).map (entM kr ρ)).toArray.filter (fun x => decide (x.born ≥ since)) = #[] := by
    rw [Array.filter_eq_empty_iff]
    intro x hx
    have := hmem x hx
    simp; omega
  have hrun : (execOp q ⟨d, .next x false, ty, pos, aft, none⟩).run P w = ((do
      match ((if ((leftZ z seen).map (entM kr ρ)).toArray.isEmpty then #[none] else #[]) ++ ((leftZ z seen).map (entM kr ρ)).toArray.map some)[← choose (.mapNext ((if ((leftZ z seen).map (entM kr ρ)).toArray.isEmpty then #[none] else #[]) ++ ((leftZ z seen).map (entM kr ρ)).toArray.map some).size)]? with
      | some (some e) => do
        setObj r (.mapIter (some b) since (seen.toArray.push e.born) clock)
        Pure.pure (.value (.tuple #[.bool true, e.key, e.val]))
      | some none => Pure.pure (.value (.tuple #[.bool false]))
      | none => stuck "Next: no such candidate" : Sem Next)).run P w := by
    simp only [execOp, hq _ _ hx, Instr.next, Sem.run_bind, run_getMap hor trivial, run_getMap hob trivial, Result.andThen_ok, htest, Bool.false_eq_true, if_false, hfil, e1, e2, Array.append_empty]
    generalize (choose _).run P w = res
    cases res with
    | ok n w1 =>
      simp only [Result.andThen_ok]
      split
      · rename_i e he
        simp only [he, Sem.run_bind]
        generalize (setObj r _).run P w1 = res2
        cases res2 <;> simp [Result.andThen]
      · rename_i he
        simp only [he]
        simp
      · rename_i he
        simp only [he]
        simp [stuck, Sem.run, Result.andThen]
    | halt e w1 => simp [Result.andThen]
  rw [hrun]
  cases hz0 : leftZ z seen with
  | nil =>
    have hle : left = [] := by rw [← hlf, hz0]; rfl
    refine ⟨_, w, _, .inl ?_, .inl ⟨hle, rfl, rfl⟩, ?_⟩
    · simp [choose, Sem.run, Question.forced]
    · exact (hs2.ent (mit_shut z clock since last seen hl hn ⟨hb1, hb2⟩ (by rw [hz0]; rfl) h5 h6)).ent Ent.swap
  | cons p0 y0 =>
    rw [← hz0]
    have hpos : 0 < (leftZ z seen).length := by rw [hz0]; simp
    have hne : ((leftZ z seen).map (entM kr ρ)).toArray.isEmpty = false := by rw [hz0]; rfl
    simp only [hne, Bool.false_eq_true, if_false, Array.empty_append, Array.size_map, List.size_toArray, List.length_map]
    have hch : ∃ (j : Nat) (w1 : World), j < (leftZ z seen).length ∧ (choose (Question.mapNext (leftZ z seen).length)).run P w = .ok j w1 ∧ (w1 = w ∨ w1 = { w with drawn := w.drawn + 1 }) := by
      by_cases hf : (leftZ z seen).length ≤ 1
      · exact ⟨0, w, hpos, by simp [choose, Sem.run, Question.forced, hf], .inl rfl⟩
      · exact ⟨_, _, Nat.mod_lt _ hpos, by
          simp only [choose, Sem.run, Question.forced, decide_eq_true_eq, hf, if_false, Question.cut]
          rfl, .inr rfl⟩
    obtain ⟨j, w1, hj, hcr, hw1⟩ := hch
    obtain ⟨p, hp⟩ : ∃ p, (leftZ z seen)[j]? = some p := ⟨_, List.getElem?_eq_getElem hj⟩
    have hpz : p ∈ z := (List.mem_filter.1 (List.mem_of_getElem? hp)).1
    have hs3 : St w1 (ob r (.mapIter (some b) since seen.toArray last) :: ob b (.map (z.map (entM kr ρ)).toArray clock) :: memA ρ (z.map fun p => (p.1.2, p.2.1)) :: F :: L') := by
      rcases hw1 with rfl | rfl
      · exact hs2.ent Ent.swap
      · exact (hs2.ent Ent.swap).drew _
    obtain ⟨hor1, _⟩ := hs3.obj
    have hs4 := hs3.setObj (z := .mapIter (some b) since (seen ++ [p.2.2]).toArray clock) trivial
    have hkl : (p.1.1, p.1.2) ∈ l := by rw [← hl]; exact List.mem_map.2 ⟨p, hpz, rfl⟩
    have hkf : (p.1.1, p.1.2) ∈ left := by rw [← hlf]; exact List.mem_map.2 ⟨p, List.mem_of_getElem? hp, rfl⟩
    refine ⟨.tuple #[.bool true, kr.v p.1.1, ρ.val p.1.2 p.2.1], { w1 with heap := w1.heap.setIfInBounds r (.mapIter (some b) since (seen ++ [p.2.2]).toArray clock) }, _, .inl ?_, .inr ⟨p.1.1, p.1.2, p.2.1, hkf, hkl, rfl, rfl⟩, ?_⟩
    · have hget : (((leftZ z seen).map (entM kr ρ)).toArray.map some)[j]? = some (some (entM kr ρ p)) := by
        simp [hp]
      simp only [Sem.run_bind, hcr, Result.andThen_ok, hget]
      have hpush : seen.toArray.push (entM kr ρ p).born = (seen ++ [p.2.2]).toArray := by simp [entM]
      rw [hpush]
      simp only [Sem.run_bind, run_setObj_some hor1 trivial, Result.andThen_ok, Sem.run_pure]
      rfl
    · obtain ⟨i, hi⟩ := List.getElem?_of_mem hpz
      have hzi : (z.map fun p : ZM κ ρ => (p.1.2, p.2.1))[i]? = some (p.1.2, p.2.1) := by rw [List.getElem?_map, hi]; rfl
      have hleft : (leftZ z (seen ++ [p.2.2])).map (·.1) = mdel left p.1.1 := by
        rw [leftZ_push, ← hlf]
        refine left_del (hb1.sublist ?_) ?_ hp
        · exact (List.filter_sublist).map _
        · unfold keysM at hn ⊢
          rw [← hl] at hn
          exact hn.sublist (((List.filter_sublist).map _).map _)
      have e3 : Ent (ob r (.mapIter (some b) since (seen ++ [p.2.2]).toArray clock) :: ob b (.map (z.map (entM kr ρ)).toArray clock) :: memA ρ (z.map fun p => (p.1.2, p.2.1)) :: F :: L')
          (ob b (.map (z.map (entM kr ρ)).toArray clock) :: ob r (.mapIter (some b) since (seen ++ [p.2.2]).toArray clock) :: memA ρ (z.map fun p => (p.1.2, p.2.1)) :: memA ρ (z.map fun p => (p.1.2, p.2.1)) :: F :: L') :=
        Ent.swap.trans (Ent.cons (Ent.cons (Ent.dup (pers_memA _ _))))
      refine hs4.ent (e3.trans ((mitN_shut z clock since clock (seen ++ [p.2.2]) hl hn ⟨hb1, hb2⟩ hleft h5 hb2 rfl (k := p.1.1) (u := p.1.2) (h := p.2.1) ⟨p.2.2, hpz, by simp⟩).trans ?_))
      refine (Ent.cons (memA_at hzi)).trans ?_
      refine ent_of_swap.trans ?_
      refine (Ent.app Ent.swap).trans ?_
      exact ent_swap_back
theorem find_stamp {z : List (ZM κ ρ)} {p : ZM κ ρ} (hb : (z.map fun p : ZM κ ρ => p.2.2).Pairwise (· < ·)) (hp : p ∈ z) : (z.map (entM kr ρ)).toArray.find? (fun e => e.born == p.2.2) = some (entM kr ρ p) := by
  induction z with
  | nil => cases hp
  | cons q z ih =>
    have h1 := List.pairwise_cons.1 hb
    rw [List.find?_toArray, List.map_cons, List.find?_cons]
    rcases List.mem_cons.1 hp with rfl | hp
    · simp [entM]
    · have h2 := h1.1 p.2.2 (List.mem_map.2 ⟨p, hp, rfl⟩)
      have h3 : ((entM kr ρ q).born == p.2.2) = false := by
        have h4 : q.2.2 < p.2.2 := h2
        show (q.2.2 == p.2.2) = false
        simp only [beq_eq_false_iff_ne, ne_eq]; omega
      rw [h3]
      have := ih h1.2 hp
      rw [List.find?_toArray] at this
      exact this
theorem SO.entry {x : Operand} {r b : Nat} {l left : List (κ × α)} {k : κ} {u : α} {h : ρ.V} (hx : evO T x = some (.pointer (some ⟨r, 0, none⟩))) (htk : Take (mitN kr ρ r b l left k u h) L L') (hd : dstOk N d = true)
    (kk : SO P rd N all rest (putD d (.tuple #[kr.v k, ρ.val u h]) T) (mitN kr ρ r b l left k u h :: L') ks Q) : SO P rd N all (⟨d, .entry x, ty, pos, aft, none⟩ :: rest) T L ks Q := by
  refine SO.run (R := fun v L2 => v = .tuple #[kr.v k, ρ.val u h] ∧ L2 = mitN kr ρ r b l left k u h :: L') rfl rfl hd ?_ (by rintro _ _ ⟨rfl, rfl⟩; exact kk)
  intro q hq F w hst
  have h1 : St w (mitN kr ρ r b l left k u h :: F :: L') := hst.ent ((Ent.cons htk.ent).trans Ent.swap)
  refine ⟨_, w, _, .inl ?_, ⟨rfl, rfl⟩, h1.ent Ent.swap⟩
  obtain ⟨⟨z, clock, since, last, seen⟩, ⟨⟨hl, hn, ⟨hb1, hb2⟩, hlf, h5, h6⟩, h7, born, hm, hg⟩, hs⟩ := some1_open h1
  dsimp only at hl hb1 hb2 hlf h5 h6 h7 hm hg hs
  subst h7
  have hs2 : St w (ob b (.map (z.map (entM kr ρ)).toArray clock) :: ob r (.mapIter (some b) since seen.toArray clock) :: memA ρ (z.map fun p => (p.1.2, p.2.1)) :: F :: L') := hs
  obtain ⟨hob, _⟩ := hs2.obj
  obtain ⟨hor, _⟩ := (hs2.ent Ent.swap).obj
  have hf := find_stamp (kr := kr) hb1 hm
  have hbk : seen.toArray.back? = some born := by rw [List.back?_toArray, hg]
  simp only [execOp, hq _ _ hx, Instr.entry, Sem.run_bind, run_getMap hor trivial, run_getMap hob trivial, Result.andThen_ok, hbk, bne_self_eq_false, Bool.false_eq_true, if_false, hf]
  rfl
theorem SK.itAt {c : Code} {r b : Nat} {l left : List (κ × α)} {k : κ} {u : α} {h : ρ.V} (htk : Take (mitN kr ρ r b l left k u h) L L') (hk : SK P rd N (.code c :: ks) T (mitAt kr ρ r b l left :: L') Q) : SK P rd N (.code c :: ks) T L Q :=
  SK.shift (fun F w hst => (mitN_at ((hst.ent (Ent.cons htk.ent)).ent Ent.swap)).ent Ent.swap) hk
theorem SO.itAt {ops : List Oper} {r b : Nat} {l left : List (κ × α)} {k : κ} {u : α} {h : ρ.V} (htk : Take (mitN kr ρ r b l left k u h) L L') (hk : SO P rd N all ops T (mitAt kr ρ r b l left :: L') ks Q) : SO P rd N all ops T L ks Q :=
  SO.shift (fun F w hst => (mitN_at ((hst.ent (Ent.cons htk.ent)).ent Ent.swap)).ent Ent.swap) hk
theorem SK.itMap {c : Code} {r b : Nat} {l left : List (κ × α)} (htk : Take (mitAt kr ρ r b l left) L L') (hk : SK P rd N (.code c :: ks) T (mpAt kr ρ b l :: L') Q) : SK P rd N (.code c :: ks) T L Q :=
  SK.shift (fun F w hst => (mit_mp ((hst.ent (Ent.cons htk.ent)).ent Ent.swap)).ent Ent.swap) hk
theorem SO.itMap {ops : List Oper} {r b : Nat} {l left : List (κ × α)} (htk : Take (mitAt kr ρ r b l left) L L') (hk : SO P rd N all ops T (mpAt kr ρ b l :: L') ks Q) : SO P rd N all ops T L ks Q :=
  SO.shift (fun F w hst => (mit_mp ((hst.ent (Ent.cons htk.ent)).ent Ent.swap)).ent Ent.swap) hk
end
end Go.Sl

set_option linter.unusedVariables false
set_option linter.unusedSimpArgs false
namespace Go.Sl
section
variable {α : Type}
theorem mdel_filter : ∀ {l : List (Int × α)} {k : Int}, (keysM l).Nodup → mdel l k = l.filter fun p => !decide (p.1 = k)
  | [], _, _ => rfl
  | (k', v) :: l, k, h => by
    unfold keysM at h
    rw [List.map_cons, List.nodup_cons] at h
    simp only [mdel]
    by_cases hk : k' = k
    · subst hk
      rw [if_pos rfl, List.filter_cons, if_neg (by simp)]
      refine (List.filter_eq_self.2 fun p hp => ?_).symm
      have : p.1 ≠ k' := fun he => h.1 (List.mem_map.2 ⟨p, hp, he⟩)
      simp [this]
    · rw [if_neg hk, List.filter_cons, if_pos (by simp [hk]), mdel_filter h.2]
theorem mdel_keys {l : List (Int × α)} {k j : Int} (h : (keysM l).Nodup) : j ∈ keysM (mdel l k) ↔ j ∈ keysM l ∧ j ≠ k := by
  rw [mdel_filter h]
  unfold keysM
  simp only [List.mem_map, List.mem_filter]
  constructor
  · rintro ⟨p, ⟨h1, h2⟩, rfl⟩
    exact ⟨⟨p, h1, rfl⟩, by simpa using h2⟩
  · rintro ⟨⟨p, h1, rfl⟩, h2⟩
    exact ⟨p, ⟨h1, by simpa using h2⟩, rfl⟩
theorem mdel_lt {l : List (Int × α)} {k : Int} (h : k ∈ keysM l) : (mdel l k).length < l.length := by
  induction l with
  | nil => cases h
  | cons p l ih =>
    obtain ⟨k', v⟩ := p
    simp only [mdel]
    split
    · simp
    · rename_i hk
      have : k ∈ keysM l := by
        unfold keysM at h ⊢
        rw [List.map_cons] at h
        rcases List.mem_cons.1 h with h | h
        · exact absurd h.symm hk
        · exact h
      have := ih this
      simp; omega
theorem keys_del_perm : ∀ {l : List (Int × α)} {k : Int}, k ∈ keysM l → (k :: keysM (mdel l k)).Perm (keysM l)
  | [], _, h => by cases h
  | (k', v) :: l, k, h => by
    simp only [mdel]
    by_cases hk : k' = k
    · subst hk; rw [if_pos rfl]; exact List.Perm.refl _
    · rw [if_neg hk]
      have : k ∈ keysM l := by
        unfold keysM at h ⊢
        rw [List.map_cons] at h
        rcases List.mem_cons.1 h with h | h
        · exact absurd h.symm hk
        · exact h
      have ih := keys_del_perm this
      exact (List.Perm.swap k' k _).trans (ih.cons k')
structure DelI (g : Int → Bool) (l0 l left : List (Int × α)) : Prop where
  nd : (keysM l0).Nodup
  ndl : (keysM left).Nodup
  eq : l = l0.filter fun p => decide (p.1 ∈ keysM left) || !g p.1
theorem delI_zero {g : Int → Bool} {l0 : List (Int × α)} (h : (keysM l0).Nodup) : DelI g l0 l0 l0 := by
  refine ⟨h, h, (List.filter_eq_self.2 fun p hp => ?_).symm⟩
  have : p.1 ∈ keysM l0 := List.mem_map.2 ⟨p, hp, rfl⟩
  simp [this]
theorem DelI.ndn {g : Int → Bool} {l0 l left : List (Int × α)} (h : DelI g l0 l left) : (keysM l).Nodup := by
  rw [h.eq]
  exact h.nd.sublist ((List.filter_sublist).map _)
theorem delI_yes {g : Int → Bool} {l0 l left : List (Int × α)} {k : Int} (h : DelI g l0 l left) (hg : g k = true) : DelI g l0 (mdel l k) (mdel left k) := by
  refine ⟨h.nd, nodup_mdel h.ndl _, ?_⟩
  rw [mdel_filter h.ndn, h.eq, List.filter_filter]
  refine List.filter_congr fun p _ => ?_
  by_cases hk : p.1 = k
  · have h1 : ¬ p.1 ∈ keysM (mdel left k) := fun hm => ((mdel_keys h.ndl).1 hm).2 hk
    rw [decide_eq_false h1, decide_eq_true hk, hk, hg]; rfl
  · have h1 : (p.1 ∈ keysM (mdel left k)) ↔ (p.1 ∈ keysM left) := ⟨fun hm => ((mdel_keys h.ndl).1 hm).1, fun hm => (mdel_keys h.ndl).2 ⟨hm, hk⟩⟩
    rw [decide_eq_false hk]
    simp [h1]
theorem delI_no {g : Int → Bool} {l0 l left : List (Int × α)} {k : Int} (h : DelI g l0 l left) (hg : g k = false) : DelI g l0 l (mdel left k) := by
  refine ⟨h.nd, nodup_mdel h.ndl _, ?_⟩
  conv => lhs; rw [h.eq]
  refine List.filter_congr fun p _ => ?_
  by_cases hk : p.1 = k
  · rw [hk, hg]; simp
  · have h1 : (p.1 ∈ keysM (mdel left k)) ↔ (p.1 ∈ keysM left) := ⟨fun hm => ((mdel_keys h.ndl).1 hm).1, fun hm => (mdel_keys h.ndl).2 ⟨hm, hk⟩⟩
    simp [h1]
theorem delI_end {g : Int → Bool} {l0 l : List (Int × α)} (h : DelI g l0 l []) : l = l0.filter fun p => !g p.1 := by
  rw [h.eq]
  refine List.filter_congr fun p _ => ?_
  simp [keysM]
end
section
variable {κ α : Type} [DecidableEq κ] {kr : KR κ} {ρ : Rep α}
theorem mp_nodup {b : Nat} {l : List (κ × α)} {L L' : List HP} (h : Take (mpAt kr ρ b l) L L') (r : Ro) (o : Own) (hs : seps L r o) : (keysM l).Nodup := by
  obtain ⟨x, y, d, le, ⟨z, clock, h1, h2, _⟩, hL⟩ := h.ent r o hs
  exact h2
end
end Go.Sl

set_option linter.unusedVariables false
set_option linter.unusedSimpArgs false
namespace Go.Sl
theorem lineT_parts {l : Tx} {ln : Ln} (h : lineT l = some ln) : (∃ l1 w t n r, cut1 32 l = some ([112], l1) ∧ cut1 32 l1 = some (w, t) ∧ numT 2147483647 w = some n ∧ recT t = some r ∧ ln = .put n r) ∨
    (∃ k w n, cut1 32 l = some ([k], w) ∧ hasC 32 w = false ∧ numT 2147483647 w = some n ∧ ((k = 115 ∧ ln = .sealing n) ∨ (k = 99 ∧ ln = .cut n) ∨ (k = 116 ∧ ln = .trim n))) := by
  unfold lineT at h
  simp only [Option.bind_eq_bind, Option.bind_eq_some_iff] at h
  obtain ⟨⟨k, l1⟩, h1, h⟩ := h
  by_cases hk : k = [112]
  · subst hk
    left
    rw [if_pos rfl] at h
    simp only [Option.bind_eq_some_iff] at h
    obtain ⟨⟨w, t⟩, h2, n, h3, r, h4, h5⟩ := h
    exact ⟨l1, w, t, n, r, h1, h2, h3, h4, (Option.some.inj h5).symm⟩
  · right
    simp only [hk, if_false] at h
    by_cases hc : hasC 32 l1 = true
    · simp only [hc, if_true] at h; cases h
    · have hc0 : hasC 32 l1 = false := by simpa using hc
      simp only [hc0, Bool.false_eq_true, if_false, Option.bind_eq_some_iff] at h
      obtain ⟨n, h2, h3⟩ := h
      by_cases k1 : k = [115]
      · subst k1; rw [if_pos rfl] at h3
        exact ⟨115, l1, n, h1, hc0, h2, .inl ⟨rfl, (Option.some.inj h3).symm⟩⟩
      · rw [if_neg k1] at h3
        by_cases k2 : k = [99]
        · subst k2; rw [if_pos rfl] at h3
          exact ⟨99, l1, n, h1, hc0, h2, .inr (.inl ⟨rfl, (Option.some.inj h3).symm⟩)⟩
        · rw [if_neg k2] at h3
          by_cases k3 : k = [116]
          · subst k3; rw [if_pos rfl] at h3
            exact ⟨116, l1, n, h1, hc0, h2, .inr (.inr ⟨rfl, (Option.some.inj h3).symm⟩)⟩
          · rw [if_neg k3] at h3; cases h3
theorem none_of_any {l : List (Int × Slt)} {n : Int} (h : (l.any fun p => decide (p.1 = n)) = false) : mget l n = none := by
  refine mget_none fun p hp he => ?_
  have := List.any_eq_false.1 h p hp
  exact this (decide_eq_true he)
theorem take_put_parts {s s' : Sg} {i n : Nat} {l : Tx} {r : Rc} (hl : lineT l = some (.put n r)) (h : s.take i l = some s') : mget s.m (n : Int) = none ∧ ¬ (n : Int) < (s.trim : Int) ∧ s' = { s with m := mput s.m (n : Int) (r, i) } := by
  unfold Sg.take at h
  rw [hl] at h
  simp only at h
  split at h
  · cases h
  · rename_i hc
    simp only [Bool.or_eq_true, decide_eq_true_eq, not_or, Bool.not_eq_true] at hc
    have hn := none_of_any hc.1
    refine ⟨hn, by omega, ?_⟩
    rw [mput_end hn]
    exact (Option.some.inj h).symm
theorem take_seal_parts {s s' : Sg} {i n : Nat} {l : Tx} (hl : lineT l = some (.sealing n)) (h : s.take i l = some s') : ¬ (n : Int) ≤ (s.sealed : Int) ∧ s' = { s with sealed := n } := by
  unfold Sg.take at h
  rw [hl] at h
  simp only at h
  split at h
  · cases h
  · exact ⟨by omega, (Option.some.inj h).symm⟩
theorem take_cut_parts {s s' : Sg} {i n : Nat} {l : Tx} (hl : lineT l = some (.cut n)) (h : s.take i l = some s') : s' = s.above n := by
  unfold Sg.take at h
  rw [hl] at h
  exact (Option.some.inj h).symm
theorem take_trim_parts {s s' : Sg} {i n : Nat} {l : Tx} (hl : lineT l = some (.trim n)) (h : s.take i l = some s') : ¬ (n : Int) ≤ (s.trim : Int) ∧ s' = s.below n := by
  unfold Sg.take at h
  rw [hl] at h
  simp only at h
  split at h
  · cases h
  · exact ⟨by omega, (Option.some.inj h).symm⟩
theorem take_line {s s' : Sg} {i : Nat} {l : Tx} (h : s.take i l = some s') : ∃ ln, lineT l = some ln := by
  unfold Sg.take at h
  cases hl : lineT l with
  | none => rw [hl] at h; cases h
  | some ln => exact ⟨ln, rfl⟩
def stAt (d : Dk) (i : Nat) : Sg := ((⟨[], 0, 0⟩ : Sg).plays 0 (txs (d.lines.take i))).getD ⟨[], 0, 0⟩
theorem stAt_end {s : Sg} {d : Dk} (h : Ply s d) : stAt d d.lines.length = s := by
  unfold stAt
  rw [List.take_length, h.pl]; rfl
theorem stAt_step {s : Sg} {d : Dk} (h : Ply s d) {i : Nat} {t : ByteArray} (ht : d.lines[i]? = some t) : (stAt d i).take i t.data.toList = some (stAt d (i + 1)) := by
  have hi := (List.getElem?_eq_some_iff.1 ht).1
  have e : txs (d.lines.take (i + 1)) = txs (d.lines.take i) ++ [t.data.toList] := by
    rw [List.take_add_one, ht, txs_app]; rfl
  have hsplit : txs d.lines = txs (d.lines.take (i + 1)) ++ txs (d.lines.drop (i + 1)) := by rw [← txs_app, List.take_append_drop]
  obtain ⟨y, hy⟩ := plays_front (l := txs (d.lines.take (i + 1))) (m := txs (d.lines.drop (i + 1))) (by rw [← hsplit]; exact h.pl)
  have hy2 := hy
  rw [e, plays_app] at hy
  cases hp : (⟨[], 0, 0⟩ : Sg).plays 0 (txs (d.lines.take i)) with
  | none => rw [hp] at hy; cases hy
  | some x =>
    rw [hp] at hy
    simp only [Option.bind_some, Sg.plays, txs_len, List.length_take, Nat.zero_add] at hy
    rw [Nat.min_eq_left (by omega)] at hy
    cases hx : x.take i t.data.toList with
    | none => rw [hx] at hy; cases hy
    | some z =>
      rw [hx] at hy
      have : z = y := Option.some.inj hy
      subst this
      unfold stAt
      rw [hp, hy2]
      exact hx
end Go.Sl

set_option linter.unusedVariables false
namespace Go.Sl
theorem ent_appL : ∀ (A : List HP) {B C : List HP}, Ent B C → Ent (A ++ B) (A ++ C)
  | [], _, _, h => h
  | X :: A, _, _, h => Ent.cons (ent_appL A h)
theorem Iter.bigs {P : Program} {f : FuncId} {caps : List Value} {α : Type} {e : Enc α} {xs : List α} {pers K0 Ke : List HP} {Kb : Nat → List HP} (it : Iter P f caps e xs pers K0 Kb Ke) : Iter P f caps e xs pers [big K0] (fun i => [big (Kb i)]) [big Ke] := by
  intro l J Jx hy
  have s := it l J Jx hy
  refine ⟨s.entry, s.hpers, fun F w hst => (s.calls F w (hst.ent (Ent.cons (ent_appL pers (Ent.cons ?_))))).mono ?_⟩
  · have := ent_big (A := K0) (L := [])
    rwa [List.append_nil] at this
  · rintro e w' ⟨x, hx, rfl, hst'⟩
    refine ⟨x, hx, rfl, hst'.ent (Ent.cons ?_)⟩
    cases x with
    | none =>
      have := big_ent (A := Ke) (L := [])
      rw [List.append_nil] at this
      exact Ent.cons this
    | some i =>
      have := big_ent (A := Kb i) (L := [])
      rw [List.append_nil] at this
      exact Ent.cons this
theorem ent_bigOf {A L L' : List HP} (h : Takes A L L') : Ent L (big A :: L') := h.ent.trans big_ent
end Go.Sl

set_option linter.unusedVariables false
set_option linter.unusedSectionVars false
set_option linter.unusedSimpArgs false
namespace Go.Sl
def pairV (k : IntKind) (p : Int × Int) : Value := .agg #[.int k p.1, .int k p.2]
structure PairT (P : Program) (k : IntKind) (t : Nat) : Prop where
  und : ∃ F x y, P.underlying t = some (.struct F) ∧ F.toList.map (fun f => (f.offset, f.type)) = [(0, x), (1, y)] ∧ P.underlying x = some (.int k) ∧ P.underlying y = some (.int k)
  eq : ∀ (a b : Int × Int) (w : World), (Op.equal t (pairV k a) (pairV k b)).run P w = .ok (decide (a = b)) w
theorem run_isAgg_int {P : Program} {t : Nat} {k : IntKind} (h : P.underlying t = some (.int k)) (w : World) : (isAgg t).run P w = .ok false w := by
  simp only [isAgg]
  rw [Sem.run_bind, run_und' h]; rfl
theorem pair_of {P : Program} [tb : Tab P] {k : IntKind} {t x y n1 n2 a1 a2 c1 c2 : Nat} {z z1 z2 : Value} (ht : tget tb.tab t = some ⟨.st [(0, x), (1, y)], n1, n2, z⟩) (hx : tget tb.tab x = some ⟨.int k, a1, a2, z1⟩) (hy : tget tb.tab y = some ⟨.int k, c1, c2, z2⟩) (hok : eqOk P t = true) : PairT P k t := by
  have hk := (tab_ok ht).k
  simp only [TK.ok] at hk
  obtain ⟨G, hG, hm⟩ := hk
  have hkx := (tab_ok hx).k
  have hky := (tab_ok hy).k
  simp only [TK.ok] at hkx hky
  refine ⟨⟨G, x, y, hG, hm, hkx, hky⟩, fun a b w => ?_⟩
  unfold eqOk at hok
  rw [hG] at hok
  simp only [Bool.and_eq_true, Bool.not_eq_true'] at hok
  obtain ⟨⟨h1, h2⟩, h3⟩ := hok
  have hF : P.fieldsOf t = G := by unfold Program.fieldsOf; rw [hG]
  have he : eqFs tb.tab [(0, x), (1, y)] [.int k a.1, .int k a.2] [.int k b.1, .int k b.2] = some (decide (a = b)) := by
    have e : (decide (a.1 = b.1) && (decide (a.2 = b.2) && true)) = decide (a = b) := by
      rw [Bool.and_true, ← Bool.decide_and]
      apply decide_eq_decide.2
      exact Prod.ext_iff.symm
    simp only [eqFs, List.getElem?_cons_zero, List.getElem?_cons_succ, hx, hy, eq1, intsOk, decide_true, cond_true]
    rw [e]
  unfold Op.equal pairV
  rw [show Op.maxDepth = 9998 + 1 + 1 from rfl, run_equalIn_struct w _ t _ _ (by rw [hF]; exact hG) h2, hF]
  exact eqFs_ok _ h1 (by rw [hm]; exact he) w
theorem ask_none {P : Program} {k : IntKind} {t : Nat} (h : PairT P k t) {a : Int × Int} (w : World) : ∀ {es : List MapEntry} {i : Nat}, (∀ e ∈ es, ∃ j, e.key = pairV k j ∧ j ≠ a) → (Instr.findAsking t (pairV k a) es i).run P w = .ok none w
  | [], i, _ => rfl
  | e :: es, i, hes => by
    obtain ⟨j, e1, e2⟩ := hes e (by simp)
    unfold Instr.findAsking
    rw [Sem.run_bind, e1, h.eq, decide_eq_false (fun he => e2 he.symm)]
    simp only [Result.andThen_ok, Bool.false_eq_true, if_false]
    exact ask_none h w fun q hq => hes q (by simp [hq])
theorem ask_some {P : Program} {k : IntKind} {t : Nat} (h : PairT P k t) {a : Int × Int} {p : MapEntry} {z2 : List MapEntry} (hp : p.key = pairV k a) (w : World) : ∀ {es : List MapEntry} {i : Nat}, (∀ e ∈ es, ∃ j, e.key = pairV k j ∧ j ≠ a) → (Instr.findAsking t (pairV k a) (es ++ p :: z2) i).run P w = .ok (some (i + es.length, p.val)) w
  | [], i, _ => by
    simp only [List.nil_append]
    unfold Instr.findAsking
    rw [Sem.run_bind, hp, h.eq, decide_eq_true rfl]
    rfl
  | e :: es, i, hes => by
    obtain ⟨j, e1, e2⟩ := hes e (by simp)
    simp only [List.cons_append]
    unfold Instr.findAsking
    rw [Sem.run_bind, e1, h.eq, decide_eq_false (fun he => e2 he.symm)]
    simp only [Result.andThen_ok, Bool.false_eq_true, if_false]
    rw [ask_some h hp w fun q hq => hes q (by simp [hq])]
    rw [show i + 1 + es.length = i + (e :: es).length by simp; omega]
theorem find_ask {P : Program} {k : IntKind} {t : Nat} (h : PairT P k t) {a : Int × Int} {es : List MapEntry} (w : World) (hne : ∀ e, es.head? = some e → ∃ j, e.key = pairV k j) : (Instr.findKey t (pairV k a) es).run P w = (Instr.findAsking t (pairV k a) es 0).run P w := by
  obtain ⟨F, x, y, h1, _⟩ := h.und
  unfold Instr.findKey
  rw [Sem.run_bind, run_und' h1]
  cases es with
  | nil => rfl
  | cons e es =>
    obtain ⟨j, e1⟩ := hne e rfl
    have : Instr.findNow (.struct F) (pairV k a) (e :: es) 0 = none := by
      unfold Instr.findNow
      rw [e1]; rfl
    simp only [Result.andThen_ok, this]
def KP (P0 : Program) (k : IntKind) (t0 : Nat) (h : PairT P0 k t0) : KR (Int × Int) where
  tk := fun P t _ => P = P0 ∧ t = t0
  v := pairV k
  bits := fun a => by simp [pairV, Instr.sameBits]
  chk := fun P t ti _ ht e a w => by
    obtain ⟨rfl, rfl⟩ := ht
    obtain ⟨F, x, y, h1, h2, h3, h4⟩ := h.und
    have hF : ∃ f1 f2, F = #[f1, f2] ∧ f1.offset = 0 ∧ f1.type = x ∧ f2.offset = 1 ∧ f2.type = y := by
      match F, h2 with
      | ⟨[f1, f2]⟩, h2 =>
        simp at h2
        exact ⟨f1, f2, rfl, h2.1.1, h2.1.2, h2.2.1, h2.2.2⟩
      | ⟨[]⟩, h2 => simp at h2
      | ⟨[f]⟩, h2 => simp at h2
      | ⟨f :: g :: i :: l⟩, h2 => simp at h2
    obtain ⟨f1, f2, rfl, o1, t1, o2, t2⟩ := hF
    have c1 : ∀ (n : Nat) (v : Value) (ty : Nat), P.underlying ty = some (.int k) → (Instr.checkKey e (n + 1) ty v).run P w = .ok () w := fun n v ty hty => by
      unfold Instr.checkKey
      simp [Sem.run_bind, run_und' hty]
    have p1 : (part f1.type #[.int k a.1, .int k a.2] f1.offset).run P w = .ok (.int k a.1) w := by
      simp only [part, Sem.run_bind, run_isAgg_int (show P.underlying f1.type = some (.int k) by rw [t1]; exact h3), Result.andThen_ok, o1]
      rfl
    have p2 : (part f2.type #[.int k a.1, .int k a.2] f2.offset).run P w = .ok (.int k a.2) w := by
      simp only [part, Sem.run_bind, run_isAgg_int (show P.underlying f2.type = some (.int k) by rw [t2]; exact h4), Result.andThen_ok, o2]
      rfl
    unfold Instr.checkKey pairV
    rw [Sem.run_bind, run_und' h1]
    simp only [Result.andThen_ok]
    have cc1 := fun v => c1 9998 v f1.type (by rw [t1]; exact h3)
    have cc2 := fun v => c1 9998 v f2.type (by rw [t2]; exact h4)
    have e1 : (forIn [f1, f2] PUnit.unit (fun f (_ : PUnit) => do
        if f.name ≠ "_" then Instr.checkKey e 9999 f.type (← part f.type #[.int k a.1, .int k a.2] f.offset)
        pure (ForInStep.yield PUnit.unit)) : Sem PUnit).run P w = .ok PUnit.unit w := by
      by_cases n1 : f1.name = "_" <;> by_cases n2 : f2.name = "_" <;> simp [n1, n2, Sem.run_bind, p1, p2, cc1, cc2]
    first
      | (by_cases n1 : f1.name = "_" <;> by_cases n2 : f2.name = "_" <;> simp [n1, n2, Sem.run_bind, p1, p2, cc1, cc2] <;> done)
      | (simp only [← Array.forIn_toList]; exact e1)
      | (simp; done)
  find0 := fun P t ti _ ht a es w hes => by
    obtain ⟨rfl, rfl⟩ := ht
    rw [find_ask h w fun e he => let ⟨j, e1, _⟩ := hes e (List.mem_of_mem_head? he); ⟨j, e1⟩]
    exact ask_none h w hes
  find1 := fun P t ti _ ht a es p es2 w hes hp => by
    obtain ⟨rfl, rfl⟩ := ht
    rw [find_ask h w fun e he => ?_]
    · rw [ask_some h hp w hes, Nat.zero_add]
    · cases es with
      | nil =>
        have : p = e := by simpa using he
        subst this
        exact ⟨a, hp⟩
      | cons q es =>
        have : q = e := by simpa using he
        subst this
        obtain ⟨j, e1, _⟩ := hes q (by simp)
        exact ⟨j, e1⟩
end Go.Sl

namespace Go.Sl
theorem Does.mapX {P : Program} {f : FuncId} {args : List Value} {pers own : List HP} {X Y : Type} {ok : X → Prop} {ret : X → Value} {out : X → List HP} {ok' : Y → Prop} {ret' : Y → Value} {out' : Y → List HP}
    (s : Does P f args pers own X ok ret out) (g : X → Y) (h1 : ∀ x, ok x → ok' (g x)) (h2 : ∀ x, ret' (g x) = ret x) (h3 : ∀ x, out' (g x) = out x) : Does P f args pers own Y ok' ret' out' :=
  ⟨s.entry, s.hpers, fun F w hst => (s.calls F w hst).mono (by
    rintro e w' ⟨x, hx, rfl, hst'⟩
    exact ⟨g x, h1 x hx, by rw [h2], by rw [h3]; exact hst'⟩)⟩
end Go.Sl

set_option linter.unusedVariables false
namespace Go.Sl
section
variable {P : Program} [tb : Tab P] {rd : Option Nat} {N : Nat} {T : TT} {L B E : List HP} {Q : Post} {ks : List K}
variable {all : Array Oper} {rest : XO} {d : Option Tmp} {ty : TypeId} {pos : String} {aft : Array Edge}
theorem SX.indexV {x y : Operand} {t e : Nat} {sz n1 n2 b1 : Nat} {z z2 : Value} {ke : TK} {A : Option Addr} {n c i : Nat} {k : IntKind} {j : Int} (hx : evO T x = some (.slice A n c)) (hy : evO T y = some (.int k j))
    (ht : tget tb.tab t = some ⟨.sl e, n1, n2, z⟩) (hte : tget tb.tab e = some ⟨ke, sz, b1, z2⟩) (hj : Int.ofNat i = j) (hd : dstOk N d = true) (hA : A.isSome = true) (hi : i < n)
    (kk : SX P rd N all rest (putD d (.pointer (some (eadr A i sz 0))) T) B E ks Q) : SX P rd N all (.item 0 ⟨d, .indexAddr t x y, ty, pos, aft, none⟩ rest) T B E ks Q := by
  refine SX.reads (R := fun v L' => v = .pointer (some (eadr A i sz 0)) ∧ L' = B) ?_ rfl hd (by rintro _ _ ⟨rfl, rfl⟩; exact kk)
  intro q hq rr oo F hs
  cases A with
  | none => cases hA
  | some a =>
    refine ⟨_, B, ⟨rfl, rfl⟩, hs, fun w sat => ?_⟩
    have hj' : j = (i : Int) := hj.symm
    subst hj'
    simp only [execOp, hq _ _ hx, hq _ _ hy, Sem.run_bind, run_indexAt ht hte hi, Result.andThen_ok]
    rfl
end
end Go.Sl

set_option linter.unusedVariables false
set_option linter.unusedSectionVars false
set_option linter.unusedSimpArgs false
namespace Go.Sl
section
variable {P : Program} [tb : Tab P] {rd : Option Nat} {N : Nat} {T : TT} {B E E' L M : List HP} {Q : Post} {ks : List K} {D0 : World → Prop}
variable {all : Array Oper} {rest : XO}
theorem SZ.guardY {k : Nat} {j : Nat} {want : Bool} {t : Nat} {dst : Option Tmp} {op : Op} {ty : TypeId} {pos : String} {aft : Array Edge}
    (hj : (all[j]?).bind (·.dst) = some t) (ht : T.get t = some (.bool want))
    (yes : SZ P rd N D0 all (.item k ⟨dst, op, ty, pos, aft, none⟩ rest) T B E ks Q) : SZ P rd N D0 all (.item k ⟨dst, op, ty, pos, aft, some (j, want)⟩ rest) T B E ks Q := by
  intro G r oB a w hs ok hD
  have hy : yielded all a.tmps j = some want := by
    simp only [yielded, hj, Option.bind_some, ok.get _ _ ht]
  have hw : Region.wanted (⟨dst, op, ty, pos, aft, some (j, want)⟩ : Oper) (yielded all a.tmps) = true := by simp [Region.wanted, hy]
  have h2 := yes G r oB a w hs ok hD
  simp only [wpX, hw, if_true]
  simp only [wpX, Region.wanted, if_true] at h2
  exact h2
theorem SZ.guardN {k : Nat} {j : Nat} {want : Bool} {t : Nat} {dst : Option Tmp} {op : Op} {ty : TypeId} {pos : String} {aft : Array Edge}
    (hj : (all[j]?).bind (·.dst) = some t) (ht : T.get t = some (.bool (!want))) (hd : dstOk N dst = true)
    (no : SZ P rd N D0 all rest (putD dst undef T) B E ks Q) : SZ P rd N D0 all (.item k ⟨dst, op, ty, pos, aft, some (j, want)⟩ rest) T B E ks Q := by
  intro G r oB a w hs ok hD
  have hy : yielded all a.tmps j = some (!want) := by
    simp only [yielded, hj, Option.bind_some, ok.get _ _ ht]
  have hw : Region.wanted (⟨dst, op, ty, pos, aft, some (j, want)⟩ : Oper) (yielded all a.tmps) = false := by simp [Region.wanted, hy]
  simp only [wpX, hw]
  exact no G r oB _ w hs (ok.putD hd undef) hD
theorem SZ.guardU {k : Nat} {j : Nat} {want : Bool} {t : Nat} {v : Value} {dst : Option Tmp} {op : Op} {ty : TypeId} {pos : String} {aft : Array Edge}
    (hj : (all[j]?).bind (·.dst) = some t) (ht : T.get t = some v) (hv : noBool v = true) (hd : dstOk N dst = true)
    (no : SZ P rd N D0 all rest (putD dst undef T) B E ks Q) : SZ P rd N D0 all (.item k ⟨dst, op, ty, pos, aft, some (j, want)⟩ rest) T B E ks Q := by
  intro G r oB a w hs ok hD
  have hy := yield_none hj (ok.get _ _ ht) hv
  have hw : Region.wanted (⟨dst, op, ty, pos, aft, some (j, want)⟩ : Oper) (yielded all a.tmps) = false := by simp [Region.wanted, hy]
  simp only [wpX, hw]
  exact no G r oB _ w hs (ok.putD hd undef) hD
theorem SZ.guardYP {k : Nat} {j : Nat} {want : Bool} {t : Nat} {β : Bool} {dst : Option Tmp} {op : Op} {ty : TypeId} {pos : String} {aft : Array Edge}
    (hj : (all[j]?).bind (·.dst) = some t) (ht : T.get t = some (.bool β)) (hb : β = want)
    (yes : SZ P rd N D0 all (.item k ⟨dst, op, ty, pos, aft, none⟩ rest) ((t, .bool want) :: T) B E ks Q) : SZ P rd N D0 all (.item k ⟨dst, op, ty, pos, aft, some (j, want)⟩ rest) T B E ks Q := by
  subst hb
  exact fun G r oB a w hs ok hD => (SZ.guardY (T := (t, .bool β) :: T) hj (by rw [TT.get_cons, if_pos rfl]) yes) G r oB a w hs (ok.know ht) hD
theorem SZ.guardNP {k : Nat} {j : Nat} {want : Bool} {t : Nat} {β : Bool} {dst : Option Tmp} {op : Op} {ty : TypeId} {pos : String} {aft : Array Edge}
    (hj : (all[j]?).bind (·.dst) = some t) (ht : T.get t = some (.bool β)) (hd : dstOk N dst = true) (hb : β = !want)
    (no : SZ P rd N D0 all rest (putD dst undef ((t, .bool (!want)) :: T)) B E ks Q) : SZ P rd N D0 all (.item k ⟨dst, op, ty, pos, aft, some (j, want)⟩ rest) T B E ks Q := by
  subst hb
  exact fun G r oB a w hs ok hD => (SZ.guardN (T := (t, .bool (!want)) :: T) hj (by rw [TT.get_cons, if_pos rfl]) hd no) G r oB a w hs (ok.know ht) hD
end
end Go.Sl

set_option linter.unusedVariables false
set_option linter.unusedSimpArgs false
namespace Go.Sl
def siteN (l : List Nat) (p : Nat) : Nat := l.getD p 0 % 4
def cntS (l : List Nat) (s : Nat) : Nat → Nat
  | 0 => 0
  | p + 1 => cntS l s p + (if siteN l p = s then 1 else 0)
def keyN (l : List Nat) (p : Nat) : ByteArray := ([⟨#[97]⟩, ⟨#[98]⟩, ⟨#[99]⟩] : List ByteArray).getD (l.getD p 0 / 4 % 3) bE
def lgR (l : List Nat) (p : Nat) : Rc := ⟨(siteN l p : Int), (cntS l (siteN l p) (p + 1) : Int), [], keyN l p, txB (Lib.decDigits p)⟩
theorem cntS_le (l : List Nat) (s : Nat) : ∀ p, cntS l s p ≤ p
  | 0 => Nat.le_refl _
  | p + 1 => by
    have := cntS_le l s p
    unfold cntS
    split <;> omega
theorem cntS_mono {l : List Nat} {s : Nat} {a b : Nat} (h : a ≤ b) : cntS l s a ≤ cntS l s b := by
  induction b with
  | zero => rw [Nat.le_zero.1 h]; exact Nat.le_refl _
  | succ b ih =>
    rcases Nat.lt_or_ge b a with h1 | h1
    · have : a = b + 1 := by omega
      subst this; exact Nat.le_refl _
    · have := ih h1
      show _ ≤ cntS l s b + _
      omega
theorem siteN_lt (l : List Nat) (p : Nat) : siteN l p < 4 := Nat.mod_lt _ (by decide)
theorem dig_bd : ∀ (n : Nat), ∀ b ∈ Lib.decDigits n, 48 ≤ b.toNat ∧ b.toNat ≤ 57 := by
  intro n
  induction n using Nat.strongRecOn with
  | _ n ih =>
    intro b hb
    rw [Lib.decDigits] at hb
    split at hb
    · obtain rfl := List.mem_singleton.1 hb
      rw [UInt8.toNat_ofNat']
      omega
    · rename_i hn
      rcases List.mem_append.1 hb with hb | hb
      · exact ih (n / 10) (by omega) b hb
      · obtain rfl := List.mem_singleton.1 hb
        rw [UInt8.toNat_ofNat']
        omega
theorem lgR_ok (l : List Nat) {p : Nat} (hp : p < 1000) : checkR (lgR l p) 8 = 0 := by
  have hs := siteN_lt l p
  have hc := cntS_le l (siteN l p) (p + 1)
  have h1 : 1 ≤ cntS l (siteN l p) (p + 1) := by unfold cntS; rw [if_pos rfl]; omega
  have hd := dec_len 2 p (by omega)
  have hk : keyN l p = ⟨#[97]⟩ ∨ keyN l p = ⟨#[98]⟩ ∨ keyN l p = ⟨#[99]⟩ := by
    unfold keyN
    have : l.getD p 0 / 4 % 3 < 3 := Nat.mod_lt _ (by decide)
    generalize l.getD p 0 / 4 % 3 = k at *
    match k, this with
    | 0, _ => exact .inl rfl
    | 1, _ => exact .inr (.inl rfl)
    | 2, _ => exact .inr (.inr rfl)
  refine rok_to ⟨?_, ?_, ?_, ?_, ?_, ?_, ?_, ?_, ?_⟩
  · show (0 : Int) ≤ (siteN l p : Int) ∧ (siteN l p : Int) < 8
    omega
  · show (1 : Int) ≤ (cntS l (siteN l p) (p + 1) : Int) ∧ (cntS l (siteN l p) (p + 1) : Int) ≤ 1048576
    omega
  · exact Nat.zero_le _
  · intro x hx; cases hx
  · show getI [] _ < (cntS l (siteN l p) (p + 1) : Int)
    have : getI [] (lgR l p).site = 0 := by unfold getI; split <;> simp
    rw [this]; omega
  · show 1 ≤ (keyN l p).size ∧ (keyN l p).size ≤ 8
    rcases hk with e | e | e <;> rw [e] <;> decide
  · show nameOk (keyN l p) = true
    rcases hk with e | e | e <;> rw [e] <;> decide
  · show valOk (txB (Lib.decDigits p)) = true
    unfold valOk bytesI
    rw [List.all_map, List.all_eq_true]
    intro b hb
    have := dig_bd p b hb
    simp; omega
  · show (txB (Lib.decDigits p)).size ≤ 16
    rw [size_txB]; omega
theorem lgR_sm (l : List Nat) {p : Nat} (hp : p < 1000) : SmR (lgR l p) := ⟨lgR_ok l hp, rfl⟩
theorem lgR_site (l : List Nat) (p : Nat) : 0 ≤ (lgR l p).site ∧ (lgR l p).site ≤ 63 := by
  have := siteN_lt l p
  show (0 : Int) ≤ (siteN l p : Int) ∧ (siteN l p : Int) ≤ 63
  omega
def seqL (l : List Nat) (i : Nat) : List Int := (List.range 8).map fun s => (cntS l s i : Int)
theorem seqL_at (l : List Nat) (i s : Nat) (hs : s < 8) : (seqL l i)[s]? = some (cntS l s i : Int) := by
  unfold seqL
  rw [List.getElem?_map, List.getElem?_range hs]
  rfl
theorem seqL_set (l : List Nat) (i : Nat) : (seqL l i).set (siteN l i) ((cntS l (siteN l i) i : Int) + 1) = seqL l (i + 1) := by
  have h4 := siteN_lt l i
  apply List.ext_getElem?
  intro s
  rcases Nat.lt_or_ge s 8 with hs | hs
  · rw [seqL_at l (i + 1) s hs]
    by_cases h : siteN l i = s
    · subst h
      rw [List.getElem?_set_self (by unfold seqL; simp; omega)]
      congr 1
      simp only [cntS, if_true]; omega
    · rw [List.getElem?_set_ne h, seqL_at l i s hs]
      congr 2
      simp only [cntS, if_neg h]; omega
  · rw [List.getElem?_eq_none (by unfold seqL; simp; omega), List.getElem?_eq_none (by unfold seqL; simp; omega)]
structure LogsI (K : Nat) (l : List Nat) (c u : Nat) (g : Lg) (d : DLg) : Prop where
  li : LI 50000 c (lgR l) g
  m : g.m = [(0, (K : Int))]
  trim : g.trim = 0
  gone : g.gone = []
  next : g.next = c
  down : g.down = false
  own : g.own = ⟨50000, [], 0⟩
  la : ∀ p, p < c → g.lasts p = decide (p < u)
  di : DI 50000 K c (fun _ => u) (lgR l) d
  ub : u ≤ c
  hi : ∀ j z, 4 ≤ j → g.segs[j]? = some z → z.d.lasts = z.d.lines.length
  sy : u = c → g.synced
theorem LPutR.lasts_old {room : Int} {n : Nat} {R : Nat → Rc} {g g' : Lg} {r : Rc} (q : LPutR g r g') (h : LI room n R g) (hr : R g.next = r) (hsm : SmR r) (hroom : (128 * n + 128 : Int) ≤ room) (hn : n < 7000) {p : Nat} (hp : p ≠ g.next) : g'.lasts p = g.lasts p := by
  obtain ⟨sx, pl, hx, rfl⟩ := q
  obtain ⟨h1, h2, h3, h4⟩ := li_put h hr hsm hroom hn hx
  have hk := (List.getElem?_eq_some_iff.1 hx).1
  have hb := h.bd
  have hm := List.mem_of_getElem? hx
  have hno : mget sx.s.m (g.next : Int) = none := by
    have := h.mg _ sx hx g.next
    rw [if_neg (by omega)] at this
    exact Option.map_eq_none_iff.1 this
  have hl := lineP_le (n := g.next) hsm.1 (by omega)
  have hsl := h.sl sx hm
  have hrm := h.rm sx hm
  have hml := h.ml
  have hlp := h.m.len.1
  have e := put_eq (s := sx.s) (d := sx.d) (ep := epochM g.m g.next) (pos := (g.next : Int)) (r := r) ⟨by omega, by rw [h.epoch]; omega, by omega, by rw [h.epoch]; omega⟩ (by rw [h.epoch]; omega) (by omega) hno hsm.1
    (by rw [Int.toNat_natCast]; exact lineP_nlR hsm.1 _) (by rw [Int.toNat_natCast, hrm.1]; omega)
  rw [e]
  unfold Lg.lasts Sg.lastsAt
  simp only [Lg.putG]
  by_cases hj : stripeM g.m g.next = stripeM g.m p
  · rw [← hj, List.getElem?_set_self hk, hx]
    simp only [SB.upd]
    rw [mget_mput, if_neg (by omega)]
    rfl
  · rw [List.getElem?_set_ne hj]
theorem LSync.lasts {g g' : Lg} {k : Nat} (q : LSync g k g') {p : Nat} (h : g.lasts p = true) (hd : ∀ x ∈ g.segs, x.d.Ok) : g'.lasts p = true := by
  obtain ⟨sx, hx, rfl⟩ := q
  have hk := (List.getElem?_eq_some_iff.1 hx).1
  have hlo := (hd sx (List.mem_of_getElem? hx)).lasts
  unfold Lg.lasts Sg.lastsAt at h ⊢
  simp only [Lg.sync]
  by_cases hj : k = stripeM g.m p
  · subst hj
    rw [hx] at h
    rw [List.getElem?_set_self hk]
    simp only [SB.upd, Dk.sync] at h ⊢
    revert h
    cases mget sx.s.m (p : Int) with
    | none => intro h; exact h
    | some y => intro h; have := of_decide_eq_true h; exact decide_eq_true (by omega)
  · rw [List.getElem?_set_ne hj]; exact h
end Go.Sl

set_option linter.unusedVariables false
set_option linter.unusedSimpArgs false
namespace Go.Sl
structure LogsJ (K : Nat) (l : List Nat) (c u j : Nat) (g : Lg) (d : DLg) : Prop where
  li : LI 50000 c (lgR l) g
  m : g.m = [(0, (K : Int))]
  trim : g.trim = 0
  gone : g.gone = []
  next : g.next = c
  down : g.down = false
  own : g.own = ⟨50000, [], 0⟩
  to : g.syncTo j
  hi : ∀ j z, 4 ≤ j → g.segs[j]? = some z → z.d.lasts = z.d.lines.length
  di : DI 50000 K c (fun k => if k < j then c else u) (lgR l) d
theorem LogsI.put {K c u : Nat} {l : List Nat} {g g' : Lg} {d d' : DLg} (h : LogsI K l c u g d) (hK : 1 ≤ K ∧ K ≤ 4) (hc : c < 300) (q : LPutR g (lgR l c) g') (e : DI 50000 K (c + 1) (fun _ => u) (lgR l) d') : LogsI K l (c + 1) u g' d' := by
  have hr : lgR l g.next = lgR l c := by rw [h.next]
  have hsm := lgR_sm l (p := c) (by omega)
  have hub := h.ub
  obtain ⟨h1, h2⟩ := q.li h.li hr hsm (by omega) (by omega)
  obtain ⟨r1, r2, r3, r4, r5⟩ := q.rest
  refine ⟨h1, r2.trans h.m, r3.trans h.trim, r4.trans h.gone, by rw [h2, h.next], r5.trans h.down, r1.trans h.own, fun p hp => ?_, e, by omega, ?_, fun hu => by omega⟩
  rotate_left
  · intro j z hj hz
    obtain ⟨sx, p, hx, rfl⟩ := q
    have e4 : stripeM g.m g.next = c % K := by
      rw [h.m, h.next, stripe_one (by omega)]; rfl
    have h4 : c % K < 4 := Nat.lt_of_lt_of_le (Nat.mod_lt _ (by omega)) hK.2
    rcases put_segs hx hz with ⟨e1, _⟩ | ⟨_, hz⟩
    · omega
    · exact h.hi j z hj hz
  by_cases hpc : p = c
  · subst hpc
    have := q.waits h.li hr hsm (by omega) (by omega)
    rw [h.next] at this
    rw [this]
    exact (decide_eq_false (by omega)).symm
  · rw [q.lasts_old h.li hr hsm (by omega) (by omega) (by rw [h.next]; exact hpc)]
    exact h.la p (by omega)
theorem LogsI.toJ {K c u : Nat} {l : List Nat} {g : Lg} {d : DLg} (h : LogsI K l c u g d) (hK : 1 ≤ K) : LogsJ K l c u 0 g d :=
  ⟨h.li, h.m, h.trim, h.gone, h.next, h.down, h.own, fun j z hj => absurd hj (Nat.not_lt_zero j), h.hi, h.di.congr hK fun j _ => by simp⟩
theorem LogsJ.sync {K c u j : Nat} {l : List Nat} {g g' : Lg} {d d' : DLg} (h : LogsJ K l c u j g d) (hK : 1 ≤ K) (q : LSync g j g') (e : DI 50000 K c (fun k => if k = j then c else (fun k => if k < j then c else u) k) (lgR l) d') : LogsJ K l c u (j + 1) g' d' := by
  obtain ⟨r1, r2, r3, r4, r5, r6⟩ := q.rest
  refine ⟨q.li h.li, r2.trans h.m, r3.trans h.trim, r4.trans h.gone, r6.trans h.next, r5.trans h.down, r1.trans h.own, q.to h.to, ?_, e.congr hK fun k _ => ?_⟩
  · intro k z hk hz
    obtain ⟨sx, hx, rfl⟩ := q
    rcases sync_segs hx hz with ⟨rfl, e1, e2⟩ | ⟨_, hz⟩
    · rw [e2]; rfl
    · exact h.hi k z hk hz
  dsimp only
  by_cases h1 : k < j
  · rw [if_pos (by omega), if_pos h1]; split <;> rfl
  · by_cases h2 : k = j
    · rw [if_pos (by omega), if_pos h2]
    · rw [if_neg (by omega), if_neg h2, if_neg h1]
theorem LogsJ.done {K c u : Nat} {l : List Nat} {g : Lg} {d : DLg} (h : LogsJ K l c u 4 g d) (hK : 1 ≤ K ∧ K ≤ 4) : LogsI K l c c g d := by
  refine ⟨h.li, h.m, h.trim, h.gone, h.next, h.down, h.own, fun p hp => ?_, h.di.congr hK.1 fun j hj => by rw [if_pos (by omega)], Nat.le_refl _, h.hi, fun _ x hx => ?_⟩
  rotate_left
  · obtain ⟨i, hi, rfl⟩ := List.mem_iff_getElem.1 hx
    rcases Nat.lt_or_ge i 4 with h4 | h4
    · exact h.to i _ h4 (List.getElem?_eq_getElem hi)
    · exact h.hi i _ h4 (List.getElem?_eq_getElem hi)
  rw [decide_eq_true hp]
  have e : stripeM g.m p = p % K := by
    rw [h.m, stripe_one (by omega)]; rfl
  have h4 : p % K < 4 := Nat.lt_of_lt_of_le (Nat.mod_lt _ (by omega)) hK.2
  obtain ⟨x, hx⟩ : ∃ x, g.segs[stripeM g.m p]? = some x := ⟨_, List.getElem?_eq_getElem (by rw [e, h.li.len]; omega)⟩
  exact h.li.lasts (by rw [h.trim]; omega) (by rw [h.next]; exact hp) hx (h.to _ x (by rw [e]; exact h4) hx)
end Go.Sl

set_option linter.unusedVariables false
set_option linter.unusedSimpArgs false
namespace Go.Sl
theorem cov_nil (v : List Int) (h : ∀ i : Nat, 0 ≤ getI v (i : Int)) : coversB v [] = true := by
  rw [covers_iff']
  intro i
  have : getI [] (i : Int) = 0 := by unfold getI; split <;> simp
  rw [this]; exact h i
theorem lg_step (l : List Nat) (p : Nat) {v : List Int} (hv : ∀ i : Nat, getI v (i : Int) = (cntS l i p : Int)) : flawK v (lgR l p) = 0 ∧ (∀ i : Nat, getI (withI v (lgR l p).site.toNat (lgR l p).seq) (i : Int) = (cntS l i (p + 1) : Int)) ∧ getI v (lgR l p).site + 1 = (lgR l p).seq := by
  have hs : getI v (lgR l p).site = (cntS l (siteN l p) p : Int) := hv (siteN l p)
  have hq : (lgR l p).seq = (cntS l (siteN l p) p : Int) + 1 := by
    show (cntS l (siteN l p) (p + 1) : Int) = _
    simp only [cntS, if_true]; omega
  have hd : coversB v (lgR l p).dep = true := cov_nil v fun i => by rw [hv i]; omega
  refine ⟨?_, fun i => ?_, by omega⟩
  · unfold flawK
    rw [if_neg (by omega), if_neg (by omega), hd]
    rfl
  · rw [show (lgR l p).site.toNat = siteN l p from Int.toNat_natCast _, getI_with, hq, hv i]
    simp only [cntS]
    by_cases h : i = siteN l p
    · subst h; simp
    · rw [if_neg h, if_neg (fun e => h e.symm)]; simp
def lgRows (l : List Nat) (u : Nat) : List (Int × Rc) := (List.range u).map fun p => (((p : Nat) : Int), lgR l p)
theorem lgRows_snoc (l : List Nat) (u : Nat) : lgRows l (u + 1) = lgRows l u ++ [((u : Int), lgR l u)] := by unfold lgRows; rw [List.range_succ, List.map_append]; rfl
theorem next_with {v : List Int} {r : Rc} (h : getI v r.site + 1 = r.seq) : nextV v r = withI v r.site.toNat r.seq := by
  unfold nextV
  rw [if_pos (by omega)]
theorem lg_flaws (l : List Nat) : ∀ u, flawsF [] (lgRows l u) = [] ∧ ∀ i : Nat, getI (vecL [] (lgRows l u)) (i : Int) = (cntS l i u : Int)
  | 0 => ⟨rfl, fun i => by
    show getI [] (i : Int) = 0
    unfold getI; split <;> simp⟩
  | u + 1 => by
    obtain ⟨h1, h2⟩ := lg_flaws l u
    obtain ⟨k1, k2, k3⟩ := lg_step l u h2
    rw [lgRows_snoc, flaws_app, vecL_app, h1]
    simp only [flawsF, vecL, k1, if_true, List.nil_append, List.append_nil, true_and]
    rw [next_with k3]
    exact k2
theorem lg_name {l : List Nat} {p q : Nat} (h1 : (lgR l p).site = (lgR l q).site) (h2 : (lgR l p).seq = (lgR l q).seq) : p = q := by
  have hs : siteN l p = siteN l q := Int.ofNat_inj.1 h1
  have hq : cntS l (siteN l p) (p + 1) = cntS l (siteN l q) (q + 1) := Int.ofNat_inj.1 h2
  rw [← hs] at hq
  have hp1 : cntS l (siteN l p) (p + 1) = cntS l (siteN l p) p + 1 := by simp [cntS]
  have hq1 : cntS l (siteN l p) (q + 1) = cntS l (siteN l p) q + 1 := by rw [hs]; simp [cntS]
  rcases Nat.lt_trichotomy p q with h | h | h
  · have := cntS_mono (l := l) (s := siteN l p) (show p + 1 ≤ q from h); omega
  · exact h
  · have := cntS_mono (l := l) (s := siteN l p) (show q + 1 ≤ p from h); omega
end Go.Sl

set_option linter.unusedVariables false
set_option linter.unusedSimpArgs false
namespace Go.Sl
def lgFrom (l : List Nat) (t k : Nat) : List (Int × Rc) := (List.range k).map fun i => (((t + i : Nat) : Int), lgR l (t + i))
theorem lgFrom_snoc (l : List Nat) (t k : Nat) : lgFrom l t (k + 1) = lgFrom l t k ++ [(((t + k : Nat) : Int), lgR l (t + k))] := by unfold lgFrom; rw [List.range_succ, List.map_append]; rfl
theorem lg_from (l : List Nat) (t : Nat) {v : List Int} (hv : ∀ i : Nat, getI v (i : Int) = (cntS l i t : Int)) : ∀ k, flawsF v (lgFrom l t k) = [] ∧ ∀ i : Nat, getI (vecL v (lgFrom l t k)) (i : Int) = (cntS l i (t + k) : Int)
  | 0 => ⟨rfl, hv⟩
  | k + 1 => by
    obtain ⟨h1, h2⟩ := lg_from l t hv k
    obtain ⟨k1, k2, k3⟩ := lg_step l (t + k) h2
    rw [lgFrom_snoc, flaws_app, vecL_app, h1]
    simp only [flawsF, vecL, k1, if_true, List.nil_append, List.append_nil, true_and]
    rw [next_with k3]
    exact k2
theorem vecR_cnt (l : List Nat) (p : Nat) {v : List Int} (hv : ∀ i : Nat, getI v (i : Int) = (cntS l i p : Int)) : ∀ k, ∀ i : Nat, getI (vecR (lgR l) k p v) (i : Int) = (cntS l i (p + k) : Int)
  | 0 => hv
  | k + 1 => by
    rw [vecR_snoc]
    exact (lg_step l (p + k) (vecR_cnt l p hv k)).2.1
theorem cnt_nil (l : List Nat) (i : Nat) : getI [] (i : Int) = (cntS l i 0 : Int) := by
  show getI [] (i : Int) = 0
  unfold getI; split <;> simp
theorem vecR_len4 (l : List Nat) : ∀ (k p : Nat) (v : List Int), v.length ≤ 4 → (vecR (lgR l) k p v).length ≤ 4
  | 0, _, v, hv => hv
  | k + 1, p, v, hv => by
    unfold vecR
    refine vecR_len4 l k (p + 1) _ ?_
    rw [withI_len, show (lgR l p).site.toNat = siteN l p from Int.toNat_natCast _]
    have := siteN_lt l p
    omega
theorem mem_getI {v : List Int} {x : Int} (h : x ∈ v) : ∃ i : Nat, getI v (i : Int) = x := by
  obtain ⟨i, hi, rfl⟩ := List.mem_iff_getElem.1 h
  refine ⟨i, ?_⟩
  unfold getI
  rw [if_neg (by omega), Int.toNat_natCast, List.getD_eq_getElem?_getD, List.getElem?_eq_getElem hi]
  rfl
theorem cnt_bd {l : List Nat} {t : Nat} {v : List Int} (hv : ∀ i : Nat, getI v (i : Int) = (cntS l i t : Int)) : ∀ x ∈ v, 0 ≤ x ∧ x ≤ (t : Int) := by
  intro x hx
  obtain ⟨i, rfl⟩ := mem_getI hx
  have := cntS_le l i t
  rw [hv i]; omega
theorem cnt_VBd {l : List Nat} {t : Nat} {v : List Int} (ht : t ≤ 1000) (hl : v.length ≤ 64) (hv : ∀ i : Nat, getI v (i : Int) = (cntS l i t : Int)) : VBd v := by
  refine ⟨hl, fun i => ?_⟩
  rcases Int.lt_or_le i 0 with h | h
  · unfold getI; rw [if_pos h]; exact ⟨by decide, by decide⟩
  · obtain ⟨k, rfl⟩ := Int.eq_ofNat_of_zero_le h
    have := cntS_le l k t
    rw [hv k]; omega
theorem sameV_of {a b : List Int} (h : ∀ i : Nat, getI a (i : Int) = getI b (i : Int)) : sameV a b = true := by
  unfold sameV
  rw [covI_true fun j _ => by rw [h]; exact Int.le_refl _, covI_true fun j _ => by rw [h]; exact Int.le_refl _]
  rfl
theorem cover_of {a b : List Int} (h : ∀ i : Nat, getI a (i : Int) = getI b (i : Int)) : (coversB a b && coversB b a) = true := by
  rw [covers_iff'.2 fun i => by rw [h]; exact Int.le_refl _, covers_iff'.2 fun i => by rw [h]; exact Int.le_refl _]
  rfl
theorem getI_trimV (v : List Int) (i : Nat) : getI (trimV v) (i : Int) = getI v (i : Int) := by
  unfold getI
  rw [if_neg (by omega), if_neg (by omega), trimV_at]
structure LogsT (l : List Nat) (c n t : Nat) (g : Lg) : Prop where
  li : LI 50000 n (lgR l) g
  trim : g.trim = t
  next : g.next = c
  down : g.down = false
  sy : g.synced
  gone : ∀ i : Nat, getI g.gone (i : Int) = (cntS l i t : Int)
  gl : g.gone.length ≤ 64
  tc : t ≤ c
  cb : c ≤ 900
theorem LogsT.head {l : List Nat} {c n t : Nat} {g : Lg} (h : LogsT l c n t g) : g.head = c := by rw [h.li.head h.down h.sy, h.next]
theorem LogsT.rows {l : List Nat} {c n t : Nat} {g : Lg} (h : LogsT l c n t g) : g.rows = lgFrom l t (c - t) := by
  have hh := h.head
  apply List.ext_getElem?
  intro i
  rcases Nat.lt_or_ge i (c - t) with hi | hi
  · have := rows_at (g := g) (i := i) (by rw [hh, h.trim]; omega)
    rw [this, h.trim, h.li.rcd (by rw [h.trim]; omega) (by rw [h.next]; omega)]
    unfold lgFrom
    rw [List.getElem?_map, List.getElem?_range hi]
    rfl
  · rw [List.getElem?_eq_none (by rw [rows_len, hh, h.trim]; omega), List.getElem?_eq_none (by unfold lgFrom; simp; omega)]
theorem LogsT.rb {l : List Nat} {c n t : Nat} {g : Lg} (h : LogsT l c n t g) : ∀ x ∈ g.rows, RBd x.2 := by
  intro x hx
  rw [h.rows] at hx
  obtain ⟨p, hp, rfl⟩ := List.mem_map.1 hx
  have hp := List.mem_range.1 hp
  have hcb := h.cb
  have h1 := siteN_lt l (t + p)
  have h2 := cntS_le l (siteN l (t + p)) (t + p + 1)
  exact ⟨lgR_site l _, by show (0 : Int) ≤ (cntS l (siteN l (t + p)) (t + p + 1) : Int); omega, by show (cntS l (siteN l (t + p)) (t + p + 1) : Int) ≤ 1000000000; omega⟩
theorem LogsT.flaws {l : List Nat} {c n t : Nat} {g : Lg} (h : LogsT l c n t g) : flawsF g.gone g.rows = [] := by
  rw [h.rows]; exact (lg_from l t h.gone _).1
theorem LogsT.vec {l : List Nat} {c n t : Nat} {g : Lg} (h : LogsT l c n t g) : ∀ i : Nat, getI (vecF g (g.head - g.trim) g.trim g.gone) (i : Int) = (cntS l i c : Int) := by
  intro i
  have htc := h.tc
  rw [h.head, h.trim, vecF_R (R := lgR l) (c - t) t g.gone fun i h1 h2 => h.li.rcd (by rw [h.trim]; omega) (by rw [h.next]; omega), vecR_cnt l t h.gone (c - t) i, show t + (c - t) = c by omega]
theorem LogsI.trimT {K c : Nat} {l : List Nat} {g g' : Lg} {d : DLg} {t : Nat} {v : List Int} (h : LogsI K l c c g d) (hc : c ≤ 300) (ht : t ≤ c) (q : LTrim g t v g') (hv : ∀ i : Nat, getI v (i : Int) = (cntS l i t : Int)) (hl : v.length ≤ 64) : LogsT l c (c + 1) t g' := by
  obtain ⟨e1, e2, e3, e4, e5, e6⟩ := q.rest
  obtain ⟨h1, h2⟩ := q.li h.li (by rw [h.trim, h.next]; omega) (by omega) (by omega)
  exact ⟨h1, e2, e4.trans h.next, e5.trans h.down, h2 (h.sy rfl), by rw [e3]; exact hv, by rw [e3]; exact hl, ht, by omega⟩
theorem LogsT.back {l : List Nat} {c n t : Nat} {g g' : Lg} (h : LogsT l c n t g) (q : LBack 50000 (n + 1) (lgR l) g [] g') : LogsT l c (n + 1) t g' := by
  refine ⟨q.li, q.trim.trans h.trim, (q.all h.li h.down h.sy).trans h.next, q.down, q.sy, fun i => ?_, ?_, h.tc, h.cb⟩
  · rcases q.gone with e | e
    · rw [e]; exact h.gone i
    · rw [e, getI_trimV]; exact h.gone i
  · rcases q.gone with e | e
    · rw [e]; exact h.gl
    · rw [e]; exact Nat.le_trans (trimV_len _) h.gl
end Go.Sl
