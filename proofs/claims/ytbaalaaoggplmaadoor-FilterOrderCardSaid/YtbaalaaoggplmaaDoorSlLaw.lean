/- A part of a proof: a walk over the model by a small separation logic. -/
import Derived.Test.YtbaalaaoggplmaaDoorSlOwn
import Derived.Carry
import Derived.ChangeSame
import Derived.RowKit
import Derived.WideKeyArgs
/-! From a contract to a law's row: what the arguments read as lies in memory that is only read; behind the call all of it is as it was. -/
set_option linter.unusedVariables false
set_option linter.unusedSectionVars false
namespace Go.Sl
open Go.ChangeShapes Go.WideShapes Go.RowKit

/-- All that lies in a world is read alone. -/
def ro0 (W : World) : Ro := ⟨fun i j => W.cell? ⟨i, j, none⟩, W⟩
def own0 : Own := fun _ _ => none
theorem sat0 (W : World) : Sat W (ro0 W) own0 :=
  ⟨fun i j v e => e, fun i j v e => (by cases e), fun i j x e => (by cases e), fun i j v c e e' => (by cases e'), Below.refl _ _, fun i j c e => (by cases e)⟩

theorem seps_nil_own {L : List HP} : ∀ {r : Ro}, (∀ A ∈ L, A.h r own0) → seps L r own0 := by
  induction L with
  | nil => intros; trivial
  | cons A L ih => intro r h; exact ⟨own0, own0, fun _ _ => .inl rfl, none_add, h A (by simp), ih fun B hB => h B (by simp [hB])⟩

/-- A contract of a law: the law is true, and all is as it was. -/
theorem Does.law {P : Program} {f : FuncId} {args : List Value} {pers : List HP} {X : Type} {ok : X → Prop} {v : Value} {out : X → List HP} (h : Does P f args pers [] X ok (fun _ => v) out) (W : World) (hp : ∀ A ∈ pers, A.h (ro0 W) own0) :
    Calls P f args.toArray W fun e W' => e = .returned v ∧ Below W.heap.size W W' := by
  have hst : St W (pin (ro0 W) own0 :: (pers ++ [])) := by
    refine ⟨ro0 W, own0, sat0 W, own0, own0, fun _ _ => .inl rfl, none_add, ⟨Ro.le_refl _, Own.le_refl _⟩, ?_⟩
    rw [List.append_nil]
    exact seps_nil_own hp
  refine (h.calls _ W hst).mono ?_
  rintro e W' ⟨x, hx, rfl, r', o', s', a1, b1, d1, le1, ⟨h1, h2⟩, _⟩
  refine ⟨rfl, ?_⟩
  have := s'.below
  rw [h1.bs] at this
  exact this

section
variable {H : Type} {enc : TypeId × Value → H} {P : Program}

theorem trodAll_stays (hl : laidOutB P = true) {W W' : World} (hb : Below W.heap.size W W') {sp : Nat → Bool} : ∀ {ts : List TypeId} {vs : List Value} {ds : List (DataW H)} {ps : List MemPlace}, (∀ t ∈ ts, P.readableRec t = true ∧ t < P.types.size) →
    DataW.TrodAll enc P W 0 (fun _ => true) true ts vs ds ps → (∀ x ∈ ps, x.block < W.heap.size) → (∀ x ∈ ps, sp x.block = true) → DataW.TrodAll enc P W' 0 sp true ts vs ds ps
  | [], _, _, _, _, h, _, _ => by
    obtain ⟨rfl, rfl, rfl⟩ := trodAll_nil h
    exact trodAll_mk0
  | t :: ts, _, _, _, hr, h, hlt, hs => by
    obtain ⟨v, vs, d, ds, p, q, rfl, rfl, rfl, h1, h2⟩ := trodAll_cons h
    refine ⟨p, q, WideElems.Trod_stays hl (hr t (by simp)).1 (hr t (by simp)).2 h1 (fun x hx => hb.same (hlt x (by simp [hx]))) (fun x hx => hs x (by simp [hx])), ?_, rfl⟩
    exact trodAll_stays hl hb (fun t ht => hr t (by simp [ht])) h2 (fun x hx => hlt x (by simp [hx])) (fun x hx => hs x (by simp [hx]))

def typesOk (P : Program) (ts : List TypeId) : Bool := ts.all fun t => P.readableRec t && decide (t < P.types.size)
theorem typesOk_all {ts : List TypeId} (h : typesOk P ts = true) : ∀ t ∈ ts, P.readableRec t = true ∧ t < P.types.size := fun t ht => by
  have := List.all_eq_true.1 h t ht
  simpa using this

/-- A law's post: true, and the arguments as they were. -/
theorem law_post {fn : Func} {s : ChangeSpec} {apart fresh handsOn again : Bool} {W W' : World} {args : Array Value} {ds : List (DataW H)} {before : List MemPlace} {tb : TypeId} (hl : laidOutB P = true) (ht : typesOk P fn.params.toList = true) (hr : fn.resultTypes = #[tb]) (hbool : P.underlying tb = some .bool)
    (hv : s.vars = []) (hfn : s.fn H ds = { results := [.lit (.bool true)], args := ds }) (hW : DataW.Whole enc P fn.params.toList s.vars apart W args.toList ds [] before) (hb : Below W.heap.size W W') :
    s.post enc P fn apart fresh handsOn again W args (.bool true) W' := by
  have hW0 := hW
  obtain ⟨p, q, hA, hV, rfl, hfz, hnd⟩ := hW
  have hlt : ∀ x ∈ p ++ q, x.block < W.heap.size := fun x hx => hW0.lt x hx
  rw [hv] at hV
  obtain rfl : q = [] := hV
  have hold : ∀ x ∈ p ++ [], (fun b => decide (b < W.heap.size)) x.block = true := fun x hx => by simpa using hlt x hx
  have hargs : ∀ sp : Nat → Bool, (∀ x ∈ p ++ [], sp x.block = true) → DataW.TrodAll enc P W' 0 sp true fn.params.toList args.toList (s.fn H (ds ++ [])).args p := fun sp hsp => by
    rw [List.append_nil, hfn]
    exact trodAll_stays hl hb (typesOk_all ht) hA (fun x hx => hlt x (by simp [hx])) (fun x hx => hsp x (by simp [hx]))
  have hres : ∀ (b : Nat) (sp : Nat → Bool) (hd : Bool), DataW.TrodAll enc P W' b sp hd fn.resultTypes.toList ((Value.bool true).resultList fn.resultTypes.size) (s.fn H (ds ++ [])).results [] := fun b sp hd => by
    rw [List.append_nil, hfn, hr]
    exact trodAll_mk1 ⟨1, by simp [DataW.trod, Value.cells, hbool]⟩
  have hvars : ∀ sp : Nat → Bool, DataW.TrodVars enc P W' sp s.vars (s.fn H (ds ++ [])).vars [] := fun sp => by
    rw [List.append_nil, hfn, hv]; rfl
  refine ⟨ds, [], p ++ [], [], p, [], hW0, hres _ _ _, hargs _ hold, hvars _, hb.frame _, fun _ => ?_⟩
  refine ⟨?_, _, _, ([] ++ p) ++ [], ⟨[] ++ p, [], trodAll_append (hargs _ (fun _ _ => rfl)) (hres _ _ _), hvars _, rfl, ?_, ?_⟩, ?_⟩
  · exact ok_one hr rfl (by simp [Value.okWide, Cell.okWide, Cell.ok, hbool])
  · intro b off hp
    have hp' : MemPlace.cell b off ∈ p ++ [] := by simpa using hp
    have hlt' : b < W.heap.size := hlt _ hp'
    rw [hb.frozen (p := ⟨b, off, none⟩) hlt']
    exact hfz b off hp'
  · intro ha
    have := hnd ha
    simpa using this
  · intro x hx _
    simpa using hx
end
end Go.Sl
