/- A part of a proof: a walk over the model by a small separation logic. -/
import Derived.Test.YtbaalaaoggplmaaDoorSlIter2
import Derived.Test.YtbaalaaoggplmaaDoorSlLib
/-! Contracts that ask for less. -/
set_option linter.unusedVariables false
namespace Go.Sl
theorem Does.pers' {P : Program} {f : FuncId} {args : List Value} {pers pers' own : List HP} {X : Type} {ok : X → Prop} {ret : X → Value} {out : X → List HP} (h : Does P f args pers own X ok ret out) (hp : ∀ A ∈ pers', Pers A) (ha : HasAll pers pers') : Does P f args pers' own X ok ret out :=
  ⟨h.entry, hp, fun F w hst => h.calls F w (hst.ent (Ent.cons (by
    have h1 : Ent pers' (pers ++ pers') := ha.ent h.hpers
    have h2 : Ent (pers' ++ own) ((pers ++ pers') ++ own) := (ent_app_comm.trans (Ent.app h1)).trans ent_app_comm
    refine h2.trans ?_
    rw [List.append_assoc]
    refine Ent.app ?_
    have : ∀ (A B : List HP), Ent (A ++ B) B := by
      intro A B
      induction A with
      | nil => exact Ent.refl _
      | cons a A ih => exact Ent.drop.trans ih
    exact this _ _)))⟩
end Go.Sl
