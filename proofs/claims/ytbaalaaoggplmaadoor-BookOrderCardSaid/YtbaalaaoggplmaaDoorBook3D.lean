/- A part of a proof: what functions of the program compute. -/
import Derived.Test.YtbaalaaoggplmaaDoorBook2D
set_option linter.unusedVariables false
set_option linter.unusedSimpArgs false
set_option maxHeartbeats 0
namespace Go.Proofs
attribute [local irreducible] Go.Sl.SO Go.Sl.SQ Go.Sl.SR Go.Sl.SC Go.Sl.SX Go.Sl.SY Go.Sl.eadr Go.Sl.slAt Go.Sl.sqAt Go.Sl.pts Go.Sl.rod Go.Sl.ob Go.Sl.ex Go.Sl.big Go.Sl.pr Go.Sl.tabs Go.Sl.mpAt
open Go.Sl
theorem clone_does (A : Option Addr) (n c : Nat) (l : List Cl) : Does Tryd.prog 53 [.slice A n c] [slAt RCl A n l] [] Pl (fun x => l.length ≤ x.2) (fun x => .slice x.1 l.length x.2) (fun x => [sqAt true RCl x.1 l.length x.2 l]) := by
  refine Does.of Tryd.call53 Tryd.func53 rfl rfl rfl (all_cons (pers_slAt _ _ _ _) all_nil) rfl ?_
  refine SK.know (sl_len (ρ := RCl) (A := A) (n := n) (l := l) (by repeat constructor)) ?_
  rintro ⟨rfl, hlim, h0⟩
  cases A with
  | none =>
    obtain rfl := h0 rfl
    repeat' (first
    | (refine SO.pure rfl rfl rfl ?_)
    | (refine SO.pure2 rfl rfl rfl ?_)
    | (refine SO.nil ?_)
    | (refine SK.seq ?_)
    | (refine SK.region ?_)
    | (refine SK.condT rfl ?_)
    | (refine SK.condF rfl ?_)
    | (refine SK.skip ?_)
    | (refine SK.block ?_)
    | (refine SK.blk ?_)
    | (refine SK.exit rfl ?_)
    | (refine SO.buildSlice rfl rfl rfl rfl rfl rfl (fun b => ?_))
    | (refine SO.agg rfl rfl rfl rfl (by first | exact .inl ⟨rfl, rfl⟩ | exact .inr ⟨rfl, rfl⟩) (by kernel_rfl) rfl ?_)
    | (refine SK.condTP rfl (by first | assumption | (simp only [decide_eq_true_eq, decide_eq_false_iff_not, Bool.not_eq_true', Bool.not_eq_false', Bool.not_true, Bool.not_false, Bool.not_not]; omega)) ?_)
    | (refine SK.condFP rfl (by first | assumption | (simp only [decide_eq_true_eq, decide_eq_false_iff_not, Bool.not_eq_true', Bool.not_eq_false', Bool.not_true, Bool.not_false, Bool.not_not]; omega)) ?_)
    | fail)
    refine SK.ret ⟨_, .tmp rfl .nil, (none, 0), Nat.zero_le _, rfl, ?_⟩
    exact (ent_triv (A := sqAt true RCl none 0 0 [])).trans (ent_append_of_takes (by repeat constructor))
  | some a =>
    repeat' (first
    | (refine SO.pure rfl rfl rfl ?_)
    | (refine SO.pure2 rfl rfl rfl ?_)
    | (refine SO.nil ?_)
    | (refine SK.seq ?_)
    | (refine SK.region ?_)
    | (refine SK.condT rfl ?_)
    | (refine SK.condF rfl ?_)
    | (refine SK.skip ?_)
    | (refine SK.block ?_)
    | (refine SK.blk ?_)
    | (refine SK.exit rfl ?_)
    | (refine SO.buildSlice rfl rfl rfl rfl rfl rfl (fun b => ?_))
    | (refine SO.agg rfl rfl rfl rfl (by first | exact .inl ⟨rfl, rfl⟩ | exact .inr ⟨rfl, rfl⟩) (by kernel_rfl) rfl ?_)
    | (refine SK.condTP rfl (by first | assumption | (simp only [decide_eq_true_eq, decide_eq_false_iff_not, Bool.not_eq_true', Bool.not_eq_false', Bool.not_true, Bool.not_false, Bool.not_not]; omega)) ?_)
    | (refine SK.condFP rfl (by first | assumption | (simp only [decide_eq_true_eq, decide_eq_false_iff_not, Bool.not_eq_true', Bool.not_eq_false', Bool.not_true, Bool.not_false, Bool.not_not]; omega)) ?_)
    | fail)
    refine SO.shift (toSq (ρ := RCl) (l := []) [] (by repeat constructor) rfl rfl rfl rfl (by repeat constructor)) ?_
    repeat' (first
    | (refine SO.append (ρ := RCl) (w := true) rfl rfl (by repeat constructor) (Src.sl (by repeat constructor)) rfl rfl rfl rfl rfl rfl rfl (by omega) (fun A3 c3 => ?_))
    | (refine SO.pure rfl rfl rfl ?_)
    | (refine SO.pure2 rfl rfl rfl ?_)
    | (refine SO.nil ?_)
    | (refine SK.seq ?_)
    | (refine SK.region ?_)
    | (refine SK.condT rfl ?_)
    | (refine SK.condF rfl ?_)
    | (refine SK.skip ?_)
    | (refine SK.block ?_)
    | (refine SK.blk ?_)
    | (refine SK.exit rfl ?_)
    | (refine SO.buildSlice rfl rfl rfl rfl rfl rfl (fun b => ?_))
    | (refine SO.agg rfl rfl rfl rfl (by first | exact .inl ⟨rfl, rfl⟩ | exact .inr ⟨rfl, rfl⟩) (by kernel_rfl) rfl ?_)
    | (refine SK.condTP rfl (by first | assumption | (simp only [decide_eq_true_eq, decide_eq_false_iff_not, Bool.not_eq_true', Bool.not_eq_false', Bool.not_true, Bool.not_false, Bool.not_not]; omega)) ?_)
    | (refine SK.condFP rfl (by first | assumption | (simp only [decide_eq_true_eq, decide_eq_false_iff_not, Bool.not_eq_true', Bool.not_eq_false', Bool.not_true, Bool.not_false, Bool.not_not]; omega)) ?_)
    | fail)
    simp only [Nat.zero_add, List.nil_append]
    refine SK.know (sq_len (w := true) (ρ := RCl) (A := A3) (n := l.length) (c := c3) (l := l) (by repeat constructor)) ?_
    rintro ⟨-, -, hc3, -⟩
    exact SK.retX (.tmp rfl .nil) (A3, c3) hc3 rfl (by repeat constructor)
end Go.Proofs
