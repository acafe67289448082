/- A part of a proof: what functions of the program compute. -/
import Derived.Test.YtbaalaaoggplmaaDoorBook15D
set_option linter.unusedVariables false
set_option linter.unusedSimpArgs false
set_option maxHeartbeats 0
namespace Go.Proofs
attribute [local irreducible] Go.Sl.SO Go.Sl.SQ Go.Sl.SR Go.Sl.SC Go.Sl.SX Go.Sl.SY Go.Sl.eadr Go.Sl.slAt Go.Sl.sqAt Go.Sl.pts Go.Sl.rod Go.Sl.ob Go.Sl.ex Go.Sl.big Go.Sl.pr Go.Sl.tabs Go.Sl.mpAt
open Go.Sl
theorem fewb_long (A : Option Addr) (n c : Nat) (hn : 40 < n) : Does Tryd.prog 35 [.slice A n c] [] [] Unit (fun _ => True) (fun _ => .bool false) (fun _ => []) := by
  refine Does.of Tryd.call35 Tryd.func35 rfl rfl rfl all_nil rfl ?_
  repeat' (first
    | (refine SO.pure rfl rfl rfl ?_)
    | (refine SO.nil ?_)
    | (refine SK.seq ?_)
    | (refine SK.region ?_)
    | (refine SK.condTP rfl (by first | assumption | (simp only [decide_eq_true_eq, decide_eq_false_iff_not, Bool.not_eq_true', Bool.not_eq_false', Bool.not_true, Bool.not_false, Bool.not_not]; omega)) ?_)
    | fail)
  exact SK.retX (.tmp rfl .nil) () trivial rfl (by repeat constructor)
theorem folds_long1 (A : Option Addr) (n c : Nat) (B : Option Addr) (m c2 : Nat) (key : ByteArray) (hn : 40 < n) : Does Tryd.prog 9 [.slice A n c, .slice B m c2, .string key] [tabs 1 2] [] Unit (fun _ => True) (fun _ => .bool true) (fun _ => []) := by
  refine Does.of Tryd.call9 Tryd.func9 rfl rfl rfl (all_cons (pers_tabs _ _) all_nil) rfl ?_
  repeat' (first
    | (refine SO.call (bknown_does) rfl rfl rfl (by repeat constructor) (by repeat constructor) rfl (fun x hx => ?_))
    | (refine SO.call (fewb_long A n c hn) rfl rfl rfl (by repeat constructor) (by repeat constructor) rfl (fun x hx => ?_))
    | (refine SO.pure rfl rfl rfl ?_)
    | (refine SO.nil ?_)
    | (refine SO.guardN rfl rfl rfl ?_)
    | (refine SK.seq ?_)
    | (refine SK.region ?_)
    | (refine SK.condT rfl ?_)
    | (refine SK.condF rfl ?_)
    | (refine SK.skip ?_)
    | fail)
  exact SK.retX (.tmp rfl .nil) () trivial rfl (by repeat constructor)
theorem folds_long2 (A : Option Addr) (n c : Nat) (b : List Cl) (B : Option Addr) (m c2 : Nat) (key : ByteArray) (hm : 40 < m) : Does Tryd.prog 9 [.slice A n c, .slice B m c2, .string key] [tabs 1 2, slAt RCl A n b] [] Unit (fun _ => True) (fun _ => .bool true) (fun _ => []) := by
  refine Does.of Tryd.call9 Tryd.func9 rfl rfl rfl (all_cons (pers_tabs _ _) (all_cons (pers_slAt _ _ _ _) all_nil)) rfl ?_
  repeat' (first
    | (refine SO.call (bknown_does) rfl rfl rfl (by repeat constructor) (by repeat constructor) rfl (fun x hx => ?_))
    | (refine SO.call (fewb_does _ _ _ b) rfl rfl rfl (by repeat constructor) (by repeat constructor) rfl (fun x hx => ?_))
    | (refine SO.pure rfl rfl rfl ?_)
    | (refine SO.nil ?_)
    | (refine SK.seq ?_)
    | (refine SK.region ?_)
    | (refine SK.condF rfl ?_)
    | (refine SK.skip ?_)
    | fail)
  cases fewB b with
  | false =>
    repeat' (first
    | (refine SO.pure rfl rfl rfl ?_)
    | (refine SO.nil ?_)
    | (refine SO.guardN rfl rfl rfl ?_)
    | (refine SK.seq ?_)
    | (refine SK.region ?_)
    | (refine SK.condT rfl ?_)
    | fail)
    exact SK.retX (.tmp rfl .nil) () trivial rfl (by repeat constructor)
  | true =>
    repeat' (first
    | (refine SO.pure rfl rfl rfl ?_)
    | (refine SO.nil ?_)
    | (refine SO.guardY rfl rfl ?_)
    | (refine SO.guardN rfl rfl rfl ?_)
    | (refine SK.seq ?_)
    | (refine SK.region ?_)
    | (refine SK.condT rfl ?_)
    | (refine SO.guardNP rfl rfl rfl (by first | assumption | (simp only [decide_eq_true_eq, decide_eq_false_iff_not, Bool.not_eq_true', Bool.not_eq_false', Bool.not_true, Bool.not_false, Bool.not_not]; omega)) ?_)
    | fail)
    exact SK.retX (.tmp rfl .nil) () trivial rfl (by repeat constructor)
end Go.Proofs
