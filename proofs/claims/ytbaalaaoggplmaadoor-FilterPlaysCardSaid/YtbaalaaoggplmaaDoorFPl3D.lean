/- A part of a proof: what functions of the program compute. -/
import Derived.Test.YtbaalaaoggplmaaDoorFPl2D
set_option linter.unusedVariables false
set_option linter.unusedSimpArgs false
set_option maxHeartbeats 0
namespace Go.Proofs
attribute [local irreducible] Go.Sl.SO Go.Sl.SQ Go.Sl.SR Go.Sl.SC Go.Sl.SX Go.Sl.SY Go.Sl.eadr Go.Sl.slAt Go.Sl.sqAt Go.Sl.pts Go.Sl.rod Go.Sl.ob Go.Sl.ex Go.Sl.big Go.Sl.pr Go.Sl.tabs Go.Sl.mpAt
open Go.Sl
theorem few_long (A : Option Addr) (n c : Nat) (hn : 80 < n) : Does Tryd.prog 20 [.slice A n c] [] [] Unit (fun _ => True) (fun _ => .bool false) (fun _ => []) := by
  refine Does.of Tryd.call20 Tryd.func20 rfl rfl rfl all_nil rfl ?_
  repeat' (first
    | (refine SO.pure rfl rfl rfl ?_)
    | (refine SO.nil ?_)
    | (refine SK.seq ?_)
    | (refine SK.region ?_)
    | (refine SK.condTP rfl (by first | assumption | (simp only [decide_eq_true_eq, decide_eq_false_iff_not, Bool.not_eq_true', Bool.not_eq_false', Bool.not_true, Bool.not_false, Bool.not_not]; omega)) ?_)
    | fail)
  exact SK.retX (.tmp rfl .nil) () trivial rfl (by repeat constructor)
theorem plays_long (site room : Int) (A : Option Addr) (n c : Nat) (hn : 80 < n) : Does Tryd.prog 7 [.int .i64 site, .int .i64 room, .slice A n c] [tabs 1 2] [] Unit (fun _ => True) (fun _ => .bool true) (fun _ => []) := by
  refine Does.of Tryd.call7 Tryd.func7 rfl rfl rfl (all_cons (pers_tabs _ _) all_nil) rfl ?_
  have hf := few_long A n c hn
  repeat' (first
    | (refine SO.call (known_does) rfl rfl rfl (by repeat constructor) (by repeat constructor) rfl (fun x hx => ?_))
    | (refine SO.call (hf) rfl rfl rfl (by repeat constructor) (by repeat constructor) rfl (fun x hx => ?_))
    | (refine SO.pure rfl rfl rfl ?_)
    | (refine SO.nil ?_)
    | (refine SK.seq ?_)
    | (refine SK.region ?_)
    | (refine SK.condT rfl ?_)
    | (refine SK.condF rfl ?_)
    | (refine SK.skip ?_)
    | fail)
  exact SK.retX (.tmp rfl .nil) () trivial rfl (by repeat constructor)
end Go.Proofs
