/- A part of a proof: what functions of the program compute. -/
import Derived.Test.YtmbfcjffjgecjaaGreatDoorRefE
import Derived.Test.YtmbfcjffjgecjaaGreatDoorLib1
import Derived.Test.YtmbfcjffjgecjaaGreatDoorTabE
set_option linter.unusedVariables false
set_option linter.unusedSimpArgs false
set_option maxHeartbeats 0
namespace Go.Proofs
attribute [local irreducible] Go.Sl.SO Go.Sl.SQ Go.Sl.SR Go.Sl.SC Go.Sl.SX Go.Sl.SY Go.Sl.eadr Go.Sl.slAt Go.Sl.sqAt Go.Sl.pts Go.Sl.rod Go.Sl.ob Go.Sl.ex Go.Sl.big Go.Sl.pr Go.Sl.tabs Go.Sl.mpAt
open Go.Sl
theorem rsame_does (r s : Rc) (h g : Pl) : Does Tryz.prog 64 [RRec.val r h, RRec.val s g] [slAt RI h.1 r.dep.length r.dep, slAt RI g.1 s.dep.length s.dep] [] Unit (fun _ => True) (fun _ => .bool (sameR r s)) (fun _ => []) := by
  refine Does.of Tryz.call64 Tryz.func64 rfl rfl rfl (all_cons (pers_slAt _ _ _ _) (all_cons (pers_slAt _ _ _ _) all_nil)) rfl ?_
  repeat' (first
 | refine SO.call (rsamev_does _ _ _ _ _ _ _ _) rfl rfl rfl (by repeat constructor) (by repeat constructor) rfl (fun x hx => ?_)
 | refine SO.pure rfl rfl rfl ?_
 | refine SO.nil ?_
 | refine SO.guardY rfl rfl ?_
 | refine SO.guardN rfl rfl rfl ?_
 | refine SO.load rfl (by repeat constructor) rfl (by rfl) (by exact ⟨rfl, by first | exact fun _ => rfl | exact (fun h => by cases h)⟩) rfl ?_
 | refine SK.seq ?_
 | refine SK.region ?_
 | refine SO.box rfl rfl rfl (fun b => ?_)
 | refine SO.guard rfl rfl rfl (fun h => ?_) (fun h => ?_)
 | fail)
  all_goals refine SK.retX (.tmp rfl .nil) () trivial (congrArg Value.bool ?_) (by repeat constructor)
  all_goals simp_all [sameR]
end Go.Proofs
