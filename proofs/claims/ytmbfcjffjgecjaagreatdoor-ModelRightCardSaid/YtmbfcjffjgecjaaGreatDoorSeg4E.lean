/- A part of a proof: what functions of the program compute. -/
import Derived.Test.YtmbfcjffjgecjaaGreatDoorSeg2E
import Derived.Test.YtmbfcjffjgecjaaGreatDoorLib1
set_option linter.unusedVariables false
set_option linter.unusedSimpArgs false
set_option maxHeartbeats 0
namespace Go.Sl
def EPR : Enc (Int × Rc) where
  V := Pl
  args := fun x h => [.int .i64 x.1, RRec.val x.2 h]
  atoms := fun x h => RRec.atoms x.2 h
  pers := fun x h A hA => RRec.pers x.2 h A hA
end Go.Sl
namespace Go.Proofs
attribute [local irreducible] Go.Sl.SO Go.Sl.SQ Go.Sl.SR Go.Sl.SC Go.Sl.SX Go.Sl.SY Go.Sl.eadr Go.Sl.slAt Go.Sl.sqAt Go.Sl.pts Go.Sl.rod Go.Sl.ob Go.Sl.ex Go.Sl.big Go.Sl.pr Go.Sl.tabs Go.Sl.mpAt Go.Sl.mitAt Go.Sl.mitN
open Go.Sl
end Go.Proofs
