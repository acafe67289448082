/- A part of a proof: what functions of the program compute. -/
import Derived.Test.YtmbfcjffjgecjaaGreatDoorSeg3E
import Derived.Test.YtmbfcjffjgecjaaGreatDoorSeg4E
set_option linter.unusedVariables false
set_option linter.unusedSimpArgs false
set_option maxHeartbeats 0
namespace Go.Proofs
attribute [local irreducible] Go.Sl.SO Go.Sl.SQ Go.Sl.SR Go.Sl.SC Go.Sl.SX Go.Sl.SY Go.Sl.eadr Go.Sl.slAt Go.Sl.sqAt Go.Sl.pts Go.Sl.rod Go.Sl.ob Go.Sl.ex Go.Sl.big Go.Sl.pr Go.Sl.tabs Go.Sl.mpAt Go.Sl.mitAt Go.Sl.mitN
open Go.Sl
theorem ply0 {room : Int} (h : 1 ≤ room ∧ room ≤ 1048576) : Ply ⟨[], 0, 0⟩ ⟨room, [], 0⟩ := ⟨⟨h, by show ((0 : Nat) : Int) ≤ room; omega, Nat.le_refl _⟩, rfl⟩
end Go.Proofs
