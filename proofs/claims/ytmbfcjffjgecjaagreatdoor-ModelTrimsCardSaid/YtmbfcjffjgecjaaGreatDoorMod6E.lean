/- A part of a proof: what functions of the program compute. -/
import Derived.Test.YtmbfcjffjgecjaaGreatDoorMod5E
import Derived.Test.YtmbfcjffjgecjaaGreatDoorLog4E
set_option linter.unusedVariables false
set_option linter.unusedSimpArgs false
set_option maxHeartbeats 0
set_option maxRecDepth 20000
namespace Go.Proofs
attribute [local irreducible] Go.Sl.SO Go.Sl.SQ Go.Sl.SR Go.Sl.SC Go.Sl.SX Go.Sl.SY Go.Sl.eadr Go.Sl.slAt Go.Sl.sqAt Go.Sl.pts Go.Sl.rod Go.Sl.ob Go.Sl.ex Go.Sl.big Go.Sl.pr Go.Sl.tabs Go.Sl.mpAt Go.Sl.mitAt Go.Sl.mitN
open Go.Sl
theorem natL (l : List Int) (h : ∀ x ∈ l, 0 ≤ x ∧ x ≤ 255) : ∃ k : List Nat, l = k.map (fun (x : Nat) => (x : Int)) ∧ ∀ x ∈ k, x < 256 := by
  refine ⟨l.map Int.toNat, ?_, fun x hx => ?_⟩
  · rw [List.map_map]
    conv => lhs; rw [← List.map_id l]
    refine List.map_congr_left fun x hx => ?_
    have := h x hx
    show x = ((x.toNat : Nat) : Int)
    omega
  · obtain ⟨y, hy, rfl⟩ := List.mem_map.1 hx
    have := h y hy
    omega
end Go.Proofs
