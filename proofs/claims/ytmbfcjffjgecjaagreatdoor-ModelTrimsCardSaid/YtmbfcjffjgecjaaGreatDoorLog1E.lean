/- A part of a proof: what functions of the program compute. -/
import Derived.Test.YtmbfcjffjgecjaaGreatDoorStrE
set_option linter.unusedVariables false
set_option linter.unusedSimpArgs false
set_option maxHeartbeats 0
set_option maxRecDepth 20000
namespace Go.Proofs
attribute [local irreducible] Go.Sl.SO Go.Sl.SQ Go.Sl.SR Go.Sl.SC Go.Sl.SX Go.Sl.SY Go.Sl.eadr Go.Sl.slAt Go.Sl.sqAt Go.Sl.pts Go.Sl.rod Go.Sl.ob Go.Sl.ex Go.Sl.big Go.Sl.pr Go.Sl.tabs Go.Sl.mpAt Go.Sl.mitAt Go.Sl.mitN
open Go.Sl
theorem lseg_does (lb : Nat) (g : Lg) (pos : Int) (x : SB) (h : LgOk g) (hp : 0 ≤ pos ∧ pos ≤ 9223372036854775807) (hx : g.segs[stripeM g.m pos]? = some x) : Does Tryz.prog 119 [.pointer (some ⟨lb, 0, none⟩), .int .i64 pos] [] (lgHd lb g) Unit (fun _ => True) (fun _ => .tuple #[.pointer (some ⟨x.sb, 0, none⟩), .int .i64 (epochM g.m pos)]) (fun _ => lgHd lb g) := by
  refine Does.of Tryz.call119 Tryz.func119 rfl rfl rfl all_nil rfl ?_
  have fd := mfind_does g.mA.1 g.m.length g.mA.2 g.m pos h.m hp
  have hxb : (g.segs.map (·.sb))[stripeM g.m pos]? = some x.sb := by rw [List.getElem?_map, hx]; rfl
  repeat' (first
 | refine SO.eloadQ rfl (by repeat constructor) (by assumption) rfl (by rfl) (by exact fun _ => ⟨rfl, fun _ => rfl⟩) rfl (fun hid => ?_)
 | refine SO.call (fd) rfl rfl rfl (by repeat constructor) (by repeat constructor) rfl (fun x hx => ?_)
 | refine SO.indexQ rfl rfl (by repeat constructor) rfl rfl rfl rfl (by assumption) ?_
 | refine SO.eloadQ rfl (by repeat constructor) (by assumption) rfl (by rfl) (by exact fun _ => ⟨rfl, fun h => by cases h⟩) rfl (fun hid => ?_)
 | refine SO.pure rfl rfl rfl ?_
 | refine SO.nil ?_
 | refine SO.load rfl (by repeat constructor) rfl (by rfl) (by exact ⟨rfl, by first | exact fun _ => rfl | exact (fun h => by cases h)⟩) rfl ?_
 | refine SK.seq ?_
 | refine SK.region ?_
 | fail)
  exact SK.retX (.tmp rfl (.tmp rfl .nil)) () trivial rfl (by repeat constructor)
end Go.Proofs
