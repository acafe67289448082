/- A part of a proof: what functions of the program compute. -/
import Derived.Test.YtmbfcjffjgecjaaGreatDoorLog15E
set_option linter.unusedVariables false
set_option linter.unusedSimpArgs false
set_option maxHeartbeats 0
set_option maxRecDepth 20000
namespace Go.Proofs
attribute [local irreducible] Go.Sl.SO Go.Sl.SQ Go.Sl.SR Go.Sl.SC Go.Sl.SX Go.Sl.SY Go.Sl.eadr Go.Sl.slAt Go.Sl.sqAt Go.Sl.pts Go.Sl.rod Go.Sl.ob Go.Sl.ex Go.Sl.big Go.Sl.pr Go.Sl.tabs Go.Sl.mpAt Go.Sl.mitAt Go.Sl.mitN
open Go.Sl
def zR (p : Nat) : Rc := rz 0 ((p + 1 : Nat) : Int)
theorem lsyncS (lb k : Nat) {g : Lg} {room : Int} {K c : Nat} {S : Nat → Bool} {R : Nat → Rc} (h : SyncI room K c S R g) (hk : k < 8) (b0 : Bool) (hb : (!S k && decide (k < K ∧ k < c)) = b0) : Does Tryz.prog 60 [.pointer (some ⟨lb, 0, none⟩), .int .i64 (k : Int)] [] (lgAt lb g) Lg (fun g' => LSync g k g') (fun _ => .bool b0) (fun g' => lgAt lb g') := by
  obtain ⟨sx, hx⟩ : ∃ x, g.segs[k]? = some x := ⟨_, List.getElem?_eq_getElem (by rw [h.li.len]; exact hk)⟩
  exact (lsync_does lb g k sx h.li.ok h.down hx).mapX (fun _ => g.sync k sx) (fun _ _ => ⟨sx, hx, rfl⟩) (fun _ => by rw [h.waits hx, hb]) (fun _ => rfl)
end Go.Proofs
