/- A part of a proof: what functions of the program compute. -/
import Derived.Test.YtmbfcjffjgecjaaGreatDoorLog8E
import Derived.Test.YtmbfcjffjgecjaaGreatDoorLog12E
import Derived.Test.YtmbfcjffjgecjaaGreatDoorLog13E
import Derived.Test.YtmbfcjffjgecjaaGreatDoorLib2
set_option linter.unusedVariables false
set_option linter.unusedSimpArgs false
set_option maxHeartbeats 0
set_option maxRecDepth 20000
namespace Go.Proofs
open Go.Sl
theorem lsyncR (lb k : Nat) {g : Lg} (h : LgOk g) (hd : g.down = false) (hk : k < 8) : Does Tryz.prog 60 [.pointer (some ⟨lb, 0, none⟩), .int .i64 (k : Int)] [] (lgAt lb g) (Bool × Lg) (fun x => LSync g k x.2 ∧ ∃ sx, g.segs[k]? = some sx ∧ x.1 = decide ((0 : Int) < (sx.d.lines.length : Int) - (sx.d.lasts : Int))) (fun x => .bool x.1) (fun x => lgAt lb x.2) := by
  obtain ⟨sx, hx⟩ : ∃ x, g.segs[k]? = some x := ⟨_, List.getElem?_eq_getElem (by rw [h.len]; exact hk)⟩
  exact (lsync_does lb g k sx h hd hx).mapX (fun _ => (decide ((0 : Int) < (sx.d.lines.length : Int) - (sx.d.lasts : Int)), g.sync k sx)) (fun _ _ => ⟨⟨sx, hx, rfl⟩, sx, hx, rfl⟩) (fun _ => rfl) (fun _ => rfl)
end Go.Proofs
