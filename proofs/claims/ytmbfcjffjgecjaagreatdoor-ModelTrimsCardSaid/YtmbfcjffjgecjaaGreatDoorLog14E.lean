/- A part of a proof: what functions of the program compute. -/
import Derived.Test.YtmbfcjffjgecjaaGreatDoorLog8E
import Derived.Test.YtmbfcjffjgecjaaGreatDoorLog12E
import Derived.Test.YtmbfcjffjgecjaaGreatDoorLog13E
import Derived.Test.YtmbfcjffjgecjaaGreatDoorLib2
set_option linter.unusedVariables false
set_option linter.unusedSimpArgs false
set_option maxHeartbeats 0
set_option maxRecDepth 20000
namespace Go.Proofs
open Go.Sl
theorem lsyncR (lb k : Nat) {g : Lg} (h : LgOk g) (hd : g.down = false) (hk : k < 8) : Does Tryz.prog 60 [.pointer (some ⟨lb, 0, none⟩), .int .i64 (k : Int)] [] (lgAt lb g) (Bool × Lg) (fun x => LSync g k x.2 ∧ ∃ sx, g.segs[k]? = some sx ∧ x.1 = decide ((0 : Int) < (sx.d.lines.length : Int) - (sx.d.lasts : Int))) (fun x => .bool x.1) (fun x => lgAt lb x.2) := by
  obtain ⟨sx, hx⟩ : ∃ x, g.segs[k]? = some x := ⟨_, List.getElem?_eq_getElem (by rw [h.len]; exact hk)⟩
  exact (lsync_does lb g k sx h hd hx).mapX (fun _ => (decide ((0 : Int) < (sx.d.lines.length : Int) - (sx.d.lasts : Int)), g.sync k sx)) (fun _ _ => ⟨⟨sx, hx, rfl⟩, sx, hx, rfl⟩) (fun _ => rfl) (fun _ => rfl)
theorem lrecR (lb : Nat) {g : Lg} {room : Int} {n : Nat} {R : Nat → Rc} {keep : List Int} {l : List SB} {ls : List OL} (p : Pl) (h : LI room n R g) (hc : SegCr keep g.segs 8 l) (ho : OwnI g ls) (hroom : (128 * n + 128 : Int) ≤ room) (hn : n < 7000)
    (hlast : ∀ nx, g.trim ≤ nx → (nx = g.next ∨ keptP g keep nx = false) → ∀ y, g.m[g.m.length - 1]? = some y → y.1 ≤ (nx : Int)) :
    Does Tryz.prog 55 [.pointer (some ⟨lb, 0, none⟩)] [libA, tabs 4 5] (lgAt lb (g.fell p l)) Lg (fun g' => LBack room (n + 1) R g keep g') (fun _ => .int .i64 0) (fun g' => lgAt lb g') := by
  obtain ⟨nx, h1, h2, h3, h4, h5, h6, h7, h8⟩ := li_recover h hc hn hroom
  obtain ⟨v', e1, e2⟩ := ho.end_
  have hb := h.bd
  have hoc := own_crash ho
  have hok : LgOk (g.fell p l) := ⟨h.m, h7.len, by show (g.own.crash 0).Ok; rw [hoc]; exact h.own, fun x hx => (h7.ply x hx).ok, by show g.trim ≤ g.next ∧ g.next ≤ 1000000; omega⟩
  have s := lrecover_does lb (g.fell p l) ls v' nx hok rfl (by show (g.own.crash 0).lines = _; rw [hoc]; exact ho.lines) ho.ok e1 h7 h5 h6 ⟨h1, by omega⟩ (back_len h hc h7)
  refine s.mapX (fun y => { (g.fell p l) with segs := y.2.2, mA := y.1, gA := y.2.1, gone := v', next := nx, down := false }) (fun y hy => ?_) (fun _ => rfl) (fun _ => rfl)
  obtain ⟨r1, r2⟩ := h8 y.2.2 { (g.fell p l) with segs := y.2.2, mA := y.1, gA := y.2.1, gone := v', next := nx, down := false } hy (hlast nx h1 h4) rfl rfl rfl rfl (by show (g.own.crash 0).Ok; rw [hoc]; exact h.own)
  exact ⟨r1, r2, rfl, rfl, rfl, e2, hoc, ⟨h1, h2⟩, h3, h4⟩
theorem ltrimR (lb : Nat) {g : Lg} {room : Int} {n : Nat} {R : Nat → Rc} {A : Option Addr} {m c pos : Nat} {v : List Int} (h : LI room n R g) (hd : g.down = false) (hp : g.trim ≤ pos ∧ pos ≤ g.head) (hgl : g.gone.length ≤ 64) (hsame : (coversB v (vecF g (pos - g.trim) g.trim g.gone) && coversB (vecF g (pos - g.trim) g.trim g.gone) v) = true)
    (hv : ∀ x ∈ v, 0 ≤ x ∧ x ≤ 1048576) (hvl : v.length ≤ 8) (hvc : v.length ≤ c) (hr : (usedL g.own.lines : Int) + 10 + 8 * v.length + 1 ≤ g.own.room) :
    Does Tryz.prog 52 [.pointer (some ⟨lb, 0, none⟩), .int .i64 (pos : Int), .slice A m c] [libA, slAt RI A m v] (lgAt lb g) Lg (fun g' => LTrim g pos v g') (fun _ => .int .i64 0) (fun g' => lgAt lb g') := by
  have hb := h.bd
  have hhl : g.head ≤ g.next := by
    unfold Lg.head
    rw [hd, if_neg (by decide)]
    have := (headF_le g (g.next - g.trim) g.trim).2
    omega
  have hx := tX_len (q := pos) (by omega) hv
  have hw := ol_write (d := g.own) (.t pos v) (by omega)
  have s := ltrim_does lb g A m c v pos _ h.ok hd hp hgl (fun i h1 h2 => h.sites i h1 (by omega)) hsame hv (by omega) hvc hw
  refine s.mapX (fun y => { g with segs := y.2.2, trim := pos, gone := v, gA := y.1, op := y.2.1, own := (g.own.write (txB (OL.t pos v).text)).2.sync }) (fun y hy => ⟨y.2.2, y.1, y.2.1, hy, rfl⟩) (fun _ => rfl) (fun y => by rw [hw])
end Go.Proofs
