/- A part of a proof: what functions of the program compute. -/
import Derived.Test.YtmbfcjffjgecjaaGreatDoorLog10E
import Derived.Test.YtmbfcjffjgecjaaGreatDoorLog11E
import Derived.Test.YtmbfcjffjgecjaaGreatDoorLib2
set_option linter.unusedVariables false
set_option linter.unusedSimpArgs false
set_option maxHeartbeats 0
set_option maxRecDepth 20000
namespace Go.Proofs
attribute [local irreducible] Go.Sl.SO Go.Sl.SQ Go.Sl.SR Go.Sl.SC Go.Sl.SX Go.Sl.SY Go.Sl.SZ Go.Sl.SW Go.Sl.eadr Go.Sl.slAt Go.Sl.sqAt Go.Sl.pts Go.Sl.rod Go.Sl.ob Go.Sl.ex Go.Sl.big Go.Sl.pr Go.Sl.tabs Go.Sl.mpAt Go.Sl.mitAt Go.Sl.mitN
open Go.Sl
abbrev tmE (g : Lg) : List HP := [libA, pts g.ob 0 [.int .i64 g.own.room, .slice g.op.1 g.own.lines.length g.op.2, .int .i64 (g.own.lasts : Int)], sqAt false RS g.op.1 g.own.lines.length g.op.2 g.own.lines]
theorem ltrim_does (lb : Nat) (g : Lg) (A : Option Addr) (n c : Nat) (v : List Int) (pos : Nat) (d' : Dk) (h : LgOk g) (hd : g.down = false) (hp : g.trim ≤ pos ∧ pos ≤ g.head) (hgl : g.gone.length ≤ 64) (hs : ∀ i, g.trim ≤ i → i < pos → 0 ≤ (g.rcd i).site ∧ (g.rcd i).site ≤ 63) (hno : (coversB v (vecF g (pos - g.trim) g.trim g.gone) && coversB (vecF g (pos - g.trim) g.trim g.gone) v) = true)
    (hv : ∀ x ∈ v, 0 ≤ x ∧ x ≤ 1048576) (hvl : v.length ≤ 64) (hvc : v.length ≤ c) (hw : g.own.write (txB (OL.t pos v).text) = (0, d')) :
    Does Tryz.prog 52 [.pointer (some ⟨lb, 0, none⟩), .int .i64 (pos : Int), .slice A n c] [libA, slAt RI A n v] (lgAt lb g) (Pl × Pl × List SB) (fun y => SegUp (fun x => x.s.trimAt x.d pos) g.segs 8 y.2.2) (fun _ => .int .i64 0) (fun y => lgAt lb { g with segs := y.2.2, trim := pos, gone := v, gA := y.1, op := y.2.1, own := d'.sync }) := by
  refine Does.of Tryz.call52 Tryz.func52 rfl rfl rfl (all_cons pers_lib (all_cons (pers_slAt _ _ _ _) all_nil)) rfl ?_
  have hb := h.bd
  have hl := h.len
  have hhl : g.head ≤ g.next := by
    unfold Lg.head
    rw [hd, if_neg (by decide)]
    have := (headF_le g (g.next - g.trim) g.trim).2
    omega
  refine SK.know (sl_len (ρ := RI) (A := A) (n := n) (l := v) (by repeat constructor)) ?_
  rintro ⟨rfl, hlim, -⟩
  have h1 : decide ((pos : Int) < (g.trim : Int)) = false := decide_eq_false (by omega)
  have h2 : decide ((g.head : Int) < (pos : Int)) = false := decide_eq_false (by omega)
  have he := lhead_does lb g h
  have lw := lwith_does lb g g.gA.1 g.gone.length g.gA.2 g.gone g.trim pos h hgl (by omega) (Nat.le_refl _) hs
  generalize vecF g (pos - g.trim) g.trim g.gone = w at *
  have vs := fun x : Pl => vsame_does A x.1 v.length c w.length x.2 v w
  rw [hno] at vs
  repeat' (first
 | refine SO.pure rfl rfl rfl ?_
 | refine SO.nil ?_
 | refine SO.load rfl (by repeat constructor) rfl (by rfl) (by exact ⟨rfl, by first | exact fun _ => rfl | exact (fun h => by cases h)⟩) rfl ?_
 | refine SK.seq ?_
 | refine SK.region ?_
 | refine SK.block ?_
 | refine SK.condFP rfl (by first | assumption | (simp only [Go.Sl.bl]; omega)) ?_
 | fail)
  refine SK.regionZ 3 (.item 0 0 (.item 0 1 (.item 0 2 (.item 0 3 (.item 0 4 (.item 0 5 (.item 0 6 (.item 0 7 (.item 0 8 (.item 1 9 (.item 0 10 (.item 0 11 (.item 0 12 (.item 0 13 (.item 0 14 (.item 0 15 (.item 0 19 (.item 0 23 (.item 0 16 (.item 0 20 (.item 0 17 (.item 0 21 (.item 0 18 (.item 0 22 (.item 1 24 (.item 2 25 (.item 0 26 (.item 0 27 (.item 0 28 .nil))))))))))))))))))))))))))))) (lgAt lb g) (by repeat constructor) (by repeat (first | exact .nil | apply PersSub.s | apply PersSub.t | apply PersSub.p | apply PersSub.r | apply PersSub.skip)) (by kernel_rfl) (by kernel_rfl) (fun _ _ _ h => h) (lent_of .here) ?_
  repeat' (first
 | refine SZ.pure rfl rfl rfl ?_
 | refine SZ.pure2 rfl rfl rfl ?_
 | refine SZ.guardYP rfl rfl (by first | rfl | assumption) ?_
 | refine SZ.guardNP rfl rfl rfl (by first | rfl | assumption) ?_
 | refine SZ.load rfl (fun _ h => h) rfl (by rfl) (by exact ⟨rfl, by first | exact fun _ => rfl | exact (fun h => by cases h)⟩) rfl ?_
 | refine SZ.step rfl rfl ?_
 | refine SO.call he rfl rfl rfl (by repeat constructor) (by repeat constructor) rfl (fun x hx => ?_)
 | refine SO.call lw rfl rfl rfl (by repeat constructor) (by repeat constructor) rfl (fun x hx => ?_)
 | refine SO.call (vs x) rfl rfl rfl (by repeat constructor) (by repeat constructor) rfl (fun y hy => ?_)
 | refine SO.nil ?_
 | refine SK.inv ?_
 | refine SW.go (lent_of (by repeat constructor)) ?_
 | (refine SZ.nil (by repeat (first | exact .nil | apply DropP.keep)) ?_))
  have it := itoa_does (pos : Int) (by omega)
  rw [Int.toNat_natCast] at it
  have vt := vtext_does A v.length c v hv hvl hvc
  have l1 := dec_len 6 pos (by omega)
  have l2 := vecX_len hv
  have dw := dwrite_does g.ob g.op g.own (txB (OL.t pos v).text) h.own (by rw [size_txB]; simp [OL.text]; omega)
  have hs0 : (⟨#[116, 32]⟩ ++ txB (Lib.decDigits pos) ++ ⟨#[32]⟩ ++ txB (vecX v) : ByteArray) = txB (OL.t pos v).text := by
    show txB [116, 32] ++ txB (Lib.decDigits pos) ++ txB [32] ++ txB (vecX v) = _
    simp only [txB_app]
    congr 1
    simp [OL.text]
  rw [hw, ← hs0] at dw
  dsimp only at dw
  have dw := dw.mapX (ok' := fun _ => True) (ret' := fun _ => .int .i64 0) (out' := fun y : Pl × Unit => dkAt g.ob y.1 d') (fun p => (p, ())) (fun _ _ => trivial) (fun _ => rfl) (fun _ => rfl)
  have ds := fun p => dsync_does g.ob p d'
  have vc := vclone_does A v.length c v
  generalize hux : txB (Lib.decDigits pos) = uu at *
  generalize hvy : txB (vecX v) = vv at *
  have s1 : uu.size ≤ 7 := by rw [← hux, size_txB]; exact l1
  have s2 : vv.size ≤ 1000 := by rw [← hvy, size_txB]; omega
  have z0 : (⟨#[116, 32]⟩ : ByteArray).size = 2 := rfl
  have z1 : (⟨#[32]⟩ : ByteArray).size = 1 := rfl
  have t1 : (⟨#[116, 32]⟩ ++ uu : ByteArray).size ≤ 9 := by rw [ByteArray.size_append]; omega
  have t2 : (⟨#[116, 32]⟩ ++ uu ++ ⟨#[32]⟩ : ByteArray).size ≤ 10 := by rw [ByteArray.size_append]; omega
  repeat' (first
 | refine SO.call (it) rfl rfl rfl (by repeat constructor) (by repeat constructor) rfl (fun x hx => ?_)
 | refine SO.call (vt) rfl rfl rfl (by repeat constructor) (by repeat constructor) rfl (fun x hx => ?_)
 | refine SO.call (dw) rfl rfl rfl (by repeat constructor) (by repeat constructor) rfl (fun x hx => ?_)
 | refine SO.call (ds _) rfl rfl rfl (by repeat constructor) (by repeat constructor) rfl (fun x hx => ?_)
 | refine SO.call (vc) rfl rfl rfl (by repeat constructor) (by repeat constructor) rfl (fun x hx => ?_)
 | refine SO.pure rfl rfl rfl ?_
 | refine SO.nil ?_
 | refine SO.load rfl (by repeat constructor) rfl (by rfl) (by exact ⟨rfl, by first | exact fun _ => rfl | exact (fun h => by cases h)⟩) rfl ?_
 | refine SK.seq ?_
 | refine SK.region ?_
 | refine SK.condF rfl ?_
 | refine SK.skip ?_
 | refine SK.block ?_
 | refine SK.blk ?_
 | refine SO.store rfl rfl (by repeat constructor) rfl (by rfl) rfl rfl (by rfl) (by rfl) ?_
 | refine SK.regionX 3 (.item 0 0 (.item 0 1 (.item 0 2 (.item 0 3 (.item 0 4 (.item 0 5 (.item 0 6 (.item 0 7 (.item 0 8 (.item 1 9 (.item 0 10 (.item 0 11 (.item 0 12 (.item 0 13 (.item 0 14 (.item 0 15 (.item 0 19 (.item 0 23 (.item 0 16 (.item 0 20 (.item 0 17 (.item 0 21 (.item 0 18 (.item 0 22 (.item 1 24 (.item 2 25 (.item 0 26 (.item 0 27 (.item 0 28 .nil))))))))))))))))))))))))))))) [] .nil (by repeat (first | exact .nil | apply PersSub.s | apply PersSub.t | apply PersSub.p | apply PersSub.r | apply PersSub.skip)) (by kernel_rfl) (by kernel_rfl) (fun _ _ _ h => h) ?_
 | refine SK.regionX 5 (.item 0 0 (.item 0 4 (.item 0 8 (.item 0 1 (.item 0 2 (.item 0 3 (.item 1 5 (.item 0 6 (.item 0 7 (.item 1 9 (.item 0 10 (.item 2 11 (.item 0 12 .nil))))))))))))) (tmE g) (by repeat constructor) (by repeat (first | exact .nil | apply PersSub.s | apply PersSub.t | apply PersSub.p | apply PersSub.r | apply PersSub.skip)) (by kernel_rfl) (by kernel_rfl) (fun _ _ _ h => h) ?_
 | refine SX.tail (by rfl) (by repeat (first | exact .nil | apply DropP.s | apply DropP.t | apply DropP.p | apply DropP.r | apply DropP.keep)) ?_
 | refine SX.pure rfl rfl rfl ?_
 | refine SX.load rfl (by repeat constructor) rfl (by rfl) (by exact ⟨rfl, by first | exact fun _ => rfl | exact (fun h => by cases h)⟩) rfl ?_
 | refine SX.scat rfl rfl rfl (by first | assumption | omega | exact Nat.le_of_ble_eq_true rfl | (simp only [decide_eq_true_eq, decide_eq_false_iff_not] at *; omega)) ?_
 | refine SX.step rfl rfl ?_
 | refine SK.invY ?_
 | refine SY.shareGo (by repeat (first | exact .nil | apply PersSub.s | apply PersSub.t | apply PersSub.p | apply PersSub.r | apply PersSub.skip)) ?_
 | fail)
  rename Pl × Unit => yo
  rename Pl => ya
  rename v.length ≤ ya.2 => hya
  refine SK.share (ρ := RI) (w' := true) (A := ya.1) (n := v.length) (m := ya.2) (l := v) (by repeat constructor) ?_
  refine SK.shift (fun F w hst => hst.ent (Ent.cons (ent_pr (p := v.length ≤ ya.2) hya))) ?_
  refine SK.loop (X := {x : Nat × List SB // x.1 ≤ 8 ∧ SegUp (fun x => x.s.trimAt x.d pos) g.segs x.1 x.2}) (fun x => [(78, .int .i64 (x.1.1 : Int)), (77, .int .i64 (g.segs.length : Int)), (76, .slice g.sA.1 g.segs.length g.sA.2), (1, .int .i64 (pos : Int))]) (fun x => libA :: lgPre lb { g with trim := pos, gone := v, gA := ya, op := yo.1, own := d'.sync } ++ [sbsA x.1.2]) (fun x => 8 - x.1.1) ⟨(0, g.segs), Nat.zero_le _, segUp_zero _ _⟩ (by repeat constructor) (ent_append_of_takes (by repeat constructor)) ?_
  rintro ⟨⟨k, l2⟩, hk20, hc20⟩
  have hk2 : k ≤ 8 := hk20
  have hc2 : SegUp (fun x => x.s.trimAt x.d pos) g.segs k l2 := hc20
  dsimp only
  have hw2 : IntKind.i64.wrap ((k : Int) + 1) = ((k + 1 : Nat) : Int) := by rw [wrap_id (by omega) (by omega)]; omega
  rcases Nat.lt_or_ge k 8 with hlt2 | hge2
  · have hd3 : decide ((k : Int) < (g.segs.length : Int)) = true := decide_eq_true (by omega)
    obtain ⟨sx, hx⟩ : ∃ x, l2[k]? = some x := ⟨_, List.getElem?_eq_getElem (by rw [hc2.len, hl]; exact hlt2)⟩
    have hxg : g.segs[k]? = some sx := by rw [← hc2.old k (Nat.le_refl _)]; exact hx
    have hxb : (g.segs.map (·.sb))[k]? = some sx.sb := by rw [List.getElem?_map, hxg]; rfl
    have hok := h.dk sx (List.mem_of_getElem? hxg)
    have st := strimAt_does sx.sb sx.db sx.mb sx.p sx.s sx.d (pos : Int) hok
    have hx0 := hx
    have hkl2 : k < l2.length := (List.getElem?_eq_some_iff.1 hx).1
    refine SK.sbsOpen (k := k) (by repeat constructor) hx ?_
    repeat' (first
 | refine SO.eloadQ rfl (by repeat constructor) (by assumption) rfl (by rfl) (by exact fun _ => ⟨rfl, fun _ => rfl⟩) rfl (fun hid => ?_)
 | refine SO.call (st) rfl rfl rfl (by repeat constructor) (by repeat constructor) rfl (fun x hx => ?_)
 | refine SO.indexQ rfl rfl (by repeat constructor) rfl rfl rfl rfl (by assumption) ?_
 | refine SO.eloadQ rfl (by repeat constructor) (by assumption) rfl (by rfl) (by exact fun _ => ⟨rfl, fun h => by cases h⟩) rfl (fun hid => ?_)
 | refine SO.pure rfl rfl rfl ?_
 | refine SO.nil ?_
 | refine SK.seq ?_
 | refine SK.region ?_
 | refine SK.skip ?_
 | refine SK.block ?_
 | refine SK.blk ?_
 | refine SK.condTP rfl (by first | assumption | (simp only [Go.Sl.bl]; omega)) ?_
 | fail)
    rename Pl => px
    have hst := segUp_step hc2 hx0 px
    refine SK.inv ⟨⟨(k + 1, l2.set k (sx.upd px (sx.s.trimAt sx.d pos))), by show k + 1 ≤ 8; omega, hst⟩, ?_, ?_, ?_⟩
    · show 8 - (k + 1) < 8 - k
      omega
    · rw [hw2]; repeat constructor
    · apply ent_sbs (l := l2) (k := k) (x := sx.upd px (sx.s.trimAt sx.d pos)) (A := libA :: lgPre lb { g with trim := pos, gone := v, gA := ya, op := yo.1, own := d'.sync }) hkl2
      repeat constructor
  · have hd3 : decide ((k : Int) < (g.segs.length : Int)) = false := decide_eq_false (by omega)
    obtain rfl : k = 8 := by omega
    repeat' (first
 | refine SO.pure rfl rfl rfl ?_
 | refine SO.nil ?_
 | refine SK.seq ?_
 | refine SK.region ?_
 | refine SK.exit rfl ?_
 | refine SK.condFP rfl (by first | assumption | (simp only [Go.Sl.bl]; omega)) ?_
 | fail)
    exact SK.retX (.tmp rfl .nil) (ya, yo.1, l2) hc2 rfl (by simp only [lgAt, hc2.len, hc2.sb]; repeat constructor)
end Go.Proofs
