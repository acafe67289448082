/- A part of a proof: what functions of the program compute. -/
import Derived.Test.YtmbfcjffjgecjaaGreatDoorLog10E
import Derived.Test.YtmbfcjffjgecjaaGreatDoorLog11E
import Derived.Test.YtmbfcjffjgecjaaGreatDoorLib2
set_option linter.unusedVariables false
set_option linter.unusedSimpArgs false
set_option maxHeartbeats 0
set_option maxRecDepth 20000
namespace Go.Proofs
attribute [local irreducible] Go.Sl.SO Go.Sl.SQ Go.Sl.SR Go.Sl.SC Go.Sl.SX Go.Sl.SY Go.Sl.SZ Go.Sl.SW Go.Sl.eadr Go.Sl.slAt Go.Sl.sqAt Go.Sl.pts Go.Sl.rod Go.Sl.ob Go.Sl.ex Go.Sl.big Go.Sl.pr Go.Sl.tabs Go.Sl.mpAt Go.Sl.mitAt Go.Sl.mitN
open Go.Sl
theorem lsize_state (lb : Nat) (g : Lg) (N : Int) (h : LgOk g) (hd : g.down = false) (hN : 1 ≤ N ∧ N ≤ 8) (hh : g.head ≠ g.next) : Does Tryz.prog 68 [.pointer (some ⟨lb, 0, none⟩), .int .i64 N] [] (lgAt lb g) Unit (fun _ => True) (fun _ => .int .i64 12) (fun _ => lgAt lb g) := by
  refine Does.of Tryz.call68 Tryz.func68 rfl rfl rfl all_nil rfl ?_
  have h1 : decide (N < 1) = false := decide_eq_false (by omega)
  have h2 : decide (8 < N) = false := decide_eq_false (by omega)
  have h3 : (!decide ((g.head : Int) = (g.next : Int))) = true := by simp; omega
  have he := lhead_does lb g h
  repeat' (first
 | refine SO.pure rfl rfl rfl ?_
 | refine SO.nil ?_
 | refine SO.guardY rfl rfl ?_
 | refine SO.load rfl (by repeat constructor) rfl (by rfl) (by exact ⟨rfl, by first | exact fun _ => rfl | exact (fun h => by cases h)⟩) rfl ?_
 | refine SK.seq ?_
 | refine SK.region ?_
 | refine SK.block ?_
 | refine SO.guardYP rfl rfl (by first | assumption | (simp only [Go.Sl.bl]; omega)) ?_
 | refine SK.condFP rfl (by first | assumption | (simp only [Go.Sl.bl]; omega)) ?_
 | fail)
  refine SK.regionZ 5 (.item 0 0 (.item 0 2 (.item 0 3 (.item 0 4 (.item 0 5 (.item 1 1 (.item 0 6 (.item 0 7 .nil)))))))) (lgAt lb g) (by repeat constructor) (by repeat (first | exact .nil | apply PersSub.s | apply PersSub.t | apply PersSub.p | apply PersSub.r | apply PersSub.skip)) (by kernel_rfl) (by kernel_rfl) (fun _ _ _ h => h) (lent_of .here) ?_
  repeat' (first
 | refine SZ.pure rfl rfl rfl ?_
 | refine SZ.pure2 rfl rfl rfl ?_
 | refine SZ.load rfl (fun _ h => h) rfl (by rfl) (by exact ⟨rfl, by first | exact fun _ => rfl | exact (fun h => by cases h)⟩) rfl ?_
 | refine SZ.step rfl rfl ?_
 | refine SO.call he rfl rfl rfl (by repeat constructor) (by repeat constructor) rfl (fun x hx => ?_)
 | refine SO.nil ?_
 | refine SK.inv ?_
 | refine SW.go (lent_of (by repeat constructor)) ?_
 | (refine SZ.nil (by repeat (first | exact .nil | apply DropP.keep)) ?_))
  repeat' (first
 | refine SO.pure rfl rfl rfl ?_
 | refine SO.nil ?_
 | refine SK.seq ?_
 | refine SK.region ?_
 | refine SK.condTP rfl (by first | assumption | (simp only [Go.Sl.bl]; omega)) ?_
 | fail)
  exact SK.retX (.tmp rfl .nil) () trivial rfl (by repeat constructor)
abbrev szE (g : Lg) (l : List (Int × Int)) (y : Pl) : List HP := [libA, pts g.ob 0 [.int .i64 g.own.room, .slice g.op.1 g.own.lines.length g.op.2, .int .i64 (g.own.lasts : Int)], sqAt false RS g.op.1 g.own.lines.length g.op.2 g.own.lines]
theorem lsize_does (lb : Nat) (g : Lg) (N : Int) (d' : Dk) (h : LgOk g) (hd : g.down = false) (hN : 1 ≤ N ∧ N ≤ 8) (hh : g.head = g.next) (hk : ∀ x ∈ g.segs, ∀ k ∈ keysM x.s.m, 0 ≤ k ∧ k ≤ 2147483647) (hse : ∀ x ∈ g.segs, (x.s.sealG x.d (g.m.length : Int)).1.2 = 0) (hm : MapOk (g.m ++ [((g.next : Int), N)])) (hml : g.m.length ≤ 99)
    (hw : g.own.write (txB (OL.m (g.m ++ [((g.next : Int), N)])).text) = (0, d')) : Does Tryz.prog 68 [.pointer (some ⟨lb, 0, none⟩), .int .i64 N] [libA] (lgAt lb g) (Pl × Pl × List SB) (fun y => SegUp (fun x => (x.s.sealG x.d (g.m.length : Int)).2) g.segs 8 y.2.2) (fun _ => .int .i64 0) (fun y => lgAt lb { g with segs := y.2.2, m := g.m ++ [((g.next : Int), N)], mA := y.1, op := y.2.1, own := d'.sync }) := by
  refine Does.of Tryz.call68 Tryz.func68 rfl rfl rfl (all_cons pers_lib all_nil) rfl ?_
  have hl := h.len
  have hb := h.bd
  have h1 : decide (N < 1) = false := decide_eq_false (by omega)
  have h2 : decide (8 < N) = false := decide_eq_false (by omega)
  have h3 : (!decide ((g.head : Int) = (g.next : Int))) = false := by simp; omega
  have he := lhead_does lb g h
  repeat' (first
 | refine SO.pure rfl rfl rfl ?_
 | refine SO.nil ?_
 | refine SO.guardY rfl rfl ?_
 | refine SO.load rfl (by repeat constructor) rfl (by rfl) (by exact ⟨rfl, by first | exact fun _ => rfl | exact (fun h => by cases h)⟩) rfl ?_
 | refine SK.seq ?_
 | refine SK.region ?_
 | refine SK.block ?_
 | refine SO.guardYP rfl rfl (by first | assumption | (simp only [Go.Sl.bl]; omega)) ?_
 | refine SK.condFP rfl (by first | assumption | (simp only [Go.Sl.bl]; omega)) ?_
 | fail)
  refine SK.regionZ 5 (.item 0 0 (.item 0 2 (.item 0 3 (.item 0 4 (.item 0 5 (.item 1 1 (.item 0 6 (.item 0 7 .nil)))))))) (lgAt lb g) (by repeat constructor) (by repeat (first | exact .nil | apply PersSub.s | apply PersSub.t | apply PersSub.p | apply PersSub.r | apply PersSub.skip)) (by kernel_rfl) (by kernel_rfl) (fun _ _ _ h => h) (lent_of .here) ?_
  repeat' (first
 | refine SZ.pure rfl rfl rfl ?_
 | refine SZ.pure2 rfl rfl rfl ?_
 | refine SZ.load rfl (fun _ h => h) rfl (by rfl) (by exact ⟨rfl, by first | exact fun _ => rfl | exact (fun h => by cases h)⟩) rfl ?_
 | refine SZ.step rfl rfl ?_
 | refine SO.call he rfl rfl rfl (by repeat constructor) (by repeat constructor) rfl (fun x hx => ?_)
 | refine SO.nil ?_
 | refine SK.inv ?_
 | refine SW.go (lent_of (by repeat constructor)) ?_
 | (refine SZ.nil (by repeat (first | exact .nil | apply DropP.keep)) ?_))
  have ep := lepoch_does lb g
  repeat' (first
 | refine SO.pure rfl rfl rfl ?_
 | refine SO.nil ?_
 | refine SO.load rfl (by repeat constructor) rfl (by rfl) (by exact ⟨rfl, by first | exact fun _ => rfl | exact (fun h => by cases h)⟩) rfl ?_
 | refine SK.seq ?_
 | refine SK.region ?_
 | refine SK.skip ?_
 | refine SK.block ?_
 | refine SK.blk ?_
 | refine SK.condFP rfl (by first | assumption | (simp only [Go.Sl.bl]; omega)) ?_
 | fail)
  refine SK.loop (X := {x : Nat × List SB // x.1 ≤ 8 ∧ SegUp (fun x => (x.s.sealG x.d (g.m.length : Int)).2) g.segs x.1 x.2}) (fun x => [(36, .int .i64 (x.1.1 : Int)), (35, .int .i64 (g.segs.length : Int)), (34, .slice g.sA.1 g.segs.length g.sA.2), (1, .int .i64 N), (0, .pointer (some ⟨lb, 0, none⟩))]) (fun x => libA :: lgPre lb g ++ [sbsA x.1.2]) (fun x => 8 - x.1.1) ⟨(0, g.segs), Nat.zero_le _, segUp_zero _ _⟩ (by repeat constructor) (ent_append_of_takes (by repeat constructor)) ?_
  rintro ⟨⟨k, l2⟩, hk20, hc20⟩
  have hk2 : k ≤ 8 := hk20
  have hc2 : SegUp (fun x => (x.s.sealG x.d (g.m.length : Int)).2) g.segs k l2 := hc20
  dsimp only
  have hw2 : IntKind.i64.wrap ((k : Int) + 1) = ((k + 1 : Nat) : Int) := by rw [wrap_id (by omega) (by omega)]; omega
  rcases Nat.lt_or_ge k 8 with hlt2 | hge2
  · have hd3 : decide ((k : Int) < (g.segs.length : Int)) = true := decide_eq_true (by omega)
    obtain ⟨sx, hx⟩ : ∃ x, l2[k]? = some x := ⟨_, List.getElem?_eq_getElem (by rw [hc2.len, hl]; exact hlt2)⟩
    have hxg : g.segs[k]? = some sx := by rw [← hc2.old k (Nat.le_refl _)]; exact hx
    have hxb : (g.segs.map (·.sb))[k]? = some sx.sb := by rw [List.getElem?_map, hxg]; rfl
    have hmm := List.mem_of_getElem? hxg
    have hok := h.dk sx hmm
    have st := sseal_does sx.sb sx.db sx.mb sx.p sx.s sx.d (g.m.length : Int) hok (hk sx hmm)
    rw [hse sx hmm] at st
    have hx0 := hx
    have hkl2 : k < l2.length := (List.getElem?_eq_some_iff.1 hx).1
    refine SK.sbsOpen (k := k) (by repeat constructor) hx ?_
    repeat' (first
 | refine SO.eloadQ rfl (by repeat constructor) (by assumption) rfl (by rfl) (by exact fun _ => ⟨rfl, fun _ => rfl⟩) rfl (fun hid => ?_)
 | refine SO.call (ep) rfl rfl rfl (by repeat constructor) (by repeat constructor) rfl (fun x hx => ?_)
 | refine SO.call (st) rfl rfl rfl (by repeat constructor) (by repeat constructor) rfl (fun x hx => ?_)
 | refine SO.indexQ rfl rfl (by repeat constructor) rfl rfl rfl rfl (by assumption) ?_
 | refine SO.eloadQ rfl (by repeat constructor) (by assumption) rfl (by rfl) (by exact fun _ => ⟨rfl, fun h => by cases h⟩) rfl (fun hid => ?_)
 | refine SO.pure rfl rfl rfl ?_
 | refine SO.nil ?_
 | refine SK.seq ?_
 | refine SK.region ?_
 | refine SK.condF rfl ?_
 | refine SK.skip ?_
 | refine SK.block ?_
 | refine SK.blk ?_
 | refine SK.condTP rfl (by first | assumption | (simp only [Go.Sl.bl]; omega)) ?_
 | fail)
    rename Pl => px
    have hst := segUp_step hc2 hx0 px
    refine SK.inv ⟨⟨(k + 1, l2.set k (sx.upd px (sx.s.sealG sx.d (g.m.length : Int)).2)), by show k + 1 ≤ 8; omega, hst⟩, ?_, ?_, ?_⟩
    · show 8 - (k + 1) < 8 - k
      omega
    · rw [hw2]; repeat constructor
    · apply ent_sbs (l := l2) (k := k) (x := sx.upd px (sx.s.sealG sx.d (g.m.length : Int)).2) (A := libA :: lgPre lb g) hkl2
      repeat constructor
  · have hd3 : decide ((k : Int) < (g.segs.length : Int)) = false := decide_eq_false (by omega)
    obtain rfl : k = 8 := by omega
    have ma := madd_does g.mA.1 g.m.length g.mA.2 g.m (g.next : Int) N hm
    have ma := ma.mapX (ok' := fun _ => True) (ret' := fun y : Pl × Unit => .tuple #[.slice y.1.1 (g.m.length + 1) y.1.2, .int .i64 0]) (out' := fun y : Pl × Unit => [slAt RSp y.1.1 (g.m.length + 1) (g.m ++ [((g.next : Int), N)])]) (fun p => (p, ())) (fun _ _ => trivial) (fun _ => rfl) (fun _ => rfl)
    repeat' (first
 | refine SO.call (ma) rfl rfl rfl (by repeat constructor) (by repeat constructor) rfl (fun x hx => ?_)
 | refine SO.pure rfl rfl rfl ?_
 | refine SO.nil ?_
 | refine SK.seq ?_
 | refine SK.region ?_
 | refine SK.condT rfl ?_
 | refine SK.exit rfl ?_
 | refine SK.condFP rfl (by first | assumption | (simp only [Go.Sl.bl]; omega)) ?_
 | refine SK.regionX 5 (.item 0 0 (.item 0 2 (.item 0 3 (.item 0 4 (.item 0 5 (.item 1 1 (.item 0 6 (.item 0 7 .nil)))))))) [] .nil (by repeat (first | exact .nil | apply PersSub.s | apply PersSub.t | apply PersSub.p | apply PersSub.r | apply PersSub.skip)) (by kernel_rfl) (by kernel_rfl) (fun _ _ _ h => h) ?_
 | refine SK.regionX 15 (.item 0 0 (.item 0 4 (.item 0 8 (.item 0 1 (.item 0 5 (.item 0 2 (.item 0 6 (.item 0 3 (.item 0 7 (.item 2 9 (.item 0 10 (.item 0 11 (.item 0 12 (.item 0 13 (.item 0 14 .nil))))))))))))))) [] .nil (by repeat (first | exact .nil | apply PersSub.s | apply PersSub.t | apply PersSub.p | apply PersSub.r | apply PersSub.skip)) (by kernel_rfl) (by kernel_rfl) (fun _ _ _ h => h) ?_
 | refine SX.tail (by rfl) (by repeat (first | exact .nil | apply DropP.s | apply DropP.t | apply DropP.p | apply DropP.r | apply DropP.keep)) ?_
 | refine SX.pure rfl rfl rfl ?_
 | refine SX.load rfl (by repeat constructor) rfl (by rfl) (by exact ⟨rfl, by first | exact fun _ => rfl | exact (fun h => by cases h)⟩) rfl ?_
 | refine SX.step rfl rfl ?_
 | refine SK.invY ?_
 | refine SY.shareGo (by repeat (first | exact .nil | apply PersSub.s | apply PersSub.t | apply PersSub.p | apply PersSub.r | apply PersSub.skip)) ?_
 | fail)
    rename Pl × Unit => ym
    have el : (g.m ++ [((g.next : Int), N)]).length = g.m.length + 1 := by rw [List.length_append]; rfl
    have mt := mtext_does ym.1.1 (g.m.length + 1) ym.1.2 (g.m ++ [((g.next : Int), N)]) hm.bd (by omega)
    have hml2 := map_len hm.bd
    have dw := dwrite_does g.ob g.op g.own (txB (OL.m (g.m ++ [((g.next : Int), N)])).text) h.own (by rw [size_txB]; simp only [OL.text, List.length_append, List.length_cons, List.length_nil]; omega)
    have hs0 : (⟨#[109, 32]⟩ ++ txB (mapX (g.m ++ [((g.next : Int), N)])) : ByteArray) = txB (OL.m (g.m ++ [((g.next : Int), N)])).text := by
      show txB [109, 32] ++ txB (mapX (g.m ++ [((g.next : Int), N)])) = _
      rw [txB_app]; rfl
    rw [hw, ← hs0] at dw
    dsimp only at dw
    have ds := fun p => dsync_does g.ob p d'
    generalize hvy : txB (mapX (g.m ++ [((g.next : Int), N)])) = vv at *
    have s2 : vv.size ≤ 2000 := by rw [← hvy, size_txB]; omega
    have z0 : (⟨#[109, 32]⟩ : ByteArray).size = 2 := rfl
    repeat' (first
 | refine SO.call (mt) rfl rfl rfl (by repeat constructor) (by repeat constructor) rfl (fun x hx => ?_)
 | refine SO.call (dw) rfl rfl rfl (by repeat constructor) (by repeat constructor) rfl (fun x hx => ?_)
 | refine SO.call (ds _) rfl rfl rfl (by repeat constructor) (by repeat constructor) rfl (fun x hx => ?_)
 | refine SO.pure rfl rfl rfl ?_
 | refine SO.nil ?_
 | refine SO.load rfl (by repeat constructor) rfl (by rfl) (by exact ⟨rfl, by first | exact fun _ => rfl | exact (fun h => by cases h)⟩) rfl ?_
 | refine SK.seq ?_
 | refine SK.region ?_
 | refine SK.condF rfl ?_
 | refine SK.skip ?_
 | refine SO.store rfl rfl (by repeat constructor) rfl (by rfl) rfl rfl (by rfl) (by rfl) ?_
 | refine SK.regionX 5 (.item 0 0 (.item 0 2 (.item 0 3 (.item 0 4 (.item 0 5 (.item 1 1 (.item 0 6 (.item 0 7 .nil)))))))) [] .nil (by repeat (first | exact .nil | apply PersSub.s | apply PersSub.t | apply PersSub.p | apply PersSub.r | apply PersSub.skip)) (by kernel_rfl) (by kernel_rfl) (fun _ _ _ h => h) ?_
 | refine SK.regionX 15 (.item 0 0 (.item 0 4 (.item 0 8 (.item 0 1 (.item 0 5 (.item 0 2 (.item 0 6 (.item 0 3 (.item 0 7 (.item 2 9 (.item 0 10 (.item 0 11 (.item 0 12 (.item 0 13 (.item 0 14 .nil))))))))))))))) [] .nil (by repeat (first | exact .nil | apply PersSub.s | apply PersSub.t | apply PersSub.p | apply PersSub.r | apply PersSub.skip)) (by kernel_rfl) (by kernel_rfl) (fun _ _ _ h => h) ?_
 | refine SK.regionX 17 (.item 0 0 (.item 0 4 (.item 0 1 (.item 0 2 (.item 0 3 (.item 1 5 (.item 0 6 (.item 2 7 (.item 0 8 .nil))))))))) (szE g g.m ym.1) (by repeat constructor) (by repeat (first | exact .nil | apply PersSub.s | apply PersSub.t | apply PersSub.p | apply PersSub.r | apply PersSub.skip)) (by kernel_rfl) (by kernel_rfl) (fun _ _ _ h => h) ?_
 | refine SX.tail (by rfl) (by repeat (first | exact .nil | apply DropP.s | apply DropP.t | apply DropP.p | apply DropP.r | apply DropP.keep)) ?_
 | refine SX.pure rfl rfl rfl ?_
 | refine SX.load rfl (by repeat constructor) rfl (by rfl) (by exact ⟨rfl, by first | exact fun _ => rfl | exact (fun h => by cases h)⟩) rfl ?_
 | refine SX.scat rfl rfl rfl (by first | assumption | omega | exact Nat.le_of_ble_eq_true rfl | (simp only [decide_eq_true_eq, decide_eq_false_iff_not] at *; omega)) ?_
 | refine SX.step rfl rfl ?_
 | refine SK.invY ?_
 | refine SY.shareGo (by repeat (first | exact .nil | apply PersSub.s | apply PersSub.t | apply PersSub.p | apply PersSub.r | apply PersSub.skip)) ?_
 | fail)
    rename Pl => yo
    exact SK.retX (.tmp rfl .nil) (ym.1, yo, l2) hc2 rfl (by simp only [lgAt, el, hc2.len, hc2.sb]; repeat constructor)
end Go.Proofs
