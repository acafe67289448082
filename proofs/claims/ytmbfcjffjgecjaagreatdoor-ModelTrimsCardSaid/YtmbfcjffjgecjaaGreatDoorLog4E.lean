/- A part of a proof: what functions of the program compute. -/
import Derived.Test.YtmbfcjffjgecjaaGreatDoorLog3E
import Derived.Test.YtmbfcjffjgecjaaGreatDoorLib2
set_option linter.unusedVariables false
set_option linter.unusedSimpArgs false
set_option maxHeartbeats 0
set_option maxRecDepth 20000
namespace Go.Proofs
attribute [local irreducible] Go.Sl.SO Go.Sl.SQ Go.Sl.SR Go.Sl.SC Go.Sl.SX Go.Sl.SY Go.Sl.SZ Go.Sl.SW Go.Sl.eadr Go.Sl.slAt Go.Sl.sqAt Go.Sl.pts Go.Sl.rod Go.Sl.ob Go.Sl.ex Go.Sl.big Go.Sl.pr Go.Sl.tabs Go.Sl.mpAt Go.Sl.mitAt Go.Sl.mitN
open Go.Sl
theorem lwith_does (lb : Nat) (g : Lg) (A : Option Addr) (n c : Nat) (v : List Int) (p0 q : Nat) (h : LgOk g) (hv : v.length ≤ 64) (hq : q ≤ g.next) (ht : g.trim ≤ p0) (hs : ∀ i, p0 ≤ i → i < q → 0 ≤ (g.rcd i).site ∧ (g.rcd i).site ≤ 63) : Does Tryz.prog 86 [.pointer (some ⟨lb, 0, none⟩), .slice A n c, .int .i64 (p0 : Int), .int .i64 (q : Int)] [slAt RI A n v] (lgAt lb g) Pl (fun _ => True) (fun x => .slice x.1 (vecF g (q - p0) p0 v).length x.2) (fun x => slAt RI x.1 (vecF g (q - p0) p0 v).length (vecF g (q - p0) p0 v) :: lgAt lb g) := by
  refine Does.of Tryz.call86 Tryz.func86 rfl rfl rfl (all_cons (pers_slAt _ _ _ _) all_nil) rfl ?_
  have hb := h.bd
  refine SK.know (sl_len (ρ := RI) (A := A) (n := n) (l := v) (by repeat constructor)) ?_
  rintro ⟨rfl, hlim, -⟩
  repeat' (first
 | refine SO.pure rfl rfl rfl ?_
 | refine SO.nil ?_
 | refine SK.seq ?_
 | refine SK.region ?_
 | refine SK.block ?_
 | fail)
  refine SK.loop (X := {x : Nat × Pl × List Int // p0 ≤ x.1 ∧ (x.1 ≤ q ∨ x.1 = p0) ∧ x.2.2.length ≤ 64 ∧ vecF g (q - x.1) x.1 x.2.2 = vecF g (q - p0) p0 v}) (fun x => [(9, .int .i64 (x.1.1 : Int)), (3, .int .i64 (q : Int)), (1, .slice x.1.2.1.1 x.1.2.2.length x.1.2.1.2), (0, .pointer (some ⟨lb, 0, none⟩))]) (fun x => slAt RI x.1.2.1.1 x.1.2.2.length x.1.2.2 :: lgAt lb g) (fun x => q - x.1.1) ⟨(p0, (A, c), v), Nat.le_refl _, .inr rfl, hv, rfl⟩ (by repeat constructor) (ent_append_of_takes (by repeat constructor)) ?_
  rintro ⟨⟨p, ⟨A1, c1⟩, w⟩, hp1, hp2, hp3, hp4⟩
  dsimp only at hp1 hp2 hp3 hp4 ⊢
  rcases Nat.lt_or_ge p q with hlt | hge
  · have hd2 : decide ((p : Int) < (q : Int)) = true := decide_eq_true (by omega)
    have hw : IntKind.i64.wrap ((p : Int) + 1) = ((p + 1 : Nat) : Int) := by rw [wrap_id (by omega) (by omega)]; omega
    obtain ⟨sx, hx⟩ := h.at_ (pos := (p : Int)) (by omega)
    have sg := lseg_does lb g (p : Int) sx h (by omega) hx
    have gt := sget_does sx.sb sx.db sx.mb sx.s (p : Int)
    have hx0 := hx
    have hrc : g.rcd p = (sx.s.get p).1 := by unfold Lg.rcd; rw [hx]
    have hsr := hs p hp1 hlt
    have hstep : vecF g (q - p) p w = vecF g (q - (p + 1)) (p + 1) (withI w (g.rcd p).site.toNat (g.rcd p).seq) := by
      obtain ⟨k, hk⟩ : ∃ k, q - p = k + 1 := ⟨q - p - 1, by omega⟩
      rw [hk, show q - (p + 1) = k by omega]; rfl
    have vw := vwith_does A1 w.length c1 w (g.rcd p).site.toNat (g.rcd p).seq (by omega) (by omega)
    rw [show (((g.rcd p).site.toNat : Nat) : Int) = (g.rcd p).site by omega, hrc] at vw
    have hwl : (withI w (sx.s.get p).1.site.toNat (sx.s.get p).1.seq).length ≤ 64 := by
      rw [withI_len, ← hrc]; omega
    rw [hrc] at hstep
    generalize (sx.s.get (p : Int)).1 = rr at *
    refine SK.sbsOpen (k := stripeM g.m p) (by repeat constructor) hx ?_
    repeat' (first
 | refine SO.call (sg) rfl rfl rfl (by repeat constructor) (by repeat constructor) rfl (fun x hx => ?_)
 | refine SO.call (gt) rfl rfl rfl (by repeat constructor) (by repeat constructor) rfl (fun x hx => ?_)
 | refine SO.call (vw) rfl rfl rfl (by repeat constructor) (by repeat constructor) rfl (fun x hx => ?_)
 | refine SO.pure rfl rfl rfl ?_
 | refine SO.nil ?_
 | refine SO.load rfl (by repeat constructor) rfl (by rfl) (by exact ⟨rfl, by first | exact fun _ => rfl | exact (fun h => by cases h)⟩) rfl ?_
 | refine SK.seq ?_
 | refine SK.region ?_
 | refine SK.skip ?_
 | refine SK.block ?_
 | refine SK.blk ?_
 | refine SO.alloc rfl rfl rfl (fun b => ?_)
 | refine SO.storeW rfl rfl (by repeat constructor) rfl (by rfl) (by rfl) (by rfl) ?_
 | refine SK.condTP rfl (by first | assumption | (simp only [Go.Sl.bl]; omega)) ?_
 | fail)
    rename Pl => y
    obtain ⟨A2, c2⟩ := y
    dsimp only
    refine SK.inv ⟨⟨(p + 1, (A2, c2), withI w rr.site.toNat rr.seq), by show p0 ≤ p + 1; omega, .inl (by show p + 1 ≤ q; omega), hwl, by show vecF g (q - (p + 1)) (p + 1) _ = _; rw [← hstep]; exact hp4⟩, ?_, ?_, ?_⟩
    · show q - (p + 1) < q - p
      omega
    · rw [hw]; repeat constructor
    · exact ent_lg1 hx0 (by repeat constructor)
  · have hd2 : decide ((p : Int) < (q : Int)) = false := decide_eq_false (by omega)
    repeat' (first
 | refine SO.pure rfl rfl rfl ?_
 | refine SO.nil ?_
 | refine SK.seq ?_
 | refine SK.region ?_
 | refine SK.exit rfl ?_
 | refine SK.condFP rfl (by first | assumption | (simp only [Go.Sl.bl]; omega)) ?_
 | fail)
    have hz : q - p = 0 := by omega
    rw [hz] at hp4
    have hp5 : w = vecF g (q - p0) p0 v := hp4
    rw [← hp5]
    exact SK.retX (.tmp rfl .nil) (A1, c1) trivial rfl (by repeat constructor)
theorem lvec_does (lb : Nat) (g : Lg) (h : LgOk g) (hd : g.down = false) (hv : g.gone.length ≤ 64) (hs : ∀ i, g.trim ≤ i → i < g.next → 0 ≤ (g.rcd i).site ∧ (g.rcd i).site ≤ 63) : Does Tryz.prog 25 [.pointer (some ⟨lb, 0, none⟩)] [] (lgAt lb g) Pl (fun _ => True) (fun x => .slice x.1 (vecF g (g.head - g.trim) g.trim g.gone).length x.2) (fun x => slAt RI x.1 (vecF g (g.head - g.trim) g.trim g.gone).length (vecF g (g.head - g.trim) g.trim g.gone) :: lgAt lb g) := by
  refine Does.of Tryz.call25 Tryz.func25 rfl rfl rfl all_nil rfl ?_
  have hb := h.bd
  have hh : g.head ≤ g.next := by
    unfold Lg.head
    rw [hd, if_neg (by decide)]
    have := (headF_le g (g.next - g.trim) g.trim).2
    omega
  have he := lhead_does lb g h
  have lw := lwith_does lb g g.gA.1 g.gone.length g.gA.2 g.gone g.trim g.head h hv hh (Nat.le_refl _) (fun i h1 h2 => hs i h1 (by omega))
  repeat' (first
 | refine SO.pure rfl rfl rfl ?_
 | refine SO.nil ?_
 | refine SO.load rfl (by repeat constructor) rfl (by rfl) (by exact ⟨rfl, by first | exact fun _ => rfl | exact (fun h => by cases h)⟩) rfl ?_
 | refine SK.seq ?_
 | refine SK.region ?_
 | refine SK.skip ?_
 | refine SK.condFP rfl (by first | assumption | (simp only [Go.Sl.bl]; omega)) ?_
 | fail)
  refine SK.regionZ 3 (.item 0 0 (.item 0 1 (.item 0 5 (.item 0 9 (.item 0 2 (.item 0 6 (.item 0 3 (.item 0 7 (.item 0 4 (.item 0 8 (.item 1 10 (.item 2 11 (.item 0 12 .nil))))))))))))) (lgAt lb g) (by repeat constructor) (by repeat (first | exact .nil | apply PersSub.s | apply PersSub.t | apply PersSub.p | apply PersSub.r | apply PersSub.skip)) (by kernel_rfl) (by kernel_rfl) (fun _ _ _ h => h) (lent_of .here) ?_
  repeat' (first
 | refine SZ.pure rfl rfl rfl ?_
 | refine SZ.load rfl (fun _ h => h) rfl (by rfl) (by exact ⟨rfl, by first | exact fun _ => rfl | exact (fun h => by cases h)⟩) rfl ?_
 | refine SZ.step rfl rfl ?_
 | refine SO.call he rfl rfl rfl (by repeat constructor) (by repeat constructor) rfl (fun x hx => ?_)
 | refine SO.call lw rfl rfl rfl (by repeat constructor) (by repeat constructor) rfl (fun x hx => ?_)
 | refine SO.nil ?_
 | refine SK.inv ?_
 | refine SW.go (lent_of (by repeat constructor)) ?_
 | (refine SZ.nil (by repeat (first | exact .nil | apply DropP.keep)) ?_))
  rename Pl => y
  exact SK.retX (.tmp rfl .nil) y trivial rfl (by repeat constructor)
theorem ltrimmed_does (lb : Nat) (g : Lg) (hd : g.down = false) : Does Tryz.prog 67 [.pointer (some ⟨lb, 0, none⟩)] [] (lgAt lb g) Pl (fun _ => True) (fun x => .tuple #[.int .i64 (g.trim : Int), .slice x.1 g.gone.length x.2]) (fun x => slAt RI x.1 g.gone.length g.gone :: lgAt lb g) := by
  refine Does.of Tryz.call67 Tryz.func67 rfl rfl rfl all_nil rfl ?_
  have vc := vclone_does g.gA.1 g.gone.length g.gA.2 g.gone
  repeat' (first
 | refine SO.call (vc) rfl rfl rfl (by repeat constructor) (by repeat constructor) rfl (fun x hx => ?_)
 | refine SO.pure rfl rfl rfl ?_
 | refine SO.nil ?_
 | refine SO.load rfl (by repeat constructor) rfl (by rfl) (by exact ⟨rfl, by first | exact fun _ => rfl | exact (fun h => by cases h)⟩) rfl ?_
 | refine SK.seq ?_
 | refine SK.region ?_
 | refine SK.skip ?_
 | refine SK.condFP rfl (by first | assumption | (simp only [Go.Sl.bl]; omega)) ?_
 | refine SK.regionX 3 (.item 0 0 (.item 0 4 (.item 0 1 (.item 0 5 (.item 0 2 (.item 0 6 (.item 0 3 (.item 0 7 (.item 1 8 (.item 0 9 (.item 0 10 .nil))))))))))) [] .nil (by repeat (first | exact .nil | apply PersSub.s | apply PersSub.t | apply PersSub.p | apply PersSub.r | apply PersSub.skip)) (by kernel_rfl) (by kernel_rfl) (fun _ _ _ h => h) ?_
 | refine SX.tail (by rfl) (by repeat (first | exact .nil | apply DropP.s | apply DropP.t | apply DropP.p | apply DropP.r | apply DropP.keep)) ?_
 | refine SX.pure rfl rfl rfl ?_
 | refine SX.load rfl (by repeat constructor) rfl (by rfl) (by exact ⟨rfl, by first | exact fun _ => rfl | exact (fun h => by cases h)⟩) rfl ?_
 | refine SX.step rfl rfl ?_
 | refine SK.invY ?_
 | refine SY.shareGo (by repeat (first | exact .nil | apply PersSub.s | apply PersSub.t | apply PersSub.p | apply PersSub.r | apply PersSub.skip)) ?_
 | fail)
  rename Pl => y
  refine SK.share (ρ := RI) (w' := true) (A := y.1) (n := g.gone.length) (m := y.2) (l := g.gone) (by repeat constructor) ?_
  exact SK.retX (.tmp rfl (.tmp rfl .nil)) y trivial rfl (by repeat constructor)
theorem lsync_does (lb : Nat) (g : Lg) (k : Nat) (sx : SB) (h : LgOk g) (hd : g.down = false) (hx : g.segs[k]? = some sx) : Does Tryz.prog 60 [.pointer (some ⟨lb, 0, none⟩), .int .i64 (k : Int)] [] (lgAt lb g) Unit (fun _ => True) (fun _ => .bool (decide ((0 : Int) < (sx.d.lines.length : Int) - (sx.d.lasts : Int)))) (fun _ => lgAt lb (g.sync k sx)) := by
  refine Does.of Tryz.call60 Tryz.func60 rfl rfl rfl all_nil rfl ?_
  obtain ⟨hk, -⟩ := List.getElem?_eq_some_iff.1 hx
  have hl := h.len
  have hxb : (g.segs.map (·.sb))[k]? = some sx.sb := by rw [List.getElem?_map, hx]; rfl
  have h1 : decide ((k : Int) < 0) = false := decide_eq_false (by omega)
  have h2 : decide ((g.segs.length : Int) ≤ (k : Int)) = false := decide_eq_false (by omega)
  have dk := disk_does sx.sb sx.db sx.mb sx.s
  have dw := dwaits_does sx.db sx.p sx.d (h.dk sx (List.mem_of_getElem? hx))
  have ds := dsync_does sx.db sx.p sx.d
  have hx0 := hx
  refine SK.sbsOpen (k := k) (by repeat constructor) hx ?_
  repeat' (first
 | refine SO.eloadQ rfl (by repeat constructor) (by assumption) rfl (by rfl) (by exact fun _ => ⟨rfl, fun _ => rfl⟩) rfl (fun hid => ?_)
 | refine SO.call (dk) rfl rfl rfl (by repeat constructor) (by repeat constructor) rfl (fun x hx => ?_)
 | refine SO.call (dw) rfl rfl rfl (by repeat constructor) (by repeat constructor) rfl (fun x hx => ?_)
 | refine SO.call (ds) rfl rfl rfl (by repeat constructor) (by repeat constructor) rfl (fun x hx => ?_)
 | refine SO.indexQ rfl rfl (by repeat constructor) rfl rfl rfl rfl (by assumption) ?_
 | refine SO.eloadQ rfl (by repeat constructor) (by assumption) rfl (by rfl) (by exact fun _ => ⟨rfl, fun h => by cases h⟩) rfl (fun hid => ?_)
 | refine SO.pure rfl rfl rfl ?_
 | refine SO.nil ?_
 | refine SO.guardY rfl rfl ?_
 | refine SO.load rfl (by repeat constructor) rfl (by rfl) (by exact ⟨rfl, by first | exact fun _ => rfl | exact (fun h => by cases h)⟩) rfl ?_
 | refine SK.seq ?_
 | refine SK.region ?_
 | refine SK.skip ?_
 | refine SO.guardYP rfl rfl (by first | assumption | (simp only [Go.Sl.bl]; omega)) ?_
 | refine SK.condFP rfl (by first | assumption | (simp only [Go.Sl.bl]; omega)) ?_
 | fail)
  refine SK.sbsShut (k := k) (sx.upd sx.p (sx.s, sx.d.sync)) hk (by repeat constructor) ?_
  exact SK.retX (.tmp rfl .nil) () trivial rfl (by simp only [lgAt, Lg.sync, List.length_set, sb_map hx0]; repeat constructor)
theorem lcrash_does (lb : Nat) (g : Lg) (A : Option Addr) (n c : Nat) (keep : List Int) (h : LgOk g) (hkb : ∀ x ∈ keep, x ≤ 9223372036854775807) : Does Tryz.prog 54 [.pointer (some ⟨lb, 0, none⟩), .slice A n c] [slAt RI A n keep] (lgAt lb g) (Pl × List SB) (fun x => SegCr keep g.segs 8 x.2) (fun _ => .tuple #[]) (fun x => lgAt lb (g.fell x.1 x.2)) := by
  refine Does.of Tryz.call54 Tryz.func54 rfl rfl rfl (all_cons (pers_slAt _ _ _ _) all_nil) rfl ?_
  refine SK.know (sl_len (ρ := RI) (A := A) (n := n) (l := keep) (by repeat constructor)) ?_
  rintro ⟨rfl, hlim, -⟩
  have hl := h.len
  repeat' (first
 | refine SO.pure rfl rfl rfl ?_
 | refine SO.nil ?_
 | refine SO.load rfl (by repeat constructor) rfl (by rfl) (by exact ⟨rfl, by first | exact fun _ => rfl | exact (fun h => by cases h)⟩) rfl ?_
 | refine SK.seq ?_
 | refine SK.region ?_
 | refine SK.block ?_
 | fail)
  refine SK.loop (X := {x : Nat × List SB // x.1 ≤ 8 ∧ SegCr keep g.segs x.1 x.2}) (fun x => [(12, .int .i64 (x.1.1 : Int)), (11, .int .i64 (g.segs.length : Int)), (10, .slice g.sA.1 g.segs.length g.sA.2), (1, .slice A keep.length c), (0, .pointer (some ⟨lb, 0, none⟩))]) (fun x => slAt RI A keep.length keep :: lgPre lb g ++ [sbsA x.1.2]) (fun x => 8 - x.1.1) ⟨(0, g.segs), Nat.zero_le _, segCr_zero _ _⟩ (by repeat constructor) (ent_append_of_takes (by repeat constructor)) ?_
  rintro ⟨⟨k, l⟩, hk0, hc0⟩
  have hk : k ≤ 8 := hk0
  have hc : SegCr keep g.segs k l := hc0
  dsimp only
  have hw : IntKind.i64.wrap ((k : Int) + 1) = ((k + 1 : Nat) : Int) := by rw [wrap_id (by omega) (by omega)]; omega
  rcases Nat.lt_or_ge k 8 with hlt | hge
  · have hd2 : decide ((k : Int) < (g.segs.length : Int)) = true := decide_eq_true (by omega)
    obtain ⟨sx, hx⟩ : ∃ x, l[k]? = some x := ⟨_, List.getElem?_eq_getElem (by rw [hc.len, hl]; exact hlt)⟩
    have hxg : g.segs[k]? = some sx := by rw [← hc.old k (Nat.le_refl _)]; exact hx
    have hxb : (g.segs.map (·.sb))[k]? = some sx.sb := by rw [List.getElem?_map, hxg]; rfl
    have hok := h.dk sx (List.mem_of_getElem? hxg)
    have dk := disk_does sx.sb sx.db sx.mb sx.s
    have hx0 := hx
    have dc := fun k hk => dcrash_does sx.db sx.p sx.d k hok hk
    refine SK.sbsOpen (k := k) (by repeat constructor) hx ?_
    rcases Nat.lt_or_ge k keep.length with hkl | hkl
    · have hd3 : decide ((k : Int) < (keep.length : Int)) = true := decide_eq_true (by omega)
      obtain ⟨v, hv⟩ : ∃ v, keep[k]? = some v := ⟨_, List.getElem?_eq_getElem hkl⟩
      have dc := dc v (hkb v (List.mem_of_getElem? hv))
      repeat' (first
 | refine SO.eloadQ rfl (by repeat constructor) (by assumption) rfl (by rfl) (by exact fun _ => ⟨rfl, fun _ => rfl⟩) rfl (fun hid => ?_)
 | refine SO.call (dk) rfl rfl rfl (by repeat constructor) (by repeat constructor) rfl (fun x hx => ?_)
 | refine SO.call (dc) rfl rfl rfl (by repeat constructor) (by repeat constructor) rfl (fun x hx => ?_)
 | refine SO.indexQ rfl rfl (by repeat constructor) rfl rfl rfl rfl (by assumption) ?_
 | refine SO.eloadQ rfl (by repeat constructor) (by assumption) rfl (by rfl) (by exact fun _ => ⟨rfl, fun h => by cases h⟩) rfl (fun hid => ?_)
 | refine SO.indexH rfl rfl (by repeat constructor) rfl rfl rfl rfl (by assumption) ?_
 | refine SO.pure rfl rfl rfl ?_
 | refine SO.nil ?_
 | refine SO.eloadW rfl (by repeat constructor) (by assumption) rfl (by rfl) rfl (by rfl) rfl (fun hid => ?_)
 | refine SK.seq ?_
 | refine SK.region ?_
 | refine SK.skip ?_
 | refine SK.block ?_
 | refine SK.blk ?_
 | refine SK.condTP rfl (by first | assumption | (simp only [Go.Sl.bl]; omega)) ?_
 | fail)
      rename Pl => px
      have hst := segCr_step hc hx0 px
      rw [show keep.getD k 0 = v by rw [List.getD, hv]; rfl] at hst
      refine SK.inv ⟨⟨(k + 1, l.set k (sx.upd px (sx.s, sx.d.crash v))), by show k + 1 ≤ 8; omega, hst⟩, ?_, ?_, ?_⟩
      · show 8 - (k + 1) < 8 - k
        omega
      · rw [hw]; repeat constructor
      · exact ent_sbs (A := slAt RI A keep.length keep :: lgPre lb g) (List.getElem?_eq_some_iff.1 hx0).1 (by repeat constructor)
    · have hd3 : decide ((k : Int) < (keep.length : Int)) = false := decide_eq_false (by omega)
      have dc := dc 0 (by omega)
      repeat' (first
 | refine SO.eloadQ rfl (by repeat constructor) (by assumption) rfl (by rfl) (by exact fun _ => ⟨rfl, fun _ => rfl⟩) rfl (fun hid => ?_)
 | refine SO.call (dk) rfl rfl rfl (by repeat constructor) (by repeat constructor) rfl (fun x hx => ?_)
 | refine SO.call (dc) rfl rfl rfl (by repeat constructor) (by repeat constructor) rfl (fun x hx => ?_)
 | refine SO.indexQ rfl rfl (by repeat constructor) rfl rfl rfl rfl (by assumption) ?_
 | refine SO.eloadQ rfl (by repeat constructor) (by assumption) rfl (by rfl) (by exact fun _ => ⟨rfl, fun h => by cases h⟩) rfl (fun hid => ?_)
 | refine SO.pure rfl rfl rfl ?_
 | refine SO.nil ?_
 | refine SK.seq ?_
 | refine SK.region ?_
 | refine SK.skip ?_
 | refine SK.block ?_
 | refine SK.blk ?_
 | refine SK.condTP rfl (by first | assumption | (simp only [Go.Sl.bl]; omega)) ?_
 | refine SK.condFP rfl (by first | assumption | (simp only [Go.Sl.bl]; omega)) ?_
 | fail)
      rename Pl => px
      have hst := segCr_step hc hx0 px
      rw [show keep.getD k 0 = 0 by rw [List.getD, List.getElem?_eq_none (by omega)]; rfl] at hst
      refine SK.inv ⟨⟨(k + 1, l.set k (sx.upd px (sx.s, sx.d.crash 0))), by show k + 1 ≤ 8; omega, hst⟩, ?_, ?_, ?_⟩
      · show 8 - (k + 1) < 8 - k
        omega
      · rw [hw]; repeat constructor
      · exact ent_sbs (A := slAt RI A keep.length keep :: lgPre lb g) (List.getElem?_eq_some_iff.1 hx0).1 (by repeat constructor)
  · have hd2 : decide ((k : Int) < (g.segs.length : Int)) = false := decide_eq_false (by omega)
    have dc := dcrash_does g.ob g.op g.own 0 h.own (by omega)
    repeat' (first
 | refine SO.call (dc) rfl rfl rfl (by repeat constructor) (by repeat constructor) rfl (fun x hx => ?_)
 | refine SO.pure rfl rfl rfl ?_
 | refine SO.nil ?_
 | refine SO.load rfl (by repeat constructor) rfl (by rfl) (by exact ⟨rfl, by first | exact fun _ => rfl | exact (fun h => by cases h)⟩) rfl ?_
 | refine SK.seq ?_
 | refine SK.region ?_
 | refine SK.exit rfl ?_
 | refine SO.store rfl rfl (by repeat constructor) rfl (by rfl) rfl rfl (by rfl) (by rfl) ?_
 | refine SK.condFP rfl (by first | assumption | (simp only [Go.Sl.bl]; omega)) ?_
 | fail)
    rename Pl => px
    have hk8 : k = 8 := by omega
    subst hk8
    exact SK.endX .nil (px, l) hc rfl (by simp only [lgAt, Lg.fell, hc.len, hc.sb]; repeat constructor)
end Go.Proofs
