/- A part of a proof: what functions of the program compute. -/
import Derived.Test.YtmbfcjffjgecjaaGreatDoorDoc5E
import Derived.Test.YtmbfcjffjgecjaaGreatDoorMod2E
import Derived.Test.YtmbfcjffjgecjaaGreatDoorPutGE
import Derived.Test.YtmbfcjffjgecjaaGreatDoorLog14E
import Derived.Test.YtmbfcjffjgecjaaGreatDoorLib2
set_option linter.unusedVariables false
set_option linter.unusedSimpArgs false
set_option maxHeartbeats 0
set_option maxRecDepth 20000
namespace Go.Proofs
attribute [local irreducible] Go.Sl.SO Go.Sl.SQ Go.Sl.SR Go.Sl.SC Go.Sl.SX Go.Sl.SY Go.Sl.eadr Go.Sl.slAt Go.Sl.sqAt Go.Sl.pts Go.Sl.rod Go.Sl.ob Go.Sl.ex Go.Sl.big Go.Sl.pr Go.Sl.tabs Go.Sl.mpAt Go.Sl.mitAt Go.Sl.mitN
open Go.Sl
theorem so_one {P : Program} [tb : Tab P] {rd : Option Nat} {N : Nat} {T : TT} {B : HP} {L : List HP} {Q : Post} {ks : List K} {all : Array Oper} {rest : List Oper} (h : SO P rd N all rest T ([B] ++ L) ks Q) : SO P rd N all rest T (B :: L) ks Q := h
theorem lto_does (r : Rc) (h : Pl) : Does Tryz.prog 79 [RRec.val r h] [] [] Unit (fun _ => True) (fun _ => RRec.val r h) (fun _ => []) := by
  refine Does.of Tryz.call79 Tryz.func79 rfl rfl rfl all_nil rfl ?_
  repeat' (first
 | refine SO.pure rfl rfl rfl ?_
 | refine SO.nil ?_
 | refine SO.load rfl (by repeat constructor) rfl (by rfl) (by exact ⟨rfl, by first | exact fun _ => rfl | exact (fun h => by cases h)⟩) rfl ?_
 | refine SO.build rfl rfl rfl rfl ?_
 | refine SK.seq ?_
 | refine SK.region ?_
 | refine SO.alloc rfl rfl rfl (fun b => ?_)
 | refine SO.box rfl rfl rfl (fun b => ?_)
 | refine SO.storeW rfl rfl (by repeat constructor) rfl (by rfl) (by rfl) (by rfl) ?_
 | fail)
  exact SK.retX (.cell rfl (by repeat constructor) rfl rfl (by exact ⟨rfl, fun h => by cases h⟩) .nil) () trivial rfl (by repeat constructor)
theorem dlput0_does (lb : Nat) (d : DLg) (K c : Nat) (us : Nat → Nat) (R : Nat → Rc) (r : Rc) (hK : 1 ≤ K ∧ K ≤ 8) (hd : DI 50000 K c us R d) (hc : c < 200) (hr : R c = r) (hck : checkR r 8 = 0) (hdp : r.dep = []) : Does Tryz.prog 80 [.pointer (some ⟨lb, 0, none⟩), .int .i64 (c : Int), RRec.val r (none, 0)] [] (dlAt lb d) DLg (fun d' => DI 50000 K (c + 1) us R d') (fun _ => .int .i64 0) (fun d' => dlAt lb d') := by
  refine (dlput_does lb d K c us R r (none, 0) hK hd hc hr hck hdp).less all_nil (.cons ?_ (.cons ?_ .nil))
  · show Has (slAt RI none r.dep.length r.dep) _
    rw [hdp]; exact (show Has (slAt RI none 0 []) _ from .triv)
  · show Has (pr (r.dep.length ≤ 0)) _
    rw [hdp]; exact (show Has (pr (([] : List Int).length ≤ 0)) _ from .triv)
theorem lg13_long (s0 y0 : Int) (A : Option Addr) (n c K : Nat) (hKw : IntKind.i64.wrap (1 + IntKind.i64.wrap (s0.tmod 4)) = (K : Int)) (hK : 1 ≤ K ∧ K ≤ 4) (hn : 60 < n) : Does Tryz.prog 19 [.int .u8 s0, .slice A n c, .int .u8 y0] [libA, tabs 4 5] [] Unit (fun _ => True) (fun _ => .tuple #[.pointer none, .pointer none, .bool false]) (fun _ => []) := by
  refine Does.of Tryz.call19 Tryz.func19 rfl rfl rfl (all_cons pers_lib (all_cons (pers_tabs _ _) all_nil)) rfl ?_
  have nw := lnew_does (K : Int) 50000 (by omega) (by decide)
  have nd := dnewl_does K (by omega) (lgR [])
  have d1 : decide ((60 : Int) < (n : Int)) = true := decide_eq_true (by omega)
  repeat' (first
 | refine SO.pure rfl rfl rfl ?_
 | refine SO.pure2 rfl rfl rfl ?_
 | refine SO.nil ?_
 | refine SK.seq ?_
 | refine SK.region ?_
 | fail)
  rw [hKw]
  repeat' (first
 | refine SO.call (nw) rfl rfl rfl (by repeat constructor) (by repeat constructor) rfl (fun x hx => ?_)
 | refine SO.call (nd) rfl rfl rfl (by repeat constructor) (by repeat constructor) rfl (fun x hx => ?_)
 | refine SO.pure rfl rfl rfl ?_
 | refine SO.pure2 rfl rfl rfl ?_
 | refine SO.nil ?_
 | refine SO.guardY rfl rfl ?_
 | refine SK.seq ?_
 | refine SK.region ?_
 | refine SK.condTP rfl (by first | assumption | (simp only [Go.Sl.bl]; omega)) ?_
 | fail)
  exact SK.retX (.tmp rfl (.tmp rfl (.tmp rfl .nil))) () trivial rfl (by repeat constructor)
theorem lg13_does (s0 y0 : Nat) (A : Option Addr) (n c K : Nat) (l : List Nat) (hKw : IntKind.i64.wrap (1 + IntKind.i64.wrap ((s0 : Int).tmod 4)) = (K : Int)) (hK : 1 ≤ K ∧ K ≤ 4) (hy : y0 < 256) (hl : l.length ≤ 60) (hb : ∀ x ∈ l, x < 256) : Does Tryz.prog 19 [.int .u8 (s0 : Int), .slice A n c, .int .u8 (y0 : Int)] [libA, tabs 4 5, slAt RU A n (l.map fun (x : Nat) => (x : Int))] [] ((Nat × Lg) × (Nat × DLg)) (fun x => LogsI K l l.length (min l.length y0) x.1.2 x.2.2) (fun x => .tuple #[.pointer (some ⟨x.1.1, 0, none⟩), .pointer (some ⟨x.2.1, 0, none⟩), .bool true]) (fun x => lgAt x.1.1 x.1.2 ++ dlAt x.2.1 x.2.2) := by
  refine Does.of Tryz.call19 Tryz.func19 rfl rfl rfl (all_cons pers_lib (all_cons (pers_tabs _ _) (all_cons (pers_slAt _ _ _ _) all_nil))) rfl ?_
  refine SK.know (sl_len (ρ := RU) (A := A) (n := n) (l := l.map fun (x : Nat) => (x : Int)) (by repeat constructor)) ?_
  rintro ⟨hnl, -, -⟩
  rw [List.length_map] at hnl
  subst hnl
  have nw := lnew_does (K : Int) 50000 (by omega) (by decide)
  have nd := dnewl_does K (by omega) (lgR l)
  have d1 : decide ((60 : Int) < (l.length : Int)) = false := decide_eq_false (by omega)
  repeat' (first
 | refine SO.pure rfl rfl rfl ?_
 | refine SO.pure2 rfl rfl rfl ?_
 | refine SO.nil ?_
 | refine SK.seq ?_
 | refine SK.region ?_
 | fail)
  rw [hKw]
  repeat' (first
 | refine SO.makeSlice (ρ := RI) (n := 8) (u := 0) (h := ()) rfl rfl rfl rfl rfl rfl rfl rfl (by unfold lim; omega) rfl (fun b => ?_)
 | refine SO.call (nw) rfl rfl rfl (by repeat constructor) (by repeat constructor) rfl (fun x hx => ?_)
 | refine SO.call (nd) rfl rfl rfl (by repeat constructor) (by repeat constructor) rfl (fun x hx => ?_)
 | refine SO.pure rfl rfl rfl ?_
 | refine SO.pure2 rfl rfl rfl ?_
 | refine SO.nil ?_
 | refine SO.guardY rfl rfl ?_
 | refine SK.seq ?_
 | refine SK.region ?_
 | refine SK.skip ?_
 | refine SK.block ?_
 | refine SK.condFP rfl (by first | assumption | (simp only [Go.Sl.bl]; omega)) ?_
 | fail)
  rename Nat × DLg => zd
  rename Nat × Lg => zg
  obtain ⟨lb, g0⟩ := zg
  obtain ⟨mb, d0⟩ := zd
  rename LNew 50000 (K : Int) (lb, g0).2 => h0
  rename DI 50000 K 0 _ _ (mb, d0).2 => hd0
  dsimp only at h0 hd0 ⊢
  revert b
  intro sb
  have hI0 : LogsI K l 0 (min 0 y0) g0 d0 := ⟨h0.li (by omega) (by decide) (lgR l), h0.m, h0.trim, h0.gone, h0.next, h0.down, h0.own, fun p hp => absurd hp (Nat.not_lt_zero p), (by rw [Nat.zero_min]; exact hd0), Nat.min_le_left _ _, fun j z _ hz => by rw [(h0.segs z (List.mem_of_getElem? hz)).2]; rfl, fun _ x hx => by rw [(h0.segs x hx).2]; rfl⟩
  have hs0 : List.replicate 8 (0 : Int) = seqL l 0 := rfl
  rw [hs0]
  refine SK.loop (X := {x : Nat × Lg × DLg // x.1 ≤ l.length ∧ LogsI K l x.1 (min x.1 y0) x.2.1 x.2.2}) (fun x => [(15, .int .i64 (x.1.1 : Int)), (14, .slice (some ⟨sb, 0, none⟩) 8 8), (12, .pointer (some ⟨mb, 0, none⟩)), (10, .pointer (some ⟨lb, 0, none⟩)), (1, .slice A l.length c), (2, .int .u8 (y0 : Int))]) (fun x => [libA, tabs 4 5, slAt RU A l.length (l.map fun (x : Nat) => (x : Int)), sqAt true RI (some ⟨sb, 0, none⟩) 8 8 (seqL l x.1.1)] ++ (lgAt lb x.1.2.1 ++ dlAt mb x.1.2.2)) (fun x => l.length - x.1.1) ⟨(0, g0, d0), Nat.zero_le _, hI0⟩ (by repeat constructor) (ent_append_of_takes (by repeat constructor)) ?_
  rintro ⟨⟨i, g, d⟩, hi0, hI⟩
  have hi : i ≤ l.length := hi0
  dsimp only at hI ⊢
  have hwi : IntKind.i64.wrap ((i : Int) + 1) = ((i + 1 : Nat) : Int) := by rw [wrap_id (by omega) (by omega)]; omega
  rcases Nat.lt_or_ge i l.length with hil | hil
  · have hd1 : decide ((i : Int) < (l.length : Int)) = true := decide_eq_true (by omega)
    obtain ⟨ax, hax⟩ : ∃ ax, l[i]? = some ax := ⟨_, List.getElem?_eq_getElem hil⟩
    have hxb := hb ax (List.mem_of_getElem? hax)
    have hxm : (l.map fun (ax : Nat) => (ax : Int))[i]? = some (ax : Int) := by rw [List.getElem?_map, hax]; rfl
    have hgd : l.getD i 0 = ax := by rw [List.getD_eq_getElem?_getD, hax]; rfl
    have hsn : siteN l i = ax % 4 := by unfold siteN; rw [hgd]
    have hs4 := siteN_lt l i
    have hcn := cntS_le l (siteN l i) i
    have ew : IntKind.i64.wrap ((ax : Int).tmod 4) = (siteN l i : Int) := by
      rw [hsn]
      exact wrap_id (by show -9223372036854775808 ≤ ((ax % 4 : Nat) : Int); omega) (by show ((ax % 4 : Nat) : Int) < 9223372036854775808; omega)
    have hsq := seqL_at l i (siteN l i) (by omega)
    have hsq2 := seqL_at l (i + 1) (siteN l i) (by omega)
    have hset := seqL_set l i
    have ew2 : IntKind.i64.wrap ((cntS l (siteN l i) i : Int) + 1) = (cntS l (siteN l i) i : Int) + 1 := wrap_id (by omega) (by omega)
    have ek : (IntKind.u8.wrap ((ax : Int).tdiv 4)).tmod 3 = ((ax / 4 % 3 : Nat) : Int) := by
      have h1 : (ax : Int).tdiv 4 = ((ax / 4 : Nat) : Int) := rfl
      have h2 : IntKind.u8.wrap ((ax / 4 : Nat) : Int) = ((ax / 4 : Nat) : Int) := by simp [IntKind.wrap, IntKind.signed, IntKind.bits]; omega
      rw [h1, h2]; rfl
    have hk3 : ax / 4 % 3 < 3 := Nat.mod_lt _ (by decide)
    have hkn : ([⟨#[97]⟩, ⟨#[98]⟩, ⟨#[99]⟩] : List ByteArray)[ax / 4 % 3]? = some (keyN l i) := by
      unfold keyN
      rw [hgd, List.getD_eq_getElem?_getD]
      generalize ax / 4 % 3 = k at hk3
      match k, hk3 with
      | 0, _ => rfl
      | 1, _ => rfl
      | 2, _ => rfl
    have dc := ddec_does i (by omega)
    repeat' (first
 | refine SO.indexH rfl rfl (by repeat constructor) rfl rfl rfl rfl (by assumption) ?_
 | refine SO.pure rfl rfl rfl ?_
 | refine SO.pure2 rfl rfl rfl ?_
 | refine SO.nil ?_
 | refine SO.eloadW rfl (by repeat constructor) (by assumption) rfl (by rfl) rfl (by rfl) rfl (fun hid => ?_)
 | refine SK.seq ?_
 | refine SK.region ?_
 | refine SK.skip ?_
 | refine SK.block ?_
 | refine SK.condTP rfl (by first | assumption | (simp only [Go.Sl.bl]; omega)) ?_
 | fail)
    rw [ew]
    repeat' (first
 | refine SO.indexQ rfl rfl (by repeat constructor) rfl rfl rfl rfl (by assumption) ?_
 | refine SO.eloadQ rfl (by repeat constructor) (by assumption) rfl (by rfl) (by exact fun _ => ⟨rfl, fun h => by first | (cases h; done) | exact rfl⟩) rfl (fun hid => ?_)
 | refine SO.pure rfl rfl rfl ?_
 | fail)
    rw [ew2]
    repeat' (first
 | refine SO.estoreW (ρ := RI) (h := ()) (u := (cntS l (siteN l i) i : Int) + 1) rfl rfl (by repeat constructor) (by repeat constructor) rfl rfl rfl (by omega) ?_
 | refine SO.nil ?_
 | refine SK.seq ?_
 | fail)
    rw [hset]
    refine SK.cutJ (X := Nat) (fun b => [(17, .pointer (some ⟨b, 0, none⟩)), (15, .int .i64 (i : Int)), (14, .slice (some ⟨sb, 0, none⟩) 8 8), (12, .pointer (some ⟨mb, 0, none⟩)), (10, .pointer (some ⟨lb, 0, none⟩)), (1, .slice A l.length c), (2, .int .u8 (y0 : Int))]) (fun b => pts b 0 (RRec.cells (lgR l i) (none, 0)) :: ([libA, tabs 4 5, slAt RU A l.length (l.map fun (x : Nat) => (x : Int)), sqAt true RI (some ⟨sb, 0, none⟩) 8 8 (seqL l (i + 1))] ++ (lgAt lb g ++ dlAt mb d))) (fun _ _ _ h => h) ?_ ?_
    · repeat' (first
 | refine SO.buildSlice rfl rfl rfl rfl rfl rfl (fun b => SO.shift (toSl (ρ := RS) (n := 3) (b := b) (l := [⟨#[97]⟩, ⟨#[98]⟩, ⟨#[99]⟩]) [(⟨#[97]⟩, ()), (⟨#[98]⟩, ()), (⟨#[99]⟩, ())] (by repeat constructor) rfl rfl rfl rfl (by repeat constructor)) (so_one ?_))
 | refine SX.indexH (i := ax / 4 % 3) rfl rfl (by repeat constructor) rfl rfl ek.symm rfl hkn ?_
 | refine SO.call (dc) rfl rfl rfl (by repeat constructor) (by repeat constructor) rfl (fun x hx => ?_)
 | refine SO.nil ?_
 | refine SO.alloc rfl rfl rfl (fun b => ?_)
 | refine SO.storeW rfl rfl (by repeat constructor) rfl (by rfl) (by rfl) (by rfl) ?_
 | refine SO.buildSlice rfl rfl rfl rfl rfl rfl (fun b => ?_)
 | refine SK.regionX 12 (.item 0 0 (.item 0 1 (.item 0 2 (.item 0 6 (.item 0 7 (.item 0 14 (.item 0 3 (.item 0 8 (.item 0 4 (.item 0 9 (.item 0 10 (.item 0 11 (.fork (.item 1 5 (.item 0 12 (.item 0 13 (.fork (.item 1 15 (.item 0 16 (.item 1 17 (.item 2 18 .nil)))) (.item 1 17 (.item 1 15 (.item 0 16 (.item 2 18 .nil)))))))) (.fork (.item 1 15 (.fork (.item 1 5 (.item 0 12 (.item 0 13 (.item 0 16 (.item 1 17 (.item 2 18 .nil)))))) (.item 1 17 (.item 1 5 (.item 0 12 (.item 0 13 (.item 0 16 (.item 2 18 .nil)))))))) (.item 1 17 (.fork (.item 1 5 (.item 0 12 (.item 0 13 (.item 1 15 (.item 0 16 (.item 2 18 .nil)))))) (.item 1 15 (.item 1 5 (.item 0 12 (.item 0 13 (.item 0 16 (.item 2 18 .nil)))))))))))))))))))))) [] .nil (by repeat (first | exact .nil | apply PersSub.s | apply PersSub.t | apply PersSub.p | apply PersSub.r | apply PersSub.skip)) (by kernel_rfl) (by kernel_rfl) (fun _ _ _ h => h) ?_
 | refine SX.tail (by rfl) (by repeat (first | exact .nil | apply DropP.s | apply DropP.t | apply DropP.p | apply DropP.r | apply DropP.keep)) ?_
 | refine SX.indexQ rfl rfl (by repeat constructor) rfl rfl rfl rfl (by assumption) ?_
 | refine SX.eloadQ rfl (by repeat constructor) (by assumption) rfl (by rfl) (by exact fun _ => ⟨rfl, fun h => by first | (cases h; done) | exact rfl⟩) rfl (fun hid => ?_)
 | refine SX.indexH rfl rfl (by repeat constructor) rfl rfl rfl rfl (by assumption) ?_
 | refine SX.pure rfl rfl rfl ?_
 | refine SX.pure2 rfl rfl rfl ?_
 | refine SX.build rfl rfl rfl rfl ?_
 | refine SX.eloadW rfl (by repeat constructor) (by assumption) rfl (by rfl) rfl (by rfl) rfl (fun hid => ?_)
 | refine SX.fork ?_ ?_
 | refine SX.step rfl rfl ?_
 | refine SK.invY ?_
 | refine SY.shareGo (by repeat (first | exact .nil | apply PersSub.s | apply PersSub.t | apply PersSub.p | apply PersSub.r | apply PersSub.skip)) ?_
 | refine SY.go ?_
 | fail)
      all_goals exact SK.inv ⟨_, by repeat constructor, ent_append_of_takes (by repeat constructor)⟩
    rintro rb T' L' hT hL
    refine SK.weaken hT hL ?_
    have pg := lput0R lb (r := lgR l i) hI.li hI.down (by rw [hI.next]) (lgR_sm l (by omega)) rfl (by omega) (by omega)
    rw [hI.next] at pg
    have dp := dlput0_does mb d K i (fun _ => min i y0) (lgR l) (lgR l i) ⟨by omega, by omega⟩ hI.di (by omega) rfl (lgR_ok l (by omega)) rfl
    have lt := lto_does (lgR l i) (none, 0)
    have hwy : IntKind.i64.wrap (y0 : Int) = (y0 : Int) := wrap_id (by omega) (by omega)
    rcases Nat.lt_or_ge i y0 with hy1 | hy1
    · have hd3 : decide ((i : Int) < IntKind.i64.wrap (y0 : Int)) = true := by rw [hwy]; exact decide_eq_true (by omega)
      have hm : min i y0 = i := Nat.min_eq_left (by omega)
      rw [hm] at dp hI
      repeat' (first
 | refine SO.call (lt) rfl rfl rfl (by repeat constructor) (by repeat constructor) rfl (fun x hx => ?_)
 | refine SO.call (pg) rfl rfl rfl (by repeat constructor) (by repeat constructor) rfl (fun x hx => ?_)
 | refine SO.call (dp) rfl rfl rfl (by repeat constructor) (by repeat constructor) rfl (fun x hx => ?_)
 | refine SO.pure rfl rfl rfl ?_
 | refine SO.nil ?_
 | refine SO.guardY rfl rfl ?_
 | refine SO.load rfl (by repeat constructor) rfl (by rfl) (by exact ⟨rfl, by first | exact fun _ => rfl | exact (fun h => by cases h)⟩) rfl ?_
 | refine SK.seq ?_
 | refine SK.region ?_
 | refine SK.condF rfl ?_
 | refine SK.skip ?_
 | refine SK.block ?_
 | refine SK.condTP rfl (by first | assumption | (simp only [Go.Sl.bl]; omega)) ?_
 | fail)
      rename Lg => g1
      rename DLg => d1'
      rename LPutR _ _ _ => q1
      rename DI _ _ (i + 1) _ _ _ => e1
      have hJ0 := (hI.put hK (by omega) q1 e1).toJ (by omega)
      refine SK.loop (X := {x : Nat × Lg × DLg // x.1 ≤ 4 ∧ LogsJ K l (i + 1) i x.1 x.2.1 x.2.2}) (fun x => [(18, .int .i64 (x.1.1 : Int)), (15, .int .i64 (i : Int)), (14, .slice (some ⟨sb, 0, none⟩) 8 8), (12, .pointer (some ⟨mb, 0, none⟩)), (10, .pointer (some ⟨lb, 0, none⟩)), (1, .slice A l.length c), (2, .int .u8 (y0 : Int))]) (fun x => [libA, tabs 4 5, slAt RU A l.length (l.map fun (x : Nat) => (x : Int)), sqAt true RI (some ⟨sb, 0, none⟩) 8 8 (seqL l (i + 1))] ++ (lgAt lb x.1.2.1 ++ dlAt mb x.1.2.2)) (fun x => 4 - x.1.1) ⟨(0, g1, d1'), Nat.zero_le _, hJ0⟩ (by repeat constructor) (ent_append_of_takes (by repeat constructor)) ?_
      rintro ⟨⟨j, g2, d2⟩, hj0, hJ⟩
      have hj : j ≤ 4 := hj0
      dsimp only at hJ ⊢
      have hwj : IntKind.i64.wrap ((j : Int) + 1) = ((j + 1 : Nat) : Int) := by rw [wrap_id (by omega) (by omega)]; omega
      rcases Nat.lt_or_ge j 4 with hj4 | hj4
      · have hd4 : decide ((j : Int) < 4) = true := decide_eq_true (by omega)
        have sy := lsyncR lb j hJ.li.ok hJ.down (by omega)
        have ds := dlsync_does mb d2 K (i + 1) j _ (lgR l) hJ.di (by omega)
        repeat' (first
 | refine SO.call (sy) rfl rfl rfl (by repeat constructor) (by repeat constructor) rfl (fun x hx => ?_)
 | refine SO.call (ds) rfl rfl rfl (by repeat constructor) (by repeat constructor) rfl (fun x hx => ?_)
 | refine SO.pure rfl rfl rfl ?_
 | refine SO.nil ?_
 | refine SK.seq ?_
 | refine SK.region ?_
 | refine SK.skip ?_
 | refine SK.block ?_
 | refine SK.blk ?_
 | refine SK.condTP rfl (by first | assumption | (simp only [Go.Sl.bl]; omega)) ?_
 | fail)
        rename Bool × Lg => z1
        rename Bool × DLg => z2
        rename _ ∧ _ => q2
        rename DI _ _ (i + 1) _ _ _ => e2
        refine SK.inv ⟨⟨(j + 1, z1.2, z2.2), by show j + 1 ≤ 4; omega, hJ.sync (by omega) q2.1 e2⟩, ?_, ?_, ?_⟩
        · show 4 - (j + 1) < 4 - j
          omega
        · rw [hwj]; repeat constructor
        · exact ent_append_of_takes (by repeat constructor)
      · have hd4 : decide ((j : Int) < 4) = false := decide_eq_false (by omega)
        obtain rfl : j = 4 := by omega
        repeat' (first
 | refine SO.pure rfl rfl rfl ?_
 | refine SO.nil ?_
 | refine SK.seq ?_
 | refine SK.region ?_
 | refine SK.condF rfl ?_
 | refine SK.blk ?_
 | refine SK.exit rfl ?_
 | fail)
        refine SK.inv ⟨⟨(i + 1, g2, d2), by show i + 1 ≤ l.length; omega, ?_⟩, ?_, ?_, ?_⟩
        · have := hJ.done hK
          have hm2 : min (i + 1) y0 = i + 1 := Nat.min_eq_left (by omega)
          show LogsI K l (i + 1) (min (i + 1) y0) g2 d2
          rw [hm2]; exact this
        · show l.length - (i + 1) < l.length - i
          omega
        · rw [hwi]; repeat constructor
        · exact ent_append_of_takes (by repeat constructor)
    · have hd3 : decide ((i : Int) < IntKind.i64.wrap (y0 : Int)) = false := by rw [hwy]; exact decide_eq_false (by omega)
      have hm : min i y0 = y0 := Nat.min_eq_right (by omega)
      rw [hm] at dp hI
      repeat' (first
 | refine SO.call (lt) rfl rfl rfl (by repeat constructor) (by repeat constructor) rfl (fun x hx => ?_)
 | refine SO.call (pg) rfl rfl rfl (by repeat constructor) (by repeat constructor) rfl (fun x hx => ?_)
 | refine SO.call (dp) rfl rfl rfl (by repeat constructor) (by repeat constructor) rfl (fun x hx => ?_)
 | refine SO.pure rfl rfl rfl ?_
 | refine SO.nil ?_
 | refine SO.guardY rfl rfl ?_
 | refine SO.load rfl (by repeat constructor) rfl (by rfl) (by exact ⟨rfl, by first | exact fun _ => rfl | exact (fun h => by cases h)⟩) rfl ?_
 | refine SK.seq ?_
 | refine SK.region ?_
 | refine SK.condF rfl ?_
 | refine SK.skip ?_
 | refine SK.blk ?_
 | refine SK.condFP rfl (by first | assumption | (simp only [Go.Sl.bl]; omega)) ?_
 | fail)
      rename Lg => g1
      rename DLg => d1'
      rename LPutR _ _ _ => q1
      rename DI _ _ (i + 1) _ _ _ => e1
      have hJ0 := hI.put hK (by omega) q1 e1
      refine SK.inv ⟨⟨(i + 1, g1, d1'), by show i + 1 ≤ l.length; omega, ?_⟩, ?_, ?_, ?_⟩
      · have hm2 : min (i + 1) y0 = y0 := Nat.min_eq_right (by omega)
        show LogsI K l (i + 1) (min (i + 1) y0) g1 d1'
        rw [hm2]; exact hJ0
      · show l.length - (i + 1) < l.length - i
        omega
      · rw [hwi]; repeat constructor
      · exact ent_append_of_takes (by repeat constructor)
  · have hd1 : decide ((i : Int) < (l.length : Int)) = false := decide_eq_false (by omega)
    obtain rfl : i = l.length := by omega
    repeat' (first
 | refine SO.pure rfl rfl rfl ?_
 | refine SO.nil ?_
 | refine SK.seq ?_
 | refine SK.region ?_
 | refine SK.exit rfl ?_
 | refine SK.condFP rfl (by first | assumption | (simp only [Go.Sl.bl]; omega)) ?_
 | fail)
    exact SK.retX (.tmp rfl (.tmp rfl (.tmp rfl .nil))) ((lb, g), (mb, d)) hI rfl (by repeat constructor)
end Go.Proofs
