/- A part of a proof: what functions of the program compute. -/
import Derived.Test.YtmbfcjffjgecjaaGreatDoorLog7E
import Derived.Test.YtmbfcjffjgecjaaGreatDoorLib2
set_option linter.unusedVariables false
set_option linter.unusedSimpArgs false
set_option maxHeartbeats 0
set_option maxRecDepth 20000
namespace Go.Sl
theorem any_del {l : List (Int × Bool)} {k : Int} {f : Int → Bool} (h : k ∈ keysM l) (hd : (keysM l).Nodup) : (f k || (keysM (mdel l k)).any f) = (keysM l).any f := by
  have hp := keys_del_perm h
  rw [← List.any_cons, Bool.eq_iff_iff, List.any_eq_true, List.any_eq_true]
  constructor
  · rintro ⟨x, hx, hf⟩; exact ⟨x, hp.mem_iff.1 hx, hf⟩
  · rintro ⟨x, hx, hf⟩; exact ⟨x, hp.mem_iff.2 hx, hf⟩
theorem op_mem {l0 l : List SB} (h : SegOp l0 8 l) (hl : l0.length = 8) {x : SB} (hx : x ∈ l) : ∃ y ∈ l0, x.s = y.d.opened.1 ∧ x.d = y.d.opened.2 := by
  obtain ⟨i, hi, rfl⟩ := List.mem_iff_getElem.1 hx
  have hl2 := h.len
  have hy := List.getElem?_eq_getElem (l := l0) (i := i) (by omega)
  obtain ⟨sb, mb, p, hp⟩ := h.new i _ (by omega) hy
  rw [List.getElem?_eq_getElem hi] at hp
  have e := Option.some.inj hp
  exact ⟨_, List.mem_of_getElem? hy, by rw [e], by rw [e]⟩
theorem foldT_at (ls : List OL) {i : Nat} {o : OL} (s : OSt) (h : ls[i]? = some o) : (ls.take (i + 1)).foldl OL.step s = OL.step ((ls.take i).foldl OL.step s) o := by
  rw [List.take_add_one, h, List.foldl_append]; rfl
end Go.Sl
namespace Go.Proofs
attribute [local irreducible] Go.Sl.SO Go.Sl.SQ Go.Sl.SR Go.Sl.SC Go.Sl.SX Go.Sl.SY Go.Sl.eadr Go.Sl.slAt Go.Sl.sqAt Go.Sl.pts Go.Sl.rod Go.Sl.ob Go.Sl.ex Go.Sl.big Go.Sl.pr Go.Sl.tabs Go.Sl.mpAt Go.Sl.mitAt Go.Sl.mitN
open Go.Sl
abbrev reE (x : SB) (A : Option Addr) (n c : Nat) (l : List Nat) : List HP := [pts x.sb 0 [.pointer (some ⟨x.db, 0, none⟩), .map (some x.mb), .int .i64 (x.s.sealed : Int), .int .i64 (x.s.trim : Int)], mpAt (KI .i64) RSlt x.mb x.s.m,
  pts x.db 0 [.int .i64 x.d.room, .slice x.p.1 x.d.lines.length x.p.2, .int .i64 (x.d.lasts : Int)], sqAt false RS x.p.1 x.d.lines.length x.p.2 x.d.lines, libA, sqAt true RPt A n c l]
theorem ltake_o (lb : Nat) (g : Lg) (o : OL) (h : o.ok) : Does Tryz.prog 116 [.pointer (some ⟨lb, 0, none⟩), .string (txB o.text)] [libA] (lgT lb g) (Pl × Pl) (fun _ => True) (fun _ => .bool true) (fun x => lgT lb (g.atO (OL.step (g.m, g.trim, g.gone) o) x.1 x.2)) := by
  cases o with
  | m l => exact (ltake_m lb g l h).mapX (fun x => (x, g.gA)) (fun _ _ => trivial) (fun _ => rfl) (fun _ => rfl)
  | t q v => exact (ltake_t lb g q v h).mapX (fun x => (g.mA, x)) (fun _ _ => trivial) (fun _ => rfl) (fun _ => rfl)
abbrev reA (lb : Nat) (g : Lg) (n : Nat) (sb : List Nat) (own : Dk) : List HP := [pts lb 0 [.pointer (some ⟨g.ob, 0, none⟩), .slice g.sA.1 n g.sA.2, .slice g.mA.1 g.m.length g.mA.2, .int .i64 (g.trim : Int), .slice g.gA.1 g.gone.length g.gA.2, .int .i64 (g.next : Int), .bool g.down],
    sqAt true RPt g.sA.1 n g.sA.2 sb, slAt RSp g.mA.1 g.m.length g.m, slAt RI g.gA.1 g.gone.length g.gone, pr (g.gone.length ≤ g.gA.2),
    pts g.ob 0 [.int .i64 own.room, .slice g.op.1 own.lines.length g.op.2, .int .i64 (own.lasts : Int)], sqAt false RS g.op.1 own.lines.length g.op.2 own.lines, libA, tabs 4 5]
abbrev reF (lb : Nat) (g : Lg) (l : List SB) (a b : Pl) (gone' : List Int) : List HP := [pts lb 0 [.pointer (some ⟨g.ob, 0, none⟩), .slice g.sA.1 l.length g.sA.2, .slice a.1 g.m.length a.2, .int .i64 (g.trim : Int), .slice b.1 gone'.length b.2, .int .i64 (g.next : Int), .bool g.down]]
theorem lrecover_does (lb : Nat) (g : Lg) (ls : List OL) (gone' : List Int) (nx : Nat) (h : LgOk g) (hd : g.down = true) (hls : g.own.lines = ls.map fun o => txB o.text) (hlo : ∀ o ∈ ls, o.ok) (hf : ls.foldl OL.step (g.m, g.trim, g.gone) = (g.m, g.trim, gone')) (hr : ReOk g.segs nx)
    (h1 : ∀ p : Nat, g.trim ≤ p → p < nx → hasO g.segs p = true) (h2 : hasO g.segs nx = false) (h3 : g.trim ≤ nx ∧ nx ≤ 1000000) (hsz : ∀ x ∈ g.segs, x.d.opened.1.m.length ≤ 1000000) :
    Does Tryz.prog 55 [.pointer (some ⟨lb, 0, none⟩)] [libA, tabs 4 5] (lgAt lb g) (Pl × Pl × List SB) (fun y => SegRe g.segs nx (moreO g.segs nx) y.2.2) (fun _ => .int .i64 0) (fun y => lgAt lb { g with segs := y.2.2, mA := y.1, gA := y.2.1, gone := gone', next := nx, down := false }) := by
  refine Does.of Tryz.call55 Tryz.func55 rfl rfl rfl (all_cons pers_lib (all_cons (pers_tabs _ _) all_nil)) rfl ?_
  have hl := h.len
  have hnd : (!g.down) = false := by rw [hd]; rfl
  refine SK.know (sq_len (w := true) (ρ := RPt) (A := g.sA.1) (n := g.segs.length) (c := g.sA.2) (l := g.segs.map (·.sb)) (by repeat constructor)) ?_
  rintro ⟨-, -, -, hA0⟩
  have hA : g.sA.1.isSome = true := by
    cases he : g.sA.1 with
    | some a => rfl
    | none => have := List.map_eq_nil_iff.1 (hA0 he).1; rw [this] at hl; exact absurd hl (by decide)
  repeat' (first
 | refine SO.pure rfl rfl rfl ?_
 | refine SO.nil ?_
 | refine SO.load rfl (by repeat constructor) rfl (by rfl) (by exact ⟨rfl, by first | exact fun _ => rfl | exact (fun h => by cases h)⟩) rfl ?_
 | refine SK.seq ?_
 | refine SK.region ?_
 | refine SK.skip ?_
 | refine SK.block ?_
 | refine SO.box rfl rfl rfl (fun b => ?_)
 | refine SK.scope (fun _ _ _ h => h) ?_
 | refine SK.condFP rfl (by first | assumption | (simp only [Go.Sl.bl]; omega)) ?_
 | fail)
  refine SK.loop (X := {x : Nat × List SB // x.1 ≤ 8 ∧ SegOp g.segs x.1 x.2}) (fun x => [(24, .int .i64 (x.1.1 : Int)), (23, .int .i64 (g.segs.length : Int)), (22, .slice g.sA.1 g.segs.length g.sA.2), (1, .pointer (some ⟨b, 0, none⟩))]) (fun x => pts b 0 [.pointer (some ⟨lb, 0, none⟩)] :: reA lb g g.segs.length (x.1.2.map (·.sb)) g.own ++ [sbsA x.1.2]) (fun x => 8 - x.1.1) ⟨(0, g.segs), Nat.zero_le _, segOp_zero _⟩ (by repeat constructor) (ent_append_of_takes (by repeat constructor)) ?_
  rintro ⟨⟨k, l⟩, hk0, hc0⟩
  have hk : k ≤ 8 := hk0
  have hc : SegOp g.segs k l := hc0
  dsimp only
  have hw : IntKind.i64.wrap ((k : Int) + 1) = ((k + 1 : Nat) : Int) := by rw [wrap_id (by omega) (by omega)]; omega
  rcases Nat.lt_or_ge k 8 with hlt | hge
  · have hd2 : decide ((k : Int) < (g.segs.length : Int)) = true := decide_eq_true (by omega)
    obtain ⟨sx, hx⟩ : ∃ x, l[k]? = some x := ⟨_, List.getElem?_eq_getElem (by rw [hc.len, hl]; exact hlt)⟩
    have hxg : g.segs[k]? = some sx := by rw [← hc.old k (Nat.le_refl _)]; exact hx
    have hxb : (l.map (·.sb))[k]? = some sx.sb := by rw [List.getElem?_map, hx]; rfl
    have hmm := List.mem_of_getElem? hxg
    have dk := disk_does sx.sb sx.db sx.mb sx.s
    have so := sopen_does sx.db sx.p sx.d.opened.1 sx.d (hr.ply sx hmm)
    have hop := hr.op sx hmm
    have hx0 := hx
    have hkl : k < l.length := (List.getElem?_eq_some_iff.1 hx).1
    refine SK.sbsOpen (k := k) (by repeat constructor) hx ?_
    repeat' (first
 | refine SO.eloadQ rfl (by repeat constructor) (by assumption) rfl (by rfl) (by exact fun _ => ⟨rfl, fun _ => rfl⟩) rfl (fun hid => ?_)
 | refine SX.indexV rfl rfl rfl rfl rfl rfl (by assumption) (by omega) ?_
 | refine SO.estoreW (ρ := RPt) (h := ()) (u := x.1) rfl rfl (by repeat constructor) (by repeat constructor) rfl rfl rfl (by omega) ?_
 | refine SO.call (dk) rfl rfl rfl (by repeat constructor) (by repeat constructor) rfl (fun x hx => ?_)
 | refine SO.call (so) rfl rfl rfl (by repeat constructor) (by repeat constructor) rfl (fun x hx => ?_)
 | refine SO.indexQ rfl rfl (by repeat constructor) rfl rfl rfl rfl (by assumption) ?_
 | refine SO.eloadQ rfl (by repeat constructor) (by assumption) rfl (by rfl) (by exact fun _ => ⟨rfl, fun h => by cases h⟩) rfl (fun hid => ?_)
 | refine SO.pure rfl rfl rfl ?_
 | refine SO.nil ?_
 | refine SK.seq ?_
 | refine SK.region ?_
 | refine SK.skip ?_
 | refine SK.block ?_
 | refine SK.blk ?_
 | refine SK.condTP rfl (by first | assumption | (simp only [Go.Sl.bl]; omega)) ?_
 | refine SK.regionX 6 (.item 0 0 (.item 0 4 (.item 0 5 (.item 0 1 (.item 0 2 (.item 0 3 (.item 1 6 (.item 1 7 (.item 0 8 (.item 0 9 (.item 0 10 (.item 0 11 (.item 1 12 .nil))))))))))))) (reE sx g.sA.1 g.segs.length g.sA.2 (l.map (·.sb))) (by repeat constructor) (by repeat (first | exact .nil | apply PersSub.s | apply PersSub.t | apply PersSub.p | apply PersSub.r | apply PersSub.skip)) (by kernel_rfl) (by kernel_rfl) (fun _ _ _ h => h) ?_
 | refine SK.regionX 30 (.item 0 0 (.item 0 1 (.item 0 2 (.item 0 3 (.item 0 4 (.item 1 5 (.item 0 6 (.item 0 7 (.item 2 8 .nil))))))))) [] .nil (by repeat (first | exact .nil | apply PersSub.s | apply PersSub.t | apply PersSub.p | apply PersSub.r | apply PersSub.skip)) (by kernel_rfl) (by kernel_rfl) (fun _ _ _ h => h) ?_
 | refine SX.tail (by rfl) (by repeat (first | exact .nil | apply DropP.s | apply DropP.t | apply DropP.p | apply DropP.r | apply DropP.keep)) ?_
 | refine SX.pure rfl rfl rfl ?_
 | refine SX.load rfl (by repeat constructor) rfl (by rfl) (by exact ⟨rfl, by first | exact fun _ => rfl | exact (fun h => by cases h)⟩) rfl ?_
 | refine SX.step rfl rfl ?_
 | refine SK.invY ?_
 | refine SY.shareGo (by repeat (first | exact .nil | apply PersSub.s | apply PersSub.t | apply PersSub.p | apply PersSub.r | apply PersSub.skip)) ?_
 | refine SY.go ?_
 | fail)
    rename Nat × Nat => y
    have hst := segOp_step hc hx0 y.1 y.2 sx.p
    rw [hop] at hst
    have hmp : (l.map (·.sb)).set k y.1 = (l.set k ⟨y.1, sx.db, y.2, sx.p, sx.d.opened.1, sx.d⟩).map (·.sb) := by rw [List.map_set]
    refine SK.inv ⟨⟨(k + 1, l.set k ⟨y.1, sx.db, y.2, sx.p, sx.d.opened.1, sx.d⟩), by show k + 1 ≤ 8; omega, hst⟩, ?_, ?_, ?_⟩
    · show 8 - (k + 1) < 8 - k
      omega
    · rw [hw]; repeat constructor
    · dsimp only
      rw [hmp]
      apply ent_sbs (l := l) (k := k) (x := ⟨y.1, sx.db, y.2, sx.p, sx.d.opened.1, sx.d⟩) (A := pts b 0 [.pointer (some ⟨lb, 0, none⟩)] :: reA lb g g.segs.length ((l.set k ⟨y.1, sx.db, y.2, sx.p, sx.d.opened.1, sx.d⟩).map (·.sb)) g.own) hkl
      repeat constructor
  · have hd2 : decide ((k : Int) < (g.segs.length : Int)) = false := decide_eq_false (by omega)
    obtain rfl : k = 8 := by omega
    have hll : l.length = g.segs.length := hc.len
    have dl := dlines_does g.ob g.op g.own
    repeat' (first
 | refine SO.call (dl) rfl rfl rfl (by repeat constructor) (by repeat constructor) rfl (fun x hx => ?_)
 | refine SO.pure rfl rfl rfl ?_
 | refine SO.nil ?_
 | refine SO.load rfl (by repeat constructor) rfl (by rfl) (by exact ⟨rfl, by first | exact fun _ => rfl | exact (fun h => by cases h)⟩) rfl ?_
 | refine SK.seq ?_
 | refine SK.region ?_
 | refine SK.block ?_
 | refine SK.exit rfl ?_
 | refine SK.label ?_
 | refine SK.condFP rfl (by first | assumption | (simp only [Go.Sl.bl]; omega)) ?_
 | fail)
    refine SK.readable (ρ := RS) (A := g.op.1) (n := g.own.lines.length) (m := g.op.2) (l := g.own.lines) (by repeat constructor) ?_
    have hzl : g.own.lines.zipIdx.length = ls.length := by rw [List.length_zipIdx, hls, List.length_map]
    refine SK.shift (fun F w hst => hst.ent (Ent.cons (ent_closeR (R := []) (A := fun y : Pl × Pl => big (lgT lb (g.atO ((ls.take 0).foldl OL.step (g.m, g.trim, g.gone)) y.1 y.2))) (x := ((g.mA, g.gA) : Pl × Pl)) rfl (by repeat constructor)))) ?_
    refine SK.range (lniter x g.op.1 g.own.lines.length g.op.2 g.own.lines) Empty (fun i => [ex fun y : Pl × Pl => big (lgT lb (g.atO ((ls.take i).foldl OL.step (g.m, g.trim, g.gone)) y.1 y.2)), pts b 0 [.pointer (some ⟨lb, 0, none⟩)], libA]) (fun _ => []) (fun y => y.elim) rfl (by repeat constructor) (by repeat constructor) rfl (fun _ _ => rfl) ?_ ?_ (fun y => y.elim)
    · rintro i ⟨t, j⟩ hid q R hr2
      have hs : g.own.lines[i]? = some t := (zip_of hr2).1
      rw [hls, List.getElem?_map] at hs
      obtain ⟨o, ho, rfl⟩ := Option.map_eq_some_iff.1 hs
      have hok := hlo o (List.mem_of_getElem? ho)
      refine SK.openEx .here (fun y => ?_)
      refine SK.openBig .here ?_
      have tk := ltake_o lb (g.atO ((ls.take i).foldl OL.step (g.m, g.trim, g.gone)) y.1 y.2) o hok
      generalize txB o.text = tt at *
      repeat' (first
 | refine SO.pure rfl rfl rfl ?_
 | refine SO.nil ?_
 | refine SK.seq ?_
 | refine SK.region ?_
 | fail)
      refine SK.inv ?_
      repeat' (first
 | refine SO.call (tk) rfl rfl rfl (by repeat constructor) (by repeat constructor) rfl (fun x hx => ?_)
 | refine SO.pure rfl rfl rfl ?_
 | refine SO.nil ?_
 | refine SO.load rfl (by repeat constructor) rfl (by rfl) (by exact ⟨rfl, by first | exact fun _ => rfl | exact (fun h => by cases h)⟩) rfl ?_
 | refine SK.seq ?_
 | refine SK.region ?_
 | refine SK.condF rfl ?_
 | refine SK.skip ?_
 | refine SK.block ?_
 | refine SK.blk ?_
 | fail)
      rename Pl × Pl => y3
      refine SK.nil ?_
      rw [foldT_at ls (g.m, g.trim, g.gone) ho]
      show Ent _ (busyA q R :: _)
      refine Ent.trans ?_ Ent.swap
      exact ent_close (R := [busyA q R, pts b 0 [.pointer (some ⟨lb, 0, none⟩)], libA]) (x := (y3 : Pl × Pl)) rfl (by repeat constructor)
    · refine SK.blk ?_
      rw [hzl, List.take_length, hf]
      refine SK.openEx .here (fun y2 => ?_)
      refine SK.openBig .here ?_
      simp only [lgT, Lg.atO, ← hll]
      have hl8 : l.length = 8 := hll.trans hl
      have lp := lpos_does lb { g with segs := l, mA := y2.1, gA := y2.2, gone := gone' } hl8 (fun x hx => by
        obtain ⟨x0, h0, e1, _⟩ := op_mem hc hl hx
        have := hsz x0 h0
        show x.s.m.length ≤ 1000000
        rw [e1]; omega)
      repeat' (first
 | refine SO.call (lp) rfl rfl rfl (by repeat constructor) (by repeat constructor) rfl (fun x hx => ?_)
 | refine SO.pure rfl rfl rfl ?_
 | refine SO.nil ?_
 | refine SO.load rfl (by repeat constructor) rfl (by rfl) (by exact ⟨rfl, by first | exact fun _ => rfl | exact (fun h => by cases h)⟩) rfl ?_
 | refine SK.seq ?_
 | refine SK.region ?_
 | refine SK.block ?_
 | fail)
      rename Nat => mb
      refine SK.know (mp_nodup (kr := KI .i64) (ρ := RB) (b := mb) (l := posM l) (by repeat constructor)) (fun hndp => ?_)
      have hget : ∀ p : Nat, mget (posM l) (p : Int) = if hasO g.segs p = true then some true else none := fun p => by rw [posM_get, op_has hc hl]
      refine SK.loop (X := {p : Nat // g.trim ≤ p ∧ p ≤ nx}) (fun p => [(9, .map (some mb)), (8, .bool false), (7, .int .i64 (p.1 : Int)), (1, .pointer (some ⟨b, 0, none⟩))]) (fun p => [mpAt (KI .i64) RB mb (posM l), pts b 0 [.pointer (some ⟨lb, 0, none⟩)], libA] ++ lgAt lb { g with segs := l, mA := y2.1, gA := y2.2, gone := gone' }) (fun p => nx - p.1) ⟨g.trim, Nat.le_refl _, h3.1⟩ (by repeat constructor) (ent_append_of_takes (by repeat constructor)) ?_
      rintro ⟨p, hp1, hp2⟩
      dsimp only
      have hwp : IntKind.i64.wrap ((p : Int) + 1) = ((p + 1 : Nat) : Int) := by rw [wrap_id (by omega) (by omega)]; omega
      rcases Nat.lt_or_ge p nx with hpn | hpn
      · have hh := h1 p hp1 hpn
        repeat' (first
 | refine SO.pure rfl rfl rfl ?_
 | refine SK.seq ?_
 | refine SK.region ?_
 | fail)
        refine SO.lookup (kr := KI .i64) (ρ := RB) rfl (by repeat constructor) (by rfl) rfl rfl (by rfl) rfl rfl (fun u hid hu => ?_) (fun hu => by rw [hget, if_pos hh] at hu; cases hu)
        rw [hget, if_pos hh] at hu
        obtain rfl := Option.some.inj hu
        repeat' (first
 | refine SO.pure rfl rfl rfl ?_
 | refine SO.nil ?_
 | refine SK.region ?_
 | refine SK.condT rfl ?_
 | refine SK.skip ?_
 | refine SK.block ?_
 | refine SK.blk ?_
 | fail)
        refine SK.inv ⟨⟨p + 1, by omega, by omega⟩, ?_, ?_, ?_⟩
        · show nx - (p + 1) < nx - p
          omega
        · rw [hwp]; repeat constructor
        · exact ent_append_of_takes (by repeat constructor)
      · have hpe : p = nx := by omega
        subst hpe
        repeat' (first
 | refine SO.pure rfl rfl rfl ?_
 | refine SK.seq ?_
 | refine SK.region ?_
 | fail)
        refine SO.lookup (kr := KI .i64) (ρ := RB) rfl (by repeat constructor) (by rfl) rfl rfl (by rfl) rfl rfl (fun u hid hu => by rw [hget, h2] at hu; cases hu) (fun hu => ?_)
        repeat' (first
 | refine SO.pure rfl rfl rfl ?_
 | refine SO.nil ?_
 | refine SK.seq ?_
 | refine SK.region ?_
 | refine SK.condF rfl ?_
 | refine SK.exit rfl ?_
 | fail)
        refine SO.rangeMap (kr := KI .i64) (ρ := RB) rfl (by repeat constructor) rfl rfl (fun r => ?_)
        repeat' (first
 | refine SO.nil ?_
 | refine SK.block ?_
 | fail)
        refine SK.loop (X := {x : List (Int × Bool) × Bool // (keysM x.1).Nodup ∧ (x.2 || (keysM x.1).any fun k => decide ((p : Int) ≤ k)) = moreO g.segs p}) (fun x => [(76, .pointer (some ⟨r, 0, none⟩)), (8, .bool x.1.2), (7, .int .i64 (p : Int)), (1, .pointer (some ⟨b, 0, none⟩))])
          (fun x => [mitAt (KI .i64) RB r mb (posM l) x.1.1, pts b 0 [.pointer (some ⟨lb, 0, none⟩)], libA] ++ lgAt lb { g with segs := l, mA := y2.1, gA := y2.2, gone := gone' }) (fun x => x.1.1.length) ⟨(posM l, false), hndp, by rw [← op_more hc hl p]; rfl⟩ (by repeat constructor) (ent_append_of_takes (by repeat constructor)) ?_
        rintro ⟨⟨left, acc⟩, hJ⟩
        have hJ1 : (keysM left).Nodup := hJ.1
        have hJ3 : (acc || (keysM left).any fun k => decide ((p : Int) ≤ k)) = moreO g.segs p := hJ.2
        dsimp only
        repeat' (first
 | refine SK.seq ?_
 | refine SK.region ?_
 | fail)
        refine SO.nextMapN (kr := KI .i64) (ρ := RB) rfl (by repeat constructor) rfl ?_ ?_
        · rintro rfl
          refine SO.itMap (kr := KI .i64) (ρ := RB) (by repeat constructor) ?_
          repeat' (first
 | refine SO.pure rfl rfl rfl ?_
 | refine SO.nil ?_
 | refine SK.seq ?_
 | refine SK.region ?_
 | refine SK.condF rfl ?_
 | refine SK.exit rfl ?_
 | fail)
          have e : acc = moreO g.segs p := by rw [← hJ3]; simp [keysM]
          subst e
          cases hmo : moreO g.segs p with
          | false =>
            repeat' (first
 | refine SO.pure rfl rfl rfl ?_
 | refine SO.nil ?_
 | refine SK.seq ?_
 | refine SK.region ?_
 | refine SK.condF rfl ?_
 | refine SK.skip ?_
 | refine SO.store rfl rfl (by repeat constructor) rfl (by rfl) rfl rfl (by rfl) (by rfl) ?_
 | refine SK.regionX 6 (.item 0 0 (.item 0 4 (.item 0 5 (.item 0 1 (.item 0 2 (.item 0 3 (.item 1 6 (.item 1 7 (.item 0 8 (.item 0 9 (.item 0 10 (.item 0 11 (.item 1 12 .nil))))))))))))) [] .nil (by repeat (first | exact .nil | apply PersSub.s | apply PersSub.t | apply PersSub.p | apply PersSub.r | apply PersSub.skip)) (by kernel_rfl) (by kernel_rfl) (fun _ _ _ h => h) ?_
 | refine SK.regionX 30 (.item 0 0 (.item 0 1 (.item 0 2 (.item 0 3 (.item 0 4 (.item 1 5 (.item 0 6 (.item 0 7 (.item 2 8 .nil))))))))) (reF lb g l y2.1 y2.2 gone') (by repeat constructor) (by repeat (first | exact .nil | apply PersSub.s | apply PersSub.t | apply PersSub.p | apply PersSub.r | apply PersSub.skip)) (by kernel_rfl) (by kernel_rfl) (fun _ _ _ h => h) ?_
 | refine SX.tail (by rfl) (by repeat (first | exact .nil | apply DropP.s | apply DropP.t | apply DropP.p | apply DropP.r | apply DropP.keep)) ?_
 | refine SX.pure rfl rfl rfl ?_
 | refine SX.load rfl (by repeat constructor) rfl (by rfl) (by exact ⟨rfl, by first | exact fun _ => rfl | exact (fun h => by cases h)⟩) rfl ?_
 | refine SX.step rfl rfl ?_
 | refine SK.invY ?_
 | refine SY.go ?_
 | fail)
            exact SK.retX (.tmp rfl .nil) (y2.1, y2.2, l) (re_op hc hl) rfl (by simp only [lgAt]; repeat constructor)
          | true =>
            repeat' (first
 | refine SO.pure rfl rfl rfl ?_
 | refine SO.nil ?_
 | refine SO.load rfl (by repeat constructor) rfl (by rfl) (by exact ⟨rfl, by first | exact fun _ => rfl | exact (fun h => by cases h)⟩) rfl ?_
 | refine SK.seq ?_
 | refine SK.region ?_
 | refine SK.condT rfl ?_
 | refine SK.block ?_
 | fail)
            refine SK.loop (X := {x : Nat × List SB // x.1 ≤ 8 ∧ SegUp (fun x => (x.s.cutAt x.d p).2) l x.1 x.2}) (fun x => [(93, .int .i64 (x.1.1 : Int)), (92, .int .i64 (l.length : Int)), (91, .slice g.sA.1 l.length g.sA.2), (7, .int .i64 (p : Int)), (1, .pointer (some ⟨b, 0, none⟩))]) (fun x => pts b 0 [.pointer (some ⟨lb, 0, none⟩)] :: libA :: lgPre lb { g with segs := l, mA := y2.1, gA := y2.2, gone := gone' } ++ [sbsA x.1.2]) (fun x => 8 - x.1.1) ⟨(0, l), Nat.zero_le _, segUp_zero _ _⟩ (by repeat constructor) (ent_append_of_takes (by repeat constructor)) ?_
            rintro ⟨⟨k, l2⟩, hk20, hc20⟩
            have hk2 : k ≤ 8 := hk20
            have hc2 : SegUp (fun x => (x.s.cutAt x.d p).2) l k l2 := hc20
            dsimp only
            have hw2 : IntKind.i64.wrap ((k : Int) + 1) = ((k + 1 : Nat) : Int) := by rw [wrap_id (by omega) (by omega)]; omega
            rcases Nat.lt_or_ge k 8 with hlt2 | hge2
            · have hd3 : decide ((k : Int) < (l.length : Int)) = true := decide_eq_true (by omega)
              obtain ⟨sx, hx⟩ : ∃ x, l2[k]? = some x := ⟨_, List.getElem?_eq_getElem (by rw [hc2.len, hl8]; exact hlt2)⟩
              have hxg : l[k]? = some sx := by rw [← hc2.old k (Nat.le_refl _)]; exact hx
              have hxb : (l.map (·.sb))[k]? = some sx.sb := by rw [List.getElem?_map, hxg]; rfl
              obtain ⟨x0, hx0m, ex1, ex2⟩ := op_mem hc hl (List.mem_of_getElem? hxg)
              have hok : sx.d.Ok := by rw [ex2, hr.op x0 hx0m]; exact h.dk x0 hx0m
              have sc := scutAt_does sx.sb sx.db sx.mb sx.p sx.s sx.d (p : Int) hok
              have e0 : (sx.s.cutAt sx.d p).1 = 0 := by rw [ex1, ex2, hr.op x0 hx0m]; exact hr.cut x0 hx0m
              rw [e0] at sc
              have hx0 := hx
              have hkl2 : k < l2.length := (List.getElem?_eq_some_iff.1 hx).1
              refine SK.sbsOpen (k := k) (by repeat constructor) hx ?_
              repeat' (first
 | refine SO.eloadQ rfl (by repeat constructor) (by assumption) rfl (by rfl) (by exact fun _ => ⟨rfl, fun _ => rfl⟩) rfl (fun hid => ?_)
 | refine SO.call (sc) rfl rfl rfl (by repeat constructor) (by repeat constructor) rfl (fun x hx => ?_)
 | refine SO.indexQ rfl rfl (by repeat constructor) rfl rfl rfl rfl (by assumption) ?_
 | refine SO.eloadQ rfl (by repeat constructor) (by assumption) rfl (by rfl) (by exact fun _ => ⟨rfl, fun h => by cases h⟩) rfl (fun hid => ?_)
 | refine SO.pure rfl rfl rfl ?_
 | refine SO.nil ?_
 | refine SK.seq ?_
 | refine SK.region ?_
 | refine SK.condF rfl ?_
 | refine SK.skip ?_
 | refine SK.block ?_
 | refine SK.blk ?_
 | refine SK.condTP rfl (by first | assumption | (simp only [Go.Sl.bl]; omega)) ?_
 | fail)
              rename Pl => px
              have hst := segUp_step hc2 hx0 px
              refine SK.inv ⟨⟨(k + 1, l2.set k (sx.upd px (sx.s.cutAt sx.d p).2)), by show k + 1 ≤ 8; omega, hst⟩, ?_, ?_, ?_⟩
              · show 8 - (k + 1) < 8 - k
                omega
              · rw [hw2]; repeat constructor
              · apply ent_sbs (l := l2) (k := k) (x := sx.upd px (sx.s.cutAt sx.d p).2) (A := pts b 0 [.pointer (some ⟨lb, 0, none⟩)] :: libA :: lgPre lb { g with segs := l, mA := y2.1, gA := y2.2, gone := gone' }) hkl2
                repeat constructor
            · have hd3 : decide ((k : Int) < (l.length : Int)) = false := decide_eq_false (by omega)
              obtain rfl : k = 8 := by omega
              repeat' (first
 | refine SO.pure rfl rfl rfl ?_
 | refine SO.nil ?_
 | refine SK.seq ?_
 | refine SK.region ?_
 | refine SK.exit rfl ?_
 | refine SO.store rfl rfl (by repeat constructor) rfl (by rfl) rfl rfl (by rfl) (by rfl) ?_
 | refine SK.condFP rfl (by first | assumption | (simp only [Go.Sl.bl]; omega)) ?_
 | refine SK.regionX 6 (.item 0 0 (.item 0 4 (.item 0 5 (.item 0 1 (.item 0 2 (.item 0 3 (.item 1 6 (.item 1 7 (.item 0 8 (.item 0 9 (.item 0 10 (.item 0 11 (.item 1 12 .nil))))))))))))) [] .nil (by repeat (first | exact .nil | apply PersSub.s | apply PersSub.t | apply PersSub.p | apply PersSub.r | apply PersSub.skip)) (by kernel_rfl) (by kernel_rfl) (fun _ _ _ h => h) ?_
 | refine SK.regionX 30 (.item 0 0 (.item 0 1 (.item 0 2 (.item 0 3 (.item 0 4 (.item 1 5 (.item 0 6 (.item 0 7 (.item 2 8 .nil))))))))) (reF lb g l y2.1 y2.2 gone') (by repeat constructor) (by repeat (first | exact .nil | apply PersSub.s | apply PersSub.t | apply PersSub.p | apply PersSub.r | apply PersSub.skip)) (by kernel_rfl) (by kernel_rfl) (fun _ _ _ h => h) ?_
 | refine SX.tail (by rfl) (by repeat (first | exact .nil | apply DropP.s | apply DropP.t | apply DropP.p | apply DropP.r | apply DropP.keep)) ?_
 | refine SX.pure rfl rfl rfl ?_
 | refine SX.load rfl (by repeat constructor) rfl (by rfl) (by exact ⟨rfl, by first | exact fun _ => rfl | exact (fun h => by cases h)⟩) rfl ?_
 | refine SX.step rfl rfl ?_
 | refine SK.invY ?_
 | refine SY.go ?_
 | fail)
              exact SK.retX (.tmp rfl .nil) (y2.1, y2.2, l2) (re_cut hc hl hc2) rfl (by simp only [lgAt, hc2.len, hc2.sb]; repeat constructor)
        · intro k u hh hkl hkl2
          have hkm : k ∈ keysM left := List.mem_map.2 ⟨_, hkl, rfl⟩
          have hlt := mdel_lt hkm
          have hna := any_del (f := fun k => decide ((p : Int) ≤ k)) hkm hJ1
          repeat' (first
 | refine SO.pure rfl rfl rfl ?_
 | refine SO.nil ?_
 | refine SK.seq ?_
 | refine SK.region ?_
 | refine SK.condT rfl ?_
 | refine SK.skip ?_
 | refine SK.block ?_
 | fail)
          refine SO.entry (kr := KI .i64) (ρ := RB) rfl (by repeat constructor) rfl ?_
          refine SO.itAt (kr := KI .i64) (ρ := RB) (by repeat constructor) ?_
          cases acc with
          | true =>
            repeat' (first
 | refine SO.pure rfl rfl rfl ?_
 | refine SO.nil ?_
 | refine SO.guardN rfl rfl rfl ?_
 | refine SK.region ?_
 | refine SK.blk ?_
 | fail)
            refine SK.inv ⟨⟨(mdel left k, true), nodup_mdel hJ1 _, by rw [Bool.true_or] at hJ3 ⊢; exact hJ3⟩, hlt, ?_, ?_⟩
            · repeat constructor
            · exact ent_append_of_takes (by repeat constructor)
          | false =>
            repeat' (first
 | refine SO.pure rfl rfl rfl ?_
 | refine SO.nil ?_
 | refine SO.guardY rfl rfl ?_
 | refine SK.region ?_
 | refine SK.blk ?_
 | fail)
            refine SK.inv ⟨⟨(mdel left k, decide ((p : Int) ≤ k)), nodup_mdel hJ1 _, by rw [Bool.false_or] at hJ3; dsimp only; rw [hna]; exact hJ3⟩, hlt, ?_, ?_⟩
            · repeat constructor
            · exact ent_append_of_takes (by repeat constructor)
end Go.Proofs
