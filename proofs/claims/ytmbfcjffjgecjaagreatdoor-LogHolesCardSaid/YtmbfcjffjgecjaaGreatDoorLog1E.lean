/- A part of a proof: what functions of the program compute. -/
import Derived.Test.YtmbfcjffjgecjaaGreatDoorStrE
set_option linter.unusedVariables false
set_option linter.unusedSimpArgs false
set_option maxHeartbeats 0
set_option maxRecDepth 20000
namespace Go.Proofs
attribute [local irreducible] Go.Sl.SO Go.Sl.SQ Go.Sl.SR Go.Sl.SC Go.Sl.SX Go.Sl.SY Go.Sl.eadr Go.Sl.slAt Go.Sl.sqAt Go.Sl.pts Go.Sl.rod Go.Sl.ob Go.Sl.ex Go.Sl.big Go.Sl.pr Go.Sl.tabs Go.Sl.mpAt Go.Sl.mitAt Go.Sl.mitN
open Go.Sl
theorem lseg_does (lb : Nat) (g : Lg) (pos : Int) (x : SB) (h : LgOk g) (hp : 0 ≤ pos ∧ pos ≤ 9223372036854775807) (hx : g.segs[stripeM g.m pos]? = some x) : Does Tryz.prog 119 [.pointer (some ⟨lb, 0, none⟩), .int .i64 pos] [] (lgHd lb g) Unit (fun _ => True) (fun _ => .tuple #[.pointer (some ⟨x.sb, 0, none⟩), .int .i64 (epochM g.m pos)]) (fun _ => lgHd lb g) := by
  refine Does.of Tryz.call119 Tryz.func119 rfl rfl rfl all_nil rfl ?_
  have fd := mfind_does g.mA.1 g.m.length g.mA.2 g.m pos h.m hp
  have hxb : (g.segs.map (·.sb))[stripeM g.m pos]? = some x.sb := by rw [List.getElem?_map, hx]; rfl
  repeat' (first
 | refine SO.eloadQ rfl (by repeat constructor) (by assumption) rfl (by rfl) (by exact fun _ => ⟨rfl, fun _ => rfl⟩) rfl (fun hid => ?_)
 | refine SO.call (fd) rfl rfl rfl (by repeat constructor) (by repeat constructor) rfl (fun x hx => ?_)
 | refine SO.indexQ rfl rfl (by repeat constructor) rfl rfl rfl rfl (by assumption) ?_
 | refine SO.eloadQ rfl (by repeat constructor) (by assumption) rfl (by rfl) (by exact fun _ => ⟨rfl, fun h => by cases h⟩) rfl (fun hid => ?_)
 | refine SO.pure rfl rfl rfl ?_
 | refine SO.nil ?_
 | refine SO.load rfl (by repeat constructor) rfl (by rfl) (by exact ⟨rfl, by first | exact fun _ => rfl | exact (fun h => by cases h)⟩) rfl ?_
 | refine SK.seq ?_
 | refine SK.region ?_
 | fail)
  exact SK.retX (.tmp rfl (.tmp rfl .nil)) () trivial rfl (by repeat constructor)
theorem lnext_does (lb : Nat) (g : Lg) : Does Tryz.prog 62 [.pointer (some ⟨lb, 0, none⟩)] [] (lgHd lb g) Unit (fun _ => True) (fun _ => .int .i64 (if g.down = true then 0 else (g.next : Int))) (fun _ => lgHd lb g) := by
  refine Does.of Tryz.call62 Tryz.func62 rfl rfl rfl all_nil rfl ?_
  cases hd : g.down with
  | true =>
    repeat' (first
 | refine SO.pure rfl rfl rfl ?_
 | refine SO.nil ?_
 | refine SO.load rfl (by repeat constructor) rfl (by rfl) (by exact ⟨rfl, by first | exact fun _ => rfl | exact (fun h => by cases h)⟩) rfl ?_
 | refine SK.seq ?_
 | refine SK.region ?_
 | refine SK.condTP rfl (by first | assumption | (simp only [Go.Sl.bl]; omega)) ?_
 | fail)
    exact SK.retX (.tmp rfl .nil) () trivial rfl (by repeat constructor)
  | false =>
    repeat' (first
 | refine SO.pure rfl rfl rfl ?_
 | refine SO.nil ?_
 | refine SO.load rfl (by repeat constructor) rfl (by rfl) (by exact ⟨rfl, by first | exact fun _ => rfl | exact (fun h => by cases h)⟩) rfl ?_
 | refine SK.seq ?_
 | refine SK.region ?_
 | refine SK.skip ?_
 | refine SK.condFP rfl (by first | assumption | (simp only [Go.Sl.bl]; omega)) ?_
 | fail)
    exact SK.retX (.tmp rfl .nil) () trivial rfl (by repeat constructor)
theorem ldown_does (lb : Nat) (g : Lg) : Does Tryz.prog 118 [.pointer (some ⟨lb, 0, none⟩)] [] (lgHd lb g) Unit (fun _ => True) (fun _ => .bool g.down) (fun _ => lgHd lb g) := by
  refine Does.of Tryz.call118 Tryz.func118 rfl rfl rfl all_nil rfl ?_
  repeat' (first
 | refine SO.pure rfl rfl rfl ?_
 | refine SO.nil ?_
 | refine SO.load rfl (by repeat constructor) rfl (by rfl) (by exact ⟨rfl, by first | exact fun _ => rfl | exact (fun h => by cases h)⟩) rfl ?_
 | refine SK.seq ?_
 | refine SK.region ?_
 | fail)
  exact SK.retX (.tmp rfl .nil) () trivial rfl (by repeat constructor)
theorem lepoch_does (lb : Nat) (g : Lg) : Does Tryz.prog 70 [.pointer (some ⟨lb, 0, none⟩)] [] (lgHd lb g) Unit (fun _ => True) (fun _ => .int .i64 (g.m.length : Int)) (fun _ => lgHd lb g) := by
  refine Does.of Tryz.call70 Tryz.func70 rfl rfl rfl all_nil rfl ?_
  repeat' (first
 | refine SO.pure rfl rfl rfl ?_
 | refine SO.nil ?_
 | refine SO.load rfl (by repeat constructor) rfl (by rfl) (by exact ⟨rfl, by first | exact fun _ => rfl | exact (fun h => by cases h)⟩) rfl ?_
 | refine SK.seq ?_
 | refine SK.region ?_
 | fail)
  exact SK.retX (.tmp rfl .nil) () trivial rfl (by repeat constructor)
theorem lstripes_does (lb : Nat) (g : Lg) (x : Int × Int) (h : LgOk g) (hx : g.m[g.m.length - 1]? = some x) : Does Tryz.prog 69 [.pointer (some ⟨lb, 0, none⟩)] [] (lgHd lb g) Unit (fun _ => True) (fun _ => .int .i64 x.2) (fun _ => lgHd lb g) := by
  refine Does.of Tryz.call69 Tryz.func69 rfl rfl rfl all_nil rfl ?_
  have hl := h.m.len
  have hw : Int.ofNat (g.m.length - 1) = IntKind.i64.wrap ((g.m.length : Int) - 1) := by
    rw [wrap_id (by omega) (by omega)]
    show ((g.m.length - 1 : Nat) : Int) = _
    omega
  repeat' (first
 | refine SX.indexH rfl rfl (by repeat constructor) rfl rfl (by assumption) rfl (by assumption) ?_
 | refine SO.pure rfl rfl rfl ?_
 | refine SO.nil ?_
 | refine SK.seq ?_
 | refine SK.region ?_
 | refine SK.regionX 1 (.item 0 0 (.item 0 4 (.item 0 1 (.item 0 5 (.item 0 2 (.item 0 6 (.item 0 3 (.item 0 7 (.item 0 8 (.item 0 9 (.item 0 10 (.item 0 11 (.item 0 12 (.item 0 13 .nil)))))))))))))) [] .nil (by repeat (first | exact .nil | apply PersSub.s | apply PersSub.t | apply PersSub.p | apply PersSub.r | apply PersSub.skip)) (by kernel_rfl) (by kernel_rfl) (fun _ _ _ h => h) ?_
 | refine SX.tail (by rfl) (by repeat (first | exact .nil | apply DropP.s | apply DropP.t | apply DropP.p | apply DropP.r | apply DropP.keep)) ?_
 | refine SX.indexH rfl rfl (by repeat constructor) rfl rfl rfl rfl (by assumption) ?_
 | refine SX.pure rfl rfl rfl ?_
 | refine SX.load rfl (by repeat constructor) rfl (by rfl) (by exact ⟨rfl, by first | exact fun _ => rfl | exact (fun h => by cases h)⟩) rfl ?_
 | refine SX.efield rfl rfl rfl rfl rfl ?_
 | refine SX.eload rfl (by repeat constructor) (by assumption) rfl (by rfl) (by exact fun _ => ⟨rfl, fun _ => rfl⟩) rfl (fun hid => ?_)
 | refine SX.eload rfl (by repeat constructor) (by assumption) rfl (by rfl) (by exact fun _ => ⟨rfl, fun h => by cases h⟩) rfl (fun hid => ?_)
 | fail)
  exact SK.retX (.tmp rfl .nil) () trivial rfl (by repeat constructor)
theorem lput_down (lb : Nat) (g : Lg) (pos : Int) (r : Rc) (z : Pl) (hd : g.down = true) : Does Tryz.prog 58 [.pointer (some ⟨lb, 0, none⟩), .int .i64 pos, RRec.val r z] [] (lgHd lb g) Unit (fun _ => True) (fun _ => .int .i64 11) (fun _ => lgHd lb g) := by
  refine Does.of Tryz.call58 Tryz.func58 rfl rfl rfl all_nil rfl ?_
  repeat' (first
 | refine SO.pure rfl rfl rfl ?_
 | refine SO.nil ?_
 | refine SO.load rfl (by repeat constructor) rfl (by rfl) (by exact ⟨rfl, by first | exact fun _ => rfl | exact (fun h => by cases h)⟩) rfl ?_
 | refine SK.seq ?_
 | refine SK.region ?_
 | refine SK.block ?_
 | refine SO.box rfl rfl rfl (fun b => ?_)
 | refine SK.condTP rfl (by first | assumption | (simp only [Go.Sl.bl]; omega)) ?_
 | fail)
  exact SK.retX (.tmp rfl .nil) () trivial rfl (by repeat constructor)
theorem lput_bad (lb : Nat) (g : Lg) (pos : Int) (r : Rc) (z : Pl) (hd : g.down = false) (hp : pos ≠ (g.next : Int)) : Does Tryz.prog 58 [.pointer (some ⟨lb, 0, none⟩), .int .i64 pos, RRec.val r z] [] (lgHd lb g) Unit (fun _ => True) (fun _ => .int .i64 1) (fun _ => lgHd lb g) := by
  refine Does.of Tryz.call58 Tryz.func58 rfl rfl rfl all_nil rfl ?_
  have hn : (!decide (pos = (g.next : Int))) = true := by simp [hp]
  repeat' (first
 | refine SO.pure rfl rfl rfl ?_
 | refine SO.nil ?_
 | refine SO.load rfl (by repeat constructor) rfl (by rfl) (by exact ⟨rfl, by first | exact fun _ => rfl | exact (fun h => by cases h)⟩) rfl ?_
 | refine SK.seq ?_
 | refine SK.region ?_
 | refine SK.block ?_
 | refine SO.box rfl rfl rfl (fun b => ?_)
 | refine SK.condTP rfl (by first | assumption | (simp only [Go.Sl.bl]; omega)) ?_
 | refine SK.condFP rfl (by first | assumption | (simp only [Go.Sl.bl]; omega)) ?_
 | fail)
  exact SK.retX (.tmp rfl .nil) () trivial rfl (by repeat constructor)
theorem lput_does (lb : Nat) (g : Lg) (r : Rc) (z : Pl) (sx : SB) (h : LgOk g) (hd : g.down = false) (hx : g.segs[stripeM g.m g.next]? = some sx)
    (sp : Does Tryz.prog 40 [.pointer (some ⟨sx.sb, 0, none⟩), .int .i64 (epochM g.m g.next), .int .i64 (g.next : Int), RRec.val r z] [libA, tabs 4 5] (sbAt sx) Pl (fun _ => True) (fun _ => .int .i64 (sx.s.put sx.d (epochM g.m g.next) g.next r).1) (fun p => sgAt sx.sb sx.db sx.mb (sx.s.put sx.d (epochM g.m g.next) g.next r).2.1 ++ dkAt sx.db p (sx.s.put sx.d (epochM g.m g.next) g.next r).2.2)) :
    Does Tryz.prog 58 [.pointer (some ⟨lb, 0, none⟩), .int .i64 (g.next : Int), RRec.val r z] [libA, tabs 4 5] (lgAt lb g) Pl (fun _ => True) (fun _ => .int .i64 (sx.s.put sx.d (epochM g.m g.next) g.next r).1) (fun p => lgAt lb (g.putG sx p (sx.s.put sx.d (epochM g.m g.next) g.next r))) := by
  refine Does.of Tryz.call58 Tryz.func58 rfl rfl rfl (all_cons pers_lib (all_cons (pers_tabs _ _) all_nil)) rfl ?_
  have hb := h.bd
  have sg := lseg_does lb g (g.next : Int) sx h (by omega) hx
  have hn : (!decide ((g.next : Int) = (g.next : Int))) = false := by simp
  have hw : IntKind.i64.wrap ((g.next : Int) + 1) = ((g.next + 1 : Nat) : Int) := by rw [wrap_id (by omega) (by omega)]; omega
  have hk : stripeM g.m g.next < g.segs.length := (List.getElem?_eq_some_iff.1 hx).1
  have hx0 := hx
  refine SK.sbsOpen (k := stripeM g.m g.next) (by repeat constructor) hx ?_
  generalize sx.s.put sx.d (epochM g.m g.next) g.next r = y at *
  obtain ⟨e, s', d'⟩ := y
  dsimp only at sp ⊢
  by_cases he : e = 0
  · subst he
    repeat' (first
 | refine SO.call (sg) rfl rfl rfl (by repeat constructor) (by repeat constructor) rfl (fun x hx => ?_)
 | refine SO.call (sp) rfl rfl rfl (by repeat constructor) (by repeat constructor) rfl (fun x hx => ?_)
 | refine SO.pure rfl rfl rfl ?_
 | refine SO.nil ?_
 | refine SO.loadW rfl (by repeat constructor) rfl rfl rfl (by rfl) rfl ?_
 | refine SO.load rfl (by repeat constructor) rfl (by rfl) (by exact ⟨rfl, by first | exact fun _ => rfl | exact (fun h => by cases h)⟩) rfl ?_
 | refine SK.seq ?_
 | refine SK.region ?_
 | refine SK.condT rfl ?_
 | refine SK.skip ?_
 | refine SK.block ?_
 | refine SK.blk ?_
 | refine SO.box rfl rfl rfl (fun b => ?_)
 | refine SO.store rfl rfl (by repeat constructor) rfl (by rfl) rfl rfl (by rfl) (by rfl) ?_
 | refine SK.condFP rfl (by first | assumption | (simp only [Go.Sl.bl]; omega)) ?_
 | fail)
    rename Pl => px
    refine SK.sbsShut (k := stripeM g.m g.next) (sx.upd px (s', d')) hk (by repeat constructor) ?_
    rw [hw]
    exact SK.retX (.tmp rfl .nil) px trivial rfl (by simp only [lgAt, Lg.putG, List.length_set, sb_map hx0, if_true]; repeat constructor)
  · have he2 : decide (e = 0) = false := decide_eq_false he
    repeat' (first
 | refine SO.call (sg) rfl rfl rfl (by repeat constructor) (by repeat constructor) rfl (fun x hx => ?_)
 | refine SO.call (sp) rfl rfl rfl (by repeat constructor) (by repeat constructor) rfl (fun x hx => ?_)
 | refine SO.pure rfl rfl rfl ?_
 | refine SO.nil ?_
 | refine SO.loadW rfl (by repeat constructor) rfl rfl rfl (by rfl) rfl ?_
 | refine SO.load rfl (by repeat constructor) rfl (by rfl) (by exact ⟨rfl, by first | exact fun _ => rfl | exact (fun h => by cases h)⟩) rfl ?_
 | refine SK.seq ?_
 | refine SK.region ?_
 | refine SK.skip ?_
 | refine SK.block ?_
 | refine SK.blk ?_
 | refine SO.box rfl rfl rfl (fun b => ?_)
 | refine SK.condFP rfl (by first | assumption | (simp only [Go.Sl.bl]; omega)) ?_
 | fail)
    rename Pl => px
    refine SK.sbsShut (k := stripeM g.m g.next) (sx.upd px (s', d')) hk (by repeat constructor) ?_
    exact SK.retX (.tmp rfl .nil) px trivial rfl (by simp only [lgAt, Lg.putG, List.length_set, sb_map hx0, if_neg he]; repeat constructor)
end Go.Proofs
