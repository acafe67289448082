/- A part of a proof: what functions of the program compute. -/
import Derived.Test.YtmbfcjffjgecjaaGreatDoorLog6E
import Derived.Test.YtmbfcjffjgecjaaGreatDoorLib2
set_option linter.unusedVariables false
set_option linter.unusedSimpArgs false
set_option maxHeartbeats 0
set_option maxRecDepth 20000
namespace Go.Sl
abbrev lgT (lb : Nat) (g : Lg) : List HP := [pts lb 0 [.pointer (some ⟨g.ob, 0, none⟩), .slice g.sA.1 g.segs.length g.sA.2, .slice g.mA.1 g.m.length g.mA.2, .int .i64 (g.trim : Int), .slice g.gA.1 g.gone.length g.gA.2, .int .i64 (g.next : Int), .bool g.down],
    slAt RSp g.mA.1 g.m.length g.m, slAt RI g.gA.1 g.gone.length g.gone, pr (g.gone.length ≤ g.gA.2)]
def Lg.atO (g : Lg) (s : OSt) (a b : Pl) : Lg := { g with m := s.1, mA := a, trim := s.2.1, gone := s.2.2, gA := b }
theorem cut_m (l : List (Int × Int)) : Lib.cut (OL.m l).text [32] = ([109], mapX l, true) := by
  show Lib.cut ([109] ++ 32 :: mapX l) [32] = _
  rw [cutL1, cut1_app (by decide)]
theorem cut_t (q : Nat) (v : List Int) : Lib.cut (OL.t q v).text [32] = ([116], Lib.decDigits q ++ 32 :: vecX v, true) := by
  show Lib.cut ([116] ++ 32 :: (Lib.decDigits q ++ 32 :: vecX v)) [32] = _
  rw [cutL1, cut1_app (by decide)]
theorem cut_t2 (q : Nat) (v : List Int) : Lib.cut (Lib.decDigits q ++ 32 :: vecX v) [32] = (Lib.decDigits q, vecX v, true) := by
  rw [cutL1, cut1_app (dec_no (by decide) _)]
end Go.Sl
namespace Go.Proofs
attribute [local irreducible] Go.Sl.SO Go.Sl.SQ Go.Sl.SR Go.Sl.SC Go.Sl.SX Go.Sl.SY Go.Sl.eadr Go.Sl.slAt Go.Sl.sqAt Go.Sl.pts Go.Sl.rod Go.Sl.ob Go.Sl.ex Go.Sl.big Go.Sl.pr Go.Sl.tabs Go.Sl.mpAt Go.Sl.mitAt Go.Sl.mitN
open Go.Sl
theorem ltake_m (lb : Nat) (g : Lg) (l : List (Int × Int)) (h : (OL.m l).ok) : Does Tryz.prog 116 [.pointer (some ⟨lb, 0, none⟩), .string (txB (OL.m l).text)] [libA] (lgT lb g) Pl (fun _ => True) (fun _ => .bool true) (fun x => lgT lb (g.atO (OL.step (g.m, g.trim, g.gone) (.m l)) x g.gA)) := by
  refine Does.of Tryz.call116 Tryz.func116 rfl rfl rfl (all_cons pers_lib all_nil) rfl ?_
  obtain ⟨hm, hl⟩ := h
  have hmx := map_len hm.bd
  have hsz : (OL.m l).text.length = 2 + (mapX l).length := by simp [OL.text]; omega
  have c1 := cut_does (txB (OL.m l).text) ⟨#[32]⟩ (by rw [size_txB]; omega)
  rw [tx_txB, show (⟨#[32]⟩ : ByteArray).data.toList = [32] from rfl, cut_m] at c1
  dsimp only at c1
  have mp := mparse_does l hm (by omega)
  have e2 : eqS (txB [109]) ⟨#[109]⟩ = true := by decide
  generalize hzz : txB (OL.m l).text = zz at *
  repeat' (first
 | refine SO.call (c1) rfl rfl rfl (by repeat constructor) (by repeat constructor) rfl (fun x hx => ?_)
 | refine SO.call (mp) rfl rfl rfl (by repeat constructor) (by repeat constructor) rfl (fun x hx => ?_)
 | refine SO.pure rfl rfl rfl ?_
 | refine SO.nil ?_
 | refine SK.seq ?_
 | refine SK.region ?_
 | refine SK.condT rfl ?_
 | refine SO.store rfl rfl (by repeat constructor) rfl (by rfl) rfl rfl (by rfl) (by rfl) ?_
 | fail)
  rename Pl => y
  exact SK.retX (.tmp rfl .nil) y trivial rfl (by simp only [lgT, Lg.atO, OL.step]; repeat constructor)
theorem ltake_t (lb : Nat) (g : Lg) (q : Nat) (v : List Int) (h : (OL.t q v).ok) : Does Tryz.prog 116 [.pointer (some ⟨lb, 0, none⟩), .string (txB (OL.t q v).text)] [libA] (lgT lb g) Pl (fun _ => True) (fun _ => .bool true) (fun x => lgT lb (g.atO (OL.step (g.m, g.trim, g.gone) (.t q v)) g.mA x)) := by
  refine Does.of Tryz.call116 Tryz.func116 rfl rfl rfl (all_cons pers_lib all_nil) rfl ?_
  obtain ⟨hq, hl, hv⟩ := h
  have hvx := vecX_len hv
  have hdl := dec_len 5 q (by omega)
  have hsz : (OL.t q v).text.length = 3 + (Lib.decDigits q).length + (vecX v).length := by simp [OL.text]; omega
  have c1 := cut_does (txB (OL.t q v).text) ⟨#[32]⟩ (by rw [size_txB]; omega)
  rw [tx_txB, show (⟨#[32]⟩ : ByteArray).data.toList = [32] from rfl, cut_t] at c1
  dsimp only at c1
  have c2 := cut_does (txB (Lib.decDigits q ++ 32 :: vecX v)) ⟨#[32]⟩ (by rw [size_txB]; simp; omega)
  rw [tx_txB, show (⟨#[32]⟩ : ByteArray).data.toList = [32] from rfl, cut_t2] at c2
  dsimp only at c2
  have n1 := number_does (txB (Lib.decDigits q)) 2147483647 q (by rw [size_txB]; omega) (by rw [tx_txB]; exact num_nat (by omega)) (by decide)
  have vp := vparse_ok (txB (vecX v)) (trimV v) (by rw [size_txB]; omega) (by rw [tx_txB]; exact vec_round hl hv)
  have e2 : eqS (txB [116]) ⟨#[109]⟩ = false := by decide
  have e3 : (!eqS (txB [116]) ⟨#[116]⟩) = false := by decide
  generalize hzz : txB (OL.t q v).text = zz at *
  generalize hzy : txB (Lib.decDigits q ++ 32 :: vecX v) = zy at *
  repeat' (first
 | refine SO.call (c1) rfl rfl rfl (by repeat constructor) (by repeat constructor) rfl (fun x hx => ?_)
 | refine SO.call (c2) rfl rfl rfl (by repeat constructor) (by repeat constructor) rfl (fun x hx => ?_)
 | refine SO.call (n1) rfl rfl rfl (by repeat constructor) (by repeat constructor) rfl (fun x hx => ?_)
 | refine SO.call (vp) rfl rfl rfl (by repeat constructor) (by repeat constructor) rfl (fun x hx => ?_)
 | refine SO.pure rfl rfl rfl ?_
 | refine SO.nil ?_
 | refine SO.guardY rfl rfl ?_
 | refine SK.seq ?_
 | refine SK.region ?_
 | refine SK.condF rfl ?_
 | refine SK.skip ?_
 | refine SO.store rfl rfl (by repeat constructor) rfl (by rfl) rfl rfl (by rfl) (by rfl) ?_
 | fail)
  rename Pl => y
  refine SK.shift (fun F w hst => hst.ent (Ent.cons (ent_pr (p := (trimV v).length ≤ y.2) hx))) ?_
  exact SK.retX (.tmp rfl .nil) y trivial rfl (by simp only [lgT, Lg.atO, OL.step]; repeat constructor)
theorem lpos_does (lb : Nat) (g : Lg) (hl : g.segs.length = 8) (hs : ∀ x ∈ g.segs, x.s.m.length ≤ 1000000) : Does Tryz.prog 117 [.pointer (some ⟨lb, 0, none⟩)] [] (lgAt lb g) Nat (fun _ => True) (fun b => .map (some b)) (fun b => mpAt (KI .i64) RB b (posM g.segs) :: lgAt lb g) := by
  refine Does.of Tryz.call117 Tryz.func117 rfl rfl rfl all_nil rfl ?_
  repeat' (first
 | refine SO.makeMap (kr := KI .i64) (ρ := RB) rfl (fun mb => ?_)
 | refine SO.pure rfl rfl rfl ?_
 | refine SO.nil ?_
 | refine SO.load rfl (by repeat constructor) rfl (by rfl) (by exact ⟨rfl, by first | exact fun _ => rfl | exact (fun h => by cases h)⟩) rfl ?_
 | refine SK.seq ?_
 | refine SK.region ?_
 | refine SK.block ?_
 | refine SO.alloc rfl rfl rfl (fun b => ?_)
 | refine SO.storeW rfl rfl (by repeat constructor) rfl (by rfl) (by rfl) (by rfl) ?_
 | fail)
  refine SK.loop (X := {k : Nat // k ≤ 8}) (fun k => [(13, .int .i64 (k.1 : Int)), (12, .int .i64 (g.segs.length : Int)), (11, .slice g.sA.1 g.segs.length g.sA.2), (3, .pointer (some ⟨b, 0, none⟩))]) (fun k => [pts b 0 [.map (some mb)], mpAt (KI .i64) RB mb (posM (g.segs.take k.1))] ++ lgAt lb g) (fun k => 8 - k.1) ⟨0, Nat.zero_le _⟩ (by repeat constructor) (ent_append_of_takes (by repeat constructor)) ?_
  rintro ⟨k, hk⟩
  dsimp only
  have hw : IntKind.i64.wrap ((k : Int) + 1) = ((k + 1 : Nat) : Int) := by rw [wrap_id (by omega) (by omega)]; omega
  rcases Nat.lt_or_ge k 8 with hlt | hge
  · have hd2 : decide ((k : Int) < (g.segs.length : Int)) = true := decide_eq_true (by omega)
    obtain ⟨sx, hx⟩ : ∃ x, g.segs[k]? = some x := ⟨_, List.getElem?_eq_getElem (by omega)⟩
    have hxb : (g.segs.map (·.sb))[k]? = some sx.sb := by rw [List.getElem?_map, hx]; rfl
    have hx0 := hx
    have hsm := hs sx (List.mem_of_getElem? hx)
    have sa := sall_does sx.sb
    refine SK.sbsOpen (k := k) (by repeat constructor) hx ?_
    repeat' (first
 | refine SO.eloadQ rfl (by repeat constructor) (by assumption) rfl (by rfl) (by exact fun _ => ⟨rfl, fun _ => rfl⟩) rfl (fun hid => ?_)
 | refine SO.call (sa) rfl rfl rfl (by repeat constructor) (by repeat constructor) rfl (fun x hx => ?_)
 | refine SO.indexQ rfl rfl (by repeat constructor) rfl rfl rfl rfl (by assumption) ?_
 | refine SO.eloadQ rfl (by repeat constructor) (by assumption) rfl (by rfl) (by exact fun _ => ⟨rfl, fun h => by cases h⟩) rfl (fun hid => ?_)
 | refine SO.pure rfl rfl rfl ?_
 | refine SO.nil ?_
 | refine SK.seq ?_
 | refine SK.region ?_
 | refine SK.skip ?_
 | refine SK.block ?_
 | refine SK.condTP rfl (by first | assumption | (simp only [Go.Sl.bl]; omega)) ?_
 | fail)
    rename Nat => bx
    refine SK.range (salliter bx sx.sb sx.db sx.mb sx.s (by unfold lim; omega)) Empty (fun i => [pts b 0 [.map (some mb)], mpAt (KI .i64) RB mb (putAll (posM (g.segs.take k)) (sx.s.all.take i))]) (fun _ => []) (fun y => y.elim) rfl (by repeat constructor) (by repeat constructor) rfl (fun _ _ => rfl) ?_ ?_ (fun y => y.elim)
    · rintro i ⟨p, rr⟩ hid q R hr
      have hpa := putAll_take (l := posM (g.segs.take k)) hr
      dsimp only at hpa
      repeat' (first
 | refine SO.pure rfl rfl rfl ?_
 | refine SO.nil ?_
 | refine SK.region ?_
 | fail)
      refine SK.inv ?_
      repeat' (first
 | refine SO.mapUpdate (kr := KI .i64) (ρ := RB) (u := true) (h := ()) (key := p) rfl (by repeat constructor) rfl rfl (by repeat constructor) rfl rfl rfl ?_
 | refine SO.pure rfl rfl rfl ?_
 | refine SO.nil ?_
 | refine SO.load rfl (by repeat constructor) rfl (by rfl) (by exact ⟨rfl, by first | exact fun _ => rfl | exact (fun h => by cases h)⟩) rfl ?_
 | refine SK.region ?_
 | refine SK.block ?_
 | refine SK.blk ?_
 | fail)
      refine SK.nil ?_
      rw [hpa]
      exact ent_append_of_takes (by repeat constructor)
    · refine SK.blk ?_
      rw [List.take_length, ← posM_take hx0]
      repeat' (first
 | refine SO.pure rfl rfl rfl ?_
 | refine SO.nil ?_
 | refine SK.region ?_
 | refine SK.blk ?_
 | fail)
      refine SK.inv ⟨⟨k + 1, by omega⟩, ?_, ?_, ?_⟩
      · show 8 - (k + 1) < 8 - k
        omega
      · rw [hw]; repeat constructor
      · exact ent_lgC (C := [pts b 0 [.map (some mb)], mpAt (KI .i64) RB mb (posM (g.segs.take (k + 1)))]) hx0 (by repeat constructor)
  · have hd2 : decide ((k : Int) < (g.segs.length : Int)) = false := decide_eq_false (by omega)
    obtain rfl : k = 8 := by omega
    rw [show g.segs.take 8 = g.segs by rw [← hl, List.take_length]]
    repeat' (first
 | refine SO.pure rfl rfl rfl ?_
 | refine SO.nil ?_
 | refine SO.load rfl (by repeat constructor) rfl (by rfl) (by exact ⟨rfl, by first | exact fun _ => rfl | exact (fun h => by cases h)⟩) rfl ?_
 | refine SK.seq ?_
 | refine SK.region ?_
 | refine SK.exit rfl ?_
 | refine SK.condFP rfl (by first | assumption | (simp only [Go.Sl.bl]; omega)) ?_
 | fail)
    exact SK.retX (.tmp rfl .nil) mb trivial rfl (by repeat constructor)
end Go.Proofs
