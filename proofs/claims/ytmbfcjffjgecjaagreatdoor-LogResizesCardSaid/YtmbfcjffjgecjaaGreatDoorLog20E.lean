/- A part of a proof: what functions of the program compute. -/
import Derived.Test.YtmbfcjffjgecjaaGreatDoorLog17E
import Derived.Test.YtmbfcjffjgecjaaGreatDoorLib2
set_option linter.unusedVariables false
set_option linter.unusedSimpArgs false
set_option maxHeartbeats 0
set_option maxRecDepth 20000
namespace Go.Proofs
attribute [local irreducible] Go.Sl.SO Go.Sl.SQ Go.Sl.SR Go.Sl.SC Go.Sl.SX Go.Sl.SY Go.Sl.eadr Go.Sl.slAt Go.Sl.sqAt Go.Sl.pts Go.Sl.rod Go.Sl.ob Go.Sl.ex Go.Sl.big Go.Sl.pr Go.Sl.tabs Go.Sl.mpAt Go.Sl.mitAt Go.Sl.mitN
open Go.Sl
theorem wrap_u8 {n : Nat} (h : n < 256) : IntKind.u8.wrap (n : Int) = (n : Int) := by
  simp [IntKind.wrap, IntKind.signed, IntKind.bits]
  omega
theorem lresizesL_long (A : Option Addr) (n c : Nat) (h : 12 < n) : Does Tryz.prog 13 [.slice A n c] [libA, tabs 4 5] [] Unit (fun _ => True) (fun _ => .bool true) (fun _ => []) := by
  refine Does.of Tryz.call13 Tryz.func13 rfl rfl rfl (all_cons pers_lib (all_cons (pers_tabs _ _) all_nil)) rfl ?_
  have d1 : decide ((12 : Int) < (n : Int)) = true := decide_eq_true (by omega)
  repeat' (first
 | refine SO.call (lknown_does) rfl rfl rfl (by repeat constructor) (by repeat constructor) rfl (fun x hx => ?_)
 | refine SO.pure rfl rfl rfl ?_
 | refine SO.nil ?_
 | refine SK.seq ?_
 | refine SK.region ?_
 | refine SK.condF rfl ?_
 | refine SK.skip ?_
 | refine SK.condTP rfl (by first | assumption | (simp only [Go.Sl.bl]; omega)) ?_
 | fail)
  exact SK.retX (.tmp rfl .nil) () trivial rfl (by repeat constructor)
abbrev rzE (lb : Nat) (g : Lg) : List HP := lgAt lb g ++ [libA]
theorem lresizesL_does (A : Option Addr) (n c : Nat) (l : List Int) (hn : n ≤ 12) (hb : ∀ x ∈ l, 0 ≤ x ∧ x ≤ 255) : Does Tryz.prog 13 [.slice A n c] [libA, tabs 4 5, slAt RU A n l] [] Unit (fun _ => True) (fun _ => .bool true) (fun _ => []) := by
  refine Does.of Tryz.call13 Tryz.func13 rfl rfl rfl (all_cons pers_lib (all_cons (pers_tabs _ _) (all_cons (pers_slAt _ _ _ _) all_nil))) rfl ?_
  refine SK.know (sl_len (ρ := RU) (A := A) (n := n) (l := l) (by repeat constructor)) ?_
  rintro ⟨rfl, -, -⟩
  have d1 : decide ((12 : Int) < (l.length : Int)) = false := decide_eq_false (by omega)
  have fl := lfilled_does 2 0 (by omega) (by omega) (by omega)
  rw [show ((2 : Nat) : Int) = 2 from rfl, show ((0 : Nat) : Int) = 0 from rfl] at fl
  repeat' (first
 | refine SO.call (lknown_does) rfl rfl rfl (by repeat constructor) (by repeat constructor) rfl (fun x hx => ?_)
 | refine SO.call (fl) rfl rfl rfl (by repeat constructor) (by repeat constructor) rfl (fun x hx => ?_)
 | refine SO.pure rfl rfl rfl ?_
 | refine SO.pure2 rfl rfl rfl ?_
 | refine SO.nil ?_
 | refine SK.seq ?_
 | refine SK.region ?_
 | refine SK.condF rfl ?_
 | refine SK.skip ?_
 | refine SK.block ?_
 | refine SK.condFP rfl (by first | assumption | (simp only [Go.Sl.bl]; omega)) ?_
 | fail)
  rename Nat × Lg => z
  obtain ⟨lb, g0⟩ := z
  rename Fill 2 0 (lb, g0).2 => f0
  dsimp only at f0 ⊢
  have r0 : ResB 0 0 0 g0 := ⟨f0.si.li, f0.si.trim, f0.gone, f0.si.next, f0.si.down, by rw [f0.si.m]; rfl, ⟨[], own_zero f0.own (by decide)⟩, by rw [f0.own]; decide, by rw [f0.own], by rw [f0.si.m]; decide⟩
  have sy0 : g0.synced := by
    intro x hx
    obtain ⟨i, hi, rfl⟩ := List.mem_iff_getElem.1 hx
    exact (f0.si.segs i _ (List.getElem?_eq_getElem hi)).1 rfl
  refine SK.loop (X := {x : Nat × Nat × Lg // x.1 ≤ l.length ∧ x.2.1 ≤ 4 * x.1 ∧ ResB (x.2.1 + x.1) x.2.1 x.1 x.2.2 ∧ x.2.2.synced}) (fun x => [(5, .int .i64 (x.1.1 : Int)), (4, .int .i64 (x.1.2.1 : Int)), (3, .pointer (some ⟨lb, 0, none⟩)), (0, .slice A l.length c)]) (fun x => [libA, tabs 4 5, slAt RU A l.length l] ++ lgAt lb x.1.2.2) (fun x => l.length - x.1.1) ⟨(0, 0, g0), Nat.zero_le _, Nat.le_refl _, r0, sy0⟩ (by repeat constructor) (ent_append_of_takes (by repeat constructor)) ?_
  rintro ⟨⟨i, c0, g⟩, hi0, hc0, hr0, hs0⟩
  have hi : i ≤ l.length := hi0
  have hc : c0 ≤ 4 * i := hc0
  have hr : ResB (c0 + i) c0 i g := hr0
  have hsy : g.synced := hs0
  dsimp only
  have hwi : IntKind.i64.wrap ((i : Int) + 1) = ((i + 1 : Nat) : Int) := by rw [wrap_id (by omega) (by omega)]; omega
  rcases Nat.lt_or_ge i l.length with hil | hil
  · have hl1 : decide ((i : Int) < (l.length : Int)) = true := decide_eq_true (by omega)
    obtain ⟨x, hx⟩ : ∃ x, l[i]? = some x := ⟨_, List.getElem?_eq_getElem hil⟩
    obtain ⟨hx1, hx2⟩ := hb x (List.mem_of_getElem? hx)
    obtain ⟨x', rfl⟩ := Int.eq_ofNat_of_zero_le hx1
    have hdl : x' / 8 % 5 < 5 := Nat.mod_lt _ (by decide)
    have hNl : x' % 8 < 8 := Nat.mod_lt _ (by decide)
    repeat' (first
 | refine SO.pure rfl rfl rfl ?_
 | refine SO.nil ?_
 | refine SK.seq ?_
 | refine SK.region ?_
 | refine SK.skip ?_
 | refine SK.block ?_
 | refine SK.condTP rfl (by first | assumption | (simp only [Go.Sl.bl]; omega)) ?_
 | fail)
    refine SK.loop (X := {y : Nat × Lg // y.1 ≤ x' / 8 % 5 ∧ ResB (c0 + y.1 + i) (c0 + y.1) i y.2 ∧ (0 < y.1 → y.2.head ≠ y.2.next)}) (fun y => [(6, .int .i64 (y.1.1 : Int)), (5, .int .i64 (i : Int)), (4, .int .i64 ((c0 + y.1.1 : Nat) : Int)), (3, .pointer (some ⟨lb, 0, none⟩)), (0, .slice A l.length c)]) (fun y => [libA, tabs 4 5, slAt RU A l.length l] ++ lgAt lb y.1.2) (fun y => x' / 8 % 5 - y.1.1) ⟨(0, g), Nat.zero_le _, hr, fun h => absurd h (Nat.lt_irrefl 0)⟩ (by repeat constructor) (ent_append_of_takes (by repeat constructor)) ?_
    rintro ⟨⟨k, g1⟩, hk0, hr1, hw1⟩
    have hk : k ≤ x' / 8 % 5 := hk0
    dsimp only at hr1 hw1 ⊢
    have hwk : IntKind.i64.wrap ((k : Int) + 1) = ((k + 1 : Nat) : Int) := by rw [wrap_id (by omega) (by omega)]; omega
    have hwc : IntKind.i64.wrap (((c0 + k : Nat) : Int) + 1) = ((c0 + k + 1 : Nat) : Int) := by rw [wrap_id (by omega) (by omega)]; omega
    have hdv : (IntKind.u8.wrap ((x' : Int).tdiv 8)).tmod 5 = ((x' / 8 % 5 : Nat) : Int) := by
      rw [show (x' : Int).tdiv 8 = ((x' / 8 : Nat) : Int) from rfl, wrap_u8 (by omega)]; rfl
    have hdw : IntKind.i64.wrap (((x' / 8 % 5 : Nat) : Int)) = ((x' / 8 % 5 : Nat) : Int) := wrap_id (by omega) (by omega)
    have hNw : IntKind.i64.wrap (1 + IntKind.i64.wrap ((x' : Int).tmod 8)) = ((1 + x' % 8 : Nat) : Int) := by
      rw [show (x' : Int).tmod 8 = ((x' % 8 : Nat) : Int) from rfl, wrap_id (n := ((x' % 8 : Nat) : Int)) (by omega) (by omega), wrap_id (by omega) (by omega)]; omega
    repeat' (first
 | refine SO.indexH rfl rfl (by repeat constructor) rfl rfl rfl rfl (by assumption) ?_
 | refine SO.pure rfl rfl rfl ?_
 | refine SO.pure2 rfl rfl rfl ?_
 | refine SO.nil ?_
 | refine SO.eloadW rfl (by repeat constructor) (by assumption) rfl (by rfl) rfl (by rfl) rfl (fun hid => ?_)
 | refine SK.seq ?_
 | refine SK.region ?_
 | fail)
    rw [hdv, hdw]
    rcases Nat.lt_or_ge k (x' / 8 % 5) with hkd | hkd
    · have hd3 : decide ((k : Int) < ((x' / 8 % 5 : Nat) : Int)) = true := decide_eq_true (by omega)
      have pt := lputR lb hr1.li hr1.down (a := 0) (b := ((c0 + k + 1 : Nat) : Int)) (by rw [hr1.next]; rfl) (by omega) (by omega) (by omega)
      rw [hr1.next] at pt
      have ri := rr_does 0 ((c0 + k + 1 : Nat) : Int)
      repeat' (first
 | refine SO.pure rfl rfl rfl ?_
 | refine SK.seq ?_
 | refine SK.region ?_
 | refine SK.skip ?_
 | refine SK.block ?_
 | refine SK.condTP rfl (by first | assumption | (simp only [Go.Sl.bl]; omega)) ?_
 | fail)
      rw [hwc]
      repeat' (first
 | refine SO.call (ri) rfl rfl rfl (by repeat constructor) (by repeat constructor) rfl (fun x hx => ?_)
 | refine SO.call (pt) rfl rfl rfl (by repeat constructor) (by repeat constructor) rfl (fun x hx => ?_)
 | refine SO.pure rfl rfl rfl ?_
 | refine SO.nil ?_
 | refine SK.region ?_
 | refine SK.condF rfl ?_
 | refine SK.skip ?_
 | refine SK.blk ?_
 | fail)
      rename Lg => g2
      rename LPut _ _ _ _ => q
      obtain ⟨hr2, hne⟩ := hr1.put (by omega) (by omega) q
      have hr3 : ResB (c0 + (k + 1) + i) (c0 + (k + 1)) i g2 := by
        rw [show c0 + k + i + 1 = c0 + (k + 1) + i by omega] at hr2
        exact hr2
      refine SK.inv ⟨⟨(k + 1, g2), by show k + 1 ≤ x' / 8 % 5; omega, hr3, fun _ => hne⟩, ?_, ?_, ?_⟩
      · show x' / 8 % 5 - (k + 1) < x' / 8 % 5 - k
        omega
      · rw [hwc, hwk]; repeat constructor
      · exact ent_append_of_takes (by repeat constructor)
    · have hd3 : decide ((k : Int) < ((x' / 8 % 5 : Nat) : Int)) = false := decide_eq_false (by omega)
      have hke : x' / 8 % 5 = k := by omega
      repeat' (first
 | refine SO.indexH rfl rfl (by repeat constructor) rfl rfl rfl rfl (by assumption) ?_
 | refine SO.pure rfl rfl rfl ?_
 | refine SO.pure2 rfl rfl rfl ?_
 | refine SO.eloadW rfl (by repeat constructor) (by assumption) rfl (by rfl) rfl (by rfl) rfl (fun hid => ?_)
 | refine SK.seq ?_
 | refine SK.region ?_
 | refine SK.exit rfl ?_
 | refine SK.condFP rfl (by first | assumption | (simp only [Go.Sl.bl]; omega)) ?_
 | fail)
      rw [hdv, hke]
      rcases Nat.eq_zero_or_pos k with hk0 | hk0
      · have hz : decide ((0 : Int) < (k : Int)) = false := decide_eq_false (by omega)
        repeat' (first
 | refine SO.pure rfl rfl rfl ?_
 | refine SO.nil ?_
 | refine SO.guardN rfl rfl rfl ?_
 | refine SK.seq ?_
 | refine SK.region ?_
 | refine SK.condF rfl ?_
 | refine SK.skip ?_
 | refine SK.block ?_
 | refine SO.guardNP rfl rfl rfl (by first | assumption | (simp only [Go.Sl.bl]; omega)) ?_
 | fail)
        have hS0 : g1.syncTo 0 := fun j z hj => absurd hj (Nat.not_lt_zero j)
        refine SK.loop (X := {y : Nat × Lg // y.1 ≤ 8 ∧ ResB (c0 + k + i) (c0 + k) i y.2 ∧ y.2.syncTo y.1}) (fun y => [(7, .int .i64 (y.1.1 : Int)), (5, .int .i64 (i : Int)), (4, .int .i64 ((c0 + k : Nat) : Int)), (3, .pointer (some ⟨lb, 0, none⟩)), (0, .slice A l.length c)]) (fun y => [libA, tabs 4 5, slAt RU A l.length l] ++ lgAt lb y.1.2) (fun y => 8 - y.1.1) ⟨(0, g1), Nat.zero_le _, hr1, hS0⟩ (by repeat constructor) (ent_append_of_takes (by repeat constructor)) ?_
        rintro ⟨⟨j, g2⟩, hj0, hr2, hs2⟩
        have hj : j ≤ 8 := hj0
        dsimp only at hr2 hs2 ⊢
        have hwj : IntKind.i64.wrap ((j : Int) + 1) = ((j + 1 : Nat) : Int) := by rw [wrap_id (by omega) (by omega)]; omega
        rcases Nat.lt_or_ge j 8 with hj8 | hj8
        · have hd4 : decide ((j : Int) < 8) = true := decide_eq_true (by omega)
          have sy := lsyncR lb j hr2.li.ok hr2.down hj8
          repeat' (first
 | refine SO.call (sy) rfl rfl rfl (by repeat constructor) (by repeat constructor) rfl (fun x hx => ?_)
 | refine SO.pure rfl rfl rfl ?_
 | refine SO.nil ?_
 | refine SK.seq ?_
 | refine SK.region ?_
 | refine SK.skip ?_
 | refine SK.block ?_
 | refine SK.blk ?_
 | refine SK.condTP rfl (by first | assumption | (simp only [Go.Sl.bl]; omega)) ?_
 | fail)
          rename Bool × Lg => z2
          obtain ⟨bb, g3⟩ := z2
          rename LSync g2 _ (bb, g3).2 ∧ _ => hq3
          dsimp only
          refine SK.inv ⟨⟨(j + 1, g3), by show j + 1 ≤ 8; omega, hr2.sync hq3.1, hq3.1.to hs2⟩, ?_, ?_, ?_⟩
          · show 8 - (j + 1) < 8 - j
            omega
          · rw [hwj]; repeat constructor
          · exact ent_append_of_takes (by repeat constructor)
        · have hd4 : decide ((j : Int) < 8) = false := decide_eq_false (by omega)
          obtain rfl : j = 8 := by omega
          have sy2 := syncTo_all hr2.li.len hs2
          have hh2 := hr2.li.head hr2.down sy2
          have sz := lsizeR lb (N := ((1 + x' % 8 : Nat) : Int)) hr2.li hr2.down (by omega) hh2 (by rw [hr2.ml]; omega) (by omega) (by omega) hr2.mb (by have := hr2.used; rw [hr2.room, hr2.ml]; omega)
          repeat' (first
 | refine SO.pure rfl rfl rfl ?_
 | refine SO.nil ?_
 | refine SK.seq ?_
 | refine SK.region ?_
 | refine SK.condF rfl ?_
 | refine SK.exit rfl ?_
 | refine SK.regionX 24 (.item 0 0 (.item 0 1 (.item 0 2 (.item 0 3 (.item 0 4 (.item 0 5 (.item 0 6 (.item 0 7 (.item 2 8 (.item 0 9 (.item 0 10 (.item 0 11 (.item 0 13 (.item 0 14 (.item 0 15 (.item 0 16 (.item 0 17 (.item 0 18 (.item 0 19 (.item 1 12 (.item 0 20 (.item 0 21 (.item 0 22 (.item 0 23 (.item 0 25 (.item 0 26 (.item 1 24 (.item 0 27 (.item 0 28 (.item 0 29 (.item 0 30 (.item 0 32 (.item 1 31 (.item 0 33 (.item 0 34 .nil))))))))))))))))))))))))))))))))))) (rzE lb g2) (by repeat constructor) (by repeat (first | exact .nil | apply PersSub.s | apply PersSub.t | apply PersSub.p | apply PersSub.r | apply PersSub.skip)) (by kernel_rfl) (by kernel_rfl) (fun _ _ _ h => h) ?_
 | refine SX.indexH rfl rfl (by repeat constructor) rfl rfl rfl rfl (by assumption) ?_
 | refine SX.pure rfl rfl rfl ?_
 | refine SX.pure2 rfl rfl rfl ?_
 | refine SX.eloadW rfl (by repeat constructor) (by assumption) rfl (by rfl) rfl (by rfl) rfl (fun hid => ?_)
 | refine SX.step rfl rfl ?_
 | fail)
          rw [hNw]
          repeat' (first
 | refine SO.call (sz) rfl rfl rfl (by repeat constructor) (by repeat constructor) rfl (fun x hx => ?_)
 | refine SO.nil ?_
 | refine SX.indexH rfl rfl (by repeat constructor) rfl rfl rfl rfl (by assumption) ?_
 | refine SX.pure rfl rfl rfl ?_
 | refine SX.pure2 rfl rfl rfl ?_
 | refine SX.guardY rfl rfl ?_
 | refine SX.eloadW rfl (by repeat constructor) (by assumption) rfl (by rfl) rfl (by rfl) rfl (fun hid => ?_)
 | refine SX.step rfl rfl ?_
 | refine SK.invY ?_
 | refine SY.shareGo (by repeat (first | exact .nil | apply PersSub.s | apply PersSub.t | apply PersSub.p | apply PersSub.r | apply PersSub.skip)) ?_
 | fail)
          rename Lg => g3
          rename LSize g2 _ g3 => q3
          obtain ⟨hr3, sy3, hm3⟩ := hr2.size (by omega) (by omega) (by omega) (N := 1 + x' % 8) (by omega) q3
          have st := lstripes_does lb g3 ((((c0 + k : Nat) : Int)), ((1 + x' % 8 : Nat) : Int)) hr3.li.ok hm3
          dsimp only at st
          have ep := lepoch_does lb g3
          rw [hr3.ml] at ep
          have he := lhead_does lb g3 hr3.li.ok
          rw [hr3.li.head hr3.down sy3, hr3.next] at he
          have hN2 : (!decide (((1 + x' % 8 : Nat) : Int) = IntKind.i64.wrap (1 + IntKind.i64.wrap ((x' : Int).tmod 8)))) = false := by rw [hNw]; simp
          have hE2 : (!decide (((i + 1 + 1 : Nat) : Int) = IntKind.i64.wrap ((i : Int) + 2))) = false := by rw [wrap_id (by omega) (by omega)]; simp; omega
          have hC2 : (!decide (((c0 + k : Nat) : Int) = ((c0 + k : Nat) : Int))) = false := by simp
          have fin1 : i + 1 ≤ l.length := by omega
          have fin2 : c0 + k ≤ 4 * (i + 1) := by omega
          have fin3 : l.length - (i + 1) < l.length - i := by omega
          clear hx1 hx2 hdl hNl hkd hke hk hj hi hc hil hdv hdw hwc hwk hd3 hl1 hb hn d1
          repeat' (first
 | refine SO.call (st) rfl rfl rfl (by repeat constructor) (by repeat constructor) rfl (fun x hx => ?_)
 | refine SO.call (ep) rfl rfl rfl (by repeat constructor) (by repeat constructor) rfl (fun x hx => ?_)
 | refine SO.call (he) rfl rfl rfl (by repeat constructor) (by repeat constructor) rfl (fun x hx => ?_)
 | refine SO.pure rfl rfl rfl ?_
 | refine SO.nil ?_
 | refine SK.region ?_
 | refine SK.skip ?_
 | refine SK.blk ?_
 | refine SK.condFP rfl (by first | assumption | (simp only [Go.Sl.bl]; omega)) ?_
 | refine SX.tail (by rfl) (by repeat (first | exact .nil | apply DropP.s | apply DropP.t | apply DropP.p | apply DropP.r | apply DropP.keep)) ?_
 | refine SX.pure rfl rfl rfl ?_
 | refine SX.guardY rfl rfl ?_
 | refine SX.guardYP rfl rfl (by first | assumption | (simp only [Go.Sl.bl]; omega)) ?_
 | refine SX.step rfl rfl ?_
 | refine SK.invY ?_
 | refine SY.shareGo (by repeat (first | exact .nil | apply PersSub.s | apply PersSub.t | apply PersSub.p | apply PersSub.r | apply PersSub.skip)) ?_
 | fail)
          refine SK.inv ⟨⟨(i + 1, c0 + k, g3), fin1, fin2, hr3, sy3⟩, ?_, ?_, ?_⟩
          · exact fin3
          · rw [hwi]; repeat constructor
          · exact ent_append_of_takes (by repeat constructor)
      · have hz : decide ((0 : Int) < (k : Int)) = true := decide_eq_true (by omega)
        have s12 := lsize_state lb g1 ((1 + x' % 8 : Nat) : Int) hr1.li.ok hr1.down (by omega) (hw1 hk0)
        repeat' (first
 | refine SO.indexH rfl rfl (by repeat constructor) rfl rfl rfl rfl (by assumption) ?_
 | refine SO.pure rfl rfl rfl ?_
 | refine SO.pure2 rfl rfl rfl ?_
 | refine SO.guardY rfl rfl ?_
 | refine SO.eloadW rfl (by repeat constructor) (by assumption) rfl (by rfl) rfl (by rfl) rfl (fun hid => ?_)
 | refine SO.guardYP rfl rfl (by first | assumption | (simp only [Go.Sl.bl]; omega)) ?_
 | fail)
        rw [hNw]
        repeat' (first
 | refine SO.call (s12) rfl rfl rfl (by repeat constructor) (by repeat constructor) rfl (fun x hx => ?_)
 | refine SO.pure rfl rfl rfl ?_
 | refine SO.nil ?_
 | refine SO.guardY rfl rfl ?_
 | refine SK.seq ?_
 | refine SK.region ?_
 | refine SK.condF rfl ?_
 | refine SK.skip ?_
 | refine SK.block ?_
 | fail)
        have hS0 : g1.syncTo 0 := fun j z hj => absurd hj (Nat.not_lt_zero j)
        refine SK.loop (X := {y : Nat × Lg // y.1 ≤ 8 ∧ ResB (c0 + k + i) (c0 + k) i y.2 ∧ y.2.syncTo y.1}) (fun y => [(7, .int .i64 (y.1.1 : Int)), (5, .int .i64 (i : Int)), (4, .int .i64 ((c0 + k : Nat) : Int)), (3, .pointer (some ⟨lb, 0, none⟩)), (0, .slice A l.length c)]) (fun y => [libA, tabs 4 5, slAt RU A l.length l] ++ lgAt lb y.1.2) (fun y => 8 - y.1.1) ⟨(0, g1), Nat.zero_le _, hr1, hS0⟩ (by repeat constructor) (ent_append_of_takes (by repeat constructor)) ?_
        rintro ⟨⟨j, g2⟩, hj0, hr2, hs2⟩
        have hj : j ≤ 8 := hj0
        dsimp only at hr2 hs2 ⊢
        have hwj : IntKind.i64.wrap ((j : Int) + 1) = ((j + 1 : Nat) : Int) := by rw [wrap_id (by omega) (by omega)]; omega
        rcases Nat.lt_or_ge j 8 with hj8 | hj8
        · have hd4 : decide ((j : Int) < 8) = true := decide_eq_true (by omega)
          have sy := lsyncR lb j hr2.li.ok hr2.down hj8
          repeat' (first
 | refine SO.call (sy) rfl rfl rfl (by repeat constructor) (by repeat constructor) rfl (fun x hx => ?_)
 | refine SO.pure rfl rfl rfl ?_
 | refine SO.nil ?_
 | refine SK.seq ?_
 | refine SK.region ?_
 | refine SK.skip ?_
 | refine SK.block ?_
 | refine SK.blk ?_
 | refine SK.condTP rfl (by first | assumption | (simp only [Go.Sl.bl]; omega)) ?_
 | fail)
          rename Bool × Lg => z2
          obtain ⟨bb, g3⟩ := z2
          rename LSync g2 _ (bb, g3).2 ∧ _ => hq3
          dsimp only
          refine SK.inv ⟨⟨(j + 1, g3), by show j + 1 ≤ 8; omega, hr2.sync hq3.1, hq3.1.to hs2⟩, ?_, ?_, ?_⟩
          · show 8 - (j + 1) < 8 - j
            omega
          · rw [hwj]; repeat constructor
          · exact ent_append_of_takes (by repeat constructor)
        · have hd4 : decide ((j : Int) < 8) = false := decide_eq_false (by omega)
          obtain rfl : j = 8 := by omega
          have sy2 := syncTo_all hr2.li.len hs2
          have hh2 := hr2.li.head hr2.down sy2
          have sz := lsizeR lb (N := ((1 + x' % 8 : Nat) : Int)) hr2.li hr2.down (by omega) hh2 (by rw [hr2.ml]; omega) (by omega) (by omega) hr2.mb (by have := hr2.used; rw [hr2.room, hr2.ml]; omega)
          repeat' (first
 | refine SO.pure rfl rfl rfl ?_
 | refine SO.nil ?_
 | refine SK.seq ?_
 | refine SK.region ?_
 | refine SK.condF rfl ?_
 | refine SK.exit rfl ?_
 | refine SK.regionX 24 (.item 0 0 (.item 0 1 (.item 0 2 (.item 0 3 (.item 0 4 (.item 0 5 (.item 0 6 (.item 0 7 (.item 2 8 (.item 0 9 (.item 0 10 (.item 0 11 (.item 0 13 (.item 0 14 (.item 0 15 (.item 0 16 (.item 0 17 (.item 0 18 (.item 0 19 (.item 1 12 (.item 0 20 (.item 0 21 (.item 0 22 (.item 0 23 (.item 0 25 (.item 0 26 (.item 1 24 (.item 0 27 (.item 0 28 (.item 0 29 (.item 0 30 (.item 0 32 (.item 1 31 (.item 0 33 (.item 0 34 .nil))))))))))))))))))))))))))))))))))) (rzE lb g2) (by repeat constructor) (by repeat (first | exact .nil | apply PersSub.s | apply PersSub.t | apply PersSub.p | apply PersSub.r | apply PersSub.skip)) (by kernel_rfl) (by kernel_rfl) (fun _ _ _ h => h) ?_
 | refine SX.indexH rfl rfl (by repeat constructor) rfl rfl rfl rfl (by assumption) ?_
 | refine SX.pure rfl rfl rfl ?_
 | refine SX.pure2 rfl rfl rfl ?_
 | refine SX.eloadW rfl (by repeat constructor) (by assumption) rfl (by rfl) rfl (by rfl) rfl (fun hid => ?_)
 | refine SX.step rfl rfl ?_
 | fail)
          rw [hNw]
          repeat' (first
 | refine SO.call (sz) rfl rfl rfl (by repeat constructor) (by repeat constructor) rfl (fun x hx => ?_)
 | refine SO.nil ?_
 | refine SX.indexH rfl rfl (by repeat constructor) rfl rfl rfl rfl (by assumption) ?_
 | refine SX.pure rfl rfl rfl ?_
 | refine SX.pure2 rfl rfl rfl ?_
 | refine SX.guardY rfl rfl ?_
 | refine SX.eloadW rfl (by repeat constructor) (by assumption) rfl (by rfl) rfl (by rfl) rfl (fun hid => ?_)
 | refine SX.step rfl rfl ?_
 | refine SK.invY ?_
 | refine SY.shareGo (by repeat (first | exact .nil | apply PersSub.s | apply PersSub.t | apply PersSub.p | apply PersSub.r | apply PersSub.skip)) ?_
 | fail)
          rename Lg => g3
          rename LSize g2 _ g3 => q3
          obtain ⟨hr3, sy3, hm3⟩ := hr2.size (by omega) (by omega) (by omega) (N := 1 + x' % 8) (by omega) q3
          have st := lstripes_does lb g3 ((((c0 + k : Nat) : Int)), ((1 + x' % 8 : Nat) : Int)) hr3.li.ok hm3
          dsimp only at st
          have ep := lepoch_does lb g3
          rw [hr3.ml] at ep
          have he := lhead_does lb g3 hr3.li.ok
          rw [hr3.li.head hr3.down sy3, hr3.next] at he
          have hN2 : (!decide (((1 + x' % 8 : Nat) : Int) = IntKind.i64.wrap (1 + IntKind.i64.wrap ((x' : Int).tmod 8)))) = false := by rw [hNw]; simp
          have hE2 : (!decide (((i + 1 + 1 : Nat) : Int) = IntKind.i64.wrap ((i : Int) + 2))) = false := by rw [wrap_id (by omega) (by omega)]; simp; omega
          have hC2 : (!decide (((c0 + k : Nat) : Int) = ((c0 + k : Nat) : Int))) = false := by simp
          have fin1 : i + 1 ≤ l.length := by omega
          have fin2 : c0 + k ≤ 4 * (i + 1) := by omega
          have fin3 : l.length - (i + 1) < l.length - i := by omega
          clear hx1 hx2 hdl hNl hkd hke hk hj hi hc hil hdv hdw hwc hwk hd3 hl1 hb hn d1
          repeat' (first
 | refine SO.call (st) rfl rfl rfl (by repeat constructor) (by repeat constructor) rfl (fun x hx => ?_)
 | refine SO.call (ep) rfl rfl rfl (by repeat constructor) (by repeat constructor) rfl (fun x hx => ?_)
 | refine SO.call (he) rfl rfl rfl (by repeat constructor) (by repeat constructor) rfl (fun x hx => ?_)
 | refine SO.pure rfl rfl rfl ?_
 | refine SO.nil ?_
 | refine SK.region ?_
 | refine SK.skip ?_
 | refine SK.blk ?_
 | refine SK.condFP rfl (by first | assumption | (simp only [Go.Sl.bl]; omega)) ?_
 | refine SX.tail (by rfl) (by repeat (first | exact .nil | apply DropP.s | apply DropP.t | apply DropP.p | apply DropP.r | apply DropP.keep)) ?_
 | refine SX.pure rfl rfl rfl ?_
 | refine SX.guardY rfl rfl ?_
 | refine SX.guardYP rfl rfl (by first | assumption | (simp only [Go.Sl.bl]; omega)) ?_
 | refine SX.step rfl rfl ?_
 | refine SK.invY ?_
 | refine SY.shareGo (by repeat (first | exact .nil | apply PersSub.s | apply PersSub.t | apply PersSub.p | apply PersSub.r | apply PersSub.skip)) ?_
 | fail)
          refine SK.inv ⟨⟨(i + 1, c0 + k, g3), fin1, fin2, hr3, sy3⟩, ?_, ?_, ?_⟩
          · exact fin3
          · rw [hwi]; repeat constructor
          · exact ent_append_of_takes (by repeat constructor)
  · have hl1 : decide ((i : Int) < (l.length : Int)) = false := decide_eq_false (by omega)
    obtain rfl : i = l.length := by omega
    obtain ⟨ls, ow⟩ := hr.own
    have cr := lcrash_does lb g none 0 0 [] hr.li.ok (fun x hx => by cases hx)
    repeat' (first
 | refine SO.call (cr) rfl rfl rfl (by repeat constructor) (by repeat constructor) rfl (fun x hx => ?_)
 | refine SO.pure rfl rfl rfl ?_
 | refine SO.nil ?_
 | refine SK.seq ?_
 | refine SK.region ?_
 | refine SK.exit rfl ?_
 | refine SK.condFP rfl (by first | assumption | (simp only [Go.Sl.bl]; omega)) ?_
 | fail)
    rename Pl × List SB => zc
    obtain ⟨pc, lc⟩ := zc
    rename SegCr [] g.segs 8 (pc, lc).2 => hcr
    dsimp only at hcr ⊢
    have rcv := lrecR lb (keep := []) pc hr.li hcr ow (by omega) (by omega) (fun nx h1 h2 y hy => by
      have hle := hr.li.lastm y hy
      rcases h2 with h2 | h2
      · rw [h2]; exact hle
      · rw [keptP_nil] at h2
        rcases Nat.lt_or_ge nx g.next with hlt | hge
        · obtain ⟨sx, hx⟩ := hr.li.ok.at_ (pos := (nx : Int)) (by omega)
          have := hr.li.lasts h1 hlt hx (hsy sx (List.mem_of_getElem? hx))
          rw [h2] at this; cases this
        · omega)
    repeat' (first
 | refine SO.call (rcv) rfl rfl rfl (by repeat constructor) (by repeat constructor) rfl (fun x hx => ?_)
 | refine SO.pure rfl rfl rfl ?_
 | refine SO.guardY rfl rfl ?_
 | fail)
    rename Lg => g3
    rename LBack _ _ _ _ _ g3 => k3
    have l3 := k3.li
    have hn3 : g3.next = c0 := (k3.all hr.li hr.down hsy).trans hr.next
    have ht3 : g3.trim = 0 := k3.trim.trans hr.trim
    have hh3 : g3.head = c0 := (l3.head k3.down k3.sy).trans hn3
    have ep := lepoch_does lb g3
    rw [k3.m, hr.ml] at ep
    have he3 := lhead_does lb g3 l3.ok
    rw [hh3] at he3
    have hE : (!decide (((l.length + 1 : Nat) : Int) = IntKind.i64.wrap ((l.length : Int) + 1))) = false := by rw [hwi]; simp
    have hC : (!decide ((c0 : Int) = (c0 : Int))) = false := by simp
    repeat' (first
 | refine SO.call (ep) rfl rfl rfl (by repeat constructor) (by repeat constructor) rfl (fun x hx => ?_)
 | refine SO.call (he3) rfl rfl rfl (by repeat constructor) (by repeat constructor) rfl (fun x hx => ?_)
 | refine SO.pure rfl rfl rfl ?_
 | refine SO.nil ?_
 | refine SO.guardY rfl rfl ?_
 | refine SK.seq ?_
 | refine SK.region ?_
 | refine SK.skip ?_
 | refine SO.guardYP rfl rfl (by first | assumption | (simp only [Go.Sl.bl]; omega)) ?_
 | refine SK.condFP rfl (by first | assumption | (simp only [Go.Sl.bl]; omega)) ?_
 | fail)
    have hrl : g3.rows.length = c0 := by rw [rows_len, hh3, ht3, Nat.sub_zero]
    have al := lall_does lb 0
    have lr := fun b1 b2 => lrows_does b1 b2 lb g3 0 100 l3.ok (Nat.zero_le _) (by rw [ht3, hh3]; exact Nat.zero_le _) (by rw [hrl]; omega)
    rw [hrl] at lr
    repeat' (first
 | refine SO.call (al) rfl rfl rfl (by repeat constructor) (by repeat constructor) rfl (fun x hx => ?_)
 | refine SO.call (lr _ _) rfl rfl rfl (by repeat constructor) (by repeat constructor) rfl (fun x hx => ?_)
 | refine SO.pure rfl rfl rfl ?_
 | refine SO.nil ?_
 | refine SK.seq ?_
 | refine SK.region ?_
 | refine SK.block ?_
 | fail)
    rename Pl × Pl => pr2
    refine SK.loop (X := {j : Nat // j ≤ c0}) (fun j => [(11, .int .i64 (j.1 : Int)), (10, .bool true), (9, .slice pr2.2.1 c0 pr2.2.2), (8, .slice pr2.1.1 c0 pr2.1.2), (4, .int .i64 (c0 : Int))]) (fun j => [slAt RI pr2.1.1 c0 (g3.rows.map (·.1)), slAt RRec pr2.2.1 c0 (g3.rows.map (·.2))]) (fun j => c0 - j.1) ⟨0, Nat.zero_le _⟩ (by repeat constructor) (ent_append_of_takes (by repeat constructor)) ?_
    rintro ⟨j, hj⟩
    dsimp only
    have hwj : IntKind.i64.wrap ((j : Int) + 1) = ((j + 1 : Nat) : Int) := by rw [wrap_id (by omega) (by omega)]; omega
    rcases Nat.lt_or_ge j c0 with hjc | hjc
    · have hl2 : decide ((j : Int) < (c0 : Int)) = true := decide_eq_true (by omega)
      have hrow := rows_at (g := g3) (i := j) (by rw [hh3, ht3]; omega)
      rw [ht3, Nat.zero_add, l3.rcd (by rw [ht3]; omega) (by rw [hn3]; omega)] at hrow
      have hat : (g3.rows.map (·.1))[j]? = some (j : Int) := by rw [List.getElem?_map, hrow]; rfl
      have hrec : (g3.rows.map (·.2))[j]? = some (rz 0 ((j + 1 : Nat) : Int)) := by rw [List.getElem?_map, hrow]; rfl
      have hq1 : (!decide (((j + 1 : Nat) : Int) = IntKind.i64.wrap ((j : Int) + 1))) = false := by rw [hwj]; simp
      have hq2 : (!decide ((j : Int) = (j : Int))) = false := by simp
      repeat' (first
 | refine SO.indexH rfl rfl (by repeat constructor) rfl rfl rfl rfl (by assumption) ?_
 | refine SO.pure rfl rfl rfl ?_
 | refine SO.nil ?_
 | refine SO.guardY rfl rfl ?_
 | refine SO.efield rfl rfl rfl rfl rfl ?_
 | refine SO.eloadW rfl (by repeat constructor) (by assumption) rfl (by rfl) rfl (by rfl) rfl (fun hid => ?_)
 | refine SO.eload rfl (by repeat constructor) (by assumption) rfl (by rfl) (by exact fun _ => ⟨rfl, fun _ => rfl⟩) rfl (fun hid => ?_)
 | refine SK.seq ?_
 | refine SK.region ?_
 | refine SK.skip ?_
 | refine SK.block ?_
 | refine SK.blk ?_
 | refine SO.eload rfl (by repeat constructor) (by assumption) rfl (by rfl) (by exact fun _ => ⟨rfl, fun h => by cases h⟩) rfl (fun hid => ?_)
 | refine SO.guardYP rfl rfl (by first | assumption | (simp only [Go.Sl.bl]; omega)) ?_
 | refine SK.condTP rfl (by first | assumption | (simp only [Go.Sl.bl]; omega)) ?_
 | refine SK.condFP rfl (by first | assumption | (simp only [Go.Sl.bl]; omega)) ?_
 | fail)
      refine SK.inv ⟨⟨j + 1, by omega⟩, ?_, ?_, ?_⟩
      · show c0 - (j + 1) < c0 - j
        omega
      · rw [hwj]; repeat constructor
      · exact ent_append_of_takes (by repeat constructor)
    · have hl2 : decide ((j : Int) < (c0 : Int)) = false := decide_eq_false (by omega)
      have hcc : decide ((c0 : Int) = (c0 : Int)) = true := decide_eq_true rfl
      repeat' (first
 | refine SO.pure rfl rfl rfl ?_
 | refine SO.nil ?_
 | refine SO.guardY rfl rfl ?_
 | refine SK.seq ?_
 | refine SK.region ?_
 | refine SK.exit rfl ?_
 | refine SK.condFP rfl (by first | assumption | (simp only [Go.Sl.bl]; omega)) ?_
 | fail)
      exact SK.retX (.tmp rfl .nil) () trivial (by rw [hcc]; rfl) (by repeat constructor)
end Go.Proofs
