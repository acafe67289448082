/- A part of a proof: what functions of the program compute. -/
import Derived.Test.YtmbfcjffjgecjaaGreatDoorLog16E
import Derived.Test.YtmbfcjffjgecjaaGreatDoorRef2E
import Derived.Test.YtmbfcjffjgecjaaGreatDoorLib2
set_option linter.unusedVariables false
set_option linter.unusedSimpArgs false
set_option maxHeartbeats 0
set_option maxRecDepth 20000
namespace Go.Proofs
attribute [local irreducible] Go.Sl.SO Go.Sl.SQ Go.Sl.SR Go.Sl.SC Go.Sl.SX Go.Sl.SY Go.Sl.eadr Go.Sl.slAt Go.Sl.sqAt Go.Sl.pts Go.Sl.rod Go.Sl.ob Go.Sl.ex Go.Sl.big Go.Sl.pr Go.Sl.tabs Go.Sl.mpAt Go.Sl.mitAt Go.Sl.mitN
open Go.Sl
theorem lholes_does (s0 n0 w0 : Nat) (hs : s0 < 256) (hn : n0 < 256) (hw : w0 < 256) : Does Tryz.prog 14 [.int .u8 (s0 : Int), .int .u8 (n0 : Int), .int .u8 (w0 : Int)] [libA, tabs 4 5] [] Unit (fun _ => True) (fun _ => .bool true) (fun _ => []) := by
  refine Does.of Tryz.call14 Tryz.func14 rfl rfl rfl (all_cons pers_lib (all_cons (pers_tabs _ _) all_nil)) rfl ?_
  have hk8 : s0 % 8 < 8 := Nat.mod_lt _ (by omega)
  obtain ⟨K, hKe, hK1, hK2⟩ : ∃ K, 1 + s0 % 8 = K ∧ 1 ≤ K ∧ K ≤ 8 := ⟨_, rfl, by omega, by omega⟩
  have hKw : IntKind.i64.wrap (1 + IntKind.i64.wrap ((s0 : Int).tmod 8)) = (K : Int) := by
    have e : IntKind.i64.wrap ((s0 : Int).tmod 8) = ((s0 % 8 : Nat) : Int) := wrap_id (by show -9223372036854775808 ≤ ((s0 % 8 : Nat) : Int); omega) (by show ((s0 % 8 : Nat) : Int) < 9223372036854775808; omega)
    rw [e, wrap_id (by omega) (by omega)]; omega
  have hCw : IntKind.i64.wrap ((n0 : Int).tmod 40) = ((n0 % 40 : Nat) : Int) := wrap_id (by show -9223372036854775808 ≤ ((n0 % 40 : Nat) : Int); omega) (by show ((n0 % 40 : Nat) : Int) < 9223372036854775808; omega)
  have hc40 : n0 % 40 < 40 := Nat.mod_lt _ (by omega)
  have nw := lnew_does (K : Int) 100000 (by omega) (by decide)
  repeat' (first
 | refine SO.call (lknown_does) rfl rfl rfl (by repeat constructor) (by repeat constructor) rfl (fun x hx => ?_)
 | refine SO.pure rfl rfl rfl ?_
 | refine SO.pure2 rfl rfl rfl ?_
 | refine SO.nil ?_
 | refine SK.seq ?_
 | refine SK.region ?_
 | refine SK.condF rfl ?_
 | refine SK.skip ?_
 | fail)
  rw [hKw, hCw]
  generalize n0 % 40 = c at *
  repeat' (first
 | refine SO.call (nw) rfl rfl rfl (by repeat constructor) (by repeat constructor) rfl (fun x hx => ?_)
 | refine SO.pure rfl rfl rfl ?_
 | refine SO.pure2 rfl rfl rfl ?_
 | refine SO.nil ?_
 | refine SO.guardY rfl rfl ?_
 | refine SK.seq ?_
 | refine SK.region ?_
 | refine SK.condF rfl ?_
 | refine SK.skip ?_
 | refine SK.block ?_
 | fail)
  rename Nat × Lg => z
  obtain ⟨lb, g0⟩ := z
  rename LNew 100000 (K : Int) (lb, g0).2 => h0
  dsimp only at h0 ⊢
  refine SK.loop (X := {x : Nat × Lg // x.1 ≤ c ∧ Go.Sl.Rows 100000 K x.1 zR x.2 ∧ x.2.own = ⟨100000, [], 0⟩}) (fun x => [(11, .int .i64 (x.1.1 : Int)), (9, .pointer (some ⟨lb, 0, none⟩)), (8, .int .i64 (c : Int)), (7, .int .i64 (K : Int)), (2, .int .u8 (w0 : Int))]) (fun x => [libA, tabs 4 5] ++ lgAt lb x.1.2) (fun x => c - x.1.1) ⟨(0, g0), Nat.zero_le _, rows_zero h0 ⟨hK1, hK2⟩ (by decide), h0.own⟩ (by repeat constructor) (ent_append_of_takes (by repeat constructor)) ?_
  rintro ⟨⟨i, g⟩, hi0, hr0, ho0⟩
  have hi : i ≤ c := hi0
  have hr : Go.Sl.Rows 100000 K i zR g := hr0
  have ho : g.own = ⟨100000, [], 0⟩ := ho0
  dsimp only
  have hwi : IntKind.i64.wrap ((i : Int) + 1) = ((i + 1 : Nat) : Int) := by rw [wrap_id (by omega) (by omega)]; omega
  rcases Nat.lt_or_ge i c with hic | hic
  · have hd1 : decide ((i : Int) < (c : Int)) = true := decide_eq_true (by omega)
    have pt := lputR lb hr.li hr.down (a := 0) (b := ((i + 1 : Nat) : Int)) (by rw [hr.next]; rfl) (by omega) (by omega) (by omega)
    rw [hr.next] at pt
    have ri := rr_does 0 ((i + 1 : Nat) : Int)
    repeat' (first
 | refine SO.pure rfl rfl rfl ?_
 | refine SO.nil ?_
 | refine SK.seq ?_
 | refine SK.region ?_
 | refine SK.skip ?_
 | refine SK.block ?_
 | refine SK.condTP rfl (by first | assumption | (simp only [Go.Sl.bl]; omega)) ?_
 | fail)
    rw [hwi]
    repeat' (first
 | refine SO.call (ri) rfl rfl rfl (by repeat constructor) (by repeat constructor) rfl (fun x hx => ?_)
 | refine SO.call (pt) rfl rfl rfl (by repeat constructor) (by repeat constructor) rfl (fun x hx => ?_)
 | refine SO.pure rfl rfl rfl ?_
 | refine SO.nil ?_
 | refine SK.region ?_
 | refine SK.condF rfl ?_
 | refine SK.skip ?_
 | refine SK.blk ?_
 | fail)
    rename Lg => g'
    rename LPut _ _ _ _ => q
    have hr2 := q.rows hr ⟨hK1, hK2⟩ rfl (by omega) (by omega) (by omega)
    refine SK.inv ⟨⟨(i + 1, g'), by show i + 1 ≤ c; omega, hr2, q.rest.1.trans ho⟩, ?_, ?_, ?_⟩
    · show c - (i + 1) < c - i
      omega
    · rw [hwi]; repeat constructor
    · exact ent_append_of_takes (by repeat constructor)
  · have hd1 : decide ((i : Int) < (c : Int)) = false := decide_eq_false (by omega)
    obtain rfl : i = c := by omega
    have hk1 : IntKind.i64.wrap ((K : Int) - 1) = (K : Int) - 1 := wrap_id (by omega) (by omega)
    repeat' (first
 | refine SO.pure rfl rfl rfl ?_
 | refine SO.nil ?_
 | refine SK.seq ?_
 | refine SK.region ?_
 | refine SK.block ?_
 | refine SK.exit rfl ?_
 | refine SK.condFP rfl (by first | assumption | (simp only [Go.Sl.bl]; omega)) ?_
 | fail)
    rw [hk1]
    have hI0 : HolI K i K w0 g := ⟨hr.syncI.congr fun j _ => by
      have : decide (K ≤ j ∧ j < K) = false := decide_eq_false (by omega)
      rw [this]; rfl, ho⟩
    refine SK.loop (X := {x : Nat × Lg // x.1 ≤ K ∧ HolI K i x.1 w0 x.2}) (fun x => [(13, .int .i64 ((x.1.1 : Int) - 1)), (12, .int .i64 (holeF (bitB w0) i (K - x.1.1) x.1.1 : Int)), (9, .pointer (some ⟨lb, 0, none⟩)), (8, .int .i64 (i : Int)), (2, .int .u8 (w0 : Int))]) (fun x => [libA, tabs 4 5] ++ lgAt lb x.1.2) (fun x => x.1.1) ⟨(K, g), Nat.le_refl _, hI0⟩ (by rw [Nat.sub_self]; repeat constructor) (ent_append_of_takes (by repeat constructor)) ?_
    rintro ⟨⟨t, g1⟩, ht0, hI1⟩
    have ht : t ≤ K := ht0
    dsimp only at hI1 ⊢
    rcases t with _ | t
    · have hd2 : decide ((0 : Int) ≤ ((0 : Nat) : Int) - 1) = false := by decide
      have hhd := hI1.head ⟨hK1, hK2⟩
      obtain ⟨H, hH⟩ : ∃ H, holeF (bitB w0) i K 0 = H := ⟨_, rfl⟩
      have hHc := holeF_le (bitB w0) i K 0
      rw [Nat.sub_zero, hH]
      rw [hH] at hhd hHc
      have cr := lcrash_does lb g1 none 0 0 [] hI1.sy.li.ok (fun x hx => by cases hx)
      have ow : OwnI g1 [] := own_zero hI1.own (by decide)
      repeat' (first
 | refine SO.call (cr) rfl rfl rfl (by repeat constructor) (by repeat constructor) rfl (fun x hx => ?_)
 | refine SO.pure rfl rfl rfl ?_
 | refine SO.nil ?_
 | refine SK.seq ?_
 | refine SK.region ?_
 | refine SK.condF rfl ?_
 | refine SK.exit rfl ?_
 | fail)
      rename Pl × List SB => zc
      obtain ⟨pc, lc⟩ := zc
      rename SegCr [] g1.segs 8 (pc, lc).2 => hc
      dsimp only at hc ⊢
      have rcv := lrecR lb (keep := []) pc hI1.sy.li hc ow (by omega) (by omega) (fun nx _ _ y hy => by rw [kn_last hI1.sy.m y hy]; omega)
      repeat' (first
 | refine SO.call (rcv) rfl rfl rfl (by repeat constructor) (by repeat constructor) rfl (fun x hx => ?_)
 | refine SO.pure rfl rfl rfl ?_
 | refine SO.guardY rfl rfl ?_
 | fail)
      rename Lg => g2
      rename LBack _ _ _ _ _ g2 => k2
      have hP := k2.putH hI1 ⟨hK1, hK2⟩ hH
      have hh2 : g2.head = H := (hP.li.head hP.down k2.sy).trans hP.next
      have he2 := lhead_does lb g2 hP.li.ok
      rw [hh2] at he2
      have nx2 := lnext_does lb g2
      rw [hP.down, if_neg (by decide), hP.next, Nat.add_zero] at nx2
      have c3 : (!decide ((H : Int) = (H : Int))) = false := by simp
      repeat' (first
 | refine SO.call (he2) rfl rfl rfl (by repeat constructor) (by repeat constructor) rfl (fun x hx => ?_)
 | refine SO.call (nx2) rfl rfl rfl (by repeat constructor) (by repeat constructor) rfl (fun x hx => ?_)
 | refine SO.pure rfl rfl rfl ?_
 | refine SO.nil ?_
 | refine SO.guardY rfl rfl ?_
 | refine SK.seq ?_
 | refine SK.region ?_
 | refine SK.skip ?_
 | refine SK.block ?_
 | refine SO.guardYP rfl rfl (by first | assumption | (simp only [Go.Sl.bl]; omega)) ?_
 | refine SK.condFP rfl (by first | assumption | (simp only [Go.Sl.bl]; omega)) ?_
 | fail)
      have hH3 : IntKind.i64.wrap ((H : Int) + 3) = ((H + 3 : Nat) : Int) := by rw [wrap_id (by omega) (by omega)]; omega
      refine SK.loop (X := {x : Nat × Lg // x.1 ≤ 3 ∧ PutH K (i + 1) H x.1 x.2}) (fun x => [(14, .int .i64 ((H + x.1.1 : Nat) : Int)), (12, .int .i64 (H : Int)), (9, .pointer (some ⟨lb, 0, none⟩))]) (fun x => [libA, tabs 4 5] ++ lgAt lb x.1.2) (fun x => 3 - x.1.1) ⟨(0, g2), Nat.zero_le _, hP⟩ (by repeat constructor) (ent_append_of_takes (by repeat constructor)) ?_
      rintro ⟨⟨p, g3⟩, hp0, hP3⟩
      have hp : p ≤ 3 := hp0
      dsimp only at hP3 ⊢
      have hwp : IntKind.i64.wrap (((H + p : Nat) : Int) + 1) = ((H + (p + 1) : Nat) : Int) := by rw [wrap_id (by omega) (by omega)]; omega
      have hwq : IntKind.i64.wrap (((H + p : Nat) : Int) - (H : Int)) = (p : Int) := by rw [wrap_id (by omega) (by omega)]; omega
      have hwq1 : IntKind.i64.wrap ((p : Int) + 1) = ((p + 1 : Nat) : Int) := by rw [wrap_id (by omega) (by omega)]; omega
      repeat' (first
 | refine SO.pure rfl rfl rfl ?_
 | refine SO.nil ?_
 | refine SK.seq ?_
 | refine SK.region ?_
 | fail)
      rw [hH3]
      rcases Nat.lt_or_ge p 3 with hp3 | hp3
      · have hd3 : decide (((H + p : Nat) : Int) < ((H + 3 : Nat) : Int)) = true := decide_eq_true (by omega)
        have pt := lputR lb hP3.li hP3.down (a := 1) (b := ((p + 1 : Nat) : Int)) (by rw [hP3.next]; unfold hR; rw [if_neg (by omega), Nat.add_sub_cancel_left]) (by omega) (by omega) (by omega)
        rw [hP3.next] at pt
        have ri := rr_does 1 ((p + 1 : Nat) : Int)
        repeat' (first
 | refine SO.pure rfl rfl rfl ?_
 | refine SK.seq ?_
 | refine SK.region ?_
 | refine SK.skip ?_
 | refine SK.block ?_
 | refine SK.condTP rfl (by first | assumption | (simp only [Go.Sl.bl]; omega)) ?_
 | fail)
        rw [hwq, hwq1]
        repeat' (first
 | refine SO.call (ri) rfl rfl rfl (by repeat constructor) (by repeat constructor) rfl (fun x hx => ?_)
 | refine SO.call (pt) rfl rfl rfl (by repeat constructor) (by repeat constructor) rfl (fun x hx => ?_)
 | refine SO.pure rfl rfl rfl ?_
 | refine SO.nil ?_
 | refine SK.region ?_
 | refine SK.condF rfl ?_
 | refine SK.skip ?_
 | refine SK.blk ?_
 | fail)
        rename Lg => g4
        rename LPut _ _ _ _ => q
        refine SK.inv ⟨⟨(p + 1, g4), by show p + 1 ≤ 3; omega, hP3.put (by omega) q⟩, ?_, ?_, ?_⟩
        · show 3 - (p + 1) < 3 - p
          omega
        · rw [hwp]; repeat constructor
        · exact ent_append_of_takes (by repeat constructor)
      · have hd3 : decide (((H + p : Nat) : Int) < ((H + 3 : Nat) : Int)) = false := decide_eq_false (by omega)
        obtain rfl : p = 3 := by omega
        repeat' (first
 | refine SO.pure rfl rfl rfl ?_
 | refine SO.nil ?_
 | refine SK.seq ?_
 | refine SK.region ?_
 | refine SK.block ?_
 | refine SK.exit rfl ?_
 | refine SK.condFP rfl (by first | assumption | (simp only [Go.Sl.bl]; omega)) ?_
 | fail)
        have hS0 : g3.syncTo 0 := fun j z hj => absurd hj (Nat.not_lt_zero j)
        refine SK.loop (X := {y : Nat × Lg // y.1 ≤ 8 ∧ PutH K (i + 1) H 3 y.2 ∧ y.2.syncTo y.1}) (fun y => [(15, .int .i64 (y.1.1 : Int)), (12, .int .i64 (H : Int)), (9, .pointer (some ⟨lb, 0, none⟩))]) (fun y => [libA, tabs 4 5] ++ lgAt lb y.1.2) (fun y => 8 - y.1.1) ⟨(0, g3), Nat.zero_le _, hP3, hS0⟩ (by repeat constructor) (ent_append_of_takes (by repeat constructor)) ?_
        rintro ⟨⟨j, g4⟩, hj0, hP4, hs4⟩
        have hj : j ≤ 8 := hj0
        dsimp only at hP4 hs4 ⊢
        have hwj : IntKind.i64.wrap ((j : Int) + 1) = ((j + 1 : Nat) : Int) := by rw [wrap_id (by omega) (by omega)]; omega
        rcases Nat.lt_or_ge j 8 with hj8 | hj8
        · have hd4 : decide ((j : Int) < 8) = true := decide_eq_true (by omega)
          have sy := lsyncR lb j hP4.li.ok hP4.down hj8
          repeat' (first
 | refine SO.call (sy) rfl rfl rfl (by repeat constructor) (by repeat constructor) rfl (fun x hx => ?_)
 | refine SO.pure rfl rfl rfl ?_
 | refine SO.nil ?_
 | refine SK.seq ?_
 | refine SK.region ?_
 | refine SK.skip ?_
 | refine SK.block ?_
 | refine SK.blk ?_
 | refine SK.condTP rfl (by first | assumption | (simp only [Go.Sl.bl]; omega)) ?_
 | fail)
          rename Bool × Lg => z2
          obtain ⟨bb, g5⟩ := z2
          rename LSync g4 _ (bb, g5).2 ∧ _ => hq3
          dsimp only
          refine SK.inv ⟨⟨(j + 1, g5), by show j + 1 ≤ 8; omega, hP4.sync hq3.1, hq3.1.to hs4⟩, ?_, ?_, ?_⟩
          · show 8 - (j + 1) < 8 - j
            omega
          · rw [hwj]; repeat constructor
          · exact ent_append_of_takes (by repeat constructor)
        · have hd4 : decide ((j : Int) < 8) = false := decide_eq_false (by omega)
          obtain rfl : j = 8 := by omega
          have sy2 := syncTo_all hP4.li.len hs4
          have cr2 := lcrash_does lb g4 none 0 0 [] hP4.li.ok (fun x hx => by cases hx)
          have ow2 : OwnI g4 [] := own_zero hP4.own (by decide)
          repeat' (first
 | refine SO.call (cr2) rfl rfl rfl (by repeat constructor) (by repeat constructor) rfl (fun x hx => ?_)
 | refine SO.pure rfl rfl rfl ?_
 | refine SO.nil ?_
 | refine SK.seq ?_
 | refine SK.region ?_
 | refine SK.condF rfl ?_
 | refine SK.exit rfl ?_
 | fail)
          rename Pl × List SB => zd
          obtain ⟨pd, ld⟩ := zd
          rename SegCr [] g4.segs 8 (pd, ld).2 => hc2
          dsimp only at hc2 ⊢
          have rcv2 := lrecR lb (keep := []) pd hP4.li hc2 ow2 (by omega) (by omega) (fun nx _ _ y hy => by rw [kn_last hP4.m y hy]; omega)
          repeat' (first
 | refine SO.call (rcv2) rfl rfl rfl (by repeat constructor) (by repeat constructor) rfl (fun x hx => ?_)
 | refine SO.pure rfl rfl rfl ?_
 | refine SO.nil ?_
 | refine SK.seq ?_
 | refine SK.region ?_
 | refine SK.condF rfl ?_
 | refine SK.skip ?_
 | fail)
          rename Lg => g5
          rename LBack _ _ _ _ _ g5 => k5
          have l5 := k5.li
          have hn5 : g5.next = H + 3 := (k5.all hP4.li hP4.down sy2).trans hP4.next
          have ht5 : g5.trim = 0 := k5.trim.trans hP4.trim
          have hh5 : g5.head = H + 3 := (l5.head k5.down k5.sy).trans hn5
          have hrl : g5.rows.length = H + 3 := by rw [rows_len, hh5, ht5, Nat.sub_zero]
          have al := lall_does lb 0
          have lr := fun b1 b2 => lrows_does b1 b2 lb g5 0 100 l5.ok (Nat.zero_le _) (by rw [ht5, hh5]; exact Nat.zero_le _) (by rw [hrl]; omega)
          rw [hrl] at lr
          have hcc : (!decide (((H + 3 : Nat) : Int) = ((H + 3 : Nat) : Int))) = false := by simp
          repeat' (first
 | refine SO.call (al) rfl rfl rfl (by repeat constructor) (by repeat constructor) rfl (fun x hx => ?_)
 | refine SO.call (lr _ _) rfl rfl rfl (by repeat constructor) (by repeat constructor) rfl (fun x hx => ?_)
 | refine SO.pure rfl rfl rfl ?_
 | refine SO.nil ?_
 | refine SO.guardY rfl rfl ?_
 | refine SK.seq ?_
 | refine SK.region ?_
 | refine SK.skip ?_
 | refine SK.block ?_
 | refine SO.guardYP rfl rfl (by first | assumption | (simp only [Go.Sl.bl]; omega)) ?_
 | refine SK.condFP rfl (by first | assumption | (simp only [Go.Sl.bl]; omega)) ?_
 | fail)
          rename Pl × Pl => pr2
          rw [hH3]
          skip
          refine SK.loop (X := {j : Nat // j ≤ H + 3}) (fun j => [(19, .int .i64 (j.1 : Int)), (17, .slice pr2.2.1 (H + 3) pr2.2.2), (16, .slice pr2.1.1 (H + 3) pr2.1.2), (12, .int .i64 (H : Int))]) (fun j => [slAt RI pr2.1.1 (H + 3) (g5.rows.map (·.1)), slAt RRec pr2.2.1 (H + 3) (g5.rows.map (·.2))]) (fun j => H + 3 - j.1) ⟨0, Nat.zero_le _⟩ (by repeat constructor) (ent_append_of_takes (by repeat constructor)) ?_
          rintro ⟨j, hj⟩
          dsimp only
          have hwj : IntKind.i64.wrap ((j : Int) + 1) = ((j + 1 : Nat) : Int) := by rw [wrap_id (by omega) (by omega)]; omega
          repeat' (first
 | refine SO.pure rfl rfl rfl ?_
 | refine SO.nil ?_
 | refine SK.seq ?_
 | refine SK.region ?_
 | fail)
          rw [hH3]
          rcases Nat.lt_or_ge j (H + 3) with hjc | hjc
          · have hl2 : decide ((j : Int) < ((H + 3 : Nat) : Int)) = true := decide_eq_true (by omega)
            have hrow := rows_at (g := g5) (i := j) (by rw [hh5, ht5]; omega)
            rw [ht5, Nat.zero_add, l5.rcd (by rw [ht5]; omega) (by rw [hn5]; omega)] at hrow
            have hat : (g5.rows.map (·.1))[j]? = some (j : Int) := by rw [List.getElem?_map, hrow]; rfl
            have hrec : (g5.rows.map (·.2))[j]? = some (hR H j) := by rw [List.getElem?_map, hrow]; rfl
            have hq2 : (!decide ((j : Int) = (j : Int))) = false := by simp
            rcases Nat.lt_or_ge j H with hjH | hjH
            · have h1 : hR H j = rz 0 ((j + 1 : Nat) : Int) := if_pos hjH
              rw [h1] at hrec
              have hq1 : (!decide (((j + 1 : Nat) : Int) = IntKind.i64.wrap ((j : Int) + 1))) = false := by rw [hwj]; simp
              have d5 : decide ((j : Int) < (H : Int)) = true := decide_eq_true (by omega)
              have d6 : decide ((H : Int) ≤ (j : Int)) = false := decide_eq_false (by omega)
              repeat' (first
 | refine SO.indexH rfl rfl (by repeat constructor) rfl rfl rfl rfl (by assumption) ?_
 | refine SO.pure rfl rfl rfl ?_
 | refine SO.nil ?_
 | refine SO.guardY rfl rfl ?_
 | refine SO.guardN rfl rfl rfl ?_
 | refine SO.guardU rfl rfl rfl rfl ?_
 | refine SO.efield rfl rfl rfl rfl rfl ?_
 | refine SO.eloadW rfl (by repeat constructor) (by assumption) rfl (by rfl) rfl (by rfl) rfl (fun hid => ?_)
 | refine SO.eload rfl (by repeat constructor) (by assumption) rfl (by rfl) (by exact fun _ => ⟨rfl, fun _ => rfl⟩) rfl (fun hid => ?_)
 | refine SK.seq ?_
 | refine SK.region ?_
 | refine SK.condF rfl ?_
 | refine SK.skip ?_
 | refine SK.block ?_
 | refine SK.blk ?_
 | refine SO.eload rfl (by repeat constructor) (by assumption) rfl (by rfl) (by exact fun _ => ⟨rfl, fun h => by cases h⟩) rfl (fun hid => ?_)
 | refine SO.guardYP rfl rfl (by first | assumption | (simp only [Go.Sl.bl]; omega)) ?_
 | refine SO.guardNP rfl rfl rfl (by first | assumption | (simp only [Go.Sl.bl]; omega)) ?_
 | refine SK.condTP rfl (by first | assumption | (simp only [Go.Sl.bl]; omega)) ?_
 | fail)
              refine SK.inv ⟨⟨j + 1, by omega⟩, ?_, ?_, ?_⟩
              · show H + 3 - (j + 1) < H + 3 - j
                omega
              · rw [hwj]; repeat constructor
              · exact ent_append_of_takes (by repeat constructor)
            · have h1 : hR H j = rz 1 ((j - H + 1 : Nat) : Int) := if_neg (by omega)
              rw [h1] at hrec
              have hw1 : IntKind.i64.wrap ((j : Int) - (H : Int)) = ((j - H : Nat) : Int) := by rw [wrap_id (by omega) (by omega)]; omega
              have hw2 : IntKind.i64.wrap (((j - H : Nat) : Int) + 1) = ((j - H + 1 : Nat) : Int) := by rw [wrap_id (by omega) (by omega)]; omega
              have hq1 : (!decide (((j - H + 1 : Nat) : Int) = IntKind.i64.wrap (IntKind.i64.wrap ((j : Int) - (H : Int)) + 1))) = false := by rw [hw1, hw2]; simp
              have d5 : decide ((j : Int) < (H : Int)) = false := decide_eq_false (by omega)
              have d6 : decide ((H : Int) ≤ (j : Int)) = true := decide_eq_true (by omega)
              repeat' (first
 | refine SO.indexH rfl rfl (by repeat constructor) rfl rfl rfl rfl (by assumption) ?_
 | refine SO.pure rfl rfl rfl ?_
 | refine SO.nil ?_
 | refine SO.guardY rfl rfl ?_
 | refine SO.guardN rfl rfl rfl ?_
 | refine SO.guardU rfl rfl rfl rfl ?_
 | refine SO.efield rfl rfl rfl rfl rfl ?_
 | refine SO.eloadW rfl (by repeat constructor) (by assumption) rfl (by rfl) rfl (by rfl) rfl (fun hid => ?_)
 | refine SO.eload rfl (by repeat constructor) (by assumption) rfl (by rfl) (by exact fun _ => ⟨rfl, fun _ => rfl⟩) rfl (fun hid => ?_)
 | refine SK.seq ?_
 | refine SK.region ?_
 | refine SK.skip ?_
 | refine SK.block ?_
 | refine SK.blk ?_
 | refine SO.eload rfl (by repeat constructor) (by assumption) rfl (by rfl) (by exact fun _ => ⟨rfl, fun h => by cases h⟩) rfl (fun hid => ?_)
 | refine SO.guardYP rfl rfl (by first | assumption | (simp only [Go.Sl.bl]; omega)) ?_
 | refine SO.guardNP rfl rfl rfl (by first | assumption | (simp only [Go.Sl.bl]; omega)) ?_
 | refine SK.condTP rfl (by first | assumption | (simp only [Go.Sl.bl]; omega)) ?_
 | refine SK.condFP rfl (by first | assumption | (simp only [Go.Sl.bl]; omega)) ?_
 | fail)
              refine SK.inv ⟨⟨j + 1, by omega⟩, ?_, ?_, ?_⟩
              · show H + 3 - (j + 1) < H + 3 - j
                omega
              · rw [hwj]; repeat constructor
              · exact ent_append_of_takes (by repeat constructor)
          · have hl2 : decide ((j : Int) < ((H + 3 : Nat) : Int)) = false := decide_eq_false (by omega)
            repeat' (first
 | refine SO.pure rfl rfl rfl ?_
 | refine SO.nil ?_
 | refine SK.seq ?_
 | refine SK.region ?_
 | refine SK.exit rfl ?_
 | refine SK.condFP rfl (by first | assumption | (simp only [Go.Sl.bl]; omega)) ?_
 | fail)
            exact SK.retX (.tmp rfl .nil) () trivial rfl (by repeat constructor)
    · have e1 : (((t + 1 : Nat) : Int) - 1) = (t : Int) := by omega
      rw [e1]
      have hd2 : decide ((0 : Int) ≤ (t : Int)) = true := decide_eq_true (by omega)
      have hwt : IntKind.i64.wrap ((t : Int) - 1) = (t : Int) - 1 := wrap_id (by omega) (by omega)
      have hst := holeF_step (b := bitB w0) (c := i) (K := K) (t := t) (by omega)
      have hdv : w0 / 2 ^ t < 256 := Nat.lt_of_le_of_lt (Nat.div_le_self _ _) hw
      have hb2 : w0 / 2 ^ t % 2 < 2 := Nat.mod_lt _ (by decide)
      have hut : IntKind.u64.wrap (t : Int) = (t : Int) := by simp [IntKind.wrap, IntKind.signed, IntKind.bits]; omega
      have hand : IntKind.u8.wrap ((BitVec.ofInt IntKind.u8.bits ((w0 : Int).fdiv (2 ^ ((t : Int)).toNat)) &&& BitVec.ofInt IntKind.u8.bits 1).toNat : Int) = ((w0 / 2 ^ t % 2 : Nat) : Int) := by
        rw [shr_byte, Go.Sl.and_one hdv]
      repeat' (first
 | refine SO.pure rfl rfl rfl ?_
 | refine SO.nil ?_
 | refine SK.seq ?_
 | refine SK.region ?_
 | refine SK.condT rfl ?_
 | refine SK.skip ?_
 | refine SK.block ?_
 | fail)
      rw [hut]
      repeat' (first
 | refine SO.shr rfl rfl (decide_eq_true (show (0 : Int) ≤ (t : Int) ∧ (t : Int) < (8 : Int) from ⟨by omega, by omega⟩)) rfl rfl ?_
 | refine SO.bitAnd rfl rfl rfl rfl ?_
 | refine SO.pure rfl rfl rfl ?_
 | refine SO.nil ?_
 | refine SO.shr rfl rfl rfl rfl rfl ?_
 | fail)
      rw [hand]
      cases hbt : bitB w0 t with
      | true =>
        have hb1 : w0 / 2 ^ t % 2 = 1 := of_decide_eq_true hbt
        have hd5 : decide (((w0 / 2 ^ t % 2 : Nat) : Int) = 1) = true := by rw [hb1]; rfl
        have sy := lsyncR lb t hI1.sy.li.ok hI1.sy.down (by omega)
        rw [hbt] at hst
        repeat' (first
 | refine SO.call (sy) rfl rfl rfl (by repeat constructor) (by repeat constructor) rfl (fun x hx => ?_)
 | refine SO.pure rfl rfl rfl ?_
 | refine SO.nil ?_
 | refine SK.region ?_
 | refine SK.blk ?_
 | refine SK.condTP rfl (by first | assumption | (simp only [Go.Sl.bl]; omega)) ?_
 | fail)
        rename Bool × Lg => z1
        obtain ⟨bb, g2⟩ := z1
        rename LSync g1 _ (bb, g2).2 ∧ _ => hq2
        dsimp only
        refine SK.inv ⟨⟨(t, g2), by show t ≤ K; omega, hI1.step (by omega) hbt hq2.1⟩, ?_, ?_, ?_⟩
        · show t < t + 1
          omega
        · rw [hwt]; dsimp only; rw [hst]; repeat constructor
        · exact ent_append_of_takes (by repeat constructor)
      | false =>
        have hb1 : ¬ w0 / 2 ^ t % 2 = 1 := of_decide_eq_false hbt
        have hd5 : decide (((w0 / 2 ^ t % 2 : Nat) : Int) = 1) = false := decide_eq_false (by omega)
        rw [hbt] at hst
        rcases Nat.lt_or_ge t i with hti | hti
        · have hd6 : decide ((t : Int) < (i : Int)) = true := decide_eq_true (by omega)
          rw [decide_eq_true hti] at hst
          repeat' (first
 | refine SO.pure rfl rfl rfl ?_
 | refine SO.nil ?_
 | refine SK.seq ?_
 | refine SK.region ?_
 | refine SK.blk ?_
 | refine SK.condTP rfl (by first | assumption | (simp only [Go.Sl.bl]; omega)) ?_
 | refine SK.condFP rfl (by first | assumption | (simp only [Go.Sl.bl]; omega)) ?_
 | fail)
          refine SK.inv ⟨⟨(t, g1), by show t ≤ K; omega, hI1.skip hbt⟩, ?_, ?_, ?_⟩
          · show t < t + 1
            omega
          · rw [hwt]; dsimp only; rw [hst]; repeat constructor
          · exact ent_append_of_takes (by repeat constructor)
        · have hd6 : decide ((t : Int) < (i : Int)) = false := decide_eq_false (by omega)
          rw [decide_eq_false (show ¬ t < i by omega)] at hst
          repeat' (first
 | refine SO.pure rfl rfl rfl ?_
 | refine SO.nil ?_
 | refine SK.seq ?_
 | refine SK.region ?_
 | refine SK.skip ?_
 | refine SK.blk ?_
 | refine SK.condFP rfl (by first | assumption | (simp only [Go.Sl.bl]; omega)) ?_
 | fail)
          refine SK.inv ⟨⟨(t, g1), by show t ≤ K; omega, hI1.skip hbt⟩, ?_, ?_, ?_⟩
          · show t < t + 1
            omega
          · rw [hwt]; dsimp only; rw [hst]; repeat constructor
          · exact ent_append_of_takes (by repeat constructor)
end Go.Proofs
