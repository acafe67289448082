/- A part of a proof: what functions of the program compute. -/
import Derived.Test.YtmbfcjffjgecjaaGreatDoorLog16E
set_option linter.unusedVariables false
set_option linter.unusedSimpArgs false
set_option maxHeartbeats 0
set_option maxRecDepth 20000
namespace Go.Proofs
attribute [local irreducible] Go.Sl.SO Go.Sl.SQ Go.Sl.SR Go.Sl.SC Go.Sl.SX Go.Sl.SY Go.Sl.eadr Go.Sl.slAt Go.Sl.sqAt Go.Sl.pts Go.Sl.rod Go.Sl.ob Go.Sl.ex Go.Sl.big Go.Sl.pr Go.Sl.tabs Go.Sl.mpAt Go.Sl.mitAt Go.Sl.mitN
open Go.Sl
structure Fill (K c : Nat) (g : Lg) : Prop where
  si : SyncI 100000 K c (fun _ => true) zR g
  own : g.own = ⟨100000, [], 0⟩
  gone : g.gone = []
theorem lfilled_does (K c : Nat) (hK1 : 1 ≤ K) (hK2 : K ≤ 8) (hc : c ≤ 700) : Does Tryz.prog 66 [.int .i64 (K : Int), .int .i64 (c : Int)] [libA, tabs 4 5] [] (Nat × Lg) (fun x => Fill K c x.2) (fun x => .pointer (some ⟨x.1, 0, none⟩)) (fun x => lgAt x.1 x.2) := by
  refine Does.of Tryz.call66 Tryz.func66 rfl rfl rfl (all_cons pers_lib (all_cons (pers_tabs _ _) all_nil)) rfl ?_
  have nw := lnew_does (K : Int) 100000 (by omega) (by decide)
  repeat' (first
 | refine SO.call (nw) rfl rfl rfl (by repeat constructor) (by repeat constructor) rfl (fun x hx => ?_)
 | refine SO.pure rfl rfl rfl ?_
 | refine SO.pure2 rfl rfl rfl ?_
 | refine SO.nil ?_
 | refine SO.guardY rfl rfl ?_
 | refine SK.seq ?_
 | refine SK.region ?_
 | refine SK.condF rfl ?_
 | refine SK.skip ?_
 | refine SK.block ?_
 | fail)
  rename Nat × Lg => z
  obtain ⟨lb, g0⟩ := z
  rename LNew 100000 (K : Int) (lb, g0).2 => h0
  dsimp only at h0 ⊢
  refine SK.loop (X := {x : Nat × Lg // x.1 ≤ c ∧ Go.Sl.Rows 100000 K x.1 zR x.2 ∧ x.2.own = ⟨100000, [], 0⟩ ∧ x.2.gone = []}) (fun x => [(7, .int .i64 (x.1.1 : Int)), (5, .pointer (some ⟨lb, 0, none⟩)), (1, .int .i64 (c : Int))]) (fun x => [libA, tabs 4 5] ++ lgAt lb x.1.2) (fun x => c - x.1.1) ⟨(0, g0), Nat.zero_le _, rows_zero h0 ⟨hK1, hK2⟩ (by decide), h0.own, h0.gone⟩ (by repeat constructor) (ent_append_of_takes (by repeat constructor)) ?_
  rintro ⟨⟨i, g⟩, hi0, hr0, ho0, hg0⟩
  have hi : i ≤ c := hi0
  have hr : Go.Sl.Rows 100000 K i zR g := hr0
  have ho : g.own = ⟨100000, [], 0⟩ := ho0
  have hg : g.gone = [] := hg0
  dsimp only
  have hwi : IntKind.i64.wrap ((i : Int) + 1) = ((i + 1 : Nat) : Int) := by rw [wrap_id (by omega) (by omega)]; omega
  rcases Nat.lt_or_ge i c with hic | hic
  · have hd1 : decide ((i : Int) < (c : Int)) = true := decide_eq_true (by omega)
    have pt := lputR lb hr.li hr.down (a := 0) (b := ((i + 1 : Nat) : Int)) (by rw [hr.next]; rfl) (by omega) (by omega) (by omega)
    rw [hr.next] at pt
    have ri := rr_does 0 ((i + 1 : Nat) : Int)
    repeat' (first
 | refine SO.pure rfl rfl rfl ?_
 | refine SO.nil ?_
 | refine SK.seq ?_
 | refine SK.region ?_
 | refine SK.skip ?_
 | refine SK.block ?_
 | refine SK.condTP rfl (by first | assumption | (simp only [Go.Sl.bl]; omega)) ?_
 | fail)
    rw [hwi]
    repeat' (first
 | refine SO.call (ri) rfl rfl rfl (by repeat constructor) (by repeat constructor) rfl (fun x hx => ?_)
 | refine SO.call (pt) rfl rfl rfl (by repeat constructor) (by repeat constructor) rfl (fun x hx => ?_)
 | refine SO.pure rfl rfl rfl ?_
 | refine SO.nil ?_
 | refine SK.region ?_
 | refine SK.blk ?_
 | fail)
    rename Lg => g'
    rename LPut _ _ _ _ => q
    have hr2 := q.rows hr ⟨hK1, hK2⟩ rfl (by omega) (by omega) (by omega)
    obtain ⟨e1, e2, e3, e4, e5⟩ := q.rest
    refine SK.inv ⟨⟨(i + 1, g'), by show i + 1 ≤ c; omega, hr2, e1.trans ho, e4.trans hg⟩, ?_, ?_, ?_⟩
    · show c - (i + 1) < c - i
      omega
    · rw [hwi]; repeat constructor
    · exact ent_append_of_takes (by repeat constructor)
  · have hd1 : decide ((i : Int) < (c : Int)) = false := decide_eq_false (by omega)
    obtain rfl : i = c := by omega
    repeat' (first
 | refine SO.pure rfl rfl rfl ?_
 | refine SO.nil ?_
 | refine SK.seq ?_
 | refine SK.region ?_
 | refine SK.block ?_
 | refine SK.exit rfl ?_
 | refine SK.condFP rfl (by first | assumption | (simp only [Go.Sl.bl]; omega)) ?_
 | fail)
    have hS0 : SyncI 100000 K i (fun j => decide (j < 0)) zR g := hr.syncI.congr fun j _ => by simp
    refine SK.loop (X := {x : Nat × Lg // x.1 ≤ 8 ∧ SyncI 100000 K i (fun j => decide (j < x.1)) zR x.2 ∧ x.2.own = ⟨100000, [], 0⟩ ∧ x.2.gone = []}) (fun x => [(8, .int .i64 (x.1.1 : Int)), (5, .pointer (some ⟨lb, 0, none⟩))]) (fun x => lgAt lb x.1.2) (fun x => 8 - x.1.1) ⟨(0, g), Nat.zero_le _, hS0, ho, hg⟩ (by repeat constructor) (ent_append_of_takes (by repeat constructor)) ?_
    rintro ⟨⟨j, g1⟩, hj0, hs0, ho1, hg1⟩
    have hj : j ≤ 8 := hj0
    have hs1 : SyncI 100000 K i (fun x => decide (x < j)) zR g1 := hs0
    dsimp only at ho1 hg1 ⊢
    have hwj : IntKind.i64.wrap ((j : Int) + 1) = ((j + 1 : Nat) : Int) := by rw [wrap_id (by omega) (by omega)]; omega
    rcases Nat.lt_or_ge j 8 with hj8 | hj8
    · have hd2 : decide ((j : Int) < 8) = true := decide_eq_true (by omega)
      have sy := lsyncS lb j hs1 hj8 _ rfl
      repeat' (first
 | refine SO.call (sy) rfl rfl rfl (by repeat constructor) (by repeat constructor) rfl (fun x hx => ?_)
 | refine SO.pure rfl rfl rfl ?_
 | refine SO.nil ?_
 | refine SK.seq ?_
 | refine SK.region ?_
 | refine SK.skip ?_
 | refine SK.block ?_
 | refine SK.blk ?_
 | refine SK.condTP rfl (by first | assumption | (simp only [Go.Sl.bl]; omega)) ?_
 | fail)
      rename Lg => g2
      rename LSync g1 j g2 => q
      have hs2 : SyncI 100000 K i (fun x => decide (x < j + 1)) zR g2 := (q.syncI hs1).congr fun x hx => by
        rw [← Bool.decide_or]; apply decide_eq_decide.2; omega
      obtain ⟨e1, e2, e3, e4, e5, e6⟩ := q.rest
      refine SK.inv ⟨⟨(j + 1, g2), by show j + 1 ≤ 8; omega, hs2, e1.trans ho1, e4.trans hg1⟩, ?_, ?_, ?_⟩
      · show 8 - (j + 1) < 8 - j
        omega
      · rw [hwj]; repeat constructor
      · exact ent_append_of_takes (by repeat constructor)
    · have hd2 : decide ((j : Int) < 8) = false := decide_eq_false (by omega)
      obtain rfl : j = 8 := by omega
      repeat' (first
 | refine SO.pure rfl rfl rfl ?_
 | refine SO.nil ?_
 | refine SK.seq ?_
 | refine SK.region ?_
 | refine SK.condF rfl ?_
 | refine SK.exit rfl ?_
 | fail)
      exact SK.retX (.tmp rfl .nil) (lb, g1) ⟨hs1.congr fun x hx => by simp [hx], ho1, hg1⟩ rfl (by repeat constructor)
end Go.Proofs
