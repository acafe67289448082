/- A part of a proof: what functions of the program compute. -/
import Derived.Test.YtmbfcjffjgecjaaGreatDoorLog15E
set_option linter.unusedVariables false
set_option linter.unusedSimpArgs false
set_option maxHeartbeats 0
set_option maxRecDepth 20000
namespace Go.Proofs
attribute [local irreducible] Go.Sl.SO Go.Sl.SQ Go.Sl.SR Go.Sl.SC Go.Sl.SX Go.Sl.SY Go.Sl.eadr Go.Sl.slAt Go.Sl.sqAt Go.Sl.pts Go.Sl.rod Go.Sl.ob Go.Sl.ex Go.Sl.big Go.Sl.pr Go.Sl.tabs Go.Sl.mpAt Go.Sl.mitAt Go.Sl.mitN
open Go.Sl
def zR (p : Nat) : Rc := rz 0 ((p + 1 : Nat) : Int)
theorem lsyncS (lb k : Nat) {g : Lg} {room : Int} {K c : Nat} {S : Nat → Bool} {R : Nat → Rc} (h : SyncI room K c S R g) (hk : k < 8) (b0 : Bool) (hb : (!S k && decide (k < K ∧ k < c)) = b0) : Does Tryz.prog 60 [.pointer (some ⟨lb, 0, none⟩), .int .i64 (k : Int)] [] (lgAt lb g) Lg (fun g' => LSync g k g') (fun _ => .bool b0) (fun g' => lgAt lb g') := by
  obtain ⟨sx, hx⟩ : ∃ x, g.segs[k]? = some x := ⟨_, List.getElem?_eq_getElem (by rw [h.li.len]; exact hk)⟩
  exact (lsync_does lb g k sx h.li.ok h.down hx).mapX (fun _ => g.sync k sx) (fun _ _ => ⟨sx, hx, rfl⟩) (fun _ => by rw [h.waits hx, hb]) (fun _ => rfl)
theorem lstripesL_does (s0 n0 w0 : Nat) (hs : s0 < 256) (hn : n0 < 256) (hw : w0 < 256) : Does Tryz.prog 11 [.int .u8 (s0 : Int), .int .u8 (n0 : Int), .int .u8 (w0 : Int)] [libA, tabs 4 5] [] Unit (fun _ => True) (fun _ => .bool true) (fun _ => []) := by
  refine Does.of Tryz.call11 Tryz.func11 rfl rfl rfl (all_cons pers_lib (all_cons (pers_tabs _ _) all_nil)) rfl ?_
  have hk8 : s0 % 8 < 8 := Nat.mod_lt _ (by omega)
  obtain ⟨K, hKe, hK1, hK2⟩ : ∃ K, 1 + s0 % 8 = K ∧ 1 ≤ K ∧ K ≤ 8 := ⟨_, rfl, by omega, by omega⟩
  have hKw : IntKind.i64.wrap (1 + IntKind.i64.wrap ((s0 : Int).tmod 8)) = (K : Int) := by
    have e : IntKind.i64.wrap ((s0 : Int).tmod 8) = ((s0 % 8 : Nat) : Int) := wrap_id (by show -9223372036854775808 ≤ ((s0 % 8 : Nat) : Int); omega) (by show ((s0 % 8 : Nat) : Int) < 9223372036854775808; omega)
    rw [e, wrap_id (by omega) (by omega)]; omega
  have hCw : IntKind.i64.wrap ((n0 : Int).tmod 40) = ((n0 % 40 : Nat) : Int) := wrap_id (by show -9223372036854775808 ≤ ((n0 % 40 : Nat) : Int); omega) (by show ((n0 % 40 : Nat) : Int) < 9223372036854775808; omega)
  have hc40 : n0 % 40 < 40 := Nat.mod_lt _ (by omega)
  have hWw : (IntKind.i64.wrap (w0 : Int)).tmod (K : Int) = ((w0 % K : Nat) : Int) := by rw [wrap_id (by omega) (by omega)]; rfl
  have hWK : w0 % K < K := Nat.mod_lt _ (by omega)
  have nw := lnew_does (K : Int) 100000 (by omega) (by decide)
  repeat' (first
 | refine SO.call (lknown_does) rfl rfl rfl (by repeat constructor) (by repeat constructor) rfl (fun x hx => ?_)
 | refine SO.pure rfl rfl rfl ?_
 | refine SO.pure2 rfl rfl rfl ?_
 | refine SO.nil ?_
 | refine SK.seq ?_
 | refine SK.region ?_
 | refine SK.condF rfl ?_
 | refine SK.skip ?_
 | fail)
  rw [hKw, hCw]
  generalize n0 % 40 = c at *
  repeat' (first
 | refine SO.div rfl rfl (rem_ne (by omega)) rfl ?_
 | refine SO.call (nw) rfl rfl rfl (by repeat constructor) (by repeat constructor) rfl (fun x hx => ?_)
 | refine SO.pure rfl rfl rfl ?_
 | refine SO.pure2 rfl rfl rfl ?_
 | refine SO.nil ?_
 | refine SO.guardY rfl rfl ?_
 | refine SO.div rfl rfl rfl rfl ?_
 | refine SK.seq ?_
 | refine SK.region ?_
 | refine SK.condF rfl ?_
 | refine SK.skip ?_
 | refine SK.block ?_
 | fail)
  rw [hWw]
  generalize w0 % K = W at *
  rename Nat × Lg => z
  obtain ⟨lb, g0⟩ := z
  rename LNew 100000 (K : Int) (lb, g0).2 => h0
  dsimp only at h0 ⊢
  refine SK.loop (X := {x : Nat × Lg // x.1 ≤ c ∧ Go.Sl.Rows 100000 K x.1 zR x.2}) (fun x => [(12, .int .i64 (x.1.1 : Int)), (10, .pointer (some ⟨lb, 0, none⟩)), (9, .int .i64 (W : Int)), (8, .int .i64 (c : Int)), (7, .int .i64 (K : Int))]) (fun x => [libA, tabs 4 5] ++ lgAt lb x.1.2) (fun x => c - x.1.1) ⟨(0, g0), Nat.zero_le _, rows_zero h0 ⟨hK1, hK2⟩ (by decide)⟩ (by repeat constructor) (ent_append_of_takes (by repeat constructor)) ?_
  rintro ⟨⟨i, g⟩, hi0, hr0⟩
  have hi : i ≤ c := hi0
  have hr : Go.Sl.Rows 100000 K i zR g := hr0
  dsimp only
  have hwi : IntKind.i64.wrap ((i : Int) + 1) = ((i + 1 : Nat) : Int) := by rw [wrap_id (by omega) (by omega)]; omega
  rcases Nat.lt_or_ge i c with hic | hic
  · have hd1 : decide ((i : Int) < (c : Int)) = true := decide_eq_true (by omega)
    have pt := lputR lb hr.li hr.down (a := 0) (b := ((i + 1 : Nat) : Int)) (by rw [hr.next]; rfl) (by omega) (by omega) (by omega)
    rw [hr.next] at pt
    have ri := rr_does 0 ((i + 1 : Nat) : Int)
    repeat' (first
 | refine SO.pure rfl rfl rfl ?_
 | refine SO.nil ?_
 | refine SK.seq ?_
 | refine SK.region ?_
 | refine SK.skip ?_
 | refine SK.block ?_
 | refine SK.condTP rfl (by first | assumption | (simp only [Go.Sl.bl]; omega)) ?_
 | fail)
    rw [hwi]
    repeat' (first
 | refine SO.call (ri) rfl rfl rfl (by repeat constructor) (by repeat constructor) rfl (fun x hx => ?_)
 | refine SO.call (pt) rfl rfl rfl (by repeat constructor) (by repeat constructor) rfl (fun x hx => ?_)
 | refine SO.pure rfl rfl rfl ?_
 | refine SO.nil ?_
 | refine SK.region ?_
 | refine SK.condF rfl ?_
 | refine SK.skip ?_
 | refine SK.blk ?_
 | fail)
    rename Lg => g'
    rename LPut _ _ _ _ => q
    have hr2 := q.rows hr ⟨hK1, hK2⟩ rfl (by omega) (by omega) (by omega)
    refine SK.inv ⟨⟨(i + 1, g'), by show i + 1 ≤ c; omega, hr2⟩, ?_, ?_, ?_⟩
    · show c - (i + 1) < c - i
      omega
    · rw [hwi]; repeat constructor
    · exact ent_append_of_takes (by repeat constructor)
  · have hd1 : decide ((i : Int) < (c : Int)) = false := decide_eq_false (by omega)
    obtain rfl : i = c := by omega
    repeat' (first
 | refine SO.pure rfl rfl rfl ?_
 | refine SO.nil ?_
 | refine SK.seq ?_
 | refine SK.region ?_
 | refine SK.block ?_
 | refine SK.exit rfl ?_
 | refine SK.condFP rfl (by first | assumption | (simp only [Go.Sl.bl]; omega)) ?_
 | fail)
    have hS0 : SyncI 100000 K i (fun j => decide (j < 0) && !decide (j = W)) zR g := hr.syncI.congr fun j _ => by simp
    refine SK.loop (X := {x : Nat × Lg // x.1 ≤ 8 ∧ SyncI 100000 K i (fun j => decide (j < x.1) && !decide (j = W)) zR x.2}) (fun x => [(13, .int .i64 (x.1.1 : Int)), (10, .pointer (some ⟨lb, 0, none⟩)), (9, .int .i64 (W : Int)), (8, .int .i64 (i : Int)), (7, .int .i64 (K : Int))]) (fun x => lgAt lb x.1.2) (fun x => 8 - x.1.1) ⟨(0, g), Nat.zero_le _, hS0⟩ (by repeat constructor) (ent_append_of_takes (by repeat constructor)) ?_
    rintro ⟨⟨j, g1⟩, hj0, hs0⟩
    have hj : j ≤ 8 := hj0
    have hs1 : SyncI 100000 K i (fun x => decide (x < j) && !decide (x = W)) zR g1 := hs0
    dsimp only
    have hwj : IntKind.i64.wrap ((j : Int) + 1) = ((j + 1 : Nat) : Int) := by rw [wrap_id (by omega) (by omega)]; omega
    rcases Nat.lt_or_ge j 8 with hj8 | hj8
    · have hd2 : decide ((j : Int) < 8) = true := decide_eq_true (by omega)
      by_cases hjW : j = W
      · have hne : (!decide ((j : Int) = (W : Int))) = false := by simp; omega
        repeat' (first
 | refine SO.pure rfl rfl rfl ?_
 | refine SO.nil ?_
 | refine SO.guardN rfl rfl rfl ?_
 | refine SO.guardU rfl rfl rfl rfl ?_
 | refine SK.seq ?_
 | refine SK.region ?_
 | refine SK.condF rfl ?_
 | refine SK.skip ?_
 | refine SK.block ?_
 | refine SK.blk ?_
 | refine SO.guardNP rfl rfl rfl (by first | assumption | (simp only [Go.Sl.bl]; omega)) ?_
 | refine SK.condTP rfl (by first | assumption | (simp only [Go.Sl.bl]; omega)) ?_
 | fail)
        have hs2 : SyncI 100000 K i (fun x => decide (x < j + 1) && !decide (x = W)) zR g1 := hs1.congr fun x _ => by
          by_cases hx : x = W
          · simp [hx]
          · have : decide (x < j + 1) = decide (x < j) := by apply decide_eq_decide.2; omega
            simp only [this]
        refine SK.inv ⟨⟨(j + 1, g1), by show j + 1 ≤ 8; omega, hs2⟩, ?_, ?_, ?_⟩
        · show 8 - (j + 1) < 8 - j
          omega
        · rw [hwj]; repeat constructor
        · exact ent_append_of_takes (by repeat constructor)
      · have hne : (!decide ((j : Int) = (W : Int))) = true := by simp; omega
        have hnew : ∀ g2, LSync g1 j g2 → SyncI 100000 K i (fun x => decide (x < j + 1) && !decide (x = W)) zR g2 := fun g2 q => (q.syncI hs1).congr fun x _ => by
          by_cases hx : x = j
          · subst hx
            simp [hjW]
          · have : decide (x < j + 1) = decide (x < j) := by apply decide_eq_decide.2; omega
            simp only [this, hx, decide_false, Bool.or_false]
        have hSj : (decide (j < j) && !decide (j = W)) = false := by simp
        by_cases hjK : j < K
        · have hk1 : decide ((j : Int) < (K : Int)) = true := decide_eq_true (by omega)
          by_cases hjc : j < i
          · have hk2 : decide ((j : Int) < (i : Int)) = true := decide_eq_true (by omega)
            have hq : (!(true == decide ((j : Int) < (i : Int)))) = false := by rw [hk2]; rfl
            have sy := lsyncS lb j hs1 hj8 true (by rw [hSj]; simp [hjK, hjc])
            repeat' (first
 | refine SO.call (sy) rfl rfl rfl (by repeat constructor) (by repeat constructor) rfl (fun x hx => ?_)
 | refine SO.pure rfl rfl rfl ?_
 | refine SO.pure2 rfl rfl rfl ?_
 | refine SO.nil ?_
 | refine SO.guardY rfl rfl ?_
 | refine SK.seq ?_
 | refine SK.region ?_
 | refine SK.skip ?_
 | refine SK.block ?_
 | refine SK.blk ?_
 | refine SO.guardYP rfl rfl (by first | assumption | (simp only [Go.Sl.bl]; omega)) ?_
 | refine SK.condTP rfl (by first | assumption | (simp only [Go.Sl.bl]; omega)) ?_
 | refine SK.condFP rfl (by first | assumption | (simp only [Go.Sl.bl]; omega)) ?_
 | fail)
            rename Lg => g2
            rename LSync g1 j g2 => q
            refine SK.inv ⟨⟨(j + 1, g2), by show j + 1 ≤ 8; omega, hnew g2 q⟩, ?_, ?_, ?_⟩
            · show 8 - (j + 1) < 8 - j
              omega
            · rw [hwj]; repeat constructor
            · exact ent_append_of_takes (by repeat constructor)
          · have hk2 : decide ((j : Int) < (i : Int)) = false := decide_eq_false (by omega)
            have hq : (!(false == decide ((j : Int) < (i : Int)))) = false := by rw [hk2]; rfl
            have sy := lsyncS lb j hs1 hj8 false (by rw [hSj]; simp [hjc])
            repeat' (first
 | refine SO.call (sy) rfl rfl rfl (by repeat constructor) (by repeat constructor) rfl (fun x hx => ?_)
 | refine SO.pure rfl rfl rfl ?_
 | refine SO.pure2 rfl rfl rfl ?_
 | refine SO.nil ?_
 | refine SO.guardY rfl rfl ?_
 | refine SK.seq ?_
 | refine SK.region ?_
 | refine SK.skip ?_
 | refine SK.block ?_
 | refine SK.blk ?_
 | refine SO.guardYP rfl rfl (by first | assumption | (simp only [Go.Sl.bl]; omega)) ?_
 | refine SK.condTP rfl (by first | assumption | (simp only [Go.Sl.bl]; omega)) ?_
 | refine SK.condFP rfl (by first | assumption | (simp only [Go.Sl.bl]; omega)) ?_
 | fail)
            rename Lg => g2
            rename LSync g1 j g2 => q
            refine SK.inv ⟨⟨(j + 1, g2), by show j + 1 ≤ 8; omega, hnew g2 q⟩, ?_, ?_, ?_⟩
            · show 8 - (j + 1) < 8 - j
              omega
            · rw [hwj]; repeat constructor
            · exact ent_append_of_takes (by repeat constructor)
        · have hk1 : decide ((j : Int) < (K : Int)) = false := decide_eq_false (by omega)
          have sy := lsyncS lb j hs1 hj8 false (by rw [hSj]; simp [hjK])
          repeat' (first
 | refine SO.call (sy) rfl rfl rfl (by repeat constructor) (by repeat constructor) rfl (fun x hx => ?_)
 | refine SO.pure rfl rfl rfl ?_
 | refine SO.pure2 rfl rfl rfl ?_
 | refine SO.nil ?_
 | refine SO.guardY rfl rfl ?_
 | refine SO.guardN rfl rfl rfl ?_
 | refine SK.seq ?_
 | refine SK.region ?_
 | refine SK.condF rfl ?_
 | refine SK.skip ?_
 | refine SK.block ?_
 | refine SK.blk ?_
 | refine SO.guardYP rfl rfl (by first | assumption | (simp only [Go.Sl.bl]; omega)) ?_
 | refine SO.guardNP rfl rfl rfl (by first | assumption | (simp only [Go.Sl.bl]; omega)) ?_
 | refine SK.condTP rfl (by first | assumption | (simp only [Go.Sl.bl]; omega)) ?_
 | fail)
          rename Lg => g2
          rename LSync g1 j g2 => q
          refine SK.inv ⟨⟨(j + 1, g2), by show j + 1 ≤ 8; omega, hnew g2 q⟩, ?_, ?_, ?_⟩
          · show 8 - (j + 1) < 8 - j
            omega
          · rw [hwj]; repeat constructor
          · exact ent_append_of_takes (by repeat constructor)
    · have hd2 : decide ((j : Int) < 8) = false := decide_eq_false (by omega)
      obtain rfl : j = 8 := by omega
      have hSW : (decide (W < 8) && !decide (W = W)) = false := by simp
      have hSo : ∀ x, x < K → x ≠ W → (decide (x < 8) && !decide (x = W)) = true := fun x hx hxW => by
        have : x < 8 := by omega
        simp [this, hxW]
      have he := lhead_does lb g1 hs1.li.ok
      have hall : ∀ g2, LSync g1 W g2 → SyncI 100000 K i (fun _ => true) zR g2 := fun g2 q => (q.syncI hs1).congr fun x hx => by
        by_cases hxW : x = W
        · simp [hxW]
        · simp [hx, hxW]
      have hh2 : ∀ g2, LSync g1 W g2 → g2.head = i := fun g2 q => (hall g2 q).head ⟨hK1, hK2⟩ (Nat.le_refl _) (fun _ _ => rfl) (.inl rfl)
      have hii : decide ((i : Int) = (i : Int)) = true := decide_eq_true rfl
      by_cases hWi : W < i
      · have hh : g1.head = W := hs1.head ⟨hK1, hK2⟩ (by omega) (fun p hp => by rw [Nat.mod_eq_of_lt (by omega)]; exact hSo p (by omega) (by omega)) (.inr (by rw [Nat.mod_eq_of_lt hWK]; exact hSW))
        rw [hh] at he
        have sy := lsyncS lb W hs1 (by omega) true (by rw [hSW]; simp [hWK, hWi])
        have hmn : decide ((i : Int) < (W : Int)) = false := decide_eq_false (by omega)
        have hmn2 : decide ((W : Int) = (if (i : Int) < (W : Int) then (i : Int) else (W : Int))) = true := by rw [if_neg (by omega)]; simp
        have hWi2 : decide ((W : Int) < (i : Int)) = true := decide_eq_true (by omega)
        have hq2 : (true == decide ((W : Int) < (i : Int))) = true := by rw [hWi2]; rfl
        repeat' (first
 | refine SO.call (he) rfl rfl rfl (by repeat constructor) (by repeat constructor) rfl (fun x hx => ?_)
 | refine SO.call (sy) rfl rfl rfl (by repeat constructor) (by repeat constructor) rfl (fun x hx => ?_)
 | refine SO.pure rfl rfl rfl ?_
 | refine SO.pure2 rfl rfl rfl ?_
 | refine SO.nil ?_
 | refine SO.guardY rfl rfl ?_
 | refine SK.seq ?_
 | refine SK.region ?_
 | refine SK.condF rfl ?_
 | refine SK.exit rfl ?_
 | refine SO.guardYP rfl rfl (by first | assumption | (simp only [Go.Sl.bl]; omega)) ?_
 | fail)
        rename Lg => g2
        rename LSync g1 W g2 => q
        have hS2 := hall g2 q
        have he2 := lhead_does lb g2 hS2.li.ok
        rw [hh2 g2 q] at he2
        have sy2 := lsyncS lb W hS2 (by omega) false (by simp)
        repeat' (first
 | refine SO.call (he2) rfl rfl rfl (by repeat constructor) (by repeat constructor) rfl (fun x hx => ?_)
 | refine SO.call (sy2) rfl rfl rfl (by repeat constructor) (by repeat constructor) rfl (fun x hx => ?_)
 | refine SO.pure rfl rfl rfl ?_
 | refine SO.guardY rfl rfl ?_
 | refine SO.guardYP rfl rfl (by first | assumption | (simp only [Go.Sl.bl]; omega)) ?_
 | fail)
        rename Lg => g3
        rename LSync g2 W g3 => q3
        have hS3 := q3.syncI hS2
        have nx := lnext_does lb g3
        rw [hS3.down, if_neg (by decide), hS3.next] at nx
        repeat' (first
 | refine SO.call (nx) rfl rfl rfl (by repeat constructor) (by repeat constructor) rfl (fun x hx => ?_)
 | refine SO.pure rfl rfl rfl ?_
 | refine SO.nil ?_
 | refine SO.guardY rfl rfl ?_
 | fail)
        exact SK.retX (.tmp rfl .nil) () trivial (by rw [hii]; rfl) (by repeat constructor)
      · have hh : g1.head = i := hs1.head ⟨hK1, hK2⟩ (Nat.le_refl _) (fun p hp => by rw [Nat.mod_eq_of_lt (by omega)]; exact hSo p (by omega) (by omega)) (.inl rfl)
        rw [hh] at he
        have sy := lsyncS lb W hs1 (by omega) false (by rw [hSW]; simp [hWi])
        have hmn2 : decide ((i : Int) = (if (i : Int) < (W : Int) then (i : Int) else (W : Int))) = true := by
          apply decide_eq_true
          split <;> omega
        have hWi2 : decide ((W : Int) < (i : Int)) = false := decide_eq_false (by omega)
        have hq2 : (false == decide ((W : Int) < (i : Int))) = true := by rw [hWi2]; rfl
        repeat' (first
 | refine SO.call (he) rfl rfl rfl (by repeat constructor) (by repeat constructor) rfl (fun x hx => ?_)
 | refine SO.call (sy) rfl rfl rfl (by repeat constructor) (by repeat constructor) rfl (fun x hx => ?_)
 | refine SO.pure rfl rfl rfl ?_
 | refine SO.pure2 rfl rfl rfl ?_
 | refine SO.nil ?_
 | refine SO.guardY rfl rfl ?_
 | refine SK.seq ?_
 | refine SK.region ?_
 | refine SK.condF rfl ?_
 | refine SK.exit rfl ?_
 | refine SO.guardYP rfl rfl (by first | assumption | (simp only [Go.Sl.bl]; omega)) ?_
 | fail)
        rename Lg => g2
        rename LSync g1 W g2 => q
        have hS2 := hall g2 q
        have he2 := lhead_does lb g2 hS2.li.ok
        rw [hh2 g2 q] at he2
        have sy2 := lsyncS lb W hS2 (by omega) false (by simp)
        repeat' (first
 | refine SO.call (he2) rfl rfl rfl (by repeat constructor) (by repeat constructor) rfl (fun x hx => ?_)
 | refine SO.call (sy2) rfl rfl rfl (by repeat constructor) (by repeat constructor) rfl (fun x hx => ?_)
 | refine SO.pure rfl rfl rfl ?_
 | refine SO.guardY rfl rfl ?_
 | refine SO.guardYP rfl rfl (by first | assumption | (simp only [Go.Sl.bl]; omega)) ?_
 | fail)
        rename Lg => g3
        rename LSync g2 W g3 => q3
        have hS3 := q3.syncI hS2
        have nx := lnext_does lb g3
        rw [hS3.down, if_neg (by decide), hS3.next] at nx
        repeat' (first
 | refine SO.call (nx) rfl rfl rfl (by repeat constructor) (by repeat constructor) rfl (fun x hx => ?_)
 | refine SO.pure rfl rfl rfl ?_
 | refine SO.nil ?_
 | refine SO.guardY rfl rfl ?_
 | fail)
        exact SK.retX (.tmp rfl .nil) () trivial (by rw [hii]; rfl) (by repeat constructor)
end Go.Proofs
