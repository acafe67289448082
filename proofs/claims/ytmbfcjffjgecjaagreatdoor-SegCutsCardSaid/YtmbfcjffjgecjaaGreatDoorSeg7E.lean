/- A part of a proof: what functions of the program compute. -/
import Derived.Test.YtmbfcjffjgecjaaGreatDoorSeg6E
set_option linter.unusedVariables false
set_option linter.unusedSimpArgs false
set_option maxHeartbeats 0
namespace Go.Proofs
attribute [local irreducible] Go.Sl.SO Go.Sl.SQ Go.Sl.SR Go.Sl.SC Go.Sl.SX Go.Sl.SY Go.Sl.eadr Go.Sl.slAt Go.Sl.sqAt Go.Sl.pts Go.Sl.rod Go.Sl.ob Go.Sl.ex Go.Sl.big Go.Sl.pr Go.Sl.tabs Go.Sl.mpAt Go.Sl.mitAt Go.Sl.mitN
open Go.Sl
theorem segcuts_does (n0 f0 t0 : Nat) (hn : n0 < 256) (hf : f0 < 256) (ht : t0 < 256) : Does Tryz.prog 8 [.int .u8 (n0 : Int), .int .u8 (f0 : Int), .int .u8 (t0 : Int)] [libA, tabs 4 5] [] Unit (fun _ => True) (fun _ => .bool true) (fun _ => []) := by
  refine Does.of Tryz.call8 Tryz.func8 rfl rfl rfl (all_cons pers_lib (all_cons (pers_tabs _ _) all_nil)) rfl ?_
  repeat' (first
 | refine SO.call (sknown_does) rfl rfl rfl (by repeat constructor) (by repeat constructor) rfl (fun x hx => ?_)
 | refine SO.call (fresh_does) rfl rfl rfl (by repeat constructor) (by repeat constructor) rfl (fun x hx => ?_)
 | refine SO.pure rfl rfl rfl ?_
 | refine SO.pure2 rfl rfl rfl ?_
 | refine SO.nil ?_
 | refine SO.guardY rfl rfl ?_
 | refine SK.seq ?_
 | refine SK.region ?_
 | refine SK.condF rfl ?_
 | refine SK.skip ?_
 | refine SK.block ?_
 | fail)
  rename Nat × Nat × Nat => y
  obtain ⟨db, sb, mb⟩ := y
  dsimp only
  have hk9 : IntKind.i64.wrap ((n0 : Int).tmod 30) = ((n0 % 30 : Nat) : Int) := wrap_id (by show -9223372036854775808 ≤ ((n0 % 30 : Nat) : Int); omega) (by show ((n0 % 30 : Nat) : Int) < 9223372036854775808; omega)
  have ha9 : IntKind.i64.wrap ((f0 : Int).tmod 32) = ((f0 % 32 : Nat) : Int) := wrap_id (by show -9223372036854775808 ≤ ((f0 % 32 : Nat) : Int); omega) (by show ((f0 % 32 : Nat) : Int) < 9223372036854775808; omega)
  have hb9 : IntKind.i64.wrap ((t0 : Int).tmod 32) = ((t0 % 32 : Nat) : Int) := wrap_id (by show -9223372036854775808 ≤ ((t0 % 32 : Nat) : Int); omega) (by show ((t0 % 32 : Nat) : Int) < 9223372036854775808; omega)
  have hkl : n0 % 30 < 30 := Nat.mod_lt _ (by omega)
  have hal : f0 % 32 < 32 := Nat.mod_lt _ (by omega)
  have hbl : t0 % 32 < 32 := Nat.mod_lt _ (by omega)
  rw [hk9]
  generalize n0 % 30 = kk at *
  refine SK.loop (X := {x : Nat × Dk × Pl // x.1 ≤ kk ∧ CutI x.1 ⟨rowM x.1, 0, 0⟩ x.2.1}) (fun x => [(10, .int .i64 (x.1.1 : Int)), (9, .int .i64 (kk : Int)), (8, .pointer (some ⟨sb, 0, none⟩)), (7, .pointer (some ⟨db, 0, none⟩)), (1, .int .u8 (f0 : Int)), (2, .int .u8 (t0 : Int))])
    (fun x => [libA, tabs 4 5] ++ (sgAt sb db mb ⟨rowM x.1.1, 0, 0⟩ ++ dkAt db x.1.2.2 x.1.2.1)) (fun x => kk - x.1.1) ⟨(0, ⟨100000, [], 0⟩, (none, 0)), Nat.zero_le _, cutI_zero⟩ (by repeat constructor) (ent_append_of_takes (by repeat constructor)) ?_
  rintro ⟨⟨i, d, p⟩, hi0, hI0⟩
  have hi : i ≤ kk := hi0
  have hI : CutI i ⟨rowM i, 0, 0⟩ d := hI0
  dsimp only
  have hwi : IntKind.i64.wrap ((i : Int) + 1) = ((i + 1 : Nat) : Int) := by rw [wrap_id (by omega) (by omega)]; omega
  rcases Nat.lt_or_ge i kk with hik | hik
  · have hd1 : decide ((i : Int) < (kk : Int)) = true := decide_eq_true (by omega)
    obtain ⟨h0, hI'⟩ := cut_put hI (by omega)
    have hs := hI'.s
    have pt := sput0_does sb db mb p ⟨rowM i, 0, 0⟩ d 1 i 0 ((i : Int) + 1) hI.ply.ok (rz_ok (by omega)) (by omega) (by omega) (by omega)
    rw [hs] at hI'
    simp only [h0, hs] at pt
    have hc : ((i + 1 : Nat) : Int) = (i : Int) + 1 := by omega
    repeat' (first
 | refine SO.pure rfl rfl rfl ?_
 | refine SO.nil ?_
 | refine SK.seq ?_
 | refine SK.region ?_
 | refine SK.skip ?_
 | refine SK.block ?_
 | refine SK.condTP rfl (by first | assumption | (simp only [Go.Sl.bl]; omega)) ?_
 | fail)
    rw [hd1]
    skip
    rw [hwi, hc]
    repeat' (first
 | refine SO.call (r_does _ _) rfl rfl rfl (by repeat constructor) (by repeat constructor) rfl (fun x hx => ?_)
 | refine SO.call (pt) rfl rfl rfl (by repeat constructor) (by repeat constructor) rfl (fun x hx => ?_)
 | refine SO.pure rfl rfl rfl ?_
 | refine SO.nil ?_
 | refine SK.region ?_
 | refine SK.condF rfl ?_
 | refine SK.skip ?_
 | refine SK.blk ?_
 | fail)
    rename Pl => px
    refine SK.inv ⟨⟨(i + 1, ((⟨rowM i, 0, 0⟩ : Sg).put d 1 i (rz 0 ((i : Int) + 1))).2.2, px), by show i + 1 ≤ kk; omega, hI'⟩, ?_, ?_, ?_⟩
    · show kk - (i + 1) < kk - i
      omega
    · rw [hwi]; repeat constructor
    · exact ent_append_of_takes (by repeat constructor)
  · have hd1 : decide ((i : Int) < (kk : Int)) = false := decide_eq_false (by omega)
    obtain rfl : i = kk := by omega
    generalize f0 % 32 = a at *
    generalize t0 % 32 = b at *
    obtain ⟨c0, cp, s4, d4, e4, ok3, ply4, hall⟩ := cut_end (a := a) (b := b) hI (by omega) (by omega) (by omega)
    have ct := scutAt_does sb db mb p ⟨rowM i, 0, 0⟩ d (b : Int) hI.ply.ok
    simp only [c0] at ct
    generalize ((⟨rowM i, 0, 0⟩ : Sg).cutAt d (b : Int)).2.1 = s2 at *
    generalize ((⟨rowM i, 0, 0⟩ : Sg).cutAt d (b : Int)).2.2 = d2 at *
    have tr := fun p => strimAt_does sb db mb p s2 d2 (a : Int) cp.ok
    have cr := fun p => dcrash_does db p (s2.trimAt d2 (a : Int)).2 0 ok3 (by omega)
    simp only [e4] at cr
    have op := fun p => sopen_does db p s4 d4 ply4
    repeat' (first
 | refine SO.pure rfl rfl rfl ?_
 | refine SO.pure2 rfl rfl rfl ?_
 | refine SO.nil ?_
 | refine SK.seq ?_
 | refine SK.region ?_
 | refine SK.exit rfl ?_
 | refine SK.condFP rfl (by first | assumption | (simp only [Go.Sl.bl]; omega)) ?_
 | fail)
    rw [hd1]
    skip
    rw [ha9, hb9]
    repeat' (first
 | refine SO.call (ct) rfl rfl rfl (by repeat constructor) (by repeat constructor) rfl (fun x hx => ?_)
 | refine SO.call (tr _) rfl rfl rfl (by repeat constructor) (by repeat constructor) rfl (fun x hx => ?_)
 | refine SO.call (cr _) rfl rfl rfl (by repeat constructor) (by repeat constructor) rfl (fun x hx => ?_)
 | refine SO.call (op _) rfl rfl rfl (by repeat constructor) (by repeat constructor) rfl (fun x hx => ?_)
 | refine SO.pure rfl rfl rfl ?_
 | refine SO.pure2 rfl rfl rfl ?_
 | refine SO.nil ?_
 | refine SO.guardY rfl rfl ?_
 | refine SK.seq ?_
 | refine SK.region ?_
 | refine SK.condF rfl ?_
 | refine SK.skip ?_
 | refine SK.block ?_
 | fail)
    rename Nat × Nat => y2
    obtain ⟨sb2, mb2⟩ := y2
    rename Pl => pz
    dsimp only
    refine SK.loop (X := {j : Nat // j ≤ 34}) (fun j => [(15, .int .i64 (j.1 : Int)), (13, .pointer (some ⟨sb2, 0, none⟩)), (11, .int .i64 (a : Int)), (12, .int .i64 (b : Int)), (9, .int .i64 (i : Int))])
      (fun j => sgAt sb2 db mb2 s4 ++ dkAt db pz d4) (fun j => 34 - j.1) ⟨0, Nat.zero_le _⟩ (by repeat constructor) (ent_append_of_takes (by repeat constructor)) ?_
    rintro ⟨j, hj⟩
    dsimp only
    have hwj : IntKind.i64.wrap ((j : Int) + 1) = ((j + 1 : Nat) : Int) := by rw [wrap_id (by omega) (by omega)]; omega
    rcases Nat.lt_or_ge j 34 with hjl | hjl
    · have gt := sget_does sb2 db mb2 s4 (j : Int)
      have la := slasts_does sb2 db mb2 pz s4 d4 (j : Int) ply4.ok
      obtain ⟨q1, q2, q3⟩ := hall j
      by_cases hja : j < a
      · obtain ⟨g1, g2⟩ := q1 hja
        simp only [g1] at gt
        simp only [g2] at la
        repeat' (first
 | refine SO.call (gt) rfl rfl rfl (by repeat constructor) (by repeat constructor) rfl (fun x hx => ?_)
 | refine SO.call (la) rfl rfl rfl (by repeat constructor) (by repeat constructor) rfl (fun x hx => ?_)
 | refine SO.pure rfl rfl rfl ?_
 | refine SO.pure2 rfl rfl rfl ?_
 | refine SO.nil ?_
 | refine SO.guardY rfl rfl ?_
 | refine SO.guardN rfl rfl rfl ?_
 | refine SK.seq ?_
 | refine SK.region ?_
 | refine SK.condF rfl ?_
 | refine SK.skip ?_
 | refine SK.block ?_
 | refine SK.blk ?_
 | refine SO.alloc rfl rfl rfl (fun b => ?_)
 | refine SO.storeW rfl rfl (by repeat constructor) rfl (by rfl) (by rfl) (by rfl) ?_
 | refine SK.condTP rfl (by first | assumption | (simp only [Go.Sl.bl]; omega)) ?_
 | fail)
        refine SK.inv ⟨⟨j + 1, by omega⟩, ?_, ?_, ?_⟩
        · show 34 - (j + 1) < 34 - j
          omega
        · rw [hwj]; repeat constructor
        · exact ent_append_of_takes (by repeat constructor)
      · by_cases hjb : b ≤ j ∨ i ≤ j
        · obtain ⟨g1, g2⟩ := q2 hja hjb
          simp only [g1] at gt
          simp only [g2] at la
          by_cases hb2 : b ≤ j
          · repeat' (first
 | refine SO.call (gt) rfl rfl rfl (by repeat constructor) (by repeat constructor) rfl (fun x hx => ?_)
 | refine SO.call (la) rfl rfl rfl (by repeat constructor) (by repeat constructor) rfl (fun x hx => ?_)
 | refine SO.pure rfl rfl rfl ?_
 | refine SO.pure2 rfl rfl rfl ?_
 | refine SO.nil ?_
 | refine SO.guardY rfl rfl ?_
 | refine SO.guardN rfl rfl rfl ?_
 | refine SK.seq ?_
 | refine SK.region ?_
 | refine SK.condT rfl ?_
 | refine SK.condF rfl ?_
 | refine SK.skip ?_
 | refine SK.block ?_
 | refine SK.blk ?_
 | refine SO.alloc rfl rfl rfl (fun b => ?_)
 | refine SO.storeW rfl rfl (by repeat constructor) rfl (by rfl) (by rfl) (by rfl) ?_
 | refine SO.guardNP rfl rfl rfl (by first | assumption | (simp only [Go.Sl.bl]; omega)) ?_
 | refine SK.condTP rfl (by first | assumption | (simp only [Go.Sl.bl]; omega)) ?_
 | refine SK.condFP rfl (by first | assumption | (simp only [Go.Sl.bl]; omega)) ?_
 | fail)
            refine SK.inv ⟨⟨j + 1, by omega⟩, ?_, ?_, ?_⟩
            · show 34 - (j + 1) < 34 - j
              omega
            · rw [hwj]; repeat constructor
            · exact ent_append_of_takes (by repeat constructor)
          · have hb3 : i ≤ j := by omega
            repeat' (first
 | refine SO.call (gt) rfl rfl rfl (by repeat constructor) (by repeat constructor) rfl (fun x hx => ?_)
 | refine SO.call (la) rfl rfl rfl (by repeat constructor) (by repeat constructor) rfl (fun x hx => ?_)
 | refine SO.pure rfl rfl rfl ?_
 | refine SO.pure2 rfl rfl rfl ?_
 | refine SO.nil ?_
 | refine SO.guardY rfl rfl ?_
 | refine SO.guardN rfl rfl rfl ?_
 | refine SK.seq ?_
 | refine SK.region ?_
 | refine SK.condF rfl ?_
 | refine SK.skip ?_
 | refine SK.block ?_
 | refine SK.blk ?_
 | refine SO.alloc rfl rfl rfl (fun b => ?_)
 | refine SO.storeW rfl rfl (by repeat constructor) rfl (by rfl) (by rfl) (by rfl) ?_
 | refine SO.guardYP rfl rfl (by first | assumption | (simp only [Go.Sl.bl]; omega)) ?_
 | refine SK.condTP rfl (by first | assumption | (simp only [Go.Sl.bl]; omega)) ?_
 | refine SK.condFP rfl (by first | assumption | (simp only [Go.Sl.bl]; omega)) ?_
 | fail)
            refine SK.inv ⟨⟨j + 1, by omega⟩, ?_, ?_, ?_⟩
            · show 34 - (j + 1) < 34 - j
              omega
            · rw [hwj]; repeat constructor
            · exact ent_append_of_takes (by repeat constructor)
        · obtain ⟨g1, g3, g2⟩ := q3 hja hjb
          simp only [g1] at gt
          simp only [g2] at la
          have hseq : (s4.get (j : Int)).1.seq = IntKind.i64.wrap ((j : Int) + 1) := by rw [hwj, g3]; omega
          repeat' (first
 | refine SO.call (gt) rfl rfl rfl (by repeat constructor) (by repeat constructor) rfl (fun x hx => ?_)
 | refine SO.call (la) rfl rfl rfl (by repeat constructor) (by repeat constructor) rfl (fun x hx => ?_)
 | refine SO.pure rfl rfl rfl ?_
 | refine SO.pure2 rfl rfl rfl ?_
 | refine SO.nil ?_
 | refine SO.guardY rfl rfl ?_
 | refine SO.load rfl (by repeat constructor) rfl (by rfl) (by exact ⟨rfl, by first | exact fun _ => rfl | exact (fun h => by cases h)⟩) rfl ?_
 | refine SK.seq ?_
 | refine SK.region ?_
 | refine SK.condF rfl ?_
 | refine SK.skip ?_
 | refine SK.block ?_
 | refine SK.blk ?_
 | refine SO.alloc rfl rfl rfl (fun b => ?_)
 | refine SO.storeW rfl rfl (by repeat constructor) rfl (by rfl) (by rfl) (by rfl) ?_
 | refine SO.guardYP rfl rfl (by first | assumption | (simp only [Go.Sl.bl]; omega)) ?_
 | refine SK.condTP rfl (by first | assumption | (simp only [Go.Sl.bl]; omega)) ?_
 | refine SK.condFP rfl (by first | assumption | (simp only [Go.Sl.bl]; omega)) ?_
 | fail)
          refine SK.inv ⟨⟨j + 1, by omega⟩, ?_, ?_, ?_⟩
          · show 34 - (j + 1) < 34 - j
            omega
          · rw [hwj]; repeat constructor
          · exact ent_append_of_takes (by repeat constructor)
    · obtain rfl : j = 34 := by omega
      repeat' (first
 | refine SO.pure rfl rfl rfl ?_
 | refine SO.nil ?_
 | refine SK.seq ?_
 | refine SK.region ?_
 | refine SK.condF rfl ?_
 | refine SK.exit rfl ?_
 | fail)
      exact SK.retX (.tmp rfl .nil) () trivial rfl (by repeat constructor)
end Go.Proofs
