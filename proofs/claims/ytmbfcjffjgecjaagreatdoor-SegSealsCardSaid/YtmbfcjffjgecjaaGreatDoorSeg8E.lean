/- A part of a proof: what functions of the program compute. -/
import Derived.Test.YtmbfcjffjgecjaaGreatDoorSeg6E
set_option linter.unusedVariables false
set_option linter.unusedSimpArgs false
set_option maxHeartbeats 0
namespace Go.Proofs
attribute [local irreducible] Go.Sl.SO Go.Sl.SQ Go.Sl.SR Go.Sl.SC Go.Sl.SX Go.Sl.SY Go.Sl.eadr Go.Sl.slAt Go.Sl.sqAt Go.Sl.pts Go.Sl.rod Go.Sl.ob Go.Sl.ex Go.Sl.big Go.Sl.pr Go.Sl.tabs Go.Sl.mpAt Go.Sl.mitAt Go.Sl.mitN
open Go.Sl
theorem segseals_does (A : Option Addr) (n c : Nat) (l : List Int) (hbd : ∀ x ∈ l, 0 ≤ x ∧ x ≤ 255) : Does Tryz.prog 7 [.slice A n c] [libA, tabs 4 5, slAt RU A n l] [] Unit (fun _ => True) (fun _ => .bool true) (fun _ => []) := by
  refine Does.of Tryz.call7 Tryz.func7 rfl rfl rfl (all_cons pers_lib (all_cons (pers_tabs _ _) (all_cons (pers_slAt _ _ _ _) all_nil))) rfl ?_
  refine SK.know (sl_len (ρ := RU) (A := A) (n := n) (l := l) (by repeat constructor)) ?_
  rintro ⟨rfl, hlim, -⟩
  by_cases h30 : (30 : Int) < (l.length : Int)
  · repeat' (first
 | refine SO.call (sknown_does) rfl rfl rfl (by repeat constructor) (by repeat constructor) rfl (fun x hx => ?_)
 | refine SO.pure rfl rfl rfl ?_
 | refine SO.nil ?_
 | refine SK.seq ?_
 | refine SK.region ?_
 | refine SK.condF rfl ?_
 | refine SK.skip ?_
 | refine SK.condTP rfl (by first | assumption | (simp only [Go.Sl.bl]; omega)) ?_
 | fail)
    exact SK.retX (.tmp rfl .nil) () trivial rfl (by repeat constructor)
  · repeat' (first
 | refine SO.call (sknown_does) rfl rfl rfl (by repeat constructor) (by repeat constructor) rfl (fun x hx => ?_)
 | refine SO.call (fresh_does) rfl rfl rfl (by repeat constructor) (by repeat constructor) rfl (fun x hx => ?_)
 | refine SO.pure rfl rfl rfl ?_
 | refine SO.pure2 rfl rfl rfl ?_
 | refine SO.nil ?_
 | refine SO.guardY rfl rfl ?_
 | refine SK.seq ?_
 | refine SK.region ?_
 | refine SK.condF rfl ?_
 | refine SK.skip ?_
 | refine SK.block ?_
 | refine SK.condFP rfl (by first | assumption | (simp only [Go.Sl.bl]; omega)) ?_
 | fail)
    rename Nat × Nat × Nat => y
    obtain ⟨db, sb, mb⟩ := y
    dsimp only
    refine SK.loop (X := {x : Nat × Int × Int × Sg × Dk × Pl // x.1 ≤ l.length ∧ SealI x.1 x.2.2.2.1 x.2.2.2.2.1 x.2.1 x.2.2.1}) (fun x => [(7, .int .i64 (x.1.1 : Int)), (6, .int .i64 x.1.2.1), (5, .int .i64 x.1.2.2.1), (4, .pointer (some ⟨sb, 0, none⟩)), (3, .pointer (some ⟨db, 0, none⟩)), (0, .slice A l.length c)])
      (fun x => [libA, tabs 4 5, slAt RU A l.length l] ++ (sgAt sb db mb x.1.2.2.2.1 ++ dkAt db x.1.2.2.2.2.2 x.1.2.2.2.2.1)) (fun x => l.length - x.1.1) ⟨(0, 0, 0, ⟨[], 0, 0⟩, ⟨100000, [], 0⟩, (none, 0)), Nat.zero_le _, sealI_zero⟩ (by repeat constructor) (ent_append_of_takes (by repeat constructor)) ?_
    rintro ⟨⟨i, pos, sd, s, d, p⟩, hi0, hI0⟩
    have hi : i ≤ l.length := hi0
    have hI : SealI i s d pos sd := hI0
    dsimp only
    have hwi : IntKind.i64.wrap ((i : Int) + 1) = ((i + 1 : Nat) : Int) := by rw [wrap_id (by omega) (by omega)]; omega
    have hpb := hI.bd
    rcases Nat.lt_or_ge i l.length with hil | hil
    · have hd1 : decide ((i : Int) < (l.length : Int)) = true := decide_eq_true (by omega)
      obtain ⟨v, hu⟩ : ∃ v, l[i]? = some v := ⟨_, List.getElem?_eq_getElem hil⟩
      have hvb := hbd v (List.mem_of_getElem? hu)
      obtain ⟨vn, rfl⟩ := Int.eq_ofNat_of_zero_le hvb.1
      have q1 : IntKind.u8.wrap ((vn : Int).tdiv 2) = ((vn / 2 : Nat) : Int) := by
        show IntKind.u8.wrap ((vn / 2 : Nat) : Int) = _
        simp only [IntKind.wrap, IntKind.bits, IntKind.signed]; simp; omega
      have q2 : IntKind.i64.wrap (((vn / 2 : Nat) : Int).tmod 20) = ((vn / 2 % 20 : Nat) : Int) := wrap_id (by show -9223372036854775808 ≤ ((vn / 2 % 20 : Nat) : Int); omega) (by show ((vn / 2 % 20 : Nat) : Int) < 9223372036854775808; omega)
      have q3 : IntKind.i64.wrap (1 + ((vn / 2 % 20 : Nat) : Int)) = ((vn / 2 % 20 + 1 : Nat) : Int) := by rw [wrap_id (by omega) (by omega)]; omega
      have q4 : (vn : Int).tmod 2 = ((vn % 2 : Nat) : Int) := rfl
      have hk : 1 ≤ ((vn / 2 % 20 + 1 : Nat) : Int) ∧ ((vn / 2 % 20 + 1 : Nat) : Int) ≤ 20 := by omega
      repeat' (first
 | refine SO.indexH rfl rfl (by repeat constructor) rfl rfl rfl rfl (by assumption) ?_
 | refine SO.pure rfl rfl rfl ?_
 | refine SO.pure2 rfl rfl rfl ?_
 | refine SO.nil ?_
 | refine SO.eloadW rfl (by repeat constructor) (by assumption) rfl (by rfl) rfl (by rfl) rfl (fun hid => ?_)
 | refine SK.seq ?_
 | refine SK.region ?_
 | refine SK.skip ?_
 | refine SK.block ?_
 | refine SK.condTP rfl (by first | assumption | (simp only [Go.Sl.bl]; omega)) ?_
 | fail)
      rw [hd1]
      skip
      rw [q1, q2, q3, q4]
      have hc : ((i + 1 : Nat) : Int) = (i : Int) + 1 := by omega
      generalize vn / 2 % 20 + 1 = kn at *
      have hwp : IntKind.i64.wrap (pos + 1) = pos + 1 := wrap_id (by omega) (by omega)
      have hkb : ∀ k ∈ keysM s.m, 0 ≤ k ∧ k ≤ 2147483647 := by
        intro k hk
        rw [hI.keys] at hk
        obtain ⟨j, hj, rfl⟩ := List.mem_map.1 hk
        have := List.mem_range.1 hj
        show 0 ≤ (j : Int) ∧ (j : Int) ≤ 2147483647
        omega
      have hsl := hI.sl
      have hpp : (!decide (pos = pos)) = false := by simp
      have hss : (!decide (sd = sd)) = false := by simp
      have hkk2 : (!decide ((kn : Int) = (kn : Int))) = false := by simp
      by_cases h2 : vn % 2 = 0
      · have h3 : decide (((vn % 2 : Nat) : Int) = 0) = true := decide_eq_true (by omega)
        rw [h3]
        have pt := sput0_does sb db mb p s d (kn : Int) pos 0 ((i : Int) + 1) hI.ply.ok (rz_ok (by omega)) (by omega) (by omega) (by omega)
        by_cases hks : (kn : Int) ≤ sd
        · have e := seal_putno (r := rz 0 ((i : Int) + 1)) hI (by omega) hk hks
          simp only [e] at pt
          repeat' (first
 | refine SO.pure rfl rfl rfl ?_
 | refine SK.seq ?_
 | refine SK.region ?_
 | refine SK.condT rfl ?_
 | fail)
          rw [hwi, hc]
          repeat' (first
 | refine SO.call (r_does _ _) rfl rfl rfl (by repeat constructor) (by repeat constructor) rfl (fun x hx => ?_)
 | refine SO.call (pt) rfl rfl rfl (by repeat constructor) (by repeat constructor) rfl (fun x hx => ?_)
 | refine SO.pure rfl rfl rfl ?_
 | refine SO.nil ?_
 | refine SO.guardY rfl rfl ?_
 | refine SO.guardN rfl rfl rfl ?_
 | refine SK.seq ?_
 | refine SK.region ?_
 | refine SK.condF rfl ?_
 | refine SK.skip ?_
 | refine SK.exit rfl ?_
 | refine SO.guardYP rfl rfl (by first | assumption | (simp only [Go.Sl.bl]; omega)) ?_
 | refine SO.guardNP rfl rfl rfl (by first | assumption | (simp only [Go.Sl.bl]; omega)) ?_
 | fail)
          rename Pl => px
          refine SK.inv ⟨⟨(i + 1, pos, sd, s, d, px), by show i + 1 ≤ l.length; omega, hI.mono⟩, ?_, ?_, ?_⟩
          · show l.length - (i + 1) < l.length - i
            omega
          · rw [hwi]; repeat constructor
          · exact ent_append_of_takes (by repeat constructor)
        · obtain ⟨h0, hI'⟩ := seal_put hI (by omega) hk (by omega)
          simp only [h0] at pt
          generalize (s.put d (kn : Int) pos (rz 0 ((i : Int) + 1))).2.1 = s' at *
          generalize (s.put d (kn : Int) pos (rz 0 ((i : Int) + 1))).2.2 = d' at *
          repeat' (first
 | refine SO.pure rfl rfl rfl ?_
 | refine SK.seq ?_
 | refine SK.region ?_
 | refine SK.condT rfl ?_
 | fail)
          rw [hwi, hc]
          repeat' (first
 | refine SO.call (r_does _ _) rfl rfl rfl (by repeat constructor) (by repeat constructor) rfl (fun x hx => ?_)
 | refine SO.call (pt) rfl rfl rfl (by repeat constructor) (by repeat constructor) rfl (fun x hx => ?_)
 | refine SO.pure rfl rfl rfl ?_
 | refine SO.nil ?_
 | refine SO.guardY rfl rfl ?_
 | refine SO.guardN rfl rfl rfl ?_
 | refine SK.seq ?_
 | refine SK.region ?_
 | refine SK.condT rfl ?_
 | refine SK.condF rfl ?_
 | refine SK.skip ?_
 | refine SK.exit rfl ?_
 | refine SO.guardYP rfl rfl (by first | assumption | (simp only [Go.Sl.bl]; omega)) ?_
 | refine SO.guardNP rfl rfl rfl (by first | assumption | (simp only [Go.Sl.bl]; omega)) ?_
 | fail)
          rename Pl => px
          refine SK.inv ⟨⟨(i + 1, pos + 1, sd, s', d', px), by show i + 1 ≤ l.length; omega, hI'⟩, ?_, ?_, ?_⟩
          · show l.length - (i + 1) < l.length - i
            omega
          · rw [hwi, hwp]; repeat constructor
          · exact ent_append_of_takes (by repeat constructor)
      · have h3 : decide (((vn % 2 : Nat) : Int) = 0) = false := decide_eq_false (by omega)
        rw [h3]
        have st := sseal_does sb db mb p s d (kn : Int) hI.ply.ok hkb
        by_cases hks : (kn : Int) ≤ sd
        · have e := seal_sealno hI hk hks
          simp only [e] at st
          have sl := sealed_does sb db mb s
          rw [hsl] at sl
          have em : (if sd < (kn : Int) then (kn : Int) else sd) = sd := by split <;> omega
          repeat' (first
 | refine SO.call (st) rfl rfl rfl (by repeat constructor) (by repeat constructor) rfl (fun x hx => ?_)
 | refine SO.pure rfl rfl rfl ?_
 | refine SO.pure2 rfl rfl rfl ?_
 | refine SO.nil ?_
 | refine SO.guardY rfl rfl ?_
 | refine SO.guardN rfl rfl rfl ?_
 | refine SO.guardU rfl rfl rfl rfl ?_
 | refine SK.seq ?_
 | refine SK.region ?_
 | refine SK.condF rfl ?_
 | refine SK.skip ?_
 | refine SO.guardYP rfl rfl (by first | assumption | (simp only [Go.Sl.bl]; omega)) ?_
 | refine SO.guardNP rfl rfl rfl (by first | assumption | (simp only [Go.Sl.bl]; omega)) ?_
 | fail)
          rw [em]
          repeat' (first
 | refine SO.call (sl) rfl rfl rfl (by repeat constructor) (by repeat constructor) rfl (fun x hx => ?_)
 | refine SO.pure rfl rfl rfl ?_
 | refine SO.nil ?_
 | refine SK.region ?_
 | refine SK.skip ?_
 | refine SK.blk ?_
 | refine SK.condFP rfl (by first | assumption | (simp only [Go.Sl.bl]; omega)) ?_
 | fail)
          rename Pl => px
          refine SK.inv ⟨⟨(i + 1, pos, sd, s, d, px), by show i + 1 ≤ l.length; omega, hI.mono⟩, ?_, ?_, ?_⟩
          · show l.length - (i + 1) < l.length - i
            omega
          · rw [hwi]; repeat constructor
          · exact ent_append_of_takes (by repeat constructor)
        · obtain ⟨e1, _, hI'⟩ := seal_seal hI (by omega) hk (by omega)
          have hsl2 := hI'.sl
          simp only [e1] at st
          generalize (s.sealG d (kn : Int)).2.1 = s' at *
          generalize (s.sealG d (kn : Int)).2.2 = d' at *
          have sl := sealed_does sb db mb s'
          rw [hsl2] at sl
          have em : (if sd < (kn : Int) then (kn : Int) else sd) = (kn : Int) := by split <;> omega
          repeat' (first
 | refine SO.call (st) rfl rfl rfl (by repeat constructor) (by repeat constructor) rfl (fun x hx => ?_)
 | refine SO.pure rfl rfl rfl ?_
 | refine SO.pure2 rfl rfl rfl ?_
 | refine SO.nil ?_
 | refine SO.guardY rfl rfl ?_
 | refine SO.guardN rfl rfl rfl ?_
 | refine SO.guardU rfl rfl rfl rfl ?_
 | refine SK.seq ?_
 | refine SK.region ?_
 | refine SK.condF rfl ?_
 | refine SK.skip ?_
 | refine SO.guardYP rfl rfl (by first | assumption | (simp only [Go.Sl.bl]; omega)) ?_
 | refine SO.guardNP rfl rfl rfl (by first | assumption | (simp only [Go.Sl.bl]; omega)) ?_
 | refine SK.condFP rfl (by first | assumption | (simp only [Go.Sl.bl]; omega)) ?_
 | fail)
          rw [em]
          repeat' (first
 | refine SO.call (sl) rfl rfl rfl (by repeat constructor) (by repeat constructor) rfl (fun x hx => ?_)
 | refine SO.pure rfl rfl rfl ?_
 | refine SO.nil ?_
 | refine SK.region ?_
 | refine SK.skip ?_
 | refine SK.blk ?_
 | refine SK.condFP rfl (by first | assumption | (simp only [Go.Sl.bl]; omega)) ?_
 | fail)
          rename Pl => px
          refine SK.inv ⟨⟨(i + 1, pos, (kn : Int), s', d', px), by show i + 1 ≤ l.length; omega, hI'⟩, ?_, ?_, ?_⟩
          · show l.length - (i + 1) < l.length - i
            omega
          · rw [hwi]; repeat constructor
          · exact ent_append_of_takes (by repeat constructor)
    · have hd1 : decide ((i : Int) < (l.length : Int)) = false := decide_eq_false (by omega)
      obtain ⟨s2, hp2, hs2⟩ := seal_end2 hI
      have cr := dcrash_does db p d 0 hI.ply.ok (by omega)
      have op := fun p => sopen_does db p s2 (d.crash 0) hp2
      repeat' (first
 | refine SO.pure rfl rfl rfl ?_
 | refine SO.nil ?_
 | refine SK.seq ?_
 | refine SK.region ?_
 | refine SK.exit rfl ?_
 | refine SK.condFP rfl (by first | assumption | (simp only [Go.Sl.bl]; omega)) ?_
 | fail)
      rw [hd1]
      repeat' (first
 | refine SO.call (cr) rfl rfl rfl (by repeat constructor) (by repeat constructor) rfl (fun x hx => ?_)
 | refine SO.call (op _) rfl rfl rfl (by repeat constructor) (by repeat constructor) rfl (fun x hx => ?_)
 | refine SO.pure rfl rfl rfl ?_
 | refine SO.pure2 rfl rfl rfl ?_
 | refine SO.nil ?_
 | refine SO.guardY rfl rfl ?_
 | refine SK.seq ?_
 | refine SK.region ?_
 | fail)
      rename Nat × Nat => y2
      obtain ⟨sb2, mb2⟩ := y2
      have sl := sealed_does sb2 db mb2 s2
      rw [hs2] at sl
      repeat' (first
 | refine SO.call (sl) rfl rfl rfl (by repeat constructor) (by repeat constructor) rfl (fun x hx => ?_)
 | refine SO.pure rfl rfl rfl ?_
 | refine SO.nil ?_
 | refine SO.guardY rfl rfl ?_
 | fail)
      refine SK.retX (.tmp rfl .nil) () trivial ?_ (by repeat constructor)
      show Value.bool (decide (sd = sd)) = Value.bool true
      rw [decide_eq_true rfl]
end Go.Proofs
