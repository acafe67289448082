/- A part of a proof: what functions of the program compute. -/
import Derived.Test.YtmbfcjffjgecjaaGreatDoorSeg8E
import Derived.Test.YtmbfcjffjgecjaaGreatDoorLib2
set_option linter.unusedVariables false
set_option linter.unusedSimpArgs false
set_option maxHeartbeats 0
set_option maxRecDepth 20000
namespace Go.Proofs
attribute [local irreducible] Go.Sl.SO Go.Sl.SQ Go.Sl.SR Go.Sl.SC Go.Sl.SX Go.Sl.SY Go.Sl.eadr Go.Sl.slAt Go.Sl.sqAt Go.Sl.pts Go.Sl.rod Go.Sl.ob Go.Sl.ex Go.Sl.big Go.Sl.pr Go.Sl.tabs Go.Sl.mpAt Go.Sl.mitAt Go.Sl.mitN
open Go.Sl
abbrev onceL (db sb mb : Nat) (p : Pl) (s : Sg) (d : Dk) : List HP := libA :: (sgAt sb db mb s ++ dkAt db p d)
theorem segonce_does (A : Option Addr) (n c : Nat) (l : List Int) (hbd : ∀ x ∈ l, 0 ≤ x ∧ x ≤ 255) : Does Tryz.prog 6 [.slice A n c] [libA, tabs 4 5, slAt RU A n l] [] Unit (fun _ => True) (fun _ => .bool true) (fun _ => []) := by
  refine Does.of Tryz.call6 Tryz.func6 rfl rfl rfl (all_cons pers_lib (all_cons (pers_tabs _ _) (all_cons (pers_slAt _ _ _ _) all_nil))) rfl ?_
  refine SK.know (sl_len (ρ := RU) (A := A) (n := n) (l := l) (by repeat constructor)) ?_
  rintro ⟨rfl, hlim, -⟩
  by_cases h40 : (40 : Int) < (l.length : Int)
  · repeat' (first
 | refine SO.call (sknown_does) rfl rfl rfl (by repeat constructor) (by repeat constructor) rfl (fun x hx => ?_)
 | refine SO.pure rfl rfl rfl ?_
 | refine SO.nil ?_
 | refine SK.seq ?_
 | refine SK.region ?_
 | refine SK.condF rfl ?_
 | refine SK.skip ?_
 | refine SK.condTP rfl (by first | assumption | (simp only [Go.Sl.bl]; omega)) ?_
 | fail)
    exact SK.retX (.tmp rfl .nil) () trivial rfl (by repeat constructor)
  · repeat' (first
 | refine SO.call (sknown_does) rfl rfl rfl (by repeat constructor) (by repeat constructor) rfl (fun x hx => ?_)
 | refine SO.call (fresh_does) rfl rfl rfl (by repeat constructor) (by repeat constructor) rfl (fun x hx => ?_)
 | refine SO.pure rfl rfl rfl ?_
 | refine SO.pure2 rfl rfl rfl ?_
 | refine SO.nil ?_
 | refine SO.guardY rfl rfl ?_
 | refine SK.seq ?_
 | refine SK.region ?_
 | refine SK.condF rfl ?_
 | refine SK.skip ?_
 | refine SK.block ?_
 | refine SO.alloc rfl rfl rfl (fun b => ?_)
 | refine SK.condFP rfl (by first | assumption | (simp only [Go.Sl.bl]; omega)) ?_
 | fail)
    rename Nat × Nat × Nat => y
    obtain ⟨db, sb, mb⟩ := y
    dsimp only
    refine SK.arr (k := .i64) (n := 256) (List.replicate 256 0) .here rfl (by simp) (by decide) ?_
    refine SK.loop (X := {x : Nat × Nat × List Int × Sg × Dk × Pl // x.1 ≤ l.length ∧ x.2.1 ≤ x.1 ∧ OnceI x.1 x.2.2.2.1 x.2.2.2.2.1 x.2.2.1 x.2.1}) (fun x => [(7, .int .i64 (x.1.1 : Int)), (6, .int .i64 (x.1.2.1 : Int)), (5, .pointer (some ⟨b, 0, none⟩)), (4, .pointer (some ⟨sb, 0, none⟩)), (3, .pointer (some ⟨db, 0, none⟩)), (0, .slice A l.length c)])
      (fun x => [libA, tabs 4 5, slAt RU A l.length l, sqAt true RI (some ⟨b, 0, none⟩) 256 256 x.1.2.2.1] ++ (sgAt sb db mb x.1.2.2.2.1 ++ dkAt db x.1.2.2.2.2.2 x.1.2.2.2.2.1)) (fun x => l.length - x.1.1) ⟨(0, 0, List.replicate 256 0, ⟨[], 0, 0⟩, ⟨100000, [], 0⟩, (none, 0)), Nat.zero_le _, Nat.le_refl _, onceI_zero⟩ (by repeat constructor) (ent_append_of_takes (by repeat constructor)) ?_
    rintro ⟨⟨i, m, f, s, d, p⟩, hi0, hm0, hI0⟩
    have hi : i ≤ l.length := hi0
    have hI : OnceI i s d f m := hI0
    have hmi : m ≤ i := hm0
    dsimp only
    have hwi : IntKind.i64.wrap ((i : Int) + 1) = ((i + 1 : Nat) : Int) := by rw [wrap_id (by omega) (by omega)]; omega
    have hc : ((i + 1 : Nat) : Int) = (i : Int) + 1 := by omega
    rcases Nat.lt_or_ge i l.length with hil | hil
    · have hd1 : decide ((i : Int) < (l.length : Int)) = true := decide_eq_true (by omega)
      obtain ⟨v, hu⟩ : ∃ v, l[i]? = some v := ⟨_, List.getElem?_eq_getElem hil⟩
      have hvb := hbd v (List.mem_of_getElem? hu)
      obtain ⟨vn, rfl⟩ := Int.eq_ofNat_of_zero_le hvb.1
      have hvn : vn < 256 := by omega
      have hvw : IntKind.i64.wrap (vn : Int) = (vn : Int) := wrap_id (by omega) (by omega)
      obtain ⟨u, hfu⟩ : ∃ u, f[vn]? = some u := ⟨_, List.getElem?_eq_getElem (by rw [hI.flen]; exact hvn)⟩
      have hfd : f.getD vn 0 = u := by rw [List.getD, hfu]; rfl
      have pt := sput0_does sb db mb p s d 1 (vn : Int) 0 ((i : Int) + 1) hI.ok (rz_ok (by omega)) (by omega) (by omega) (by omega)
      have hrz : rz 0 ((i : Int) + 1) = rz 0 (IntKind.i64.wrap ((i : Int) + 1)) := by rw [hwi, hc]
      by_cases hu0 : u = 0
      · subst hu0
        obtain ⟨h0, hI'⟩ := once_yes hI hvn hfd (by omega)
        simp only [h0] at pt
        generalize (s.put d 1 (vn : Int) (rz 0 ((i : Int) + 1))).2.1 = s' at *
        generalize (s.put d 1 (vn : Int) (rz 0 ((i : Int) + 1))).2.2 = d' at *
        rw [hrz, ← hvw] at pt
        repeat' (first
 | refine SO.indexArr rfl rfl rfl rfl rfl rfl (by assumption) ?_
 | refine SO.eloadQ rfl (by repeat constructor) (by assumption) rfl (by rfl) (by exact fun _ => ⟨rfl, fun _ => rfl⟩) rfl (fun hid => ?_)
 | refine SO.estoreW (ρ := RI) (h := ()) (u := IntKind.i64.wrap ((i : Int) + 1)) rfl rfl (by repeat constructor) (by repeat constructor) rfl rfl rfl (by omega) ?_
 | refine SO.call (r_does _ _) rfl rfl rfl (by repeat constructor) (by repeat constructor) rfl (fun x hx => ?_)
 | refine SO.call (pt) rfl rfl rfl (by repeat constructor) (by repeat constructor) rfl (fun x hx => ?_)
 | refine SO.eloadQ rfl (by repeat constructor) (by assumption) rfl (by rfl) (by exact fun _ => ⟨rfl, fun h => by cases h⟩) rfl (fun hid => ?_)
 | refine SO.indexH rfl rfl (by repeat constructor) rfl rfl rfl rfl (by assumption) ?_
 | refine SO.pure rfl rfl rfl ?_
 | refine SO.nil ?_
 | refine SO.guardY rfl rfl ?_
 | refine SO.guardN rfl rfl rfl ?_
 | refine SO.eloadW rfl (by repeat constructor) (by assumption) rfl (by rfl) rfl (by rfl) rfl (fun hid => ?_)
 | refine SK.seq ?_
 | refine SK.region ?_
 | refine SK.condT rfl ?_
 | refine SK.condF rfl ?_
 | refine SK.skip ?_
 | refine SK.block ?_
 | refine SK.blk ?_
 | refine SK.condTP rfl (by first | assumption | (simp only [Go.Sl.bl]; omega)) ?_
 | refine SK.regionX 13 (.item 0 0 (.item 0 1 (.item 0 2 (.item 0 6 (.item 0 3 (.item 0 7 (.item 0 4 (.item 0 5 (.item 1 8 (.item 2 9 (.item 0 10 .nil))))))))))) (onceL db sb mb p s d) (by repeat constructor) (by repeat (first | exact .nil | apply PersSub.s | apply PersSub.t | apply PersSub.p | apply PersSub.r | apply PersSub.skip)) (by kernel_rfl) (by kernel_rfl) (fun _ _ _ h => h) ?_
 | refine SK.regionX 25 (.item 0 0 (.item 0 1 (.item 0 2 (.item 0 3 (.item 0 4 (.item 0 7 (.item 0 8 (.item 0 5 (.item 0 9 (.item 0 6 (.item 0 10 (.item 0 11 (.item 0 12 (.item 0 13 (.item 0 14 (.item 0 15 (.item 0 16 (.item 0 17 (.item 0 18 (.item 0 19 (.item 0 20 (.item 0 21 (.item 0 22 (.item 0 23 (.item 0 24 (.item 0 25 (.item 0 26 (.item 0 27 (.item 0 28 (.item 0 29 (.item 0 30 (.item 0 34 (.item 0 35 (.item 0 31 (.item 0 36 (.item 0 32 (.item 0 37 (.item 0 33 (.item 0 38 (.item 0 39 (.item 0 40 (.item 0 41 .nil)))))))))))))))))))))))))))))))))))))))))) [] .nil (by repeat (first | exact .nil | apply PersSub.s | apply PersSub.t | apply PersSub.p | apply PersSub.r | apply PersSub.skip)) (by kernel_rfl) (by kernel_rfl) (fun _ _ _ h => h) ?_
 | refine SX.tail (by rfl) (by repeat (first | exact .nil | apply DropP.s | apply DropP.t | apply DropP.p | apply DropP.r | apply DropP.keep)) ?_
 | refine SX.indexH rfl rfl (by repeat constructor) rfl rfl rfl rfl (by assumption) ?_
 | refine SX.pure rfl rfl rfl ?_
 | refine SX.eloadW rfl (by repeat constructor) (by assumption) rfl (by rfl) rfl (by rfl) rfl (fun hid => ?_)
 | refine SX.step rfl rfl ?_
 | refine SK.invY ?_
 | refine SY.shareGo (by repeat (first | exact .nil | apply PersSub.s | apply PersSub.t | apply PersSub.p | apply PersSub.r | apply PersSub.skip)) ?_
 | fail)
        rename Pl => px
        have hwm : IntKind.i64.wrap ((m : Int) + 1) = ((m + 1 : Nat) : Int) := by rw [wrap_id (by omega) (by omega)]; omega
        refine SK.inv ⟨⟨(i + 1, m + 1, f.set vn ((i : Int) + 1), s', d', px), by show i + 1 ≤ l.length; omega, by show m + 1 ≤ i + 1; omega, hI'⟩, ?_, ?_, ?_⟩
        · show l.length - (i + 1) < l.length - i
          omega
        · rw [hwi, hwm]; repeat constructor
        · rw [hwi, hc]
          exact ent_append_of_takes (by repeat constructor)
      · have hn1 : (!decide (u = 0)) = true := by simp [hu0]
        have hn2 : decide (u = 0) = false := by simp [hu0]
        have e := once_no hI hvn (by rw [hfd]; exact hu0) (rz 0 ((i : Int) + 1))
        simp only [e] at pt
        rw [hrz, ← hvw] at pt
        repeat' (first
 | refine SO.indexArr rfl rfl rfl rfl rfl rfl (by assumption) ?_
 | refine SO.eloadQ rfl (by repeat constructor) (by assumption) rfl (by rfl) (by exact fun _ => ⟨rfl, fun _ => rfl⟩) rfl (fun hid => ?_)
 | refine SO.call (r_does _ _) rfl rfl rfl (by repeat constructor) (by repeat constructor) rfl (fun x hx => ?_)
 | refine SO.call (pt) rfl rfl rfl (by repeat constructor) (by repeat constructor) rfl (fun x hx => ?_)
 | refine SO.eloadQ rfl (by repeat constructor) (by assumption) rfl (by rfl) (by exact fun _ => ⟨rfl, fun h => by cases h⟩) rfl (fun hid => ?_)
 | refine SO.indexH rfl rfl (by repeat constructor) rfl rfl rfl rfl (by assumption) ?_
 | refine SO.pure rfl rfl rfl ?_
 | refine SO.nil ?_
 | refine SO.guardY rfl rfl ?_
 | refine SO.guardN rfl rfl rfl ?_
 | refine SO.eloadW rfl (by repeat constructor) (by assumption) rfl (by rfl) rfl (by rfl) rfl (fun hid => ?_)
 | refine SK.seq ?_
 | refine SK.region ?_
 | refine SK.condF rfl ?_
 | refine SK.skip ?_
 | refine SK.block ?_
 | refine SK.blk ?_
 | refine SO.guardYP rfl rfl (by first | assumption | (simp only [Go.Sl.bl]; omega)) ?_
 | refine SO.guardNP rfl rfl rfl (by first | assumption | (simp only [Go.Sl.bl]; omega)) ?_
 | refine SK.condTP rfl (by first | assumption | (simp only [Go.Sl.bl]; omega)) ?_
 | refine SK.condFP rfl (by first | assumption | (simp only [Go.Sl.bl]; omega)) ?_
 | refine SK.regionX 13 (.item 0 0 (.item 0 1 (.item 0 2 (.item 0 6 (.item 0 3 (.item 0 7 (.item 0 4 (.item 0 5 (.item 1 8 (.item 2 9 (.item 0 10 .nil))))))))))) (onceL db sb mb p s d) (by repeat constructor) (by repeat (first | exact .nil | apply PersSub.s | apply PersSub.t | apply PersSub.p | apply PersSub.r | apply PersSub.skip)) (by kernel_rfl) (by kernel_rfl) (fun _ _ _ h => h) ?_
 | refine SK.regionX 25 (.item 0 0 (.item 0 1 (.item 0 2 (.item 0 3 (.item 0 4 (.item 0 7 (.item 0 8 (.item 0 5 (.item 0 9 (.item 0 6 (.item 0 10 (.item 0 11 (.item 0 12 (.item 0 13 (.item 0 14 (.item 0 15 (.item 0 16 (.item 0 17 (.item 0 18 (.item 0 19 (.item 0 20 (.item 0 21 (.item 0 22 (.item 0 23 (.item 0 24 (.item 0 25 (.item 0 26 (.item 0 27 (.item 0 28 (.item 0 29 (.item 0 30 (.item 0 34 (.item 0 35 (.item 0 31 (.item 0 36 (.item 0 32 (.item 0 37 (.item 0 33 (.item 0 38 (.item 0 39 (.item 0 40 (.item 0 41 .nil)))))))))))))))))))))))))))))))))))))))))) [] .nil (by repeat (first | exact .nil | apply PersSub.s | apply PersSub.t | apply PersSub.p | apply PersSub.r | apply PersSub.skip)) (by kernel_rfl) (by kernel_rfl) (fun _ _ _ h => h) ?_
 | refine SX.tail (by rfl) (by repeat (first | exact .nil | apply DropP.s | apply DropP.t | apply DropP.p | apply DropP.r | apply DropP.keep)) ?_
 | refine SX.indexH rfl rfl (by repeat constructor) rfl rfl rfl rfl (by assumption) ?_
 | refine SX.pure rfl rfl rfl ?_
 | refine SX.eloadW rfl (by repeat constructor) (by assumption) rfl (by rfl) rfl (by rfl) rfl (fun hid => ?_)
 | refine SX.step rfl rfl ?_
 | refine SK.invY ?_
 | refine SY.shareGo (by repeat (first | exact .nil | apply PersSub.s | apply PersSub.t | apply PersSub.p | apply PersSub.r | apply PersSub.skip)) ?_
 | fail)
        rename Pl => px
        refine SK.inv ⟨⟨(i + 1, m, f, s, d, px), by show i + 1 ≤ l.length; omega, by show m ≤ i + 1; omega, hI.mono⟩, ?_, ?_, ?_⟩
        · show l.length - (i + 1) < l.length - i
          omega
        · rw [hwi]; repeat constructor
        · exact ent_append_of_takes (by repeat constructor)
    · have hd1 : decide ((i : Int) < (l.length : Int)) = false := decide_eq_false (by omega)
      have hal := once_all hI
      have hil2 : i = l.length := by omega
      have hm40 : m ≤ 40 := by omega
      have hsl : s.m.length < 1048577 := by
        have := hI.len
        omega
      have rws := fun bx => rows_does bx sb db mb s 300 hsl (by omega)
      rw [hal] at rws
      have hmm : (!decide ((m : Int) = (m : Int))) = false := by simp
      repeat' (first
 | refine SO.call (sall_does _) rfl rfl rfl (by repeat constructor) (by repeat constructor) rfl (fun x hx => ?_)
 | refine SO.call (rws _) rfl rfl rfl (by repeat constructor) (by repeat constructor) rfl (fun x hx => ?_)
 | refine SO.pure rfl rfl rfl ?_
 | refine SO.nil ?_
 | refine SO.guardY rfl rfl ?_
 | refine SK.seq ?_
 | refine SK.region ?_
 | refine SK.skip ?_
 | refine SK.block ?_
 | refine SK.exit rfl ?_
 | refine SO.guardYP rfl rfl (by first | assumption | (simp only [Go.Sl.bl]; omega)) ?_
 | refine SK.condFP rfl (by first | assumption | (simp only [Go.Sl.bl]; omega)) ?_
 | fail)
      rename Pl × Pl => y2
      obtain ⟨⟨A2, c2⟩, A3, c3⟩ := y2
      dsimp only
      refine SK.loop (X := {j : Nat // j ≤ m}) (fun j => [(12, .int .i64 (j.1 : Int)), (10, .slice A3 m c3), (9, .slice A2 m c2), (6, .int .i64 (m : Int)), (5, .pointer (some ⟨b, 0, none⟩))])
        (fun j => [slAt RI A2 m (s.all.map (·.1)), slAt RRec A3 m (s.all.map (·.2)), sqAt true RI (some ⟨b, 0, none⟩) 256 256 f]) (fun j => m - j.1) ⟨0, Nat.zero_le _⟩ (by repeat constructor) (ent_append_of_takes (by repeat constructor)) ?_
      rintro ⟨j, hj⟩
      dsimp only
      have hwj : IntKind.i64.wrap ((j : Int) + 1) = ((j + 1 : Nat) : Int) := by rw [wrap_id (by omega) (by omega)]; omega
      rcases Nat.lt_or_ge j m with hjl | hjl
      · have hd2 : decide ((j : Int) < (m : Int)) = true := decide_eq_true (by omega)
        obtain ⟨q, hq⟩ : ∃ q, s.all[j]? = some q := ⟨_, List.getElem?_eq_getElem (by omega)⟩
        obtain ⟨e1, e2, e3, e4⟩ := once_end hI hq
        obtain ⟨k, r⟩ := q
        dsimp only at e1 e2 e3 e4
        obtain ⟨kn, rfl⟩ := Int.eq_ofNat_of_zero_le e1
        have hkn : kn < 256 := by omega
        obtain ⟨u, hfu⟩ : ∃ u, f[kn]? = some u := ⟨_, List.getElem?_eq_getElem (by rw [hI.flen]; exact hkn)⟩
        have hfd : r.seq = u := by rw [e3, Int.toNat_natCast, List.getD, hfu]; rfl
        have hq1 : (s.all.map (·.1))[j]? = some (kn : Int) := by rw [List.getElem?_map, hq]; rfl
        have hq2 : (s.all.map (·.2))[j]? = some r := by rw [List.getElem?_map, hq]; rfl
        have hn1 : decide ((kn : Int) < 0) = false := decide_eq_false (by omega)
        have hn2 : decide ((255 : Int) < (kn : Int)) = false := decide_eq_false (by omega)
        have hn3 : (!decide (r.seq = u)) = false := by simp [hfd]
        rcases Nat.eq_zero_or_pos j with hj0 | hjp
        · have hd3 : decide (0 < (j : Int)) = false := decide_eq_false (by omega)
          repeat' (first
 | refine SX.indexArr rfl rfl rfl rfl rfl rfl (by assumption) ?_
 | refine SX.eloadQ rfl (by repeat constructor) (by assumption) rfl (by rfl) (by exact fun _ => ⟨rfl, fun _ => rfl⟩) rfl (fun hid => ?_)
 | refine SO.pure rfl rfl rfl ?_
 | refine SO.nil ?_
 | refine SK.seq ?_
 | refine SK.region ?_
 | refine SK.skip ?_
 | refine SK.block ?_
 | refine SK.blk ?_
 | refine SK.condTP rfl (by first | assumption | (simp only [Go.Sl.bl]; omega)) ?_
 | refine SK.condFP rfl (by first | assumption | (simp only [Go.Sl.bl]; omega)) ?_
 | refine SK.regionX 13 (.item 0 0 (.item 0 1 (.item 0 2 (.item 0 6 (.item 0 3 (.item 0 7 (.item 0 4 (.item 0 5 (.item 1 8 (.item 2 9 (.item 0 10 .nil))))))))))) [] .nil (by repeat (first | exact .nil | apply PersSub.s | apply PersSub.t | apply PersSub.p | apply PersSub.r | apply PersSub.skip)) (by kernel_rfl) (by kernel_rfl) (fun _ _ _ h => h) ?_
 | refine SK.regionX 25 (.item 0 0 (.item 0 1 (.item 0 2 (.item 0 3 (.item 0 4 (.item 0 7 (.item 0 8 (.item 0 5 (.item 0 9 (.item 0 6 (.item 0 10 (.item 0 11 (.item 0 12 (.item 0 13 (.item 0 14 (.item 0 15 (.item 0 16 (.item 0 17 (.item 0 18 (.item 0 19 (.item 0 20 (.item 0 21 (.item 0 22 (.item 0 23 (.item 0 24 (.item 0 25 (.item 0 26 (.item 0 27 (.item 0 28 (.item 0 29 (.item 0 30 (.item 0 34 (.item 0 35 (.item 0 31 (.item 0 36 (.item 0 32 (.item 0 37 (.item 0 33 (.item 0 38 (.item 0 39 (.item 0 40 (.item 0 41 .nil)))))))))))))))))))))))))))))))))))))))))) [] .nil (by repeat (first | exact .nil | apply PersSub.s | apply PersSub.t | apply PersSub.p | apply PersSub.r | apply PersSub.skip)) (by kernel_rfl) (by kernel_rfl) (fun _ _ _ h => h) ?_
 | refine SX.tail (by rfl) (by repeat (first | exact .nil | apply DropP.s | apply DropP.t | apply DropP.p | apply DropP.r | apply DropP.keep)) ?_
 | refine SX.eloadQ rfl (by repeat constructor) (by assumption) rfl (by rfl) (by exact fun _ => ⟨rfl, fun h => by cases h⟩) rfl (fun hid => ?_)
 | refine SX.indexH rfl rfl (by repeat constructor) rfl rfl rfl rfl (by assumption) ?_
 | refine SX.pure rfl rfl rfl ?_
 | refine SX.guardY rfl rfl ?_
 | refine SX.guardN rfl rfl rfl ?_
 | refine SX.efield rfl rfl rfl rfl rfl ?_
 | refine SX.eloadW rfl (by repeat constructor) (by assumption) rfl (by rfl) rfl (by rfl) rfl (fun hid => ?_)
 | refine SX.eload rfl (by repeat constructor) (by assumption) rfl (by rfl) (by exact fun _ => ⟨rfl, fun _ => rfl⟩) rfl (fun hid => ?_)
 | refine SX.eload rfl (by repeat constructor) (by assumption) rfl (by rfl) (by exact fun _ => ⟨rfl, fun h => by cases h⟩) rfl (fun hid => ?_)
 | refine SX.guardYP rfl rfl (by first | assumption | (simp only [Go.Sl.bl]; omega)) ?_
 | refine SX.guardNP rfl rfl rfl (by first | assumption | (simp only [Go.Sl.bl]; omega)) ?_
 | fail)
          refine SK.inv ⟨⟨j + 1, by omega⟩, ?_, ?_, ?_⟩
          · show m - (j + 1) < m - j
            omega
          · rw [hwj]; repeat constructor
          · exact ent_append_of_takes (by repeat constructor)
        · have hd3 : decide (0 < (j : Int)) = true := decide_eq_true (by omega)
          have hwk : Int.ofNat (j - 1) = IntKind.i64.wrap ((j : Int) - 1) := by
            rw [wrap_id (by omega) (by omega)]
            show ((j - 1 : Nat) : Int) = _
            omega
          obtain ⟨q2, hq3⟩ : ∃ q, s.all[j - 1]? = some q := ⟨_, List.getElem?_eq_getElem (by omega)⟩
          have e5 := e4 q2 hjp hq3
          have hq4 : (s.all.map (·.1))[j - 1]? = some q2.1 := by rw [List.getElem?_map, hq3]; rfl
          have hn4 : decide ((kn : Int) ≤ q2.1) = false := decide_eq_false (by omega)
          repeat' (first
 | refine SX.indexArr rfl rfl rfl rfl rfl rfl (by assumption) ?_
 | refine SX.eloadQ rfl (by repeat constructor) (by assumption) rfl (by rfl) (by exact fun _ => ⟨rfl, fun _ => rfl⟩) rfl (fun hid => ?_)
 | refine SX.indexH rfl rfl (by repeat constructor) rfl rfl (by assumption) rfl (by assumption) ?_
 | refine SO.pure rfl rfl rfl ?_
 | refine SO.nil ?_
 | refine SK.seq ?_
 | refine SK.region ?_
 | refine SK.skip ?_
 | refine SK.block ?_
 | refine SK.blk ?_
 | refine SK.condTP rfl (by first | assumption | (simp only [Go.Sl.bl]; omega)) ?_
 | refine SK.condFP rfl (by first | assumption | (simp only [Go.Sl.bl]; omega)) ?_
 | refine SK.regionX 13 (.item 0 0 (.item 0 1 (.item 0 2 (.item 0 6 (.item 0 3 (.item 0 7 (.item 0 4 (.item 0 5 (.item 1 8 (.item 2 9 (.item 0 10 .nil))))))))))) [] .nil (by repeat (first | exact .nil | apply PersSub.s | apply PersSub.t | apply PersSub.p | apply PersSub.r | apply PersSub.skip)) (by kernel_rfl) (by kernel_rfl) (fun _ _ _ h => h) ?_
 | refine SK.regionX 25 (.item 0 0 (.item 0 1 (.item 0 2 (.item 0 3 (.item 0 4 (.item 0 7 (.item 0 8 (.item 0 5 (.item 0 9 (.item 0 6 (.item 0 10 (.item 0 11 (.item 0 12 (.item 0 13 (.item 0 14 (.item 0 15 (.item 0 16 (.item 0 17 (.item 0 18 (.item 0 19 (.item 0 20 (.item 0 21 (.item 0 22 (.item 0 23 (.item 0 24 (.item 0 25 (.item 0 26 (.item 0 27 (.item 0 28 (.item 0 29 (.item 0 30 (.item 0 34 (.item 0 35 (.item 0 31 (.item 0 36 (.item 0 32 (.item 0 37 (.item 0 33 (.item 0 38 (.item 0 39 (.item 0 40 (.item 0 41 .nil)))))))))))))))))))))))))))))))))))))))))) [] .nil (by repeat (first | exact .nil | apply PersSub.s | apply PersSub.t | apply PersSub.p | apply PersSub.r | apply PersSub.skip)) (by kernel_rfl) (by kernel_rfl) (fun _ _ _ h => h) ?_
 | refine SX.tail (by rfl) (by repeat (first | exact .nil | apply DropP.s | apply DropP.t | apply DropP.p | apply DropP.r | apply DropP.keep)) ?_
 | refine SX.eloadQ rfl (by repeat constructor) (by assumption) rfl (by rfl) (by exact fun _ => ⟨rfl, fun h => by cases h⟩) rfl (fun hid => ?_)
 | refine SX.indexH rfl rfl (by repeat constructor) rfl rfl rfl rfl (by assumption) ?_
 | refine SX.pure rfl rfl rfl ?_
 | refine SX.guardY rfl rfl ?_
 | refine SX.efield rfl rfl rfl rfl rfl ?_
 | refine SX.eloadW rfl (by repeat constructor) (by assumption) rfl (by rfl) rfl (by rfl) rfl (fun hid => ?_)
 | refine SX.eload rfl (by repeat constructor) (by assumption) rfl (by rfl) (by exact fun _ => ⟨rfl, fun _ => rfl⟩) rfl (fun hid => ?_)
 | refine SX.eload rfl (by repeat constructor) (by assumption) rfl (by rfl) (by exact fun _ => ⟨rfl, fun h => by cases h⟩) rfl (fun hid => ?_)
 | refine SX.guardYP rfl rfl (by first | assumption | (simp only [Go.Sl.bl]; omega)) ?_
 | fail)
          refine SK.inv ⟨⟨j + 1, by omega⟩, ?_, ?_, ?_⟩
          · show m - (j + 1) < m - j
            omega
          · rw [hwj]; repeat constructor
          · exact ent_append_of_takes (by repeat constructor)
      · have hd2 : decide ((j : Int) < (m : Int)) = false := decide_eq_false (by omega)
        repeat' (first
 | refine SO.pure rfl rfl rfl ?_
 | refine SO.nil ?_
 | refine SK.seq ?_
 | refine SK.region ?_
 | refine SK.exit rfl ?_
 | refine SK.condFP rfl (by first | assumption | (simp only [Go.Sl.bl]; omega)) ?_
 | fail)
        refine SK.retX (.tmp rfl .nil) () trivial rfl (by repeat constructor)
theorem segonce_long (A : Option Addr) (n c : Nat) (hn : 40 < n) : Does Tryz.prog 6 [.slice A n c] [libA, tabs 4 5] [] Unit (fun _ => True) (fun _ => .bool true) (fun _ => []) := by
  refine Does.of Tryz.call6 Tryz.func6 rfl rfl rfl (all_cons pers_lib (all_cons (pers_tabs _ _) all_nil)) rfl ?_
  repeat' (first
 | refine SO.call (sknown_does) rfl rfl rfl (by repeat constructor) (by repeat constructor) rfl (fun x hx => ?_)
 | refine SO.pure rfl rfl rfl ?_
 | refine SO.nil ?_
 | refine SK.seq ?_
 | refine SK.region ?_
 | refine SK.condF rfl ?_
 | refine SK.skip ?_
 | refine SK.condTP rfl (by first | assumption | (simp only [Go.Sl.bl]; omega)) ?_
 | fail)
  rw [show decide (40 < (n : Int)) = true from decide_eq_true (by omega)]
  skip
  exact SK.retX (.tmp rfl .nil) () trivial rfl (by repeat constructor)
end Go.Proofs
