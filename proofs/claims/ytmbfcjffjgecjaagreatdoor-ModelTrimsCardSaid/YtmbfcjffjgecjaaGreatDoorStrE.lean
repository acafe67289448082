/- A part of a proof: what functions of the program compute. -/
import Derived.Test.YtmbfcjffjgecjaaGreatDoorSeg2E
import Derived.Test.YtmbfcjffjgecjaaGreatDoorLib2
set_option linter.unusedVariables false
set_option linter.unusedSimpArgs false
set_option maxHeartbeats 0
namespace Go.Proofs
attribute [local irreducible] Go.Sl.SO Go.Sl.SQ Go.Sl.SR Go.Sl.SC Go.Sl.SX Go.Sl.SY Go.Sl.eadr Go.Sl.slAt Go.Sl.sqAt Go.Sl.pts Go.Sl.rod Go.Sl.ob Go.Sl.ex Go.Sl.big Go.Sl.pr Go.Sl.tabs Go.Sl.mpAt Go.Sl.mitAt Go.Sl.mitN
open Go.Sl
theorem mchk_does (A : Option Addr) (n c : Nat) (m : List (Int × Int)) (hm : MapOk m) : Does Tryz.prog 153 [.slice A n c] [slAt RSp A n m] [] Unit (fun _ => True) (fun _ => .int .i64 0) (fun _ => []) := by
  refine Does.of Tryz.call153 Tryz.func153 rfl rfl rfl (all_cons (pers_slAt _ _ _ _) all_nil) rfl ?_
  refine SK.know (sl_len (ρ := RSp) (A := A) (n := n) (l := m) (by repeat constructor)) ?_
  rintro ⟨rfl, hlim, -⟩
  have hml := hm.len
  have h0 : decide ((m.length : Int) = 0) = false := decide_eq_false (by omega)
  repeat' (first
 | refine SO.pure rfl rfl rfl ?_
 | refine SO.nil ?_
 | refine SK.seq ?_
 | refine SK.region ?_
 | refine SK.skip ?_
 | refine SK.block ?_
 | refine SK.condFP rfl (by first | assumption | (simp only [Go.Sl.bl]; omega)) ?_
 | fail)
  refine SK.loop (X := {j : Nat // j ≤ m.length}) (fun j => [(11, .int .i64 (j.1 : Int)), (10, .int .i64 (m.length : Int)), (9, .slice A m.length c), (3, .int .i64 (lastS m j.1)), (2, .int .i64 0)]) (fun j => [slAt RSp A m.length m]) (fun j => m.length - j.1) ⟨0, Nat.zero_le _⟩ (by repeat constructor) (ent_append_of_takes (by repeat constructor)) ?_
  rintro ⟨j, hj⟩
  dsimp only
  have hwj : IntKind.i64.wrap ((j : Int) + 1) = ((j + 1 : Nat) : Int) := by rw [wrap_id (by omega) (by omega)]; omega
  rcases Nat.lt_or_ge j m.length with hjl | hjl
  · have hd2 : decide ((j : Int) < (m.length : Int)) = true := decide_eq_true (by omega)
    obtain ⟨x, hx⟩ : ∃ x, m[j]? = some x := ⟨_, List.getElem?_eq_getElem hjl⟩
    obtain ⟨e1, e2, e3⟩ := hm.at_ hx
    obtain ⟨b1, b2, b3, b4⟩ := hm.bd x (List.mem_of_getElem? hx)
    obtain ⟨f, k⟩ := x
    dsimp only at e1 e2 e3 b1 b2 b3 b4
    have hn1 : decide (f < lastS m j) = false := decide_eq_false (by omega)
    have hn2 : decide (k < 1) = false := decide_eq_false (by omega)
    have hn3 : decide (8 < k) = false := decide_eq_false (by omega)
    rcases Nat.eq_zero_or_pos j with hj0 | hj0
    · have hn4 : decide ((j : Int) = 0) = true := decide_eq_true (by omega)
      have hn5 : (!decide (f = 0)) = false := by simp [e1 hj0]
      repeat' (first
 | refine SO.indexH rfl rfl (by repeat constructor) rfl rfl rfl rfl (by assumption) ?_
 | refine SO.pure rfl rfl rfl ?_
 | refine SO.nil ?_
 | refine SO.guardY rfl rfl ?_
 | refine SO.load rfl (by repeat constructor) rfl (by rfl) (by exact ⟨rfl, by first | exact fun _ => rfl | exact (fun h => by cases h)⟩) rfl ?_
 | refine SO.eloadW rfl (by repeat constructor) (by assumption) rfl (by rfl) rfl (by rfl) rfl (fun hid => ?_)
 | refine SK.seq ?_
 | refine SK.region ?_
 | refine SK.skip ?_
 | refine SK.block ?_
 | refine SK.blk ?_
 | refine SO.alloc rfl rfl rfl (fun b => ?_)
 | refine SO.storeW rfl rfl (by repeat constructor) rfl (by rfl) (by rfl) (by rfl) ?_
 | refine SO.guardYP rfl rfl (by first | assumption | (simp only [Go.Sl.bl]; omega)) ?_
 | refine SK.condTP rfl (by first | assumption | (simp only [Go.Sl.bl]; omega)) ?_
 | refine SK.condFP rfl (by first | assumption | (simp only [Go.Sl.bl]; omega)) ?_
 | fail)
      refine SK.inv ⟨⟨j + 1, by omega⟩, ?_, ?_, ?_⟩
      · show m.length - (j + 1) < m.length - j
        omega
      · dsimp only
        rw [hwj, e3]; repeat constructor
      · exact ent_append_of_takes (by repeat constructor)
    · have hn4 : decide ((j : Int) = 0) = false := decide_eq_false (by omega)
      repeat' (first
 | refine SO.indexH rfl rfl (by repeat constructor) rfl rfl rfl rfl (by assumption) ?_
 | refine SO.pure rfl rfl rfl ?_
 | refine SO.nil ?_
 | refine SO.guardY rfl rfl ?_
 | refine SO.guardN rfl rfl rfl ?_
 | refine SO.load rfl (by repeat constructor) rfl (by rfl) (by exact ⟨rfl, by first | exact fun _ => rfl | exact (fun h => by cases h)⟩) rfl ?_
 | refine SO.eloadW rfl (by repeat constructor) (by assumption) rfl (by rfl) rfl (by rfl) rfl (fun hid => ?_)
 | refine SK.seq ?_
 | refine SK.region ?_
 | refine SK.skip ?_
 | refine SK.block ?_
 | refine SK.blk ?_
 | refine SO.alloc rfl rfl rfl (fun b => ?_)
 | refine SO.storeW rfl rfl (by repeat constructor) rfl (by rfl) (by rfl) (by rfl) ?_
 | refine SO.guardYP rfl rfl (by first | assumption | (simp only [Go.Sl.bl]; omega)) ?_
 | refine SO.guardNP rfl rfl rfl (by first | assumption | (simp only [Go.Sl.bl]; omega)) ?_
 | refine SK.condTP rfl (by first | assumption | (simp only [Go.Sl.bl]; omega)) ?_
 | refine SK.condFP rfl (by first | assumption | (simp only [Go.Sl.bl]; omega)) ?_
 | fail)
      refine SK.inv ⟨⟨j + 1, by omega⟩, ?_, ?_, ?_⟩
      · show m.length - (j + 1) < m.length - j
        omega
      · dsimp only
        rw [hwj, e3]; repeat constructor
      · exact ent_append_of_takes (by repeat constructor)
  · have hd2 : decide ((j : Int) < (m.length : Int)) = false := decide_eq_false (by omega)
    repeat' (first
 | refine SO.pure rfl rfl rfl ?_
 | refine SO.nil ?_
 | refine SK.seq ?_
 | refine SK.region ?_
 | refine SK.exit rfl ?_
 | refine SK.condFP rfl (by first | assumption | (simp only [Go.Sl.bl]; omega)) ?_
 | fail)
    exact SK.retX (.tmp rfl .nil) () trivial rfl (by repeat constructor)
theorem mfind_does (A : Option Addr) (n c : Nat) (m : List (Int × Int)) (pos : Int) (hm : MapOk m) (hp : 0 ≤ pos ∧ pos ≤ 9223372036854775807) : Does Tryz.prog 151 [.slice A n c, .int .i64 pos] [slAt RSp A n m] [] Unit (fun _ => True) (fun _ => .tuple #[.int .i64 (epochM m pos), .int .i64 (stripeM m pos : Int), .int .i64 0]) (fun _ => []) := by
  refine Does.of Tryz.call151 Tryz.func151 rfl rfl rfl (all_cons (pers_slAt _ _ _ _) all_nil) rfl ?_
  refine SK.know (sl_len (ρ := RSp) (A := A) (n := n) (l := m) (by repeat constructor)) ?_
  rintro ⟨rfl, hlim, -⟩
  have hml := hm.len
  have h0 : decide (pos < 0) = false := decide_eq_false (by omega)
  have ck := mchk_does A m.length c m hm
  have hw0 : IntKind.i64.wrap ((m.length : Int) - 1) = ((m.length - 1 : Nat) : Int) := by rw [wrap_id (by omega) (by omega)]; omega
  repeat' (first
 | refine SO.call (ck) rfl rfl rfl (by repeat constructor) (by repeat constructor) rfl (fun x hx => ?_)
 | refine SO.pure rfl rfl rfl ?_
 | refine SO.nil ?_
 | refine SO.guardY rfl rfl ?_
 | refine SK.seq ?_
 | refine SK.region ?_
 | refine SK.condF rfl ?_
 | refine SK.skip ?_
 | refine SK.block ?_
 | refine SO.guardYP rfl rfl (by first | assumption | (simp only [Go.Sl.bl]; omega)) ?_
 | fail)
  rw [hw0]
  refine SK.loop (X := {i : Nat // i < m.length ∧ findI m pos i = spanI m pos}) (fun i => [(7, .int .i64 (i.1 : Int)), (0, .slice A m.length c), (1, .int .i64 pos)]) (fun i => [slAt RSp A m.length m]) (fun i => i.1) ⟨m.length - 1, by omega, rfl⟩ (by repeat constructor) (ent_append_of_takes (by repeat constructor)) ?_
  rintro ⟨i, hi, hf⟩
  dsimp only
  obtain ⟨x, hx⟩ : ∃ x, m[i]? = some x := ⟨_, List.getElem?_eq_getElem hi⟩
  have hxd : m.getD i (0, 1) = x := by rw [List.getD, hx]; rfl
  by_cases hpx : pos < x.1
  · have hd : decide (pos < x.1) = true := decide_eq_true hpx
    cases i with
    | zero => exact absurd (hm.zero x hx) (by omega)
    | succ i =>
      have hwi : IntKind.i64.wrap (((i + 1 : Nat) : Int) - 1) = (i : Int) := by rw [wrap_id (by omega) (by omega)]; omega
      have hf2 : findI m pos i = spanI m pos := by
        rw [← hf]
        conv => rhs; unfold findI
        rw [hxd, if_pos hpx]
      repeat' (first
 | refine SO.indexH rfl rfl (by repeat constructor) rfl rfl rfl rfl (by assumption) ?_
 | refine SO.pure rfl rfl rfl ?_
 | refine SO.nil ?_
 | refine SO.efield rfl rfl rfl rfl rfl ?_
 | refine SO.eload rfl (by repeat constructor) (by assumption) rfl (by rfl) (by exact fun _ => ⟨rfl, fun _ => rfl⟩) rfl (fun hid => ?_)
 | refine SK.seq ?_
 | refine SK.region ?_
 | refine SK.skip ?_
 | refine SK.block ?_
 | refine SK.blk ?_
 | refine SO.eload rfl (by repeat constructor) (by assumption) rfl (by rfl) (by exact fun _ => ⟨rfl, fun h => by cases h⟩) rfl (fun hid => ?_)
 | refine SK.condTP rfl (by first | assumption | (simp only [Go.Sl.bl]; omega)) ?_
 | fail)
      refine SK.inv ⟨⟨i, by omega, hf2⟩, ?_, ?_, ?_⟩
      · show i < i + 1
        omega
      · dsimp only
        rw [hwi]; repeat constructor
      · exact ent_append_of_takes (by repeat constructor)
  · have hd : decide (pos < x.1) = false := decide_eq_false hpx
    have hsi : spanI m pos = i := by
      rw [← hf]
      cases i with
      | zero => rfl
      | succ i => unfold findI; rw [hxd, if_neg hpx]
    have hsa : spanAt m pos = x := by unfold spanAt; rw [hsi]; exact hxd
    obtain ⟨_, b1, b2, b3, b4⟩ := span_at hm hp.1
    rw [hsa] at b1 b2 b3 b4
    have hwi : IntKind.i64.wrap ((i : Int) + 1) = (i : Int) + 1 := wrap_id (by omega) (by omega)
    obtain ⟨f, k⟩ := x
    dsimp only at b1 b2 b3 b4
    have hwp : IntKind.i64.wrap (pos - f) = pos - f := wrap_id (by omega) (by omega)
    repeat' (first
 | refine SX.div rfl rfl (rem_ne (by omega)) rfl ?_
 | refine SO.indexH rfl rfl (by repeat constructor) rfl rfl rfl rfl (by assumption) ?_
 | refine SO.pure rfl rfl rfl ?_
 | refine SO.nil ?_
 | refine SO.efield rfl rfl rfl rfl rfl ?_
 | refine SO.eload rfl (by repeat constructor) (by assumption) rfl (by rfl) (by exact fun _ => ⟨rfl, fun _ => rfl⟩) rfl (fun hid => ?_)
 | refine SK.seq ?_
 | refine SK.region ?_
 | refine SK.exit rfl ?_
 | refine SO.eload rfl (by repeat constructor) (by assumption) rfl (by rfl) (by exact fun _ => ⟨rfl, fun h => by cases h⟩) rfl (fun hid => ?_)
 | refine SK.condFP rfl (by first | assumption | (simp only [Go.Sl.bl]; omega)) ?_
 | refine SK.regionX 6 (.item 0 0 (.item 0 2 (.item 0 3 (.item 0 4 (.item 0 9 (.item 0 10 (.item 0 1 (.item 0 5 (.item 0 11 (.item 0 6 (.item 0 12 (.item 0 15 (.item 0 7 (.item 0 13 (.item 0 8 (.item 0 14 (.item 0 16 (.item 0 17 .nil)))))))))))))))))) [] .nil (by repeat (first | exact .nil | apply PersSub.s | apply PersSub.t | apply PersSub.p | apply PersSub.r | apply PersSub.skip)) (by kernel_rfl) (by kernel_rfl) (fun _ _ _ h => h) ?_
 | refine SX.tail (by rfl) (by repeat (first | exact .nil | apply DropP.s | apply DropP.t | apply DropP.p | apply DropP.r | apply DropP.keep)) ?_
 | refine SX.indexH rfl rfl (by repeat constructor) rfl rfl rfl rfl (by assumption) ?_
 | refine SX.pure rfl rfl rfl ?_
 | refine SX.efield rfl rfl rfl rfl rfl ?_
 | refine SX.eload rfl (by repeat constructor) (by assumption) rfl (by rfl) (by exact fun _ => ⟨rfl, fun _ => rfl⟩) rfl (fun hid => ?_)
 | refine SX.div rfl rfl rfl rfl ?_
 | refine SX.eload rfl (by repeat constructor) (by assumption) rfl (by rfl) (by exact fun _ => ⟨rfl, fun h => by cases h⟩) rfl (fun hid => ?_)
 | fail)
    refine SK.retX (.tmp rfl (.tmp rfl (.tmp rfl .nil))) () trivial ?_ (by repeat constructor)
    have e1 : epochM m pos = (i : Int) + 1 := by unfold epochM; rw [hsi]
    have e2 : ((stripeM m pos : Nat) : Int) = (pos - f).tmod k := by
      unfold stripeM
      rw [hsa]
      obtain ⟨a, ha⟩ := Int.eq_ofNat_of_zero_le (show 0 ≤ pos - f by omega)
      obtain ⟨b, rfl⟩ := Int.eq_ofNat_of_zero_le (show 0 ≤ k by omega)
      simp only [ha]
      rfl
    show Value.tuple #[.int .i64 (IntKind.i64.wrap ((i : Int) + 1)), .int .i64 ((IntKind.i64.wrap (pos - f)).tmod k), .int .i64 0] = _
    rw [hwi, hwp, e1, e2]
end Go.Proofs
