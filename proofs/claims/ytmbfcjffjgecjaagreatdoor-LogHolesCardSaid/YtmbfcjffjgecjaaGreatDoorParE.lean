/- A part of a proof: what functions of the program compute. -/
import Derived.Test.YtmbfcjffjgecjaaGreatDoorNumE
import Derived.Test.YtmbfcjffjgecjaaGreatDoorRecE
set_option linter.unusedVariables false
set_option linter.unusedSimpArgs false
set_option maxHeartbeats 0
namespace Go.Sl
theorem txB_app (a b : Tx) : txB a ++ txB b = txB (a ++ b) := by
  apply ByteArray.ext
  apply Array.ext'
  simp [txB]
end Go.Sl
namespace Go.Proofs
attribute [local irreducible] Go.Sl.SO Go.Sl.SQ Go.Sl.SR Go.Sl.SC Go.Sl.SX Go.Sl.SY Go.Sl.eadr Go.Sl.slAt Go.Sl.sqAt Go.Sl.pts Go.Sl.rod Go.Sl.ob Go.Sl.ex Go.Sl.big Go.Sl.pr Go.Sl.tabs Go.Sl.mpAt
open Go.Sl
abbrev libL : List HP := [libA]
theorem vtext_nil (A : Option Addr) (c : Nat) : Does Tryz.prog 112 [.slice A 0 c] [slAt RI A 0 []] [] Unit (fun _ => True) (fun _ => .string (txB [91, 93])) (fun _ => []) := by
  refine Does.of Tryz.call112 Tryz.func112 rfl rfl rfl (all_cons (pers_slAt _ _ _ _) all_nil) rfl ?_
  repeat' (first
 | refine SO.call (all_does _ _ _) rfl rfl rfl (by repeat constructor) (by repeat constructor) rfl (fun x hx => ?_)
 | refine SO.pure rfl rfl rfl ?_
 | refine SO.nil ?_
 | refine SK.seq ?_
 | refine SK.region ?_
 | refine SK.block ?_
 | refine SO.alloc rfl rfl rfl (fun b => ?_)
 | refine SO.storeW rfl rfl (by repeat constructor) rfl (by rfl) (by rfl) (by rfl) ?_
 | fail)
  refine SK.range (nziter x A 0 c []) Empty (fun i => [pts b 0 [.int .i64 ((0 : Nat) : Int)]]) (fun _ => []) (fun y => y.elim) rfl (by repeat constructor) (by repeat constructor) rfl (fun _ _ => rfl) (fun i x h q R hr => by cases hr) ?_ (fun y => y.elim)
  refine SK.blk ?_
  have hc0 : 0 ≤ c := Nat.zero_le c
  repeat' (first
 | refine SO.pure rfl rfl rfl ?_
 | refine SO.nil ?_
 | refine SO.load rfl (by repeat constructor) rfl (by rfl) (by exact ⟨rfl, by first | exact fun _ => rfl | exact (fun h => by cases h)⟩) rfl ?_
 | refine SO.slice (k1 := .i64) (k2 := .i64) rfl rfl rfl (by repeat constructor) rfl rfl (by rfl) rfl (by exact .inr ⟨rfl, rfl⟩) (by exact .inl rfl) (by omega) (by omega) (by assumption) (fun As cs hcs => ?_)
 | refine SK.seq ?_
 | refine SK.region ?_
 | refine SK.block ?_
 | refine SO.slice (k1 := .i64) (k2 := .i64) rfl rfl rfl (by repeat constructor) rfl rfl (by rfl) rfl (by first | exact .inl rfl | exact .inr ⟨rfl, rfl⟩) (by first | exact .inl rfl | exact .inr ⟨rfl, rfl⟩) (by first | assumption | omega | exact Nat.le_of_ble_eq_true rfl | (simp only [decide_eq_true_eq, decide_eq_false_iff_not] at *; omega)) (by first | assumption | omega | exact Nat.le_of_ble_eq_true rfl | (simp only [decide_eq_true_eq, decide_eq_false_iff_not] at *; omega)) (by assumption) (fun As cs hcs => ?_)
 | fail)
  have hj : Does Tryz.prog 148 [.slice none 0 0, .string ⟨#[32]⟩] [slAt RS none 0 []] [] Unit (fun _ => True) (fun _ => .string (txB [])) (fun _ => []) := join_does (none, 0) [] ⟨#[32]⟩ (Nat.le_refl 0) (by decide)
  refine SK.loop (X := Unit) (fun _ => [(18, .int .i64 0), (17, .int .i64 0), (5, .slice none 0 0)]) (fun _ => []) (fun _ => 0) () (by repeat constructor) (fun _ _ _ => trivial) ?_
  intro _
  have hd : decide ((0 : Int) < 0) = false := by decide
  repeat' (first
 | refine SO.call (hj) rfl rfl rfl (by repeat constructor) (by repeat constructor) rfl (fun x hx => ?_)
 | refine SO.pure rfl rfl rfl ?_
 | refine SO.nil ?_
 | refine SK.seq ?_
 | refine SK.region ?_
 | refine SK.condF rfl ?_
 | refine SK.exit rfl ?_
 | refine SO.scat rfl rfl rfl (by first | assumption | omega | exact Nat.le_of_ble_eq_true rfl | (simp only [decide_eq_true_eq, decide_eq_false_iff_not] at *; omega)) ?_
 | fail)
  exact SK.retX (.tmp rfl .nil) () trivial rfl (by repeat constructor)
theorem rtext_nil (a b : Int) (key val : ByteArray) (h : Pl) (ha : 0 ≤ a ∧ a < 100000) (hb : 0 ≤ b ∧ b < 100000) (hk : key.size ≤ 1000) (hv : val.size ≤ 1000) : Does Tryz.prog 102 [RRec.val ⟨a, b, [], key, val⟩ h] [libA, slAt RI h.1 0 []] [] Unit (fun _ => True) (fun _ => .string (txB (recX ⟨a, b, [], key, val⟩))) (fun _ => []) := by
  refine Does.of Tryz.call102 Tryz.func102 rfl rfl rfl (all_cons pers_lib (all_cons (pers_slAt _ _ _ _) all_nil)) rfl ?_
  have i1 := itoa_does a (by omega)
  have i2 := itoa_does b (by omega)
  have l1 := dec_len 4 a.toNat (by omega)
  have l2 := dec_len 4 b.toNat (by omega)
  generalize hux : txB (Lib.decDigits a.toNat) = uu at *
  generalize hvy : txB (Lib.decDigits b.toNat) = vv at *
  have s1 : uu.size ≤ 5 := by rw [← hux, size_txB]; exact l1
  have s2 : vv.size ≤ 5 := by rw [← hvy, size_txB]; exact l2
  have z0 : (⟨#[58]⟩ : ByteArray).size = 1 := rfl
  have z1 : (⟨#[32]⟩ : ByteArray).size = 1 := rfl
  have z2 : (⟨#[61]⟩ : ByteArray).size = 1 := rfl
  have z3 : (txB [91, 93]).size = 2 := rfl
  have t1 : (uu ++ ⟨#[58]⟩).size ≤ 6 := by rw [ByteArray.size_append]; omega
  have t2 : (uu ++ ⟨#[58]⟩ ++ vv).size ≤ 11 := by rw [ByteArray.size_append]; omega
  have t3 : (uu ++ ⟨#[58]⟩ ++ vv ++ ⟨#[32]⟩).size ≤ 12 := by rw [ByteArray.size_append]; omega
  have t4 : (uu ++ ⟨#[58]⟩ ++ vv ++ ⟨#[32]⟩ ++ txB [91, 93]).size ≤ 14 := by rw [ByteArray.size_append]; omega
  have t5 : (uu ++ ⟨#[58]⟩ ++ vv ++ ⟨#[32]⟩ ++ txB [91, 93] ++ ⟨#[32]⟩).size ≤ 15 := by rw [ByteArray.size_append]; omega
  have t6 : (uu ++ ⟨#[58]⟩ ++ vv ++ ⟨#[32]⟩ ++ txB [91, 93] ++ ⟨#[32]⟩ ++ key).size ≤ 1015 := by rw [ByteArray.size_append]; omega
  have t7 : (uu ++ ⟨#[58]⟩ ++ vv ++ ⟨#[32]⟩ ++ txB [91, 93] ++ ⟨#[32]⟩ ++ key ++ ⟨#[61]⟩).size ≤ 1016 := by rw [ByteArray.size_append]; omega
  repeat' (first
 | refine SO.call (i1) rfl rfl rfl (by repeat constructor) (by repeat constructor) rfl (fun x hx => ?_)
 | refine SO.call (i2) rfl rfl rfl (by repeat constructor) (by repeat constructor) rfl (fun x hx => ?_)
 | refine SO.call (vtext_nil h.1 h.2) rfl rfl rfl (by repeat constructor) (by repeat constructor) rfl (fun x hx => ?_)
 | refine SO.pure rfl rfl rfl ?_
 | refine SO.nil ?_
 | refine SK.seq ?_
 | refine SK.region ?_
 | refine SO.box rfl rfl rfl (fun b => ?_)
 | refine SK.regionX 1 (.item 0 0 (.item 0 4 (.item 0 9 (.item 0 14 (.item 0 18 (.item 0 1 (.item 0 5 (.item 0 10 (.item 0 15 (.item 0 19 (.item 1 2 (.item 0 3 (.item 1 6 (.item 0 7 (.item 0 8 (.item 1 11 (.item 0 12 (.item 0 13 (.item 0 16 (.item 0 17 (.item 0 20 (.item 0 21 .nil)))))))))))))))))))))) (libL) (by repeat constructor) (by repeat (first | exact .nil | apply PersSub.s | apply PersSub.t | apply PersSub.p | apply PersSub.r | apply PersSub.skip)) (by kernel_rfl) (by kernel_rfl) (fun _ _ _ h => h) ?_
 | refine SX.tail (by rfl) (by repeat (first | exact .nil | apply DropP.s | apply DropP.t | apply DropP.p | apply DropP.r | apply DropP.keep)) ?_
 | refine SX.pure rfl rfl rfl ?_
 | refine SX.load rfl (by repeat constructor) rfl (by rfl) (by exact ⟨rfl, by first | exact fun _ => rfl | exact (fun h => by cases h)⟩) rfl ?_
 | refine SX.scat rfl rfl rfl (by first | assumption | omega | exact Nat.le_of_ble_eq_true rfl | (simp only [decide_eq_true_eq, decide_eq_false_iff_not] at *; omega)) ?_
 | refine SX.step rfl rfl ?_
 | refine SK.invY ?_
 | refine SY.shareGo (by repeat (first | exact .nil | apply PersSub.s | apply PersSub.t | apply PersSub.p | apply PersSub.r | apply PersSub.skip)) ?_
 | fail)
  refine SK.retX (.tmp rfl .nil) () trivial ?_ (by repeat constructor)
  show Value.string (uu ++ txB [58] ++ vv ++ txB [32] ++ txB [91, 93] ++ txB [32] ++ txB key.data.toList ++ txB [61] ++ txB val.data.toList) = _
  rw [← hux, ← hvy]
  simp only [txB_app]
  unfold recX
  show Value.string (txB _) = Value.string (txB _)
  congr 2
  simp [vecX, trimV, joinX]
end Go.Proofs
