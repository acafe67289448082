/- A part of a proof: what functions of the program compute. -/
import Derived.Test.YtbaalaaoggplmaaDoorBook8D
import Derived.Test.YtbaalaaoggplmaaDoorRecD
import Derived.Test.YtbaalaaoggplmaaDoorLib2
set_option linter.unusedVariables false
set_option linter.unusedSimpArgs false
set_option maxHeartbeats 0
namespace Go.Proofs
attribute [local irreducible] Go.Sl.SO Go.Sl.SQ Go.Sl.SR Go.Sl.SC Go.Sl.SX Go.Sl.SY Go.Sl.eadr Go.Sl.slAt Go.Sl.sqAt Go.Sl.pts Go.Sl.rod Go.Sl.ob Go.Sl.ex Go.Sl.big Go.Sl.pr Go.Sl.tabs Go.Sl.mpAt
open Go.Sl
theorem check1_does (k v : ByteArray) (hv : v.size ≤ lim) : Does Tryd.prog 47 [RRec.val ⟨0, 1, [], k, v⟩ (none, 0), .int .i64 1] [tabs 1 2] [] Unit (fun _ => True) (fun _ => .int .i64 (cellBad k v)) (fun _ => []) := by
  have h := check_does ⟨0, 1, [], k, v⟩ (none, 0) 1 hv
  rw [checkR_cell] at h
  simp [checkV, vecBad, getI] at h
  exact h.less (all_cons (pers_tabs _ _) all_nil) (.cons .here (.cons (@Has.triv (slAt RI none 0 []) _ _) .nil))
theorem dec_does (m : Nat) (hm : m < 1000000000000) : Does Tryd.prog 32 [.int .i64 (m : Int)] [] [] Unit (fun _ => True) (fun _ => .string (decS m)) (fun _ => []) := by
  refine Does.of Tryd.call32 Tryd.func32 rfl rfl rfl all_nil rfl ?_
  repeat' (first
    | (refine SO.pure rfl rfl rfl ?_)
    | (refine SO.pure2 rfl rfl rfl ?_)
    | (refine SO.nil ?_)
    | (refine SK.seq ?_)
    | (refine SK.region ?_)
    | (refine SK.condF rfl ?_)
    | (refine SK.skip ?_)
    | (refine SO.buildSlice rfl rfl rfl rfl rfl rfl (fun b => ?_))
    | fail)
  rw [decide_eq_false (show ¬ (m : Int) < 0 by omega)]
  have hdig : ∀ k : Nat, Value.int .u8 (IntKind.u8.wrap (IntKind.i64.wrap (48 + (k : Int).tmod 10))) = .int .u8 (48 + ((k % 10 : Nat) : Int)) := fun k => by
    have h1 : (k : Int).tmod 10 = ((k % 10 : Nat) : Int) := rfl
    rw [h1, wrap_id (by omega) (by omega)]
    congr 1
    simp only [IntKind.wrap, IntKind.bits, IntKind.signed]; simp; omega
  skip
  rw [hdig m]
  refine SO.strOf (l := [48 + ((m % 10 : Nat) : Int)]) rfl rfl rfl rfl (by repeat constructor) rfl rfl rfl ?_
  repeat' (first
    | (refine SO.pure rfl rfl rfl ?_)
    | (refine SO.nil ?_)
    | (refine SK.seq ?_)
    | (refine SK.block ?_)
    | fail)
  refine SK.loop (X := {z : Nat × Nat × ByteArray // z.2.1 ≤ m ∧ z.2.1 < 10 ^ z.1 ∧ decS m = preF z.1 z.2.1 ++ z.2.2}) (fun z => [(0, .int .i64 (z.1.2.1 : Int)), (3, .string z.1.2.2)]) (fun z => []) (fun z => z.1.2.1) ⟨(19, m, dig (m % 10)), Nat.le_refl m, by show m < 10 ^ 19; omega, decF_pre 19 m⟩ (by repeat constructor) (ent_append_of_takes (by repeat constructor)) ?_
  rintro ⟨⟨f, n, s⟩, hnm, hn, hs⟩
  dsimp only at hnm hn hs ⊢
  have hsz : s.size ≤ 20 := by
    have h1 := decS_size m
    rw [hs, ByteArray.size_append] at h1; omega
  by_cases h10 : n < 10
  · have e : s = decS m := by rw [hs]; unfold preF; rw [if_pos h10, bE_app]
    subst e
    repeat' (first
    | (refine SO.pure rfl rfl rfl ?_)
    | (refine SO.nil ?_)
    | (refine SK.seq ?_)
    | (refine SK.region ?_)
    | (refine SK.exit rfl ?_)
    | (refine SK.condFP rfl (by first | assumption | (simp only [decide_eq_true_eq, decide_eq_false_iff_not, Bool.not_eq_true', Bool.not_eq_false', Bool.not_true, Bool.not_false, Bool.not_not]; omega)) ?_)
    | fail)
    rw [decide_eq_false (show ¬ (10 : Int) ≤ (n : Int) by omega)]
    skip
    exact SK.retX (.tmp rfl .nil) () trivial rfl (by repeat constructor)
  · obtain ⟨g, rfl⟩ : ∃ g, f = g + 1 := by
      cases f with
      | zero => simp at hn; omega
      | succ g => exact ⟨g, rfl⟩
    have hq : IntKind.i64.wrap ((n : Int).tdiv 10) = ((n / 10 : Nat) : Int) := by
      have h1 : (n : Int).tdiv 10 = ((n / 10 : Nat) : Int) := rfl
      rw [h1, wrap_id (by omega) (by omega)]
    repeat' (first
    | (refine SO.pure rfl rfl rfl ?_)
    | (refine SO.pure2 rfl rfl rfl ?_)
    | (refine SO.nil ?_)
    | (refine SK.seq ?_)
    | (refine SK.region ?_)
    | (refine SK.skip ?_)
    | (refine SK.block ?_)
    | (refine SO.buildSlice rfl rfl rfl rfl rfl rfl (fun b => ?_))
    | (refine SK.condTP rfl (by first | assumption | (simp only [decide_eq_true_eq, decide_eq_false_iff_not, Bool.not_eq_true', Bool.not_eq_false', Bool.not_true, Bool.not_false, Bool.not_not]; omega)) ?_)
    | fail)
    rw [decide_eq_true (show (10 : Int) ≤ (n : Int) by omega)]
    skip
    rw [hq, hdig (n / 10)]
    refine SO.strOf (l := [48 + ((n / 10 % 10 : Nat) : Int)]) rfl rfl rfl rfl (by repeat constructor) rfl rfl rfl ?_
    have hd1 : (bytesS [48 + ((n / 10 % 10 : Nat) : Int)]).size = 1 := rfl
    repeat' (first
    | (refine SO.pure rfl rfl rfl ?_)
    | (refine SO.nil ?_)
    | (refine SK.blk ?_)
    | (refine SO.scat rfl rfl rfl (by first | assumption | omega | exact Nat.le_of_ble_eq_true rfl | (simp only [decide_eq_true_eq, decide_eq_false_iff_not] at *; omega)) ?_)
    | fail)
    refine SK.inv ⟨⟨(g, n / 10, dig (n / 10 % 10) ++ s), by show n / 10 ≤ m; omega, ?_, ?_⟩, ?_, ?_, ?_⟩
    · show n / 10 < 10 ^ g
      rw [Nat.pow_succ] at hn
      exact Nat.div_lt_of_lt_mul (by rw [Nat.mul_comm]; exact hn)
    · show decS m = preF g (n / 10) ++ (dig (n / 10 % 10) ++ s)
      rw [hs, preF_step h10, ByteArray.append_assoc]
    · show n / 10 < n
      omega
    · repeat constructor
    · exact ent_append_of_takes (by repeat constructor)
end Go.Proofs
