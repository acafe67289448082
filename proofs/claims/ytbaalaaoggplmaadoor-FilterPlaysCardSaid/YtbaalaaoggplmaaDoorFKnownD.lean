/- A part of a proof: what functions of the program compute. -/
import Derived.Test.YtbaalaaoggplmaaDoorFilter3D
import Derived.Test.YtbaalaaoggplmaaDoorLib1
set_option linter.unusedVariables false
set_option linter.unusedSimpArgs false
set_option maxHeartbeats 0
namespace Go.Proofs
attribute [local irreducible] Go.Sl.SO Go.Sl.SQ Go.Sl.SR Go.Sl.SC Go.Sl.eadr Go.Sl.slAt Go.Sl.sqAt Go.Sl.pts Go.Sl.rod Go.Sl.ob Go.Sl.ex Go.Sl.big Go.Sl.pr Go.Sl.tabs Go.Sl.mpAt
open Go.Sl

theorem putk_does (b mb : Nat) (s : FS) (n : Int) (hn : 0 ≤ s.next ∧ s.next < 4611686018427387904) : Does Tryd.prog 13 [.pointer (some ⟨b, 0, none⟩), RRec.val (rk n) (none, 0)] [tabs 1 2] (fAt b mb s) Unit (fun _ => True) (fun _ => .int .i64 (putF s (rk n)).1) (fun _ => fAt b mb (putF s (rk n)).2) :=
  (put_does b mb s (rk n) (none, 0) (Nat.zero_le _) hn).pers' (all_cons (pers_tabs _ _) all_nil) (show HasAll [tabs 1 2, slAt RI none 0 [], pr (([] : List Int).length ≤ 0)] _ from .cons .here (.cons .triv (.cons .triv .nil)))

def kf0 : FS := ⟨1, 3, 1, []⟩
def kf1 : FS := ⟨1, 3, 1, [(2, rk 2)]⟩
def kf2 : FS := ⟨1, 3, 1, [(2, rk 2), (1, rk 1)]⟩
def kf3 : FS := ⟨1, 3, 3, []⟩
theorem k1 (b mb : Nat) : Does Tryd.prog 13 [.pointer (some ⟨b, 0, none⟩), RRec.val (rk 2) (none, 0)] [tabs 1 2] (fAt b mb kf0) Unit (fun _ => True) (fun _ => .int .i64 0) (fun _ => fAt b mb kf1) := by
  have h := putk_does b mb kf0 2 (by decide)
  rw [show putF kf0 (rk 2) = (0, kf1) by kernel_rfl] at h
  exact h
theorem k2 (b mb : Nat) : Does Tryd.prog 19 [.pointer (some ⟨b, 0, none⟩)] [] (fAt b mb kf1) Pl (fun _ => True) (fun h => .tuple #[RRec.val rc0 h, .bool false]) (fun h => RRec.atoms rc0 h ++ fAt b mb kf1) := by
  have h := first_does b mb kf1
  rw [show firstF kf1 = rc0 by kernel_rfl, show hasF kf1 = false by kernel_rfl] at h
  exact h
theorem k3 (b mb : Nat) : Does Tryd.prog 13 [.pointer (some ⟨b, 0, none⟩), RRec.val (rk 4) (none, 0)] [tabs 1 2] (fAt b mb kf1) Unit (fun _ => True) (fun _ => .int .i64 6) (fun _ => fAt b mb kf1) := by
  have h := putk_does b mb kf1 4 (by decide)
  rw [show putF kf1 (rk 4) = (6, kf1) by kernel_rfl] at h
  exact h
theorem k4 (b mb : Nat) : Does Tryd.prog 13 [.pointer (some ⟨b, 0, none⟩), RRec.val (rk 1) (none, 0)] [tabs 1 2] (fAt b mb kf1) Unit (fun _ => True) (fun _ => .int .i64 0) (fun _ => fAt b mb kf2) := by
  have h := putk_does b mb kf1 1 (by decide)
  rw [show putF kf1 (rk 1) = (0, kf2) by kernel_rfl] at h
  exact h
theorem k5 (b mb : Nat) : Does Tryd.prog 13 [.pointer (some ⟨b, 0, none⟩), RRec.val (rk 2) (none, 0)] [tabs 1 2] (fAt b mb kf2) Unit (fun _ => True) (fun _ => .int .i64 5) (fun _ => fAt b mb kf2) := by
  have h := putk_does b mb kf2 2 (by decide)
  rw [show putF kf2 (rk 2) = (5, kf2) by kernel_rfl] at h
  exact h
theorem k6 (b mb : Nat) : Does Tryd.prog 19 [.pointer (some ⟨b, 0, none⟩)] [] (fAt b mb kf2) Pl (fun _ => True) (fun h => .tuple #[RRec.val (rk 1) h, .bool true]) (fun h => RRec.atoms (rk 1) h ++ fAt b mb kf2) := by
  have h := first_does b mb kf2
  rw [show firstF kf2 = rk 1 by kernel_rfl, show hasF kf2 = true by kernel_rfl] at h
  exact h
theorem k7 (b mb : Nat) : Does Tryd.prog 15 [.pointer (some ⟨b, 0, none⟩), .int .i64 9] [] (fAt b mb kf2) Pl (fun x => 2 ≤ x.2) (fun x => .tuple #[.slice x.1 2 x.2, .bool true]) (fun x => slAt RRec x.1 2 [rk 1, rk 2] :: fAt b mb kf3) := by
  have h := taken_does b mb kf2 9 (by decide) (by decide)
  rw [show (readyF kf2).take (9 : Int).toNat = [rk 1, rk 2] by kernel_rfl, show afterF kf2 ([rk 1, rk 2] : List Rc).length = kf3 by kernel_rfl] at h
  exact h
theorem k8 (b mb : Nat) : Does Tryd.prog 13 [.pointer (some ⟨b, 0, none⟩), RRec.val (rk 1) (none, 0)] [tabs 1 2] (fAt b mb kf3) Unit (fun _ => True) (fun _ => .int .i64 5) (fun _ => fAt b mb kf3) := by
  have h := putk_does b mb kf3 1 (by decide)
  rw [show putF kf3 (rk 1) = (5, kf3) by kernel_rfl] at h
  exact h
theorem k9 (b mb : Nat) : Does Tryd.prog 18 [.pointer (some ⟨b, 0, none⟩), .int .i64 1] [] (fAt b mb kf3) Nat (fun _ => True) (fun _ => .int .i64 0) (fun mb' => fAt b mb' kf0) := by
  have h := reset_does b mb kf3 1
  rw [show resetF kf3 1 = (0, kf0) by kernel_rfl] at h
  exact h

theorem known_does : Does Tryd.prog 11 [] [tabs 1 2] [] Unit (fun _ => True) (fun _ => .bool true) (fun _ => []) := by
  refine Does.of Tryd.call11 Tryd.func11 rfl rfl rfl (all_cons (pers_tabs _ _) all_nil) rfl ?_
  repeat' (first
    | (refine SO.call (new_does 1 3 (by decide)) rfl rfl rfl (by repeat constructor) (by repeat constructor) rfl (fun x hx => ?_))
    | (refine SO.call (r_does _) rfl rfl rfl (by repeat constructor) (by repeat constructor) rfl (fun x hx => ?_))
    | (refine SO.call (k1 _ _) rfl rfl rfl (by repeat constructor) (by repeat constructor) rfl (fun x hx => ?_))
    | (refine SO.call (k2 _ _) rfl rfl rfl (by repeat constructor) (by repeat constructor) rfl (fun x hx => ?_))
    | (refine SO.call (k3 _ _) rfl rfl rfl (by repeat constructor) (by repeat constructor) rfl (fun x hx => ?_))
    | (refine SO.call (k4 _ _) rfl rfl rfl (by repeat constructor) (by repeat constructor) rfl (fun x hx => ?_))
    | (refine SO.call (k5 _ _) rfl rfl rfl (by repeat constructor) (by repeat constructor) rfl (fun x hx => ?_))
    | (refine SO.call (k6 _ _) rfl rfl rfl (by repeat constructor) (by repeat constructor) rfl (fun x hx => ?_))
    | (refine SO.call (k7 _ _) rfl rfl rfl (by repeat constructor) (by repeat constructor) rfl (fun x hx => ?_))
    | (refine SO.call (k8 _ _) rfl rfl rfl (by repeat constructor) (by repeat constructor) rfl (fun x hx => ?_))
    | (refine SO.call (k9 _ _) rfl rfl rfl (by repeat constructor) (by repeat constructor) rfl (fun x hx => ?_))
    | (refine SO.call (next_does _ _ kf0) rfl rfl rfl (by repeat constructor) (by repeat constructor) rfl (fun x hx => ?_))
    | (refine SO.call (len_does _ _ kf0) rfl rfl rfl (by repeat constructor) (by repeat constructor) rfl (fun x hx => ?_))
    | (refine SO.pure rfl rfl rfl ?_)
    | (refine SO.pure2 rfl rfl rfl ?_)
    | (refine SO.nil ?_)
    | (refine SO.guardY rfl rfl ?_)
    | (refine SO.load rfl (by repeat constructor) rfl (by rfl) (by exact ⟨rfl, by first | exact fun _ => rfl | exact (fun h => by cases h)⟩) rfl ?_)
    | (refine SO.index rfl rfl (by repeat constructor) rfl rfl rfl rfl (by first | assumption | omega | exact Nat.le_of_ble_eq_true rfl) (fun v hv => ?_) <;> (have hv2 := hv; cases hv))
    | (refine SO.efield rfl rfl rfl rfl rfl ?_)
    | (refine SO.eload rfl (by repeat constructor) (by assumption) rfl (by rfl) (by exact fun _ => ⟨rfl, fun _ => rfl⟩) rfl (fun hid => ?_))
    | (refine SK.seq ?_)
    | (refine SK.region ?_)
    | (refine SK.condF rfl ?_)
    | (refine SK.skip ?_)
    | (refine SO.alloc rfl rfl rfl (fun b => ?_))
    | (refine SO.storeW rfl rfl (by repeat constructor) rfl (by rfl) (by rfl) (by rfl) ?_)
    | fail)
  exact SK.retX (.tmp rfl .nil) () trivial rfl (by repeat constructor)
end Go.Proofs
