/- A part of a proof: what functions of the program compute. -/
import Derived.Test.YtbaalaaoggplmaaDoorFKnownD
import Derived.Test.YtbaalaaoggplmaaDoorLib2
set_option linter.unusedVariables false
set_option linter.unusedSimpArgs false
set_option maxHeartbeats 0
namespace Go.Proofs
attribute [local irreducible] Go.Sl.SO Go.Sl.SQ Go.Sl.SR Go.Sl.SC Go.Sl.SX Go.Sl.SY Go.Sl.eadr Go.Sl.slAt Go.Sl.sqAt Go.Sl.pts Go.Sl.rod Go.Sl.ob Go.Sl.ex Go.Sl.big Go.Sl.pr Go.Sl.tabs Go.Sl.mpAt
open Go.Sl
theorem clone_does (mb : Nat) (l : List (Int × Rc)) : Does Tryd.prog 51 [.map (some mb)] [] [mpAt (KI .i64) RRec mb l] Nat (fun _ => True) (fun m' => .map (some m')) (fun m' => [mpAt (KI .i64) RRec m' l, mpAt (KI .i64) RRec mb l]) := by
  refine Does.of Tryd.call51 Tryd.func51 rfl rfl rfl all_nil rfl ?_
  repeat' (first
    | (refine SO.ifaceMap rfl rfl rfl ?_)
    | (refine SO.assertMap rfl rfl rfl ?_)
    | (refine SO.cloneMap (kr := KI .i64) (ρ := RRec) rfl (by repeat constructor) Tryd.func68 (by kernel_rfl) (by kernel_rfl) (by kernel_rfl) (by kernel_rfl) rfl (fun b' => ?_))
    | (refine SO.pure rfl rfl rfl ?_)
    | (refine SO.pure2 rfl rfl rfl ?_)
    | (refine SO.nil ?_)
    | (refine SK.seq ?_)
    | (refine SK.region ?_)
    | (refine SK.condF rfl ?_)
    | (refine SK.skip ?_)
    | fail)
  exact SK.retX (.tmp rfl .nil) b' trivial rfl (by repeat constructor)
theorem twin_does (fb mb : Nat) (s : FS) : Does Tryd.prog 27 [.pointer (some ⟨fb, 0, none⟩)] [] (fAt fb mb s) (Nat × Nat) (fun _ => True) (fun x => .pointer (some ⟨x.1, 0, none⟩)) (fun x => fAt x.1 x.2 s ++ fAt fb mb s) := by
  refine Does.of Tryd.call27 Tryd.func27 rfl rfl rfl all_nil rfl ?_
  unfold fAt
  repeat' (first
    | (refine SO.call (clone_does _ _) rfl rfl rfl (by repeat constructor) (by repeat constructor) rfl (fun x hx => ?_))
    | (refine SO.pure rfl rfl rfl ?_)
    | (refine SO.nil ?_)
    | (refine SO.load rfl (by repeat constructor) rfl (by rfl) (by exact ⟨rfl, by first | exact fun _ => rfl | exact (fun h => by cases h)⟩) rfl ?_)
    | (refine SK.seq ?_)
    | (refine SK.region ?_)
    | (refine SO.alloc rfl rfl rfl (fun b => ?_))
    | (refine SO.storeW rfl rfl (by repeat constructor) rfl (by rfl) (by rfl) (by rfl) ?_)
    | (refine SO.store rfl rfl (by repeat constructor) rfl (by rfl) rfl rfl (by rfl) (by rfl) ?_)
    | fail)
  exact SK.retX (.tmp rfl .nil) (b, x) trivial rfl (by repeat constructor)
end Go.Proofs
