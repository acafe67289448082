/- The law landaulaw25.HistGood returns true for every input, and its arguments read behind the call as they read before: the given statement HistGoodSaid, with no condition of ours. -/
import Derived.Test.YtbaalaaoggplmaaH10
import Derived.Test.YtbaalaaoggplmaaSlRead
import Derived.Test.YtbaalaaoggplmaaRows
import Derived.WalkKit
import Derived.ProofKit
import Derived.OpenShut
set_option linter.unusedVariables false
set_option maxHeartbeats 0
namespace Go.Hist
open Go.Sl
theorem rd_bool {H : Type} {enc : TypeId × Value → H} {P : Program} {W : World} {t : TypeId} (ht : P.underlying t = some .bool) : Rd enc P W t RB (fun _ => True) := fun fuel cs x h => by
  obtain ⟨b, rfl, _⟩ := DataW.trod_bool ht h
  exact ⟨b, (), trivial, rfl, trivial⟩
end Go.Hist
namespace Go.Proofs.Ytbaalaaoggplmaa
open Go.ChangeShapes Go.WideShapes Go.ChangeAt Go.RowKit Go.Sl Go.Hist

theorem own : ownKnob Try.prog.godebug = none := by kernel_rfl

/-- The law's call. -/
theorem walk {H : Type} {enc : TypeId × Value → H} (W : World) (args : Array Value) (ds : List (DataW H)) (p : List MemPlace) {base : Nat} (hval : ∀ (j : Nat) t v, Try.f3.params[j]? = some t → args[j]? = some v → Value.okWide Try.prog W .any base t v)
    (hA : DataW.TrodAll enc Try.prog W 0 (fun _ => true) true Try.f3.params.toList args.toList ds p) : (Calls Try.prog 3 args W fun e W' => e = .returned (.bool true) ∧ Below W.heap.size W W') ∧ ∃ d1 d2, ds = [d1, d2] := by
  rw [Try.params3] at hA hval
  obtain ⟨v0, v1, d0, d1, p0, p1, rfl, rfl, rfl, h0, h1⟩ := trodAll_two hA
  refine ⟨?_, _, _, rfl⟩
  obtain ⟨k, rfl, rfl, rfl, w1⟩ := open_int Try.underlying5 (hval 1 5 v1 rfl rfl) h1
  obtain ⟨A, n, c, l, rfl, hn, hnc, _, hsl⟩ := read_slice (ρ := RB) Try.underlying22 (by kernel_rfl) (rd_bool Try.underlying4) (hval 0 22 v0 rfl rfl) h0
  have hk : 0 ≤ k ∧ k < 256 := by
    have := bounds_u8 w1
    omega
  by_cases hlim : n ≤ lim
  · exact (good_does A n c l k hk).law W (fun X hX => by
      obtain rfl : X = slAt RB A n l := by simpa using hX
      exact hsl hlim)
  · exact (good_long A n c k (by unfold lim at hlim; omega)).law W (fun X hX => by cases hX)

set_option maxRecDepth 100000 in
theorem lifted (os : Os) (started : os.Started) (H : Type) (enc : TypeId × Value → H) :
    ReturnsInHanded {} Try.checked os 3 .any (Rows.histGoodSpec.pre6 enc Try.prog Try.f3 Rows.histGoodRow.domain false) (Rows.histGoodSpec.post enc Try.prog Try.f3 false true false false) := by
  refine returnsInHanded_of_change (C := Try.checked) own started (by kernel_rfl) Try.func3
    (ChangeSpec.witness6 (enc := enc) (C := Try.checked) false ⟨#[], #[.slice none 0 0, .int .u8 0], []⟩ 8 (by kernel_rfl) (by kernel_rfl) (by kernel_rfl) (by kernel_rfl)) ?_
  intro W base args ds gs before hval0 hW hcnd _
  have hval : ∀ (j : Nat) t v, Try.f3.params[j]? = some t → args[j]? = some v → Value.okWide Try.prog W .any base t v := hval0
  have hW' := hW
  obtain ⟨p, q, hA0, hV, rfl, hfz, hnd⟩ := hW
  have hA : DataW.TrodAll enc Try.prog W 0 (fun _ => true) true Try.f3.params.toList args.toList ds p := hA0
  obtain ⟨rfl, rfl⟩ := trodVars_none hV
  obtain ⟨hc, d1, d2, rfl⟩ := walk W args ds p hval hA
  refine hc.mono fun e W' ⟨he, hb⟩ => ⟨_, he, ?_⟩
  exact law_post (by kernel_rfl) (by kernel_rfl) (by kernel_rfl) Try.underlying4 rfl rfl hW' hb

theorem over : Rows.histGoodRow.holds Try.pinned (OpenSpec.ofChange Rows.histGoodSpec) :=
  OpenClaim.holds_of_wide 3 Try.f3 rfl rfl rfl rfl rfl rfl rfl ⟨rfl, rfl, rfl, rfl, rfl⟩ rfl rfl rfl rfl rfl (by kernel_rfl) Try.func3 (by kernel_rfl)
    (of_decide_eq_true (by kernel_rfl)) (by unfold Func.isWrapper; first | (rw [if_pos (by decide +kernel)]; kernel_rfl) | (rw [if_neg (by decide +kernel)]; exact ⟨rfl, rfl⟩))
    (fun os started H enc _ => lifted os started H enc)

theorem histGood_holds : Rows.HistGoodSaid := over
#print axioms histGood_holds
end Go.Proofs.Ytbaalaaoggplmaa
