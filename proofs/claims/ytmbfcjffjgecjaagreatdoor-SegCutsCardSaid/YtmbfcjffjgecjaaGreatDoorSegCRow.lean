/- What is cut, and what is trimmed, is gone, behind a fall too; what lies between is as it was. -/
import Derived.Test.YtmbfcjffjgecjaaGreatDoorRowE
import Derived.Test.YtmbfcjffjgecjaaGreatDoorLib1
import Derived.Test.YtmbfcjffjgecjaaGreatDoorSeg7E
set_option linter.unusedVariables false
set_option maxHeartbeats 0
namespace Go.Proofs.YtmbfcjffjgecjaaGreatDoor
open Go.ChangeShapes Go.WideShapes Go.ChangeAt Go.RowKit Go.Sl
set_option maxRecDepth 100000 in
theorem segCuts_walk {H : Type} {enc : TypeId × Value → H} (W : World) (args : Array Value) (ds : List (DataW H)) (p : List MemPlace) {base : Nat} (hval : ∀ (j : Nat) t v, Tryz.f8.params[j]? = some t → args[j]? = some v → Value.okWide Tryz.prog W .any base t v)
    (hA : DataW.TrodAll enc Tryz.prog W 0 (fun _ => true) true Tryz.f8.params.toList args.toList ds p) (hL : laidMet Tryz.prog laid W) (hSh : W.ShapedOpen Tryz.prog) : (Calls Tryz.prog 8 args W fun e W' => e = .returned (.bool true) ∧ Below W.heap.size W W') ∧ ∃ d1 d2 d3, ds = [d1, d2, d3] := by
  rw [Tryz.params8] at hA hval
  obtain ⟨v0, v1, v2, d0, d1, d2, p0, p1, p2, rfl, rfl, rfl, h0, h1, h2⟩ := trodAll_three hA
  refine ⟨?_, _, _, _, rfl⟩
  obtain ⟨k0, rfl, rfl, rfl, w0⟩ := open_int Tryz.underlying5 (hval 0 5 v0 rfl rfl) h0
  obtain ⟨k1, rfl, rfl, rfl, w1⟩ := open_int Tryz.underlying5 (hval 1 5 v1 rfl rfl) h1
  obtain ⟨k2, rfl, rfl, rfl, w2⟩ := open_int Tryz.underlying5 (hval 2 5 v2 rfl rfl) h2
  have b0 := bounds_u8 w0
  have b1 := bounds_u8 w1
  have b2 := bounds_u8 w2
  obtain ⟨n0, rfl⟩ := Int.eq_ofNat_of_zero_le b0.1
  obtain ⟨n1, rfl⟩ := Int.eq_ofNat_of_zero_le b1.1
  obtain ⟨n2, rfl⟩ := Int.eq_ofNat_of_zero_le b2.1
  exact (segcuts_does n0 n1 n2 (by omega) (by omega) (by omega)).law W (fun X hX => by
    rcases (by simpa using hX : X = libA ∨ X = tabs 4 5) with rfl | rfl
    · exact lib_of hL hSh
    · exact tabs_of hL)
set_option maxRecDepth 100000 in
theorem segCuts_lifted (os : Os) (started : os.Started) (H : Type) (enc : TypeId × Value → H) (F : Stop.Interp) :
    ReturnsInHanded {} Tryz.checked os 8 .any ((OpenSpec.ofChange Rows.segCutsSpec).preRow enc Tryz.prog Tryz.f8 Rows.segCutsRow.domain false Rows.segCutsRow.laid) (((OpenSpec.ofChange Rows.segCutsSpec).at F).post enc Tryz.prog Tryz.f8 false true false false) := by
  refine returnsInHanded_of_row (C := Tryz.checked) (s := OpenSpec.ofChange Rows.segCutsSpec) own started (by kernel_rfl) Tryz.func8
    (witness_row_atRef (enc := enc) (C := Tryz.checked) false (laidWorld os) #[.int .u8 0, .int .u8 0, .int .u8 0] rfl (by kernel_rfl) (by kernel_rfl) (by kernel_rfl) ?_) ?_
  · have hw : (DataW.whole enc Tryz.prog ((laidWorld os).forCall (fun _ _ => 0) ⟨#[], #[.int .u8 0, .int .u8 0, .int .u8 0], []⟩).memory Tryz.f8.params.toList (OpenSpec.ofChange Rows.segCutsSpec).vars false (#[.int .u8 0, .int .u8 0, .int .u8 0] : Array Value).toList 8).map (fun x => (x.1, x.2.1)) =
        some ([.lit (.int .u8 0), .lit (.int .u8 0), .lit (.int .u8 0)], []) := by kernel_rfl
    obtain ⟨⟨x1, x2, x3⟩, hx, hx1⟩ := Option.map_eq_some_iff.1 hw
    simp only [Prod.mk.injEq] at hx1
    obtain ⟨rfl, rfl⟩ := hx1
    exact OpenSpec.preRow_of_cond 8 hx (by kernel_rfl) (fun k hk => by cases hk) (by kernel_rfl) (laid_met os _)
  · intro W base args ds gs before hval0 hW _ _ _ hL hSh _
    have hval : ∀ (j : Nat) t v, Tryz.f8.params[j]? = some t → args[j]? = some v → Value.okWide Tryz.prog W .any base t v := hval0
    have hW' := hW
    obtain ⟨p, q, hA0, hV, rfl, hfz, hnd⟩ := hW
    have hA : DataW.TrodAll enc Tryz.prog W 0 (fun _ => true) true Tryz.f8.params.toList args.toList ds p := hA0
    obtain ⟨rfl, rfl⟩ := trodVars_none hV
    obtain ⟨hc, d1, d2, d3, rfl⟩ := segCuts_walk W args ds p hval hA hL hSh
    refine hc.mono fun e W' ⟨he, hb⟩ => ⟨_, he, ?_⟩
    exact law_post (s := Rows.segCutsSpec) (by kernel_rfl) (by kernel_rfl) (by kernel_rfl) Tryz.underlying4 rfl rfl hW' hb
theorem segCuts_row : Rows.SegCutsSaid :=
  OpenClaim.holds_of_cond 8 Tryz.f8 rfl rfl rfl rfl rfl rfl rfl ⟨rfl, rfl, rfl, rfl, rfl⟩ rfl rfl rfl rfl rfl (by kernel_rfl) Tryz.func8 (by kernel_rfl)
    (of_decide_eq_true (by kernel_rfl)) (by unfold Func.isWrapper; rw [if_neg (of_decide_eq_false (by kernel_rfl))]; exact ⟨rfl, rfl⟩)
    (fun os started H enc _ F0 => by rw [OpenClaim.pre_eq_preRow]; exact segCuts_lifted os started H enc F0)
theorem segCuts_holds : Rows.SegCutsCardSaid :=
  Claim7.holds_tied_plain_at .later [] [.data, .data, .data, .data, .sentinel, .sentinel, .pinned] true (true, "c96fe51edf8981d665a7b4301708648cbed3b1d17d290cbb40759b4b0781c3cf") true
    segCuts_row (fun _ h => by cases h) (by kernel_rfl) (fun _ h => by cases h) segCuts_row_tie rfl ⟨rfl, rfl⟩ (by kernel_rfl) rfl
    (fun f fn hf hfn => by
      obtain rfl : f = 8 := Option.some.inj ((show Tryz.prog.funcNamed "landau/landaulaw4.SegCuts" = some 8 by kernel_rfl).symm.trans hf) |>.symm
      obtain rfl : fn = Tryz.f8 := (Option.some.inj (Tryz.func8.symm.trans hfn)).symm
      exact ⟨by kernel_rfl, fun j t ht => by
        have hall : (Tryz.f8.params.toList.all fun u => !Tryz.prog.wantsStandIn u) = true := by kernel_rfl
        have hm : t ∈ Tryz.f8.params.toList := by simpa using Array.mem_of_getElem? ht
        exact (show Tryz.prog.wantsStandIn t = false by simpa using List.all_eq_true.1 hall t hm)⟩)
    (by kernel_rfl)
#print axioms segCuts_holds
end Go.Proofs.YtmbfcjffjgecjaaGreatDoor
