/- A slot is written once: what was first there stays. -/
import Derived.Test.YtmbfcjffjgecjaaGreatDoorRowE
import Derived.Test.YtmbfcjffjgecjaaGreatDoorLib1
import Derived.Test.YtmbfcjffjgecjaaGreatDoorSeg9E
set_option linter.unusedVariables false
set_option maxHeartbeats 0
namespace Go.Proofs.YtmbfcjffjgecjaaGreatDoor
open Go.ChangeShapes Go.WideShapes Go.ChangeAt Go.RowKit Go.Sl
set_option maxRecDepth 100000 in
theorem segOnce_walk {H : Type} {enc : TypeId × Value → H} (W : World) (args : Array Value) (ds : List (DataW H)) (p : List MemPlace) {base : Nat} (hval : ∀ (j : Nat) t v, Tryz.f6.params[j]? = some t → args[j]? = some v → Value.okWide Tryz.prog W .any base t v)
    (hA : DataW.TrodAll enc Tryz.prog W 0 (fun _ => true) true Tryz.f6.params.toList args.toList ds p) (hL : laidMet Tryz.prog laid W) (hSh : W.ShapedOpen Tryz.prog) : (Calls Tryz.prog 6 args W fun e W' => e = .returned (.bool true) ∧ Below W.heap.size W W') ∧ ∃ d1, ds = [d1] := by
  rw [Tryz.params6] at hA hval
  obtain ⟨v0, d0, rfl, rfl, h0⟩ := trodAll_one hA
  refine ⟨?_, _, rfl⟩
  obtain ⟨A, n, c, l, rfl, hn, hnc, hb, hsl⟩ := read_slice (ρ := RU) Tryz.underlying22 (by kernel_rfl) (rd_u8 Tryz.underlying5) (hval 0 22 v0 rfl rfl) h0
  by_cases hlim : n ≤ lim
  · exact (segonce_does A n c l hb).law W (fun X hX => by
      rcases (by simpa using hX : X = libA ∨ X = tabs 4 5 ∨ X = slAt RU A n l) with rfl | rfl | rfl
      · exact lib_of hL hSh
      · exact tabs_of hL
      · exact hsl hlim)
  · exact (segonce_long A n c (by unfold lim at hlim; omega)).law W (fun X hX => by
      rcases (by simpa using hX : X = libA ∨ X = tabs 4 5) with rfl | rfl
      · exact lib_of hL hSh
      · exact tabs_of hL)
set_option maxRecDepth 100000 in
theorem segOnce_lifted (os : Os) (started : os.Started) (H : Type) (enc : TypeId × Value → H) (F : Stop.Interp) :
    ReturnsInHanded {} Tryz.checked os 6 .any ((OpenSpec.ofChange Rows.segOnceSpec).preRow enc Tryz.prog Tryz.f6 Rows.segOnceRow.domain false Rows.segOnceRow.laid) (((OpenSpec.ofChange Rows.segOnceSpec).at F).post enc Tryz.prog Tryz.f6 false true false false) := by
  refine returnsInHanded_of_row (C := Tryz.checked) (s := OpenSpec.ofChange Rows.segOnceSpec) own started (by kernel_rfl) Tryz.func6
    (witness_row_atRef (enc := enc) (C := Tryz.checked) false (laidWorld os) #[.slice none 0 0] rfl (by kernel_rfl) (by kernel_rfl) (by kernel_rfl) ?_) ?_
  · have hw : (DataW.whole enc Tryz.prog ((laidWorld os).forCall (fun _ _ => 0) ⟨#[], #[.slice none 0 0], []⟩).memory Tryz.f6.params.toList (OpenSpec.ofChange Rows.segOnceSpec).vars false (#[.slice none 0 0] : Array Value).toList 8).map (fun x => (x.1, x.2.1)) =
        some ([.nil], []) := by kernel_rfl
    obtain ⟨⟨x1, x2, x3⟩, hx, hx1⟩ := Option.map_eq_some_iff.1 hw
    simp only [Prod.mk.injEq] at hx1
    obtain ⟨rfl, rfl⟩ := hx1
    exact OpenSpec.preRow_of_cond 8 hx (by kernel_rfl) (fun k hk => by cases hk) (by kernel_rfl) (laid_met os _)
  · intro W base args ds gs before hval0 hW _ _ _ hL hSh _
    have hval : ∀ (j : Nat) t v, Tryz.f6.params[j]? = some t → args[j]? = some v → Value.okWide Tryz.prog W .any base t v := hval0
    have hW' := hW
    obtain ⟨p, q, hA0, hV, rfl, hfz, hnd⟩ := hW
    have hA : DataW.TrodAll enc Tryz.prog W 0 (fun _ => true) true Tryz.f6.params.toList args.toList ds p := hA0
    obtain ⟨rfl, rfl⟩ := trodVars_none hV
    obtain ⟨hc, d1, rfl⟩ := segOnce_walk W args ds p hval hA hL hSh
    refine hc.mono fun e W' ⟨he, hb⟩ => ⟨_, he, ?_⟩
    exact law_post (s := Rows.segOnceSpec) (by kernel_rfl) (by kernel_rfl) (by kernel_rfl) Tryz.underlying4 rfl rfl hW' hb
theorem segOnce_row : Rows.SegOnceSaid :=
  OpenClaim.holds_of_cond 6 Tryz.f6 rfl rfl rfl rfl rfl rfl rfl ⟨rfl, rfl, rfl, rfl, rfl⟩ rfl rfl rfl rfl rfl (by kernel_rfl) Tryz.func6 (by kernel_rfl)
    (of_decide_eq_true (by kernel_rfl)) (by unfold Func.isWrapper; rw [if_neg (of_decide_eq_false (by kernel_rfl))]; exact ⟨rfl, rfl⟩)
    (fun os started H enc _ F0 => by rw [OpenClaim.pre_eq_preRow]; exact segOnce_lifted os started H enc F0)
theorem segOnce_holds : Rows.SegOnceCardSaid :=
  Claim7.holds_tied_plain_at .later [] [.data, .data, .data, .data, .sentinel, .sentinel, .pinned] true (true, "c96fe51edf8981d665a7b4301708648cbed3b1d17d290cbb40759b4b0781c3cf") true
    segOnce_row (fun _ h => by cases h) (by kernel_rfl) (fun _ h => by cases h) segOnce_row_tie rfl ⟨rfl, rfl⟩ (by kernel_rfl) rfl
    (fun f fn hf hfn => by
      obtain rfl : f = 6 := Option.some.inj ((show Tryz.prog.funcNamed "landau/landaulaw4.SegOnce" = some 6 by kernel_rfl).symm.trans hf) |>.symm
      obtain rfl : fn = Tryz.f6 := (Option.some.inj (Tryz.func6.symm.trans hfn)).symm
      exact ⟨by kernel_rfl, fun j t ht => by
        have hall : (Tryz.f6.params.toList.all fun u => !Tryz.prog.wantsStandIn u) = true := by kernel_rfl
        have hm : t ∈ Tryz.f6.params.toList := by simpa using Array.mem_of_getElem? ht
        exact (show Tryz.prog.wantsStandIn t = false by simpa using List.all_eq_true.1 hall t hm)⟩)
    (by kernel_rfl)
#print axioms segOnce_holds
end Go.Proofs.YtmbfcjffjgecjaaGreatDoor
