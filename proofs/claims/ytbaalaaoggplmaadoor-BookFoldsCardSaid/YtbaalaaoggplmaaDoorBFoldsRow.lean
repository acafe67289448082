/- A book into which any records are put, one by one or all by a range, holds for each key what the last of its records says. -/
import Derived.ChangeMaps5
import Derived.Test.YtbaalaaoggplmaaDoorRowD
import Derived.Test.YtbaalaaoggplmaaDoorLib1
import Derived.Test.YtbaalaaoggplmaaDoorLib2
import Derived.Test.YtbaalaaoggplmaaDoorBook17D
set_option linter.unusedVariables false
set_option maxHeartbeats 0
namespace Go.Proofs.YtbaalaaoggplmaaDoor
open Go.ChangeShapes Go.WideShapes Go.ChangeAt Go.RowKit Go.Sl
set_option maxRecDepth 100000 in
theorem bookFolds_walk {H : Type} {enc : TypeId × Value → H} (W : World) (args : Array Value) (ds : List (DataW H)) (p : List MemPlace) {base : Nat} (hval : ∀ (j : Nat) t v, Tryd.f9.params[j]? = some t → args[j]? = some v → Value.okWide Tryd.prog W .any base t v)
    (hA : DataW.TrodAll enc Tryd.prog W 0 (fun _ => true) true Tryd.f9.params.toList args.toList ds p) (hL : laidMet Tryd.prog laid W) : (Calls Tryd.prog 9 args W fun e W' => e = .returned (.bool true) ∧ Below W.heap.size W W') ∧ ∃ d1 d2 d3, ds = [d1, d2, d3] := by
  rw [Tryd.params9] at hA hval
  obtain ⟨v0, v1, v2, d0, d1, d2, p0, p1, p2, rfl, rfl, rfl, h0, h1, h2⟩ := trodAll_three hA
  refine ⟨?_, _, _, _, rfl⟩
  have hrec : Rd enc Tryd.prog W 32 RRecC (fun _ => True) := rd_rec Tryd.underlying32 (by kernel_rfl) rfl rfl rfl rfl rfl ⟨rfl, rfl⟩ ⟨rfl, rfl⟩ ⟨rfl, rfl⟩ ⟨rfl, rfl⟩ ⟨rfl, rfl⟩ (by kernel_rfl) (by kernel_rfl) (by kernel_rfl) Tryd.underlying3 Tryd.underlying30 Tryd.underlying3 (by kernel_rfl) Tryd.underlying9
  have hcl : Rd enc Tryd.prog W 86 RCl (fun _ => True) := rd_cl Tryd.underlying86 (by kernel_rfl) rfl rfl rfl rfl ⟨rfl, rfl⟩ ⟨rfl, rfl⟩ ⟨rfl, rfl⟩ ⟨rfl, rfl⟩ (by kernel_rfl) (by kernel_rfl) Tryd.underlying3 Tryd.underlying9
  obtain ⟨A, n, c, b, rfl, hn, hnc, hb, hsl⟩ := read_slice (ρ := RCl) Tryd.underlying67 (by kernel_rfl) hcl (hval 0 67 v0 rfl rfl) h0
  obtain ⟨B, m, c2, l, rfl, hm, hmc, hb2, hsl2⟩ := read_slice (ρ := RRecC) Tryd.underlying34 (by kernel_rfl) hrec (hval 1 34 v1 rfl rfl) h1
  obtain ⟨key, rfl, rfl, rfl, _⟩ := Go.ChangeMaps.open_string Tryd.underlying9 (hval 2 9 v2 rfl rfl) h2
  by_cases hlim : n ≤ lim
  · by_cases hlim2 : m ≤ lim
    · exact (folds_does A n c b B m c2 l key).law W (fun X hX => by
        rcases (by simpa using hX : X = tabs 1 2 ∨ X = slAt RCl A n b ∨ X = slAt RRecC B m l) with rfl | rfl | rfl
        · exact tabs_of hL
        · exact hsl hlim
        · exact hsl2 hlim2)
    · exact (folds_long2 A n c b B m c2 key (by unfold lim at hlim2; omega)).law W (fun X hX => by
        rcases (by simpa using hX : X = tabs 1 2 ∨ X = slAt RCl A n b) with rfl | rfl
        · exact tabs_of hL
        · exact hsl hlim)
  · exact (folds_long1 A n c B m c2 key (by unfold lim at hlim; omega)).law W (fun X hX => by
      obtain rfl : X = tabs 1 2 := by simpa using hX
      exact tabs_of hL)
set_option maxRecDepth 100000 in
theorem bookFolds_lifted (os : Os) (started : os.Started) (H : Type) (enc : TypeId × Value → H) (F : Stop.Interp) :
    ReturnsInHanded {} Tryd.checked os 9 .any ((OpenSpec.ofChange Rows.bookFoldsSpec).preRow enc Tryd.prog Tryd.f9 Rows.bookFoldsRow.domain false Rows.bookFoldsRow.laid) (((OpenSpec.ofChange Rows.bookFoldsSpec).at F).post enc Tryd.prog Tryd.f9 false true false false) := by
  refine returnsInHanded_of_row (C := Tryd.checked) (s := OpenSpec.ofChange Rows.bookFoldsSpec) own started (by kernel_rfl) Tryd.func9
    (witness_row_atRef (enc := enc) (C := Tryd.checked) false (laidWorld os) #[.slice none 0 0, .slice none 0 0, .string ⟨#[]⟩] rfl (by kernel_rfl) (by kernel_rfl) (by kernel_rfl) ?_) ?_
  · have hw : (DataW.whole enc Tryd.prog ((laidWorld os).forCall (fun _ _ => 0) ⟨#[], #[.slice none 0 0, .slice none 0 0, .string ⟨#[]⟩], []⟩).memory Tryd.f9.params.toList (OpenSpec.ofChange Rows.bookFoldsSpec).vars false (#[.slice none 0 0, .slice none 0 0, .string ⟨#[]⟩] : Array Value).toList 8).map (fun x => (x.1, x.2.1)) =
        some ([.nil, .nil, .lit (.string [])], []) := by kernel_rfl
    obtain ⟨⟨x1, x2, x3⟩, hx, hx1⟩ := Option.map_eq_some_iff.1 hw
    simp only [Prod.mk.injEq] at hx1
    obtain ⟨rfl, rfl⟩ := hx1
    exact OpenSpec.preRow_of_cond 8 hx (by kernel_rfl) (fun k hk => by cases hk) (by kernel_rfl) (laid_met os _)
  · intro W base args ds gs before hval0 hW _ _ _ hL _ _
    have hval : ∀ (j : Nat) t v, Tryd.f9.params[j]? = some t → args[j]? = some v → Value.okWide Tryd.prog W .any base t v := hval0
    have hW' := hW
    obtain ⟨p, q, hA0, hV, rfl, hfz, hnd⟩ := hW
    have hA : DataW.TrodAll enc Tryd.prog W 0 (fun _ => true) true Tryd.f9.params.toList args.toList ds p := hA0
    obtain ⟨rfl, rfl⟩ := trodVars_none hV
    obtain ⟨hc, d1, d2, d3, rfl⟩ := bookFolds_walk W args ds p hval hA hL
    refine hc.mono fun e W' ⟨he, hb⟩ => ⟨_, he, ?_⟩
    exact law_post (s := Rows.bookFoldsSpec) (by kernel_rfl) (by kernel_rfl) (by kernel_rfl) Tryd.underlying4 rfl rfl hW' hb
theorem bookFolds_row : Rows.BookFoldsSaid :=
  OpenClaim.holds_of_cond 9 Tryd.f9 rfl rfl rfl rfl rfl rfl rfl ⟨rfl, rfl, rfl, rfl, rfl⟩ rfl rfl rfl rfl rfl (by kernel_rfl) Tryd.func9 (by kernel_rfl)
    (of_decide_eq_true (by kernel_rfl)) (by unfold Func.isWrapper; rw [if_neg (of_decide_eq_false (by kernel_rfl))]; exact ⟨rfl, rfl⟩)
    (fun os started H enc _ F0 => by rw [OpenClaim.pre_eq_preRow]; exact bookFolds_lifted os started H enc F0)
theorem bookFolds_holds : Rows.BookFoldsCardSaid :=
  Claim7.holds_tied_plain_at .later [] [.data, .pinned] true (true, "4ce643163110817c14fcf33181f891fcfcbfcf6555c67e67dc478374c4817ef3") true
    bookFolds_row (fun _ h => by cases h) (by kernel_rfl) (fun _ h => by cases h) bookFolds_row_tie rfl ⟨rfl, rfl⟩ (by kernel_rfl) rfl
    (fun f fn hf hfn => by
      obtain rfl : f = 9 := Option.some.inj ((show Tryd.prog.funcNamed "landau/landaulaw15.BookFolds" = some 9 by kernel_rfl).symm.trans hf) |>.symm
      obtain rfl : fn = Tryd.f9 := (Option.some.inj (Tryd.func9.symm.trans hfn)).symm
      exact ⟨by kernel_rfl, fun j t ht => by
        have hall : (Tryd.f9.params.toList.all fun u => !Tryd.prog.wantsStandIn u) = true := by kernel_rfl
        have hm : t ∈ Tryd.f9.params.toList := by simpa using Array.mem_of_getElem? ht
        exact (show Tryd.prog.wantsStandIn t = false by simpa using List.all_eq_true.1 hall t hm)⟩)
    (by kernel_rfl)
#print axioms bookFolds_holds
end Go.Proofs.YtbaalaaoggplmaaDoor
