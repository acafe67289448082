/- Records put into a book in two goes give the book that they give in one; for any records, wherever they are parted. -/
import Derived.ChangeMaps5
import Derived.Test.YtbaalaaoggplmaaDoorRowD
import Derived.Test.YtbaalaaoggplmaaDoorLib1
import Derived.Test.YtbaalaaoggplmaaDoorLib2
import Derived.Test.YtbaalaaoggplmaaDoorBook16D
set_option linter.unusedVariables false
set_option maxHeartbeats 0
namespace Go.Proofs.YtbaalaaoggplmaaDoor
open Go.ChangeShapes Go.WideShapes Go.ChangeAt Go.RowKit Go.Sl
set_option maxRecDepth 100000 in
theorem bookParts_walk {H : Type} {enc : TypeId × Value → H} (W : World) (args : Array Value) (ds : List (DataW H)) (p : List MemPlace) {base : Nat} (hval : ∀ (j : Nat) t v, Tryd.f10.params[j]? = some t → args[j]? = some v → Value.okWide Tryd.prog W .any base t v)
    (hA : DataW.TrodAll enc Tryd.prog W 0 (fun _ => true) true Tryd.f10.params.toList args.toList ds p) (hL : laidMet Tryd.prog laid W) : (Calls Tryd.prog 10 args W fun e W' => e = .returned (.bool true) ∧ Below W.heap.size W W') ∧ ∃ d1 d2, ds = [d1, d2] := by
  rw [Tryd.params10] at hA hval
  obtain ⟨v0, v1, d0, d1, p0, p1, rfl, rfl, rfl, h0, h1⟩ := trodAll_two hA
  refine ⟨?_, _, _, rfl⟩
  have hrec : Rd enc Tryd.prog W 32 RRecC (fun _ => True) := rd_rec Tryd.underlying32 (by kernel_rfl) rfl rfl rfl rfl rfl ⟨rfl, rfl⟩ ⟨rfl, rfl⟩ ⟨rfl, rfl⟩ ⟨rfl, rfl⟩ ⟨rfl, rfl⟩ (by kernel_rfl) (by kernel_rfl) (by kernel_rfl) Tryd.underlying3 Tryd.underlying30 Tryd.underlying3 (by kernel_rfl) Tryd.underlying9
  obtain ⟨A, n, c, l, rfl, hn, hnc, hb, hsl⟩ := read_slice (ρ := RRecC) Tryd.underlying34 (by kernel_rfl) hrec (hval 0 34 v0 rfl rfl) h0
  obtain ⟨k, rfl, rfl, rfl, w1⟩ := open_int Tryd.underlying5 (hval 1 5 v1 rfl rfl) h1
  by_cases hlim : n ≤ lim
  · exact (parts_does A n c l k (bounds_u8 w1) hnc).law W (fun X hX => by
      rcases (by simpa using hX : X = tabs 1 2 ∨ X = slAt RRecC A n l) with rfl | rfl
      · exact tabs_of hL
      · exact hsl hlim)
  · exact (parts_long A n c k (by unfold lim at hlim; omega)).law W (fun X hX => by
      obtain rfl : X = tabs 1 2 := by simpa using hX
      exact tabs_of hL)
set_option maxRecDepth 100000 in
theorem bookParts_lifted (os : Os) (started : os.Started) (H : Type) (enc : TypeId × Value → H) (F : Stop.Interp) :
    ReturnsInHanded {} Tryd.checked os 10 .any ((OpenSpec.ofChange Rows.bookPartsSpec).preRow enc Tryd.prog Tryd.f10 Rows.bookPartsRow.domain false Rows.bookPartsRow.laid) (((OpenSpec.ofChange Rows.bookPartsSpec).at F).post enc Tryd.prog Tryd.f10 false true false false) := by
  refine returnsInHanded_of_row (C := Tryd.checked) (s := OpenSpec.ofChange Rows.bookPartsSpec) own started (by kernel_rfl) Tryd.func10
    (witness_row_atRef (enc := enc) (C := Tryd.checked) false (laidWorld os) #[.slice none 0 0, .int .u8 0] rfl (by kernel_rfl) (by kernel_rfl) (by kernel_rfl) ?_) ?_
  · have hw : (DataW.whole enc Tryd.prog ((laidWorld os).forCall (fun _ _ => 0) ⟨#[], #[.slice none 0 0, .int .u8 0], []⟩).memory Tryd.f10.params.toList (OpenSpec.ofChange Rows.bookPartsSpec).vars false (#[.slice none 0 0, .int .u8 0] : Array Value).toList 8).map (fun x => (x.1, x.2.1)) =
        some ([.nil, .lit (.int .u8 0)], []) := by kernel_rfl
    obtain ⟨⟨x1, x2, x3⟩, hx, hx1⟩ := Option.map_eq_some_iff.1 hw
    simp only [Prod.mk.injEq] at hx1
    obtain ⟨rfl, rfl⟩ := hx1
    exact OpenSpec.preRow_of_cond 8 hx (by kernel_rfl) (fun k hk => by cases hk) (by kernel_rfl) (laid_met os _)
  · intro W base args ds gs before hval0 hW _ _ _ hL _ _
    have hval : ∀ (j : Nat) t v, Tryd.f10.params[j]? = some t → args[j]? = some v → Value.okWide Tryd.prog W .any base t v := hval0
    have hW' := hW
    obtain ⟨p, q, hA0, hV, rfl, hfz, hnd⟩ := hW
    have hA : DataW.TrodAll enc Tryd.prog W 0 (fun _ => true) true Tryd.f10.params.toList args.toList ds p := hA0
    obtain ⟨rfl, rfl⟩ := trodVars_none hV
    obtain ⟨hc, d1, d2, rfl⟩ := bookParts_walk W args ds p hval hA hL
    refine hc.mono fun e W' ⟨he, hb⟩ => ⟨_, he, ?_⟩
    exact law_post (s := Rows.bookPartsSpec) (by kernel_rfl) (by kernel_rfl) (by kernel_rfl) Tryd.underlying4 rfl rfl hW' hb
theorem bookParts_row : Rows.BookPartsSaid :=
  OpenClaim.holds_of_cond 10 Tryd.f10 rfl rfl rfl rfl rfl rfl rfl ⟨rfl, rfl, rfl, rfl, rfl⟩ rfl rfl rfl rfl rfl (by kernel_rfl) Tryd.func10 (by kernel_rfl)
    (of_decide_eq_true (by kernel_rfl)) (by unfold Func.isWrapper; rw [if_neg (of_decide_eq_false (by kernel_rfl))]; exact ⟨rfl, rfl⟩)
    (fun os started H enc _ F0 => by rw [OpenClaim.pre_eq_preRow]; exact bookParts_lifted os started H enc F0)
theorem bookParts_holds : Rows.BookPartsCardSaid :=
  Claim7.holds_tied_plain_at .later [] [.data, .pinned] true (true, "4ce643163110817c14fcf33181f891fcfcbfcf6555c67e67dc478374c4817ef3") true
    bookParts_row (fun _ h => by cases h) (by kernel_rfl) (fun _ h => by cases h) bookParts_row_tie rfl ⟨rfl, rfl⟩ (by kernel_rfl) rfl
    (fun f fn hf hfn => by
      obtain rfl : f = 10 := Option.some.inj ((show Tryd.prog.funcNamed "landau/landaulaw15.BookParts" = some 10 by kernel_rfl).symm.trans hf) |>.symm
      obtain rfl : fn = Tryd.f10 := (Option.some.inj (Tryd.func10.symm.trans hfn)).symm
      exact ⟨by kernel_rfl, fun j t ht => by
        have hall : (Tryd.f10.params.toList.all fun u => !Tryd.prog.wantsStandIn u) = true := by kernel_rfl
        have hm : t ∈ Tryd.f10.params.toList := by simpa using Array.mem_of_getElem? ht
        exact (show Tryd.prog.wantsStandIn t = false by simpa using List.all_eq_true.1 hall t hm)⟩)
    (by kernel_rfl)
#print axioms bookParts_holds
end Go.Proofs.YtbaalaaoggplmaaDoor
