/- Records of unlike keys may be put into a book in any order; of records of one key the last one counts. -/
import Derived.ChangeMaps5
import Derived.Test.YtbaalaaoggplmaaDoorRowD
import Derived.Test.YtbaalaaoggplmaaDoorLib1
import Derived.Test.YtbaalaaoggplmaaDoorLib2
import Derived.Test.YtbaalaaoggplmaaDoorBook18D
set_option linter.unusedVariables false
set_option maxHeartbeats 0
namespace Go.Proofs.YtbaalaaoggplmaaDoor
open Go.ChangeShapes Go.WideShapes Go.ChangeAt Go.RowKit Go.Sl
set_option maxRecDepth 100000 in
theorem bookOrder_walk {H : Type} {enc : TypeId × Value → H} (W : World) (args : Array Value) (ds : List (DataW H)) (p : List MemPlace) {base : Nat} (hval : ∀ (j : Nat) t v, Tryd.f8.params[j]? = some t → args[j]? = some v → Value.okWide Tryd.prog W .any base t v)
    (hA : DataW.TrodAll enc Tryd.prog W 0 (fun _ => true) true Tryd.f8.params.toList args.toList ds p) (hL : laidMet Tryd.prog laid W) : (Calls Tryd.prog 8 args W fun e W' => e = .returned (.bool true) ∧ Below W.heap.size W W') ∧ ∃ d1 d2, ds = [d1, d2] := by
  rw [Tryd.params8] at hA hval
  obtain ⟨v0, v1, d0, d1, p0, p1, rfl, rfl, rfl, h0, h1⟩ := trodAll_two hA
  refine ⟨?_, _, _, rfl⟩
  obtain ⟨A, n, c, l, rfl, hn, hnc, hb, hsl⟩ := read_slice (ρ := RU) Tryd.underlying22 (by kernel_rfl) (rd_u8 Tryd.underlying5) (hval 0 22 v0 rfl rfl) h0
  obtain ⟨B, m, c2, o, rfl, hm, hmc, hb2, hsl2⟩ := read_sliceP (ρ := RU) Tryd.underlying22 (by kernel_rfl) (rd_u8 Tryd.underlying5) (hval 1 22 v1 rfl rfl) h1
  by_cases h : 12 < n ∨ m < n
  · exact (order_long A n c B m c2 h).law W (fun X hX => by
      obtain rfl : X = tabs 1 2 := by simpa using hX
      exact tabs_of hL)
  · have hmn : min m lim ≤ m := Nat.min_le_left _ _
    exact (order_does A n c l B m c2 (o.take (min m lim)) (min m lim) (by omega) (by unfold lim; omega) hmn hb (fun v hv => hb2 v (List.mem_of_mem_take hv))).law W (fun X hX => by
      rcases (by simpa using hX : X = tabs 1 2 ∨ X = slAt RU A n l ∨ X = slAt RU B (min m lim) (o.take (min m lim))) with rfl | rfl | rfl
      · exact tabs_of hL
      · exact hsl (by unfold lim; omega)
      · exact hsl2 _ hmn (Nat.min_le_right _ _))
set_option maxRecDepth 100000 in
theorem bookOrder_lifted (os : Os) (started : os.Started) (H : Type) (enc : TypeId × Value → H) (F : Stop.Interp) :
    ReturnsInHanded {} Tryd.checked os 8 .any ((OpenSpec.ofChange Rows.bookOrderSpec).preRow enc Tryd.prog Tryd.f8 Rows.bookOrderRow.domain false Rows.bookOrderRow.laid) (((OpenSpec.ofChange Rows.bookOrderSpec).at F).post enc Tryd.prog Tryd.f8 false true false false) := by
  refine returnsInHanded_of_row (C := Tryd.checked) (s := OpenSpec.ofChange Rows.bookOrderSpec) own started (by kernel_rfl) Tryd.func8
    (witness_row_atRef (enc := enc) (C := Tryd.checked) false (laidWorld os) #[.slice none 0 0, .slice none 0 0] rfl (by kernel_rfl) (by kernel_rfl) (by kernel_rfl) ?_) ?_
  · have hw : (DataW.whole enc Tryd.prog ((laidWorld os).forCall (fun _ _ => 0) ⟨#[], #[.slice none 0 0, .slice none 0 0], []⟩).memory Tryd.f8.params.toList (OpenSpec.ofChange Rows.bookOrderSpec).vars false (#[.slice none 0 0, .slice none 0 0] : Array Value).toList 8).map (fun x => (x.1, x.2.1)) =
        some ([.nil, .nil], []) := by kernel_rfl
    obtain ⟨⟨x1, x2, x3⟩, hx, hx1⟩ := Option.map_eq_some_iff.1 hw
    simp only [Prod.mk.injEq] at hx1
    obtain ⟨rfl, rfl⟩ := hx1
    exact OpenSpec.preRow_of_cond 8 hx (by kernel_rfl) (fun k hk => by cases hk) (by kernel_rfl) (laid_met os _)
  · intro W base args ds gs before hval0 hW _ _ _ hL _ _
    have hval : ∀ (j : Nat) t v, Tryd.f8.params[j]? = some t → args[j]? = some v → Value.okWide Tryd.prog W .any base t v := hval0
    have hW' := hW
    obtain ⟨p, q, hA0, hV, rfl, hfz, hnd⟩ := hW
    have hA : DataW.TrodAll enc Tryd.prog W 0 (fun _ => true) true Tryd.f8.params.toList args.toList ds p := hA0
    obtain ⟨rfl, rfl⟩ := trodVars_none hV
    obtain ⟨hc, d1, d2, rfl⟩ := bookOrder_walk W args ds p hval hA hL
    refine hc.mono fun e W' ⟨he, hb⟩ => ⟨_, he, ?_⟩
    exact law_post (s := Rows.bookOrderSpec) (by kernel_rfl) (by kernel_rfl) (by kernel_rfl) Tryd.underlying4 rfl rfl hW' hb
theorem bookOrder_row : Rows.BookOrderSaid :=
  OpenClaim.holds_of_cond 8 Tryd.f8 rfl rfl rfl rfl rfl rfl rfl ⟨rfl, rfl, rfl, rfl, rfl⟩ rfl rfl rfl rfl rfl (by kernel_rfl) Tryd.func8 (by kernel_rfl)
    (of_decide_eq_true (by kernel_rfl)) (by unfold Func.isWrapper; rw [if_neg (of_decide_eq_false (by kernel_rfl))]; exact ⟨rfl, rfl⟩)
    (fun os started H enc _ F0 => by rw [OpenClaim.pre_eq_preRow]; exact bookOrder_lifted os started H enc F0)
theorem bookOrder_holds : Rows.BookOrderCardSaid :=
  Claim7.holds_tied_plain_at .later [] [.data, .pinned] true (true, "4ce643163110817c14fcf33181f891fcfcbfcf6555c67e67dc478374c4817ef3") true
    bookOrder_row (fun _ h => by cases h) (by kernel_rfl) (fun _ h => by cases h) bookOrder_row_tie rfl ⟨rfl, rfl⟩ (by kernel_rfl) rfl
    (fun f fn hf hfn => by
      obtain rfl : f = 8 := Option.some.inj ((show Tryd.prog.funcNamed "landau/landaulaw15.BookOrder" = some 8 by kernel_rfl).symm.trans hf) |>.symm
      obtain rfl : fn = Tryd.f8 := (Option.some.inj (Tryd.func8.symm.trans hfn)).symm
      exact ⟨by kernel_rfl, fun j t ht => by
        have hall : (Tryd.f8.params.toList.all fun u => !Tryd.prog.wantsStandIn u) = true := by kernel_rfl
        have hm : t ∈ Tryd.f8.params.toList := by simpa using Array.mem_of_getElem? ht
        exact (show Tryd.prog.wantsStandIn t = false by simpa using List.all_eq_true.1 hall t hm)⟩)
    (by kernel_rfl)
#print axioms bookOrder_holds
end Go.Proofs.YtbaalaaoggplmaaDoor
