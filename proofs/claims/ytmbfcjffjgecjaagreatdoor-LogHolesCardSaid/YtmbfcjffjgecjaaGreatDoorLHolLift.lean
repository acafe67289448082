/- A part of a proof: what functions of the program compute. -/
import Derived.Test.YtmbfcjffjgecjaaGreatDoorLogAll
import Derived.Test.YtmbfcjffjgecjaaGreatDoorLog21E
set_option linter.unusedVariables false
set_option maxHeartbeats 0
namespace Go.Proofs.YtmbfcjffjgecjaaGreatDoor
open Go.ChangeShapes Go.WideShapes Go.ChangeAt Go.RowKit Go.Sl
set_option maxRecDepth 100000 in
theorem logHoles_walk {H : Type} {enc : TypeId × Value → H} (W : World) (args : Array Value) (ds : List (DataW H)) (p : List MemPlace) {base : Nat} (hval : ∀ (j : Nat) t v, Tryz.f14.params[j]? = some t → args[j]? = some v → Value.okWide Tryz.prog W .any base t v)
    (hA : DataW.TrodAll enc Tryz.prog W 0 (fun _ => true) true Tryz.f14.params.toList args.toList ds p) (hL : laidMet Tryz.prog laid W) (hSh : W.ShapedOpen Tryz.prog) : (Calls Tryz.prog 14 args W fun e W' => e = .returned (.bool true) ∧ Below W.heap.size W W') ∧ ∃ d1 d2 d3, ds = [d1, d2, d3] := by
  rw [Tryz.params14] at hA hval
  obtain ⟨v0, v1, v2, d0, d1, d2, p0, p1, p2, rfl, rfl, rfl, h0, h1, h2⟩ := trodAll_three hA
  refine ⟨?_, _, _, _, rfl⟩
  obtain ⟨k0, rfl, rfl, rfl, w0⟩ := open_int Tryz.underlying5 (hval 0 5 v0 rfl rfl) h0
  obtain ⟨k1, rfl, rfl, rfl, w1⟩ := open_int Tryz.underlying5 (hval 1 5 v1 rfl rfl) h1
  obtain ⟨k2, rfl, rfl, rfl, w2⟩ := open_int Tryz.underlying5 (hval 2 5 v2 rfl rfl) h2
  have b0 := bounds_u8 w0
  have b1 := bounds_u8 w1
  have b2 := bounds_u8 w2
  obtain ⟨n0, rfl⟩ := Int.eq_ofNat_of_zero_le b0.1
  obtain ⟨n1, rfl⟩ := Int.eq_ofNat_of_zero_le b1.1
  obtain ⟨n2, rfl⟩ := Int.eq_ofNat_of_zero_le b2.1
  exact (lholes_does n0 n1 n2 (by omega) (by omega) (by omega)).law W (fun X hX => by
    rcases (by simpa using hX : X = libA ∨ X = tabs 4 5) with rfl | rfl
    · exact lib_of hL hSh
    · exact tabs_of hL)
set_option maxRecDepth 100000 in
theorem logHoles_lifted (os : Os) (started : os.Started) (H : Type) (enc : TypeId × Value → H) (F : Stop.Interp) :
    ReturnsInHanded {} Tryz.checked os 14 .any ((OpenSpec.ofChange Rows.logHolesSpec).preRow enc Tryz.prog Tryz.f14 Rows.logHolesRow.domain false Rows.logHolesRow.laid) (((OpenSpec.ofChange Rows.logHolesSpec).at F).post enc Tryz.prog Tryz.f14 false true false false) := by
  refine returnsInHanded_of_row (C := Tryz.checked) (s := OpenSpec.ofChange Rows.logHolesSpec) own started (by kernel_rfl) Tryz.func14
    (witness_row_atRef (enc := enc) (C := Tryz.checked) false (laidWorld os) #[.int .u8 0, .int .u8 0, .int .u8 0] rfl (by kernel_rfl) (by kernel_rfl) (by kernel_rfl) ?_) ?_
  · have hw : (DataW.whole enc Tryz.prog ((laidWorld os).forCall (fun _ _ => 0) ⟨#[], #[.int .u8 0, .int .u8 0, .int .u8 0], []⟩).memory Tryz.f14.params.toList (OpenSpec.ofChange Rows.logHolesSpec).vars false (#[.int .u8 0, .int .u8 0, .int .u8 0] : Array Value).toList 8).map (fun x => (x.1, x.2.1)) =
        some ([.lit (.int .u8 0), .lit (.int .u8 0), .lit (.int .u8 0)], []) := by kernel_rfl
    obtain ⟨⟨x1, x2, x3⟩, hx, hx1⟩ := Option.map_eq_some_iff.1 hw
    simp only [Prod.mk.injEq] at hx1
    obtain ⟨rfl, rfl⟩ := hx1
    exact OpenSpec.preRow_of_cond 8 hx (by kernel_rfl) (fun k hk => by cases hk) (by kernel_rfl) (laid_met os _)
  · intro W base args ds gs before hval0 hW _ _ _ hL hSh _
    have hval : ∀ (j : Nat) t v, Tryz.f14.params[j]? = some t → args[j]? = some v → Value.okWide Tryz.prog W .any base t v := hval0
    have hW' := hW
    obtain ⟨p, q, hA0, hV, rfl, hfz, hnd⟩ := hW
    have hA : DataW.TrodAll enc Tryz.prog W 0 (fun _ => true) true Tryz.f14.params.toList args.toList ds p := hA0
    obtain ⟨rfl, rfl⟩ := trodVars_none hV
    obtain ⟨hc, d1, d2, d3, rfl⟩ := logHoles_walk W args ds p hval hA hL hSh
    refine hc.mono fun e W' ⟨he, hb⟩ => ⟨_, he, ?_⟩
    exact law_post (s := Rows.logHolesSpec) (by kernel_rfl) (by kernel_rfl) (by kernel_rfl) Tryz.underlying4 rfl rfl hW' hb
end Go.Proofs.YtmbfcjffjgecjaaGreatDoor
