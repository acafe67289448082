/- A part of a proof: what functions of the program compute. -/
import Derived.Test.YtmbfcjffjgecjaaGreatDoorRowE
import Derived.Test.YtmbfcjffjgecjaaGreatDoorLib1
import Derived.Test.YtmbfcjffjgecjaaGreatDoorMod6E
set_option linter.unusedVariables false
set_option maxHeartbeats 0
namespace Go.Proofs.YtmbfcjffjgecjaaGreatDoor
open Go.ChangeShapes Go.WideShapes Go.ChangeAt Go.RowKit Go.Sl
set_option maxRecDepth 100000 in
theorem modelLogs_walk {H : Type} {enc : TypeId × Value → H} (W : World) (args : Array Value) (ds : List (DataW H)) (p : List MemPlace) {base : Nat} (hval : ∀ (j : Nat) t v, Tryz.f4.params[j]? = some t → args[j]? = some v → Value.okWide Tryz.prog W .any base t v)
    (hA : DataW.TrodAll enc Tryz.prog W 0 (fun _ => true) true Tryz.f4.params.toList args.toList ds p) (hL : laidMet Tryz.prog laid W) (hSh : W.ShapedOpen Tryz.prog) : (Calls Tryz.prog 4 args W fun e W' => e = .returned (.bool true) ∧ Below W.heap.size W W') ∧ ∃ d1 d2 d3 d4, ds = [d1, d2, d3, d4] := by
  rw [Tryz.params4] at hA hval
  obtain ⟨v0, r0, d0, s0, p0, q0, hargs, rfl, rfl, h0, hrest⟩ := trodAll_cons hA
  obtain ⟨v1, r1, d1, s1, p1, q1, rfl, rfl, rfl, h1, hrest⟩ := trodAll_cons hrest
  obtain ⟨v2, r2, d2, s2, p2, q2, rfl, rfl, rfl, h2, hrest⟩ := trodAll_cons hrest
  obtain ⟨v3, r3, d3, s3, p3, q3, rfl, rfl, rfl, h3, hrest⟩ := trodAll_cons hrest
  obtain ⟨rfl, rfl, rfl⟩ := trodAll_nil hrest
  obtain rfl : args = #[v0, v1, v2, v3] := by cases args; simp_all
  refine ⟨?_, _, _, _, _, rfl⟩
  obtain ⟨A, n, c, l, rfl, hn, hnc, hb, hsl⟩ := read_slice (ρ := RU) Tryz.underlying22 (by kernel_rfl) (rd_u8 Tryz.underlying5) (hval 0 22 v0 rfl rfl) h0
  obtain ⟨B, m, e, k, rfl, hm, hme, hbk, hsl2⟩ := read_slice (ρ := RU) Tryz.underlying22 (by kernel_rfl) (rd_u8 Tryz.underlying5) (hval 1 22 v1 rfl rfl) h1
  obtain ⟨k2, rfl, rfl, rfl, w2⟩ := open_int Tryz.underlying5 (hval 2 5 v2 rfl rfl) h2
  obtain ⟨k3, rfl, rfl, rfl, w3⟩ := open_int Tryz.underlying5 (hval 3 5 v3 rfl rfl) h3
  have b2 := bounds_u8 w2
  have b3 := bounds_u8 w3
  obtain ⟨y, rfl⟩ := Int.eq_ofNat_of_zero_le b2.1
  obtain ⟨s, rfl⟩ := Int.eq_ofNat_of_zero_le b3.1
  by_cases ha : n ≤ 60
  · by_cases hc : m ≤ 60
    · exact (mlogsL_does A B n c m e y s l k (by omega) (by omega) ha hb hc hbk).law W (fun X hX => by
        rcases (by simpa using hX : X = libA ∨ X = tabs 4 5 ∨ X = slAt RU A n l ∨ X = slAt RU B m k) with rfl | rfl | rfl | rfl
        · exact lib_of hL hSh
        · exact tabs_of hL
        · exact hsl (by unfold lim; omega)
        · exact hsl2 (by unfold lim; omega))
    · exact (mlogsL_a A B n c m e y s l (by omega) (by omega) ha hb (by omega)).law W (fun X hX => by
        rcases (by simpa using hX : X = libA ∨ X = tabs 4 5 ∨ X = slAt RU A n l) with rfl | rfl | rfl
        · exact lib_of hL hSh
        · exact tabs_of hL
        · exact hsl (by unfold lim; omega))
  · by_cases hc : m ≤ 60
    · exact (mlogsL_b A B n c m e y s k (by omega) (by omega) hc hbk).law W (fun X hX => by
        rcases (by simpa using hX : X = libA ∨ X = tabs 4 5 ∨ X = slAt RU B m k) with rfl | rfl | rfl
        · exact lib_of hL hSh
        · exact tabs_of hL
        · exact hsl2 (by unfold lim; omega))
    · exact (mlogsL_long A B n c m e y s (by omega) (by omega) (by omega)).law W (fun X hX => by
        rcases (by simpa using hX : X = libA ∨ X = tabs 4 5) with rfl | rfl
        · exact lib_of hL hSh
        · exact tabs_of hL)
set_option maxRecDepth 100000 in
theorem modelLogs_lifted (os : Os) (started : os.Started) (H : Type) (enc : TypeId × Value → H) (F : Stop.Interp) :
    ReturnsInHanded {} Tryz.checked os 4 .any ((OpenSpec.ofChange Rows.modelLogsSpec).preRow enc Tryz.prog Tryz.f4 Rows.modelLogsRow.domain false Rows.modelLogsRow.laid) (((OpenSpec.ofChange Rows.modelLogsSpec).at F).post enc Tryz.prog Tryz.f4 false true false false) := by
  refine returnsInHanded_of_row (C := Tryz.checked) (s := OpenSpec.ofChange Rows.modelLogsSpec) own started (by kernel_rfl) Tryz.func4
    (witness_row_atRef (enc := enc) (C := Tryz.checked) false (laidWorld os) #[.slice none 0 0, .slice none 0 0, .int .u8 0, .int .u8 0] rfl (by kernel_rfl) (by kernel_rfl) (by kernel_rfl) ?_) ?_
  · have hw : (DataW.whole enc Tryz.prog ((laidWorld os).forCall (fun _ _ => 0) ⟨#[], #[.slice none 0 0, .slice none 0 0, .int .u8 0, .int .u8 0], []⟩).memory Tryz.f4.params.toList (OpenSpec.ofChange Rows.modelLogsSpec).vars false (#[.slice none 0 0, .slice none 0 0, .int .u8 0, .int .u8 0] : Array Value).toList 8).map (fun x => (x.1, x.2.1)) =
        some ([.nil, .nil, .lit (.int .u8 0), .lit (.int .u8 0)], []) := by kernel_rfl
    obtain ⟨⟨x1, x2, x3⟩, hx, hx1⟩ := Option.map_eq_some_iff.1 hw
    simp only [Prod.mk.injEq] at hx1
    obtain ⟨rfl, rfl⟩ := hx1
    exact OpenSpec.preRow_of_cond 8 hx (by kernel_rfl) (fun k hk => by cases hk) (by kernel_rfl) (laid_met os _)
  · intro W base args ds gs before hval0 hW _ _ _ hL hSh _
    have hval : ∀ (j : Nat) t v, Tryz.f4.params[j]? = some t → args[j]? = some v → Value.okWide Tryz.prog W .any base t v := hval0
    have hW' := hW
    obtain ⟨p, q, hA0, hV, rfl, hfz, hnd⟩ := hW
    have hA : DataW.TrodAll enc Tryz.prog W 0 (fun _ => true) true Tryz.f4.params.toList args.toList ds p := hA0
    obtain ⟨rfl, rfl⟩ := trodVars_none hV
    obtain ⟨hc, d1, d2, d3, d4, rfl⟩ := modelLogs_walk W args ds p hval hA hL hSh
    refine hc.mono fun e W' ⟨he, hb⟩ => ⟨_, he, ?_⟩
    exact law_post (s := Rows.modelLogsSpec) (by kernel_rfl) (by kernel_rfl) (by kernel_rfl) Tryz.underlying4 rfl rfl hW' hb
end Go.Proofs.YtmbfcjffjgecjaaGreatDoor
