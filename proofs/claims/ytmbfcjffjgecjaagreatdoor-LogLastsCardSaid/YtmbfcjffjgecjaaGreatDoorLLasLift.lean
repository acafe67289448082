/- A part of a proof: what functions of the program compute. -/
import Derived.Test.YtmbfcjffjgecjaaGreatDoorLogAll
import Derived.Test.YtmbfcjffjgecjaaGreatDoorLog19E
set_option linter.unusedVariables false
set_option maxHeartbeats 0
namespace Go.Sl
open Go.ChangeShapes Go.WideShapes Go.RowKit
theorem rd_int {H : Type} {enc : TypeId × Value → H} {P : Program} {W : World} {t : TypeId} (ht : P.underlying t = some (.int .i64)) : Rd enc P W t RI (fun n => -9223372036854775808 ≤ n ∧ n ≤ 9223372036854775807) := fun fuel cs x h => by
  obtain ⟨n, rfl, _, hw⟩ := DataW.trod_int ht h
  refine ⟨n, (), ?_, rfl, trivial⟩
  simp only [Lit.wf, Bool.and_eq_true, decide_eq_true_eq] at hw
  simp [IntKind.min, IntKind.max, IntKind.bits, IntKind.signed] at hw
  omega
end Go.Sl
namespace Go.Proofs.YtmbfcjffjgecjaaGreatDoor
open Go.ChangeShapes Go.WideShapes Go.ChangeAt Go.RowKit Go.Sl
set_option maxRecDepth 100000 in
theorem logLasts_walk {H : Type} {enc : TypeId × Value → H} (W : World) (args : Array Value) (ds : List (DataW H)) (p : List MemPlace) {base : Nat} (hval : ∀ (j : Nat) t v, Tryz.f10.params[j]? = some t → args[j]? = some v → Value.okWide Tryz.prog W .any base t v)
    (hA : DataW.TrodAll enc Tryz.prog W 0 (fun _ => true) true Tryz.f10.params.toList args.toList ds p) (hL : laidMet Tryz.prog laid W) (hSh : W.ShapedOpen Tryz.prog) : (Calls Tryz.prog 10 args W fun e W' => e = .returned (.bool true) ∧ Below W.heap.size W W') ∧ ∃ d1 d2 d3 d4 d5, ds = [d1, d2, d3, d4, d5] := by
  rw [Tryz.params10] at hA hval
  obtain ⟨v0, r0, d0, s0, p0, q0, hargs, rfl, rfl, h0, hrest⟩ := trodAll_cons hA
  obtain ⟨v1, r1, d1, s1, p1, q1, rfl, rfl, rfl, h1, hrest⟩ := trodAll_cons hrest
  obtain ⟨v2, r2, d2, s2, p2, q2, rfl, rfl, rfl, h2, hrest⟩ := trodAll_cons hrest
  obtain ⟨v3, r3, d3, s3, p3, q3, rfl, rfl, rfl, h3, hrest⟩ := trodAll_cons hrest
  obtain ⟨v4, r4, d4, s4, p4, q4, rfl, rfl, rfl, h4, hrest⟩ := trodAll_cons hrest
  obtain ⟨rfl, rfl, rfl⟩ := trodAll_nil hrest
  obtain rfl : args = #[v0, v1, v2, v3, v4] := by cases args; simp_all
  refine ⟨?_, _, _, _, _, _, rfl⟩
  obtain ⟨k0, rfl, rfl, rfl, w0⟩ := open_int Tryz.underlying5 (hval 0 5 v0 rfl rfl) h0
  obtain ⟨k1, rfl, rfl, rfl, w1⟩ := open_int Tryz.underlying5 (hval 1 5 v1 rfl rfl) h1
  have b0 := bounds_u8 w0
  have b1 := bounds_u8 w1
  obtain ⟨n0, rfl⟩ := Int.eq_ofNat_of_zero_le b0.1
  obtain ⟨n1, rfl⟩ := Int.eq_ofNat_of_zero_le b1.1
  obtain ⟨A, n, c, l, rfl, hn, hnc, hb, hsl⟩ := read_slice (ρ := RU) Tryz.underlying22 (by kernel_rfl) (rd_u8 Tryz.underlying5) (hval 2 22 v2 rfl rfl) h2
  obtain ⟨B, m, d, l2, rfl, hm, hmd, hb2, hsl2⟩ := read_slice (ρ := RI) Tryz.underlying25 (by kernel_rfl) (rd_int Tryz.underlying3) (hval 3 25 v3 rfl rfl) h3
  obtain ⟨C, o, e, l3, rfl, ho, hoe, hb3, hsl3⟩ := read_slice (ρ := RI) Tryz.underlying25 (by kernel_rfl) (rd_int Tryz.underlying3) (hval 4 25 v4 rfl rfl) h4
  by_cases hsh : n ≤ 40 ∧ m ≤ 20 ∧ o ≤ 20
  · exact (llasts_does n0 n1 (by omega) (by omega) A B C n c m d o e l l2 l3 hsh.1 hsh.2.1 hsh.2.2 hb (fun x hx => (hb2 x hx).2) (fun x hx => (hb3 x hx).2)).law W (fun X hX => by
      rcases (by simpa using hX : X = libA ∨ X = tabs 4 5 ∨ X = slAt RU A n l ∨ X = slAt RI B m l2 ∨ X = slAt RI C o l3) with rfl | rfl | rfl | rfl | rfl
      · exact lib_of hL hSh
      · exact tabs_of hL
      · exact hsl (by unfold lim; omega)
      · exact hsl2 (by unfold lim; omega)
      · exact hsl3 (by unfold lim; omega))
  · exact (llasts_long n0 n1 A B C n c m d o e hsh).law W (fun X hX => by
      rcases (by simpa using hX : X = libA ∨ X = tabs 4 5) with rfl | rfl
      · exact lib_of hL hSh
      · exact tabs_of hL)
set_option maxRecDepth 100000 in
theorem logLasts_lifted (os : Os) (started : os.Started) (H : Type) (enc : TypeId × Value → H) (F : Stop.Interp) :
    ReturnsInHanded {} Tryz.checked os 10 .any ((OpenSpec.ofChange Rows.logLastsSpec).preRow enc Tryz.prog Tryz.f10 Rows.logLastsRow.domain false Rows.logLastsRow.laid) (((OpenSpec.ofChange Rows.logLastsSpec).at F).post enc Tryz.prog Tryz.f10 false true false false) := by
  refine returnsInHanded_of_row (C := Tryz.checked) (s := OpenSpec.ofChange Rows.logLastsSpec) own started (by kernel_rfl) Tryz.func10
    (witness_row_atRef (enc := enc) (C := Tryz.checked) false (laidWorld os) #[.int .u8 0, .int .u8 0, .slice none 0 0, .slice none 0 0, .slice none 0 0] rfl (by kernel_rfl) (by kernel_rfl) (by kernel_rfl) ?_) ?_
  · have hw : (DataW.whole enc Tryz.prog ((laidWorld os).forCall (fun _ _ => 0) ⟨#[], #[.int .u8 0, .int .u8 0, .slice none 0 0, .slice none 0 0, .slice none 0 0], []⟩).memory Tryz.f10.params.toList (OpenSpec.ofChange Rows.logLastsSpec).vars false (#[.int .u8 0, .int .u8 0, .slice none 0 0, .slice none 0 0, .slice none 0 0] : Array Value).toList 8).map (fun x => (x.1, x.2.1)) =
        some ([.lit (.int .u8 0), .lit (.int .u8 0), .nil, .nil, .nil], []) := by kernel_rfl
    obtain ⟨⟨x1, x2, x3⟩, hx, hx1⟩ := Option.map_eq_some_iff.1 hw
    simp only [Prod.mk.injEq] at hx1
    obtain ⟨rfl, rfl⟩ := hx1
    exact OpenSpec.preRow_of_cond 8 hx (by kernel_rfl) (fun k hk => by cases hk) (by kernel_rfl) (laid_met os _)
  · intro W base args ds gs before hval0 hW _ _ _ hL hSh _
    have hval : ∀ (j : Nat) t v, Tryz.f10.params[j]? = some t → args[j]? = some v → Value.okWide Tryz.prog W .any base t v := hval0
    have hW' := hW
    obtain ⟨p, q, hA0, hV, rfl, hfz, hnd⟩ := hW
    have hA : DataW.TrodAll enc Tryz.prog W 0 (fun _ => true) true Tryz.f10.params.toList args.toList ds p := hA0
    obtain ⟨rfl, rfl⟩ := trodVars_none hV
    obtain ⟨hc, d1, d2, d3, d4, d5, rfl⟩ := logLasts_walk W args ds p hval hA hL hSh
    refine hc.mono fun e W' ⟨he, hb⟩ => ⟨_, he, ?_⟩
    exact law_post (s := Rows.logLastsSpec) (by kernel_rfl) (by kernel_rfl) (by kernel_rfl) Tryz.underlying4 rfl rfl hW' hb
end Go.Proofs.YtmbfcjffjgecjaaGreatDoor
