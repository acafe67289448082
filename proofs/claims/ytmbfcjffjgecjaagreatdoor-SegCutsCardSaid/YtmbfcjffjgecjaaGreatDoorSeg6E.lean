/- A part of a proof: what functions of the program compute. -/
import Derived.Test.YtmbfcjffjgecjaaGreatDoorSeg5E
import Derived.Test.YtmbfcjffjgecjaaGreatDoorLib2
set_option linter.unusedVariables false
set_option linter.unusedSimpArgs false
set_option maxHeartbeats 0
set_option maxRecDepth 20000
namespace Go.Proofs
attribute [local irreducible] Go.Sl.SO Go.Sl.SQ Go.Sl.SR Go.Sl.SC Go.Sl.SX Go.Sl.SY Go.Sl.eadr Go.Sl.slAt Go.Sl.sqAt Go.Sl.pts Go.Sl.rod Go.Sl.ob Go.Sl.ex Go.Sl.big Go.Sl.pr Go.Sl.tabs Go.Sl.mpAt Go.Sl.mitAt Go.Sl.mitN
open Go.Sl
theorem sknown_does : Does Tryz.prog 27 [] [libA, tabs 4 5] [] Unit (fun _ => True) (fun _ => .bool true) (fun _ => []) := by
  refine Does.of Tryz.call27 Tryz.func27 rfl rfl rfl (all_cons pers_lib (all_cons (pers_tabs _ _) all_nil)) rfl ?_
  have dn : Does Tryz.prog _ _ _ _ _ _ _ _ := dnew_does 1000 (by decide)
  repeat' (first
 | refine SO.call (dn) rfl rfl rfl (by repeat constructor) (by repeat constructor) rfl (fun x hx => ?_)
 | refine SO.pure rfl rfl rfl ?_
 | refine SO.pure2 rfl rfl rfl ?_
 | refine SO.nil ?_
 | refine SK.seq ?_
 | refine SK.region ?_
 | refine SK.condF rfl ?_
 | refine SK.skip ?_
 | fail)
  rename Nat => db
  have op := sopen_does db (none, 0) ⟨[], 0, 0⟩ kd0 (ply0 (by decide))
  repeat' (first
 | refine SO.call (op) rfl rfl rfl (by repeat constructor) (by repeat constructor) rfl (fun x hx => ?_)
 | refine SO.call (r_does _ _) rfl rfl rfl (by repeat constructor) (by repeat constructor) rfl (fun x hx => ?_)
 | refine SO.pure rfl rfl rfl ?_
 | refine SO.pure2 rfl rfl rfl ?_
 | refine SO.nil ?_
 | refine SO.guardY rfl rfl ?_
 | refine SK.seq ?_
 | refine SK.region ?_
 | refine SK.condF rfl ?_
 | refine SK.skip ?_
 | fail)
  rename Nat × Nat => y
  obtain ⟨sb, mb⟩ := y
  have p1 := sput0_does sb db mb (none, 0) ⟨[], 0, 0⟩ kd0 1 5 0 1 kok0 kr01 (by omega) (by omega) (by omega)
  simp only [k_put1] at p1
  have sy := fun p => dsync_does db p kd1
  simp only [k_sync] at sy
  have p2 := fun p => sput0_does sb db mb p ks1 kd1s 1 7 0 2 kok1s kr02 (by omega) (by omega) (by omega)
  simp only [k_put2] at p2
  have p3 := fun p => sput0_does sb db mb p ks2 kd2 1 5 1 1 kok2 kr11 (by omega) (by omega) (by omega)
  simp only [k_put3] at p3
  have g5 := sget_does sb db mb ks2 5
  simp only [k_get5] at g5
  have g6 := sget_does sb db mb ks2 6
  simp only [k_get6] at g6
  have l5 := fun p => slasts_does sb db mb p ks2 kd2 5 kok2
  simp only [k_l5] at l5
  have l6 := fun p => slasts_does sb db mb p ks2 kd2 6 kok2
  simp only [k_l6] at l6
  have l7 := fun p => slasts_does sb db mb p ks2 kd2 7 kok2
  simp only [k_l7] at l7
  have cr := fun p => dcrash_does db p kd2 3 kok2 (by omega)
  simp only [k_crash] at cr
  have op2 := fun p => sopen_does db p ks1 kd1s k_ply
  repeat' (first
 | refine SO.call (p1) rfl rfl rfl (by repeat constructor) (by repeat constructor) rfl (fun x hx => ?_)
 | refine SO.call (sy _) rfl rfl rfl (by repeat constructor) (by repeat constructor) rfl (fun x hx => ?_)
 | refine SO.call (p2 _) rfl rfl rfl (by repeat constructor) (by repeat constructor) rfl (fun x hx => ?_)
 | refine SO.call (p3 _) rfl rfl rfl (by repeat constructor) (by repeat constructor) rfl (fun x hx => ?_)
 | refine SO.call (r_does _ _) rfl rfl rfl (by repeat constructor) (by repeat constructor) rfl (fun x hx => ?_)
 | refine SO.call (g5) rfl rfl rfl (by repeat constructor) (by repeat constructor) rfl (fun x hx => ?_)
 | refine SO.call (g6) rfl rfl rfl (by repeat constructor) (by repeat constructor) rfl (fun x hx => ?_)
 | refine SO.call (l5 _) rfl rfl rfl (by repeat constructor) (by repeat constructor) rfl (fun x hx => ?_)
 | refine SO.call (l6 _) rfl rfl rfl (by repeat constructor) (by repeat constructor) rfl (fun x hx => ?_)
 | refine SO.call (l7 _) rfl rfl rfl (by repeat constructor) (by repeat constructor) rfl (fun x hx => ?_)
 | refine SO.call (cr _) rfl rfl rfl (by repeat constructor) (by repeat constructor) rfl (fun x hx => ?_)
 | refine SO.call (op2 _) rfl rfl rfl (by repeat constructor) (by repeat constructor) rfl (fun x hx => ?_)
 | refine SO.pure rfl rfl rfl ?_
 | refine SO.pure2 rfl rfl rfl ?_
 | refine SO.nil ?_
 | refine SO.guardY rfl rfl ?_
 | refine SK.seq ?_
 | refine SK.region ?_
 | refine SK.condF rfl ?_
 | refine SK.skip ?_
 | refine SO.alloc rfl rfl rfl (fun b => ?_)
 | refine SO.storeW rfl rfl (by repeat constructor) rfl (by rfl) (by rfl) (by rfl) ?_
 | fail)
  rename Nat × Nat => y2
  obtain ⟨sb2, mb2⟩ := y2
  have g7 := sget_does sb2 db mb2 ks1 7
  simp only [k_get7] at g7
  have se := fun p => sseal_does sb2 db mb2 p ks1 kd1s 1 kok1s (by intro k hk; have : k = 5 := by simpa [ks1, keysM] using hk
                                                                   omega)
  simp only [k_seal] at se
  have p4 := fun p => sput0_does sb2 db mb2 p ks4 kd4 1 9 0 2 kok4 kr02 (by omega) (by omega) (by omega)
  simp only [k_put4] at p4
  have tr := fun p => strimAt_does sb2 db mb2 p ks4 kd4 6 kok4
  simp only [k_trim] at tr
  have g5b := sget_does sb2 db mb2 ks5 5
  simp only [k_get5b] at g5b
  have hk5 : ks5.m.length < 1048577 := by
    have : ks5.m.length = 0 := rfl
    omega
  have ha5 : (ks5.all.length : Int) ≤ 9 := by rw [k_all]; decide
  have rws := fun bx => rows_does bx sb2 db mb2 ks5 9 hk5 ha5
  simp only [k_all, List.length_nil, List.map_nil] at rws
  have sl := sealed_does sb2 db mb2 ks5
  have dk := disk_does sb2 db mb2 ks5
  repeat' (first
 | refine SO.eqPtr rfl rfl Tryz.underlying49 rfl rfl ?_
 | refine SO.call (g7) rfl rfl rfl (by repeat constructor) (by repeat constructor) rfl (fun x hx => ?_)
 | refine SO.call (se _) rfl rfl rfl (by repeat constructor) (by repeat constructor) rfl (fun x hx => ?_)
 | refine SO.call (p4 _) rfl rfl rfl (by repeat constructor) (by repeat constructor) rfl (fun x hx => ?_)
 | refine SO.call (tr _) rfl rfl rfl (by repeat constructor) (by repeat constructor) rfl (fun x hx => ?_)
 | refine SO.call (g5b) rfl rfl rfl (by repeat constructor) (by repeat constructor) rfl (fun x hx => ?_)
 | refine SO.call (sall_does _) rfl rfl rfl (by repeat constructor) (by repeat constructor) rfl (fun x hx => ?_)
 | refine SO.call (rws _) rfl rfl rfl (by repeat constructor) (by repeat constructor) rfl (fun x hx => ?_)
 | refine SO.call (r_does _ _) rfl rfl rfl (by repeat constructor) (by repeat constructor) rfl (fun x hx => ?_)
 | refine SO.call (sl) rfl rfl rfl (by repeat constructor) (by repeat constructor) rfl (fun x hx => ?_)
 | refine SO.call (dk) rfl rfl rfl (by repeat constructor) (by repeat constructor) rfl (fun x hx => ?_)
 | refine SO.pure rfl rfl rfl ?_
 | refine SO.nil ?_
 | refine SO.guardY rfl rfl ?_
 | refine SO.load rfl (by repeat constructor) rfl (by rfl) (by exact ⟨rfl, by first | exact fun _ => rfl | exact (fun h => by cases h)⟩) rfl ?_
 | refine SK.seq ?_
 | refine SK.region ?_
 | refine SO.alloc rfl rfl rfl (fun b => ?_)
 | refine SO.storeW rfl rfl (by repeat constructor) rfl (by rfl) (by rfl) (by rfl) ?_
 | fail)
  exact SK.retX (.tmp rfl .nil) () trivial rfl (by repeat constructor)
end Go.Proofs
