/- A part of a proof: what functions of the program compute. -/
import Derived.Test.YtmbfcjffjgecjaaGreatDoorMod3E
import Derived.Test.YtmbfcjffjgecjaaGreatDoorMod4E
set_option linter.unusedVariables false
set_option linter.unusedSimpArgs false
set_option maxHeartbeats 0
set_option maxRecDepth 20000
namespace Go.Proofs
attribute [local irreducible] Go.Sl.SO Go.Sl.SQ Go.Sl.SR Go.Sl.SC Go.Sl.SX Go.Sl.SY Go.Sl.eadr Go.Sl.slAt Go.Sl.sqAt Go.Sl.pts Go.Sl.rod Go.Sl.ob Go.Sl.ex Go.Sl.big Go.Sl.pr Go.Sl.tabs Go.Sl.mpAt Go.Sl.mitAt Go.Sl.mitN
open Go.Sl
def kRs : List Rc := [⟨0, 2, [], ⟨#[107]⟩, bE⟩, ⟨0, 2, [], ⟨#[107]⟩, bE⟩, ⟨0, 4, [], ⟨#[107]⟩, bE⟩, ⟨1, 1, [5], ⟨#[107]⟩, bE⟩, ⟨1, 2, [4], ⟨#[107]⟩, bE⟩]
theorem kRs_flaws : flawsF [1] (numL kRs) = [(1, 1), (2, 2), (3, 3)] := by decide
theorem kRs_bd : ∀ x ∈ numL kRs, RBd x.2 := by
  intro x hx
  simp [numL, kRs, List.zipIdx] at hx
  rcases hx with rfl | rfl | rfl | rfl | rfl <;> exact ⟨by decide, by decide, by decide⟩
theorem dec1 {n : Nat} (h : n < 10) : Lib.decDigits n = [UInt8.ofNat (48 + n)] := by
  rw [Lib.decDigits, dif_pos h]
theorem kAg : agreeF (lgRows [0, 1, 0] 3) (lgRows [0, 0, 1] 3) = false := by
  cases h : agreeF (lgRows [0, 1, 0] 3) (lgRows [0, 0, 1] 3) with
  | false => rfl
  | true =>
    have := (agrF_iff _ _ _ _).1 h 2 1 (by decide) (by decide) rfl rfl
    revert this
    unfold sameR lgR
    dsimp only
    rw [dec1 (n := 2) (by decide), dec1 (n := 1) (by decide)]
    decide
theorem kv1 : VBd [1] := ⟨by decide, fun i => by
  unfold getI
  split
  · exact ⟨by decide, by decide⟩
  · have : ([1] : List Int).getD i.toNat 0 = 0 ∨ ([1] : List Int).getD i.toNat 0 = 1 := by
      cases i.toNat with
      | zero => exact .inr rfl
      | succ n => exact .inl (by simp)
    omega⟩
theorem m24known_does : Does Tryz.prog 15 [] [libA, tabs 4 5] [] Unit (fun _ => True) (fun _ => .bool true) (fun _ => []) := by
  refine Does.of Tryz.call15 Tryz.func15 rfl rfl rfl (all_cons pers_lib (all_cons (pers_tabs _ _) all_nil)) rfl ?_
  repeat' (first
 | refine SO.buildSlice rfl rfl rfl rfl rfl rfl (fun b1 => SO.shift (toSl (ρ := RI) (n := 1) (b := b1) (l := [1]) [(1, ())] (by repeat constructor) rfl rfl rfl rfl (by repeat constructor)) ?_)
 | refine SO.buildSlice rfl rfl rfl rfl rfl rfl (fun b5 => SO.shift (toSl (ρ := RI) (n := 1) (b := b5) (l := [5]) [(5, ())] (by repeat constructor) rfl rfl rfl rfl (by repeat constructor)) (SO.shift (fun F w hst => hst.ent (Ent.cons (ent_pr (p := ([5] : List Int).length ≤ 1) (by decide)))) ?_))
 | refine SO.buildSlice rfl rfl rfl rfl rfl rfl (fun b4 => SO.shift (toSl (ρ := RI) (n := 1) (b := b4) (l := [4]) [(4, ())] (by repeat constructor) rfl rfl rfl rfl (by repeat constructor)) (SO.shift (fun F w hst => hst.ent (Ent.cons (ent_pr (p := ([4] : List Int).length ≤ 1) (by decide)))) ?_))
 | refine SO.buildSlice rfl rfl rfl rfl rfl rfl (fun bR => SO.shift (toSl (ρ := RRec) (n := 5) (b := bR) (l := kRs) [(⟨0, 2, [], ⟨#[107]⟩, bE⟩, (none, 0)), (⟨0, 2, [], ⟨#[107]⟩, bE⟩, (none, 0)), (⟨0, 4, [], ⟨#[107]⟩, bE⟩, (none, 0)), (⟨1, 1, [5], ⟨#[107]⟩, bE⟩, (some ⟨b5, 0, none⟩, 1)), (⟨1, 2, [4], ⟨#[107]⟩, bE⟩, (some ⟨b4, 0, none⟩, 1))] (by repeat constructor) rfl rfl rfl rfl (show HasAll [slAt RI none 0 [], pr (([] : List Int).length ≤ 0), slAt RI none 0 [], pr (([] : List Int).length ≤ 0), slAt RI none 0 [], pr (([] : List Int).length ≤ 0), slAt RI (some ⟨b5, 0, none⟩) 1 [5], pr (([5] : List Int).length ≤ 1), slAt RI (some ⟨b4, 0, none⟩) 1 [4], pr (([4] : List Int).length ≤ 1)] _ from by repeat constructor)) ?_)
 | refine SO.call (m24r_does _ _ _ _ _) rfl rfl rfl (by repeat constructor) (by repeat constructor) rfl (fun x hx => ?_)
 | refine SO.call (mnum_does _ _ _) rfl rfl rfl (by repeat constructor) (by repeat constructor) rfl (fun x hx => ?_)
 | refine SO.pure rfl rfl rfl ?_
 | refine SO.nil ?_
 | refine SK.seq ?_
 | refine SK.region ?_
 | refine SO.buildSlice rfl rfl rfl rfl rfl rfl (fun b => ?_)
 | fail)
  rename Nat => nb
  refine SO.shift (fun F w hst => hst.ent (Ent.cons (ent_bigOf (A := [pts nb 0 [.slice (some ⟨bR, 0, none⟩) 5 5], slAt RRec (some ⟨bR, 0, none⟩) 5 kRs]) (by repeat constructor)))) ?_
  have ml := mlog_does _ #[.pointer (some ⟨nb, 0, none⟩)] (some ⟨b1, 0, none⟩) 1 1 [1] (numL kRs) _ _ _ (mnumiter nb (some ⟨bR, 0, none⟩) 5 5 kRs (by decide)) (by decide) kv1 kRs_bd
  rw [kRs_flaws] at ml
  have f0 : ([(1, 1), (2, 2), (3, 3)] : List (Int × Int))[0]? = some (1, 1) := rfl
  have f1 : ([(1, 1), (2, 2), (3, 3)] : List (Int × Int))[1]? = some (2, 2) := rfl
  have f2 : ([(1, 1), (2, 2), (3, 3)] : List (Int × Int))[2]? = some (3, 3) := rfl
  repeat' (first
 | refine SO.buildSlice rfl rfl rfl rfl rfl rfl (fun bA => SO.shift (toSl (ρ := RU) (n := 3) (b := bA) (l := ([0, 1, 0] : List Nat).map fun (x : Nat) => (x : Int)) [(0, ()), (1, ()), (0, ())] (by repeat constructor) rfl rfl rfl rfl (by repeat constructor)) ?_)
 | refine SO.call (ml) rfl rfl rfl (by repeat constructor) (by repeat constructor) rfl (fun x hx => ?_)
 | refine SO.pure rfl rfl rfl ?_
 | refine SO.nil ?_
 | refine SK.seq ?_
 | refine SK.region ?_
 | refine SO.buildSlice rfl rfl rfl rfl rfl rfl (fun b => ?_)
 | fail)
  have la := lg13_does 1 9 (some ⟨bA, 0, none⟩) 3 3 2 [0, 1, 0] (by decide) (by decide) (by decide) (by decide) (by decide)
  repeat' (first
 | refine SO.buildSlice rfl rfl rfl rfl rfl rfl (fun bB => SO.shift (toSl (ρ := RU) (n := 3) (b := bB) (l := ([0, 0, 1] : List Nat).map fun (x : Nat) => (x : Int)) [(0, ()), (0, ()), (1, ())] (by repeat constructor) rfl rfl rfl rfl (by repeat constructor)) ?_)
 | refine SO.call (la) rfl rfl rfl (by repeat constructor) (by repeat constructor) rfl (fun x hx => ?_)
 | refine SO.pure rfl rfl rfl ?_
 | refine SO.nil ?_
 | refine SK.seq ?_
 | refine SK.region ?_
 | refine SO.buildSlice rfl rfl rfl rfl rfl rfl (fun b => ?_)
 | fail)
  rename (Nat × Lg) × (Nat × DLg) => zl
  rename LogsI 2 [0, 1, 0] _ _ _ _ => hl0
  have lk := lg13_does 1 9 (some ⟨bB, 0, none⟩) 3 3 2 [0, 0, 1] (by decide) (by decide) (by decide) (by decide) (by decide)
  repeat' (first
 | refine SO.call (lk) rfl rfl rfl (by repeat constructor) (by repeat constructor) rfl (fun x hx => ?_)
 | refine SO.indexH rfl rfl (by repeat constructor) rfl rfl rfl rfl (by assumption) ?_
 | refine SO.pure rfl rfl rfl ?_
 | refine SO.nil ?_
 | refine SO.guardY rfl rfl ?_
 | refine SO.efield rfl rfl rfl rfl rfl ?_
 | refine SO.eload rfl (by repeat constructor) (by assumption) rfl (by rfl) (by exact fun _ => ⟨rfl, fun _ => rfl⟩) rfl (fun hid => ?_)
 | refine SK.seq ?_
 | refine SK.region ?_
 | refine SK.condF rfl ?_
 | refine SK.skip ?_
 | refine SO.eload rfl (by repeat constructor) (by assumption) rfl (by rfl) (by exact fun _ => ⟨rfl, fun h => by cases h⟩) rfl (fun hid => ?_)
 | fail)
  rename (Nat × Lg) × (Nat × DLg) => zk
  rename LogsI 2 [0, 0, 1] _ _ _ _ => hk0
  have hk : LogsI 2 [0, 0, 1] 3 3 _ _ := hk0
  have hl : LogsI 2 [0, 1, 0] 3 3 _ _ := hl0
  have rg := lright zl.1.1 hl (by decide)
  have ag := lagree1 zl.1.1 hl
  have ak := lagree zl.1.1 zk.1.1 hl hk
  rw [kAg] at ak
  repeat' (first
 | refine SO.call (rg) rfl rfl rfl (by repeat constructor) (by repeat constructor) rfl (fun x hx => ?_)
 | refine SO.call (ag) rfl rfl rfl (by repeat constructor) (by repeat constructor) rfl (fun x hx => ?_)
 | refine SO.call (ak) rfl rfl rfl (by repeat constructor) (by repeat constructor) rfl (fun x hx => ?_)
 | refine SO.call (mnum_does _ _ _) rfl rfl rfl (by repeat constructor) (by repeat constructor) rfl (fun x hx => ?_)
 | refine SO.pure rfl rfl rfl ?_
 | refine SO.guardY rfl rfl ?_
 | fail)
  rename Nat => nb2
  refine SO.shift (fun F w hst => hst.ent (Ent.cons (ent_triv (A := slAt RRec none 0 [])))) ?_
  refine SO.shift (fun F w hst => hst.ent (Ent.cons (ent_bigOf (A := [pts nb2 0 [.slice none 0 0], slAt RRec none 0 []]) (by repeat constructor)))) ?_
  have me := mlog_does _ #[.pointer (some ⟨nb2, 0, none⟩)] none 0 0 [] (numL []) _ _ _ (mnumiter nb2 none 0 0 [] (by decide)) (by decide) ⟨by decide, fun i => by unfold getI; split <;> simp⟩ (fun x hx => by cases hx)
  rw [show flawsF [] (numL []) = [] from rfl] at me
  repeat' (first
 | refine SO.call (me) rfl rfl rfl (by repeat constructor) (by repeat constructor) rfl (fun x hx => ?_)
 | refine SO.pure rfl rfl rfl ?_
 | refine SO.nil ?_
 | refine SO.guardY rfl rfl ?_
 | fail)
  exact SK.retX (.tmp rfl .nil) () trivial rfl (by repeat constructor)
end Go.Proofs
