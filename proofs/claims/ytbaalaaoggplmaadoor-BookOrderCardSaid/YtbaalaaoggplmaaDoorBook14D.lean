/- A part of a proof: what functions of the program compute. -/
import Derived.Test.YtbaalaaoggplmaaDoorBook12D
set_option linter.unusedVariables false
set_option linter.unusedSimpArgs false
set_option maxHeartbeats 0
namespace Go.Proofs
attribute [local irreducible] Go.Sl.SO Go.Sl.SQ Go.Sl.SR Go.Sl.SC Go.Sl.SX Go.Sl.SY Go.Sl.eadr Go.Sl.slAt Go.Sl.sqAt Go.Sl.pts Go.Sl.rod Go.Sl.ob Go.Sl.ex Go.Sl.big Go.Sl.pr Go.Sl.tabs Go.Sl.mpAt
open Go.Sl
def kr1 : Rc := ⟨1, 1, [], ⟨#[98]⟩, ⟨#[120]⟩⟩
def kr2 : Rc := ⟨0, 2, [], ⟨#[97]⟩, ⟨#[121]⟩⟩
def kr3 : Rc := ⟨0, 3, [], ⟨#[98]⟩, ⟨#[122]⟩⟩
theorem k1_book : putB [] (clOf kr1) = [clOf kr1] := by kernel_rfl
theorem k2_book : putB [clOf kr1] (clOf kr2) = [clOf kr2, clOf kr1] := by kernel_rfl
theorem k3_book : putB [clOf kr2, clOf kr1] (clOf kr3) = [clOf kr2, clOf kr3] := by kernel_rfl
theorem k2_ris : ris [clOf kr2, clOf kr1] := by
  refine List.pairwise_cons.2 ⟨fun x hx => ?_, List.pairwise_cons.2 ⟨fun x hx => by simp at hx, List.Pairwise.nil⟩⟩
  obtain rfl : x = clOf kr1 := by simpa using hx
  exact of_decide_eq_true (by kernel_rfl)
theorem k3_ris : ris [clOf kr2, clOf kr3] := by
  refine List.pairwise_cons.2 ⟨fun x hx => ?_, List.pairwise_cons.2 ⟨fun x hx => by simp at hx, List.Pairwise.nil⟩⟩
  obtain rfl : x = clOf kr3 := by simpa using hx
  exact of_decide_eq_true (by kernel_rfl)
theorem kChk : chkB none [clOf kr2, clOf kr3] = 0 := by kernel_rfl
theorem kChk2 : chkB none [⟨⟨#[65]⟩, bE, 0, 0⟩] = 3 := by kernel_rfl
theorem bknown_does : Does Tryd.prog 30 [] [tabs 1 2] [] Unit (fun _ => True) (fun _ => .bool true) (fun _ => []) := by
  refine Does.of Tryd.call30 Tryd.func30 rfl rfl rfl (all_cons (pers_tabs _ _) all_nil) rfl ?_
  have p1 : Does Tryd.prog _ _ _ _ _ _ _ _ := bput_does none 0 0 [] kr1 (none, 0) List.Pairwise.nil (by unfold lim; decide)
  have p2 := fun A c => bput_does A 1 c [clOf kr1] kr2 (none, 0) (List.pairwise_cons.2 ⟨fun x hx => by simp at hx, List.Pairwise.nil⟩) (by unfold lim; decide)
  have p3 := fun A c => bput_does A 2 c [clOf kr2, clOf kr1] kr3 (none, 0) k2_ris (by unfold lim; decide)
  rw [k1_book] at p1
  simp only [k2_book] at p2
  simp only [k3_book] at p3
  repeat' (first
    | (refine SO.call (p1) rfl rfl rfl (by repeat constructor) (by repeat constructor) rfl (fun x hx => ?_))
    | (refine SO.call (p2 _ _) rfl rfl rfl (by repeat constructor) (by repeat constructor) rfl (fun x hx => ?_))
    | (refine SO.call (p3 _ _) rfl rfl rfl (by repeat constructor) (by repeat constructor) rfl (fun x hx => ?_))
    | (refine SO.pure rfl rfl rfl ?_)
    | (refine SO.nil ?_)
    | (refine SO.build rfl rfl rfl rfl ?_)
    | (refine SK.seq ?_)
    | (refine SK.region ?_)
    | fail)
  have g1 := fun A c => getb_does A 2 c [clOf kr2, clOf kr3] ⟨#[98]⟩ k3_ris
  have g2 := fun A c => getb_does A 2 c [clOf kr2, clOf kr3] ⟨#[99]⟩ k3_ris
  have w1 := fun bx A c => words_does bx A 2 c [clOf kr2, clOf kr3] 9 (by decide) (by decide)
  have ch1 := fun A c => bcheck_does A 2 c [clOf kr2, clOf kr3] (by intro x hx; simp at hx; rcases hx with rfl | rfl <;> (unfold lim; decide))
  have ch2 := fun A c => bcheck_does A 1 c [⟨⟨#[65]⟩, bE, 0, 0⟩] (by intro x hx; simp at hx; subst hx; unfold lim; decide)
  simp only [kChk] at ch1
  simp only [kChk2] at ch2
  have sm := fun A c B c2 => same_does A B 2 2 c c2 [clOf kr2, clOf kr1] [clOf kr2, clOf kr3]
  have e1 : decide ([clOf kr2, clOf kr1] = [clOf kr2, clOf kr3]) = false := decide_eq_false (by intro h; injection h with _ h; injection h with h; exact absurd (congrArg Cl.seq h) (by decide))
  simp only [e1] at sm
  have h0 : (wordsB [clOf kr2, clOf kr3])[0]? = some ⟨#[97]⟩ := rfl
  have h3 : (wordsB [clOf kr2, clOf kr3])[3]? = some ⟨#[122]⟩ := rfl
  repeat' (first
    | (refine SO.buildSlice rfl rfl rfl rfl rfl rfl (fun b => SO.shift (toSl (ρ := RCl) (l := [⟨⟨#[65]⟩, bE, 0, 0⟩]) [(⟨⟨#[65]⟩, bE, 0, 0⟩, ())] (by repeat constructor) rfl rfl rfl rfl (by repeat constructor)) ?_))
    | (refine SO.call (g1 _ _) rfl rfl rfl (by repeat constructor) (by repeat constructor) rfl (fun x hx => ?_))
    | (refine SO.call (g2 _ _) rfl rfl rfl (by repeat constructor) (by repeat constructor) rfl (fun x hx => ?_))
    | (refine SO.call (ball_does _ _ _) rfl rfl rfl (by repeat constructor) (by repeat constructor) rfl (fun x hx => ?_))
    | (refine SO.call (w1 _ _ _) rfl rfl rfl (by repeat constructor) (by repeat constructor) rfl (fun x hx => ?_))
    | (refine SO.call (ch1 _ _) rfl rfl rfl (by repeat constructor) (by repeat constructor) rfl (fun x hx => ?_))
    | (refine SO.call (ch2 _ _) rfl rfl rfl (by repeat constructor) (by repeat constructor) rfl (fun x hx => ?_))
    | (refine SO.call (sm _ _ _ _) rfl rfl rfl (by repeat constructor) (by repeat constructor) rfl (fun x hx => ?_))
    | (refine SO.indexH rfl rfl (by repeat constructor) rfl rfl rfl rfl (by assumption) ?_)
    | (refine SO.pure rfl rfl rfl ?_)
    | (refine SO.nil ?_)
    | (refine SO.guardY rfl rfl ?_)
    | (refine SO.load rfl (by repeat constructor) rfl (by rfl) (by exact ⟨rfl, by first | exact fun _ => rfl | exact (fun h => by cases h)⟩) rfl ?_)
    | (refine SO.build rfl rfl rfl rfl ?_)
    | (refine SO.eloadW rfl (by repeat constructor) (by assumption) rfl (by rfl) rfl (by rfl) rfl (fun hid => ?_))
    | (refine SK.seq ?_)
    | (refine SK.region ?_)
    | (refine SO.alloc rfl rfl rfl (fun b => ?_))
    | (refine SO.storeW rfl rfl (by repeat constructor) rfl (by rfl) (by rfl) (by rfl) ?_)
    | fail)
  exact SK.retX (.tmp rfl .nil) () trivial rfl (by repeat constructor)
end Go.Proofs
