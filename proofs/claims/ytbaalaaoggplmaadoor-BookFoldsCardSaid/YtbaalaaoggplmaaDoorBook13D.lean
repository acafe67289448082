/- A part of a proof: what functions of the program compute. -/
import Derived.Test.YtbaalaaoggplmaaDoorBook9D
import Derived.Test.YtbaalaaoggplmaaDoorBook12D
set_option linter.unusedVariables false
set_option linter.unusedSimpArgs false
set_option maxHeartbeats 0
namespace Go.Proofs
attribute [local irreducible] Go.Sl.SO Go.Sl.SQ Go.Sl.SR Go.Sl.SC Go.Sl.SX Go.Sl.SY Go.Sl.eadr Go.Sl.slAt Go.Sl.sqAt Go.Sl.pts Go.Sl.rod Go.Sl.ob Go.Sl.ex Go.Sl.big Go.Sl.pr Go.Sl.tabs Go.Sl.mpAt
open Go.Sl
theorem rfold_does (A : Option Addr) (n c : Nat) (bk : List Cl) (B : Option Addr) (m c2 : Nat) (l : List Rc) (hr : ris bk) (hnc : n ≤ c) (hlim1 : bk.length + l.length < 1073741824) : Does Tryd.prog 42 [.slice A n c, .slice B m c2] [slAt RCl A n bk, slAt RRec B m l] [] Pl (fun z => (bookAt bk l l.length).length ≤ z.2) (fun z => .slice z.1 (bookAt bk l l.length).length z.2) (fun z => [slAt RCl z.1 (bookAt bk l l.length).length (bookAt bk l l.length)]) := by
  refine Does.of Tryd.call42 Tryd.func42 rfl rfl rfl (all_cons (pers_slAt _ _ _ _) (all_cons (pers_slAt _ _ _ _) all_nil)) rfl ?_
  refine SK.know (sl_len (ρ := RCl) (A := A) (n := n) (l := bk) (by repeat constructor)) ?_
  rintro ⟨rfl, hlim, -⟩
  refine SK.know (sl_len (ρ := RRec) (A := B) (n := m) (l := l) (by repeat constructor)) ?_
  rintro ⟨rfl, hlim2, -⟩
  repeat' (first
    | (refine SO.pure rfl rfl rfl ?_)
    | (refine SO.nil ?_)
    | (refine SK.seq ?_)
    | (refine SK.region ?_)
    | (refine SK.block ?_)
    | fail)
  refine SK.loop (X := {z : Nat × Pl // z.1 ≤ l.length ∧ (bookAt bk l z.1).length ≤ z.2.2}) (fun z => [(5, .int .i64 (z.1.1 : Int)), (0, .slice z.1.2.1 (bookAt bk l z.1.1).length z.1.2.2), (1, .slice B l.length c2)]) (fun z => [slAt RCl z.1.2.1 (bookAt bk l z.1.1).length (bookAt bk l z.1.1), slAt RRec B l.length l]) (fun z => l.length - z.1.1) ⟨(0, (A, c)), Nat.zero_le _, hnc⟩ (by repeat constructor) (ent_append_of_takes (by repeat constructor)) ?_
  rintro ⟨⟨i, ⟨A0, c0⟩⟩, hi, hc0⟩
  dsimp only at hi hc0 ⊢
  have hwi := wrapn (show i ≤ lim by omega)
  have hbl := bookAt_len bk l i
  rcases Nat.lt_or_ge i l.length with hil | hil
  · have hd1 : decide ((i : Int) < (l.length : Int)) = true := decide_eq_true (by omega)
    obtain ⟨u, hu⟩ : ∃ u, l[i]? = some u := ⟨_, List.getElem?_eq_getElem hil⟩
    have hs := bookAt_step (b := bk) hu
    have hput := fun h => rputc_does A0 _ c0 (bookAt bk l i) u h (bookAt_ris hr l i) hc0 (by omega)
    repeat' (first
    | (refine SO.indexH rfl rfl (by repeat constructor) rfl rfl rfl rfl (by assumption) ?_)
    | (refine SO.pure rfl rfl rfl ?_)
    | (refine SO.nil ?_)
    | (refine SO.eloadW rfl (by repeat constructor) (by assumption) rfl (by rfl) rfl (by rfl) rfl (fun hid => ?_))
    | (refine SK.seq ?_)
    | (refine SK.region ?_)
    | (refine SK.skip ?_)
    | (refine SK.block ?_)
    | (refine SK.condTP rfl (by first | assumption | (simp only [decide_eq_true_eq, decide_eq_false_iff_not, Bool.not_eq_true', Bool.not_eq_false', Bool.not_true, Bool.not_false, Bool.not_not]; omega)) ?_)
    | fail)
    rw [hd1]
    repeat' (first
    | (refine SO.call (hput _) rfl rfl rfl (by repeat constructor) (by repeat constructor) rfl (fun x hx => ?_))
    | (refine SO.pure rfl rfl rfl ?_)
    | (refine SO.nil ?_)
    | (refine SK.region ?_)
    | (refine SK.blk ?_)
    | fail)
    rw [← hs] at hx ⊢
    refine SK.inv ⟨⟨(i + 1, x), by show i + 1 ≤ l.length; omega, hx⟩, ?_, ?_, ?_⟩
    · show l.length - (i + 1) < l.length - i
      omega
    · rw [hwi]; repeat constructor
    · exact ent_append_of_takes (by repeat constructor)
  · have hd1 : decide ((i : Int) < (l.length : Int)) = false := decide_eq_false (by omega)
    obtain rfl : i = l.length := by omega
    repeat' (first
    | (refine SO.pure rfl rfl rfl ?_)
    | (refine SO.nil ?_)
    | (refine SK.seq ?_)
    | (refine SK.region ?_)
    | (refine SK.exit rfl ?_)
    | (refine SK.condFP rfl (by first | assumption | (simp only [decide_eq_true_eq, decide_eq_false_iff_not, Bool.not_eq_true', Bool.not_eq_false', Bool.not_true, Bool.not_false, Bool.not_not]; omega)) ?_)
    | fail)
    rw [hd1]
    skip
    exact SK.retX (.tmp rfl .nil) (A0, c0) hc0 rfl (by repeat constructor)
end Go.Proofs
