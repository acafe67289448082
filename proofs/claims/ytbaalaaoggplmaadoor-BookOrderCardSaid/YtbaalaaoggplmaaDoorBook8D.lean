/- A part of a proof: what functions of the program compute. -/
import Derived.Test.YtbaalaaoggplmaaDoorBook7D
import Derived.Test.YtbaalaaoggplmaaDoorLib2
set_option linter.unusedVariables false
set_option linter.unusedSimpArgs false
set_option maxHeartbeats 0
namespace Go.Proofs
attribute [local irreducible] Go.Sl.SO Go.Sl.SQ Go.Sl.SR Go.Sl.SC Go.Sl.SX Go.Sl.SY Go.Sl.eadr Go.Sl.slAt Go.Sl.sqAt Go.Sl.pts Go.Sl.rod Go.Sl.ob Go.Sl.ex Go.Sl.big Go.Sl.pr Go.Sl.tabs Go.Sl.mpAt
open Go.Sl
theorem ofb_does (A : Option Addr) (n c : Nat) (l : List Cl) : Does Tryd.prog 37 [.slice A n c] [slAt RCl A n l] [] Pl (fun z => l.length ≤ z.2) (fun z => .slice z.1 l.length z.2) (fun z => [slAt RCl z.1 l.length l]) := by
  refine Does.of Tryd.call37 Tryd.func37 rfl rfl rfl (all_cons (pers_slAt _ _ _ _) all_nil) rfl ?_
  refine SK.know (sl_len (ρ := RCl) (A := A) (n := n) (l := l) (by repeat constructor)) ?_
  rintro ⟨rfl, hlim, -⟩
  repeat' (first
    | (refine SO.pure rfl rfl rfl ?_)
    | (refine SO.nil ?_)
    | (refine SK.seq ?_)
    | (refine SK.region ?_)
    | (refine SK.block ?_)
    | fail)
  refine SK.loop (X := {z : Nat × Pl // z.1 ≤ l.length}) (fun z => [(4, .int .i64 (z.1.1 : Int)), (3, .slice z.1.2.1 z.1.1 z.1.2.2), (0, .slice A l.length c)]) (fun z => [sqAt false RCl z.1.2.1 z.1.1 z.1.2.2 (l.take z.1.1), slAt RCl A l.length l]) (fun z => l.length - z.1.1) ⟨(0, (none, 0)), Nat.zero_le _⟩ (by repeat constructor) ((ent_triv (A := sqAt false RCl none 0 0 [])).trans (ent_append_of_takes (by repeat constructor))) ?_
  rintro ⟨⟨i, ⟨A0, c0⟩⟩, hi⟩
  dsimp only at hi ⊢
  have hwi := wrapn (show i ≤ lim by omega)
  rcases Nat.lt_or_ge i l.length with hil | hil
  · have hd1 : decide ((i : Int) < (l.length : Int)) = true := decide_eq_true (by omega)
    obtain ⟨u, hu⟩ : ∃ u, l[i]? = some u := ⟨_, List.getElem?_eq_getElem hil⟩
    have e1 : l.take (i + 1) = l.take i ++ [u] := by rw [List.take_add_one, hu]; rfl
    repeat' (first
    | (refine SO.pure rfl rfl rfl ?_)
    | (refine SO.nil ?_)
    | (refine SK.seq ?_)
    | (refine SK.region ?_)
    | (refine SK.skip ?_)
    | (refine SK.block ?_)
    | (refine SO.buildSlice rfl rfl rfl rfl rfl rfl (fun b => ?_))
    | (refine SK.condTP rfl (by first | assumption | (simp only [decide_eq_true_eq, decide_eq_false_iff_not, Bool.not_eq_true', Bool.not_eq_false', Bool.not_true, Bool.not_false, Bool.not_not]; omega)) ?_)
    | (refine SK.regionX 5 (.item 0 0 (.item 0 1 (.item 0 2 (.item 0 6 (.item 0 7 (.item 0 11 (.item 0 12 (.item 0 16 (.item 0 17 (.item 0 3 (.item 0 8 (.item 0 13 (.item 0 18 (.item 0 4 (.item 0 9 (.item 0 14 (.item 0 19 (.item 0 5 (.item 0 10 (.item 0 15 (.item 0 20 (.item 0 21 (.item 1 22 (.item 2 23 (.item 2 24 .nil))))))))))))))))))))))))) [] .nil (by repeat (first | exact .nil | apply PersSub.s | apply PersSub.t | apply PersSub.p | apply PersSub.r | apply PersSub.skip)) (by kernel_rfl) (by kernel_rfl) (fun _ _ _ h => h) ?_)
    | (refine SX.tail (by rfl) (by repeat (first | exact .nil | apply DropP.s | apply DropP.t | apply DropP.p | apply DropP.r | apply DropP.keep)) ?_)
    | (refine SX.indexH rfl rfl (by repeat constructor) rfl rfl rfl rfl (by assumption) ?_)
    | (refine SX.pure rfl rfl rfl ?_)
    | (refine SX.build rfl rfl rfl rfl ?_)
    | (refine SX.efield rfl rfl rfl rfl rfl ?_)
    | (refine SX.eload rfl (by repeat constructor) (by assumption) rfl (by rfl) (by exact fun _ => ⟨rfl, fun _ => rfl⟩) rfl (fun hid => ?_))
    | (refine SX.step rfl rfl ?_)
    | (refine SK.invY ?_)
    | (refine SY.go ?_)
    | fail)
    rw [hd1]
    repeat' (first
    | (refine SO.append (ρ := RCl) (w := false) (ys := [u]) rfl rfl (by repeat constructor) (Src.one (h := ()) (by repeat constructor) (by rfl) (by repeat constructor)) rfl rfl rfl rfl rfl rfl rfl (by omega) (fun A3 c3 => ?_))
    | (refine SO.pure rfl rfl rfl ?_)
    | (refine SO.nil ?_)
    | (refine SK.region ?_)
    | (refine SK.blk ?_)
    | fail)
    refine SK.inv ⟨⟨(i + 1, (A3, c3)), by show i + 1 ≤ l.length; omega⟩, ?_, ?_, ?_⟩
    · show l.length - (i + 1) < l.length - i
      omega
    · rw [hwi]; repeat constructor
    · dsimp only; rw [e1]; exact ent_append_of_takes (by repeat constructor)
  · have hd1 : decide ((i : Int) < (l.length : Int)) = false := decide_eq_false (by omega)
    obtain rfl : i = l.length := by omega
    rw [List.take_length]
    refine SK.know (sq_len (w := false) (ρ := RCl) (A := A0) (n := l.length) (c := c0) (l := l) (by repeat constructor)) ?_
    rintro ⟨-, -, hc, -⟩
    repeat' (first
    | (refine SO.pure rfl rfl rfl ?_)
    | (refine SO.nil ?_)
    | (refine SK.seq ?_)
    | (refine SK.region ?_)
    | (refine SK.exit rfl ?_)
    | (refine SK.condFP rfl (by first | assumption | (simp only [decide_eq_true_eq, decide_eq_false_iff_not, Bool.not_eq_true', Bool.not_eq_false', Bool.not_true, Bool.not_false, Bool.not_not]; omega)) ?_)
    | fail)
    rw [hd1]
    skip
    refine SK.share (ρ := RCl) (by repeat constructor) ?_
    exact SK.retX (.tmp rfl .nil) (A0, c0) hc rfl (by repeat constructor)
theorem ofall_does (A : Option Addr) (n c : Nat) (l : List Rc) : Does Tryd.prog 43 [.slice A n c] [slAt RRec A n l] [] Pl (fun z => l.length ≤ z.2) (fun z => .slice z.1 l.length z.2) (fun z => [slAt RRec z.1 l.length l]) := by
  refine Does.of Tryd.call43 Tryd.func43 rfl rfl rfl (all_cons (pers_slAt _ _ _ _) all_nil) rfl ?_
  refine SK.know (sl_len (ρ := RRec) (A := A) (n := n) (l := l) (by repeat constructor)) ?_
  rintro ⟨rfl, hlim, -⟩
  repeat' (first
    | (refine SO.pure rfl rfl rfl ?_)
    | (refine SO.nil ?_)
    | (refine SK.seq ?_)
    | (refine SK.region ?_)
    | (refine SK.block ?_)
    | fail)
  refine SK.loop (X := {z : Nat × Pl // z.1 ≤ l.length}) (fun z => [(4, .int .i64 (z.1.1 : Int)), (3, .slice z.1.2.1 z.1.1 z.1.2.2), (0, .slice A l.length c)]) (fun z => [sqAt false RRec z.1.2.1 z.1.1 z.1.2.2 (l.take z.1.1), slAt RRec A l.length l]) (fun z => l.length - z.1.1) ⟨(0, (none, 0)), Nat.zero_le _⟩ (by repeat constructor) ((ent_triv (A := sqAt false RRec none 0 0 [])).trans (ent_append_of_takes (by repeat constructor))) ?_
  rintro ⟨⟨i, ⟨A0, c0⟩⟩, hi⟩
  dsimp only at hi ⊢
  have hwi := wrapn (show i ≤ lim by omega)
  rcases Nat.lt_or_ge i l.length with hil | hil
  · have hd1 : decide ((i : Int) < (l.length : Int)) = true := decide_eq_true (by omega)
    obtain ⟨u, hu⟩ : ∃ u, l[i]? = some u := ⟨_, List.getElem?_eq_getElem hil⟩
    have e1 : l.take (i + 1) = l.take i ++ [u] := by rw [List.take_add_one, hu]; rfl
    have hof := of_does u
    repeat' (first
    | (refine SO.indexH rfl rfl (by repeat constructor) rfl rfl rfl rfl (by assumption) ?_)
    | (refine SO.pure rfl rfl rfl ?_)
    | (refine SO.nil ?_)
    | (refine SO.eloadW rfl (by repeat constructor) (by assumption) rfl (by rfl) rfl (by rfl) rfl (fun hid => ?_))
    | (refine SK.seq ?_)
    | (refine SK.region ?_)
    | (refine SK.skip ?_)
    | (refine SK.block ?_)
    | (refine SK.condTP rfl (by first | assumption | (simp only [decide_eq_true_eq, decide_eq_false_iff_not, Bool.not_eq_true', Bool.not_eq_false', Bool.not_true, Bool.not_false, Bool.not_not]; omega)) ?_)
    | fail)
    rw [hd1]
    repeat' (first
    | (refine SO.append (ρ := RRec) (w := false) (ys := [u]) rfl rfl (by repeat constructor) (Src.one (h := hid) (by repeat constructor) (by rfl) (by repeat constructor)) rfl rfl rfl rfl rfl rfl rfl (by omega) (fun A3 c3 => ?_))
    | (refine SO.call (hof _) rfl rfl rfl (by repeat constructor) (by repeat constructor) rfl (fun x hx => ?_))
    | (refine SO.pure rfl rfl rfl ?_)
    | (refine SO.nil ?_)
    | (refine SK.region ?_)
    | (refine SK.blk ?_)
    | (refine SO.buildSlice rfl rfl rfl rfl rfl rfl (fun b => ?_))
    | fail)
    refine SK.inv ⟨⟨(i + 1, (A3, c3)), by show i + 1 ≤ l.length; omega⟩, ?_, ?_, ?_⟩
    · show l.length - (i + 1) < l.length - i
      omega
    · rw [hwi]; repeat constructor
    · dsimp only; rw [e1]; exact ent_append_of_takes (by repeat constructor)
  · have hd1 : decide ((i : Int) < (l.length : Int)) = false := decide_eq_false (by omega)
    obtain rfl : i = l.length := by omega
    rw [List.take_length]
    refine SK.know (sq_len (w := false) (ρ := RRec) (A := A0) (n := l.length) (c := c0) (l := l) (by repeat constructor)) ?_
    rintro ⟨-, -, hc, -⟩
    repeat' (first
    | (refine SO.pure rfl rfl rfl ?_)
    | (refine SO.nil ?_)
    | (refine SK.seq ?_)
    | (refine SK.region ?_)
    | (refine SK.exit rfl ?_)
    | (refine SK.condFP rfl (by first | assumption | (simp only [decide_eq_true_eq, decide_eq_false_iff_not, Bool.not_eq_true', Bool.not_eq_false', Bool.not_true, Bool.not_false, Bool.not_not]; omega)) ?_)
    | fail)
    rw [hd1]
    skip
    refine SK.share (ρ := RRec) (by repeat constructor) ?_
    exact SK.retX (.tmp rfl .nil) (A0, c0) hc rfl (by repeat constructor)
/-- Is a book short? -/
def fewB (l : List Cl) : Bool := decide (l.length ≤ 40) && l.all fun c => decide (c.key.size ≤ 50) && decide (c.val.size ≤ 50)
theorem fewb_does (A : Option Addr) (n c : Nat) (l : List Cl) : Does Tryd.prog 35 [.slice A n c] [slAt RCl A n l] [] Unit (fun _ => True) (fun _ => .bool (fewB l)) (fun _ => []) := by
  refine Does.of Tryd.call35 Tryd.func35 rfl rfl rfl (all_cons (pers_slAt _ _ _ _) all_nil) rfl ?_
  refine SK.know (sl_len (ρ := RCl) (A := A) (n := n) (l := l) (by repeat constructor)) ?_
  rintro ⟨rfl, hlim, -⟩
  repeat' (first
    | (refine SO.pure rfl rfl rfl ?_)
    | (refine SO.nil ?_)
    | (refine SK.seq ?_)
    | (refine SK.region ?_)
    | fail)
  by_cases h40 : l.length ≤ 40
  case neg =>
    rw [decide_eq_true (show (40 : Int) < (l.length : Int) by omega), show fewB l = false by unfold fewB; rw [decide_eq_false h40]; rfl]
    repeat' (first
    | (refine SO.pure rfl rfl rfl ?_)
    | (refine SO.nil ?_)
    | (refine SK.seq ?_)
    | (refine SK.region ?_)
    | (refine SK.condT rfl ?_)
    | fail)
    exact SK.retX (.tmp rfl .nil) () trivial rfl (by repeat constructor)
  rw [decide_eq_false (show ¬ (40 : Int) < (l.length : Int) by omega)]
  repeat' (first
    | (refine SO.pure rfl rfl rfl ?_)
    | (refine SO.nil ?_)
    | (refine SK.seq ?_)
    | (refine SK.region ?_)
    | (refine SK.condF rfl ?_)
    | (refine SK.skip ?_)
    | (refine SK.block ?_)
    | fail)
  refine SK.loop (X := {i : Nat // i ≤ l.length ∧ (l.take i).all (fun c => decide (c.key.size ≤ 50) && decide (c.val.size ≤ 50)) = true}) (fun i => [(3, .int .i64 (i.1 : Int)), (0, .slice A l.length c)]) (fun i => [slAt RCl A l.length l]) (fun i => l.length - i.1) ⟨0, Nat.zero_le _, by simp⟩ (by repeat constructor) (ent_append_of_takes (by repeat constructor)) ?_
  rintro ⟨i, hi, hall⟩
  dsimp only
  have hwi := wrapn (show i ≤ lim by omega)
  rcases Nat.lt_or_ge i l.length with hil | hil
  · have hd1 : decide ((i : Int) < (l.length : Int)) = true := decide_eq_true (by omega)
    obtain ⟨u, hu⟩ : ∃ u, l[i]? = some u := ⟨_, List.getElem?_eq_getElem hil⟩
    have hbad : (decide (u.key.size ≤ 50) && decide (u.val.size ≤ 50)) = false → fewB l = false := fun h => by
      unfold fewB
      have : (l.all fun c => decide (c.key.size ≤ 50) && decide (c.val.size ≤ 50)) = false := by
        rw [Bool.eq_false_iff]; intro h2
        have := List.all_eq_true.1 h2 u (List.mem_of_getElem? hu)
        rw [h] at this; cases this
      rw [this, Bool.and_false]
    repeat' (first
    | (refine SO.indexH rfl rfl (by repeat constructor) rfl rfl rfl rfl (by assumption) ?_)
    | (refine SO.pure rfl rfl rfl ?_)
    | (refine SO.nil ?_)
    | (refine SO.efield rfl rfl rfl rfl rfl ?_)
    | (refine SO.eload rfl (by repeat constructor) (by assumption) rfl (by rfl) (by exact fun _ => ⟨rfl, fun _ => rfl⟩) rfl (fun hid => ?_))
    | (refine SK.seq ?_)
    | (refine SK.region ?_)
    | (refine SK.skip ?_)
    | (refine SK.block ?_)
    | (refine SK.condTP rfl (by first | assumption | (simp only [decide_eq_true_eq, decide_eq_false_iff_not, Bool.not_eq_true', Bool.not_eq_false', Bool.not_true, Bool.not_false, Bool.not_not]; omega)) ?_)
    | fail)
    rw [hd1]
    skip
    by_cases hk : u.key.size ≤ 50
    · rw [decide_eq_false (show ¬ (50 : Int) < (u.key.size : Int) by omega)]
      repeat' (first
    | (refine SO.indexH rfl rfl (by repeat constructor) rfl rfl rfl rfl (by assumption) ?_)
    | (refine SO.pure rfl rfl rfl ?_)
    | (refine SO.nil ?_)
    | (refine SO.guardY rfl rfl ?_)
    | (refine SO.efield rfl rfl rfl rfl rfl ?_)
    | (refine SO.eload rfl (by repeat constructor) (by assumption) rfl (by rfl) (by exact fun _ => ⟨rfl, fun _ => rfl⟩) rfl (fun hid => ?_))
    | fail)
      by_cases hv : u.val.size ≤ 50
      · rw [decide_eq_false (show ¬ (50 : Int) < (u.val.size : Int) by omega)]
        repeat' (first
    | (refine SO.pure rfl rfl rfl ?_)
    | (refine SO.nil ?_)
    | (refine SK.region ?_)
    | (refine SK.condF rfl ?_)
    | (refine SK.skip ?_)
    | (refine SK.blk ?_)
    | fail)
        refine SK.inv ⟨⟨i + 1, by omega, by rw [List.take_add_one, hu, List.all_append, hall]; simp [hk, hv]⟩, ?_, ?_, ?_⟩
        · show l.length - (i + 1) < l.length - i
          omega
        · rw [hwi]; repeat constructor
        · exact ent_append_of_takes (by repeat constructor)
      · rw [decide_eq_true (show (50 : Int) < (u.val.size : Int) by omega), hbad (by rw [decide_eq_false hv, Bool.and_false])]
        repeat' (first
    | (refine SO.pure rfl rfl rfl ?_)
    | (refine SO.nil ?_)
    | (refine SK.seq ?_)
    | (refine SK.region ?_)
    | (refine SK.condT rfl ?_)
    | fail)
        exact SK.retX (.tmp rfl .nil) () trivial rfl (by repeat constructor)
    · rw [decide_eq_true (show (50 : Int) < (u.key.size : Int) by omega), hbad (by rw [decide_eq_false hk, Bool.false_and])]
      repeat' (first
    | (refine SO.pure rfl rfl rfl ?_)
    | (refine SO.nil ?_)
    | (refine SO.guardN rfl rfl rfl ?_)
    | (refine SK.seq ?_)
    | (refine SK.region ?_)
    | (refine SK.condT rfl ?_)
    | fail)
      exact SK.retX (.tmp rfl .nil) () trivial rfl (by repeat constructor)
  · have hd1 : decide ((i : Int) < (l.length : Int)) = false := decide_eq_false (by omega)
    rw [List.take_of_length_le hil] at hall
    rw [show fewB l = true by unfold fewB; rw [decide_eq_true h40, hall]; rfl]
    repeat' (first
    | (refine SO.pure rfl rfl rfl ?_)
    | (refine SO.nil ?_)
    | (refine SK.seq ?_)
    | (refine SK.region ?_)
    | (refine SK.exit rfl ?_)
    | (refine SK.condFP rfl (by first | assumption | (simp only [decide_eq_true_eq, decide_eq_false_iff_not, Bool.not_eq_true', Bool.not_eq_false', Bool.not_true, Bool.not_false, Bool.not_not]; omega)) ?_)
    | fail)
    rw [hd1]
    skip
    exact SK.retX (.tmp rfl .nil) () trivial rfl (by repeat constructor)
end Go.Proofs
