/- A part of a proof: what functions of the program compute. -/
import Derived.Test.YtmbfcjffjgecjaaGreatDoorLog1E
import Derived.Test.YtmbfcjffjgecjaaGreatDoorSeg5E
set_option linter.unusedVariables false
set_option linter.unusedSimpArgs false
set_option maxHeartbeats 0
set_option maxRecDepth 20000
namespace Go.Proofs
attribute [local irreducible] Go.Sl.SO Go.Sl.SQ Go.Sl.SR Go.Sl.SC Go.Sl.SX Go.Sl.SY Go.Sl.eadr Go.Sl.slAt Go.Sl.sqAt Go.Sl.pts Go.Sl.rod Go.Sl.ob Go.Sl.ex Go.Sl.big Go.Sl.pr Go.Sl.tabs Go.Sl.mpAt Go.Sl.mitAt Go.Sl.mitN
open Go.Sl
theorem vclone_does (A : Option Addr) (n c : Nat) (l : List Int) : Does Tryz.prog 113 [.slice A n c] [slAt RI A n l] [] Pl (fun x => l.length ≤ x.2) (fun x => .slice x.1 l.length x.2) (fun x => [sqAt true RI x.1 l.length x.2 l]) := by
  refine Does.of Tryz.call113 Tryz.func113 rfl rfl rfl (all_cons (pers_slAt _ _ _ _) all_nil) rfl ?_
  refine SK.know (sl_len (ρ := RI) (A := A) (n := n) (l := l) (by repeat constructor)) ?_
  rintro ⟨rfl, hlim, h0⟩
  cases A with
  | none =>
    obtain rfl := h0 rfl
    repeat' (first
 | refine SO.pure rfl rfl rfl ?_
 | refine SO.pure2 rfl rfl rfl ?_
 | refine SO.nil ?_
 | refine SK.seq ?_
 | refine SK.region ?_
 | refine SK.condT rfl ?_
 | fail)
    refine SK.ret ⟨_, .tmp rfl .nil, (none, 0), Nat.zero_le _, rfl, ?_⟩
    exact (ent_triv (A := sqAt true RI none 0 0 [])).trans (ent_append_of_takes (by repeat constructor))
  | some a =>
    repeat' (first
 | refine SO.pure rfl rfl rfl ?_
 | refine SO.pure2 rfl rfl rfl ?_
 | refine SO.nil ?_
 | refine SK.seq ?_
 | refine SK.region ?_
 | refine SK.condF rfl ?_
 | refine SK.skip ?_
 | refine SO.buildSlice rfl rfl rfl rfl rfl rfl (fun b => ?_)
 | fail)
    refine SO.shift (toSq (ρ := RI) (l := []) [] (by repeat constructor) rfl rfl rfl rfl (by repeat constructor)) ?_
    repeat' (first
 | refine SO.append (ρ := RI) (w := true) rfl rfl (by repeat constructor) (Src.sl (by repeat constructor)) rfl rfl rfl rfl rfl rfl rfl (by omega) (fun A3 c3 => ?_)
 | refine SO.pure rfl rfl rfl ?_
 | refine SO.nil ?_
 | fail)
    simp only [Nat.zero_add, List.nil_append]
    refine SK.know (sq_len (w := true) (ρ := RI) (A := A3) (n := l.length) (c := c3) (l := l) (by repeat constructor)) ?_
    rintro ⟨-, -, hc3, -⟩
    exact SK.retX (.tmp rfl .nil) (A3, c3) hc3 rfl (by repeat constructor)
theorem vwith_does (A : Option Addr) (n c : Nat) (l : List Int) (s : Nat) (q : Int) (hs : s ≤ 63) (hl : l.length ≤ 1000) : Does Tryz.prog 74 [.slice A n c, .int .i64 (s : Int), .int .i64 q] [slAt RI A n l] [] Pl (fun x => (withI l s q).length ≤ x.2) (fun x => .slice x.1 (withI l s q).length x.2) (fun x => [slAt RI x.1 (withI l s q).length (withI l s q)]) := by
  refine Does.of Tryz.call74 Tryz.func74 rfl rfl rfl (all_cons (pers_slAt _ _ _ _) all_nil) rfl ?_
  have h1 : decide ((s : Int) < 0) = false := decide_eq_false (by omega)
  have h2 : decide ((63 : Int) < (s : Int)) = false := decide_eq_false (by omega)
  have vc := vclone_does A n c l
  repeat' (first
 | refine SO.call (vc) rfl rfl rfl (by repeat constructor) (by repeat constructor) rfl (fun x hx => ?_)
 | refine SO.pure rfl rfl rfl ?_
 | refine SO.nil ?_
 | refine SO.guardY rfl rfl ?_
 | refine SK.seq ?_
 | refine SK.region ?_
 | refine SK.skip ?_
 | refine SK.block ?_
 | refine SK.condFP rfl (by first | assumption | (simp only [Go.Sl.bl]; omega)) ?_
 | fail)
  rename Pl => y
  obtain ⟨A1, c1⟩ := y
  dsimp only
  refine SK.loop (X := {x : Nat × Pl // x.1 ≤ s + 1 - l.length}) (fun x => [(7, .slice x.1.2.1 (l.length + x.1.1) x.1.2.2), (1, .int .i64 (s : Int)), (2, .int .i64 q)]) (fun x => [sqAt true RI x.1.2.1 (l.length + x.1.1) x.1.2.2 (l ++ List.replicate x.1.1 0)]) (fun x => s + 1 - l.length - x.1.1) ⟨(0, A1, c1), Nat.zero_le _⟩ (by repeat constructor)
    (by show Ent _ [sqAt true RI A1 l.length c1 (l ++ [])]; simp only [List.append_nil]; exact ent_append_of_takes (by repeat constructor)) ?_
  rintro ⟨⟨j, A2, c2⟩, hj0⟩
  have hj : j ≤ s + 1 - l.length := hj0
  dsimp only
  by_cases hle : l.length + j ≤ s
  · have hd : decide (((l.length + j : Nat) : Int) ≤ (s : Int)) = true := decide_eq_true (by omega)
    repeat' (first
 | refine SO.append (ρ := RI) (w := true) (ys := [0]) rfl rfl (by repeat constructor) (Src.one (h := ()) (by repeat constructor) (by rfl) (by repeat constructor)) rfl rfl rfl rfl rfl rfl rfl (by unfold lim; omega) (fun A3 c3 => ?_)
 | refine SO.pure rfl rfl rfl ?_
 | refine SO.nil ?_
 | refine SK.seq ?_
 | refine SK.region ?_
 | refine SK.skip ?_
 | refine SK.block ?_
 | refine SK.blk ?_
 | refine SO.buildSlice rfl rfl rfl rfl rfl rfl (fun b => ?_)
 | refine SK.condTP rfl (by first | assumption | (simp only [Go.Sl.bl]; omega)) ?_
 | fail)
    have el : l ++ List.replicate (j + 1) (0 : Int) = (l ++ List.replicate j 0) ++ [0] := by rw [List.replicate_succ', List.append_assoc]
    refine SK.inv ⟨⟨(j + 1, A3, c3), by show j + 1 ≤ s + 1 - l.length; omega⟩, ?_, by repeat constructor, ?_⟩
    · show s + 1 - l.length - (j + 1) < s + 1 - l.length - j
      omega
    · dsimp only
      rw [el]
      exact ent_append_of_takes (by repeat constructor)
  · have hd : decide (((l.length + j : Nat) : Int) ≤ (s : Int)) = false := decide_eq_false (by omega)
    have hsl : s < l.length + j := by omega
    repeat' (first
 | refine SO.indexW rfl rfl (by repeat constructor) rfl rfl rfl rfl (by omega) (fun v hv => ?_)
 | refine SO.estoreW (ρ := RI) (h := ()) (u := q) rfl rfl (by repeat constructor) (by repeat constructor) rfl rfl rfl (by omega) ?_
 | refine SO.pure rfl rfl rfl ?_
 | refine SO.nil ?_
 | refine SO.indexW rfl rfl (by repeat constructor) rfl rfl rfl rfl (by first | assumption | omega | exact Nat.le_of_ble_eq_true rfl | (simp only [decide_eq_true_eq, decide_eq_false_iff_not] at *; omega)) (fun v hv => ?_)
 | refine SK.seq ?_
 | refine SK.region ?_
 | refine SK.exit rfl ?_
 | refine SK.condFP rfl (by first | assumption | (simp only [Go.Sl.bl]; omega)) ?_
 | fail)
    have ej : j = s + 1 - l.length := by omega
    have ew : (l ++ List.replicate j (0 : Int)).set s q = withI l s q := by rw [ej]; rfl
    have en : l.length + j = (withI l s q).length := by rw [withI_len]; omega
    rw [ew, en]
    refine SK.know (sq_len (w := true) (ρ := RI) (A := A2) (n := (withI l s q).length) (c := c2) (l := withI l s q) (by repeat constructor)) ?_
    rintro ⟨-, -, hc3, -⟩
    refine SK.share (ρ := RI) (w' := true) (A := A2) (n := (withI l s q).length) (m := c2) (l := withI l s q) (by repeat constructor) ?_
    exact SK.retX (.tmp rfl .nil) (A2, c2) hc3 rfl (by repeat constructor)
theorem vcovers_does (A B : Option Addr) (n c m e : Nat) (k l : List Int) : Does Tryz.prog 123 [.slice A n c, .slice B m e] [slAt RI A n k, slAt RI B m l] [] Unit (fun _ => True) (fun _ => .bool (coversB k l)) (fun _ => []) := by
  refine Does.of Tryz.call123 Tryz.func123 rfl rfl rfl (all_cons (pers_slAt _ _ _ _) (all_cons (pers_slAt _ _ _ _) all_nil)) rfl ?_
  refine SK.know (sl_len (ρ := RI) (A := A) (n := n) (l := k) (by repeat constructor)) ?_
  rintro ⟨rfl, hlim, -⟩
  refine SK.know (sl_len (ρ := RI) (A := B) (n := m) (l := l) (by repeat constructor)) ?_
  rintro ⟨rfl, hlim2, -⟩
  have g1 := fun i => get_does A k.length c k i
  have g2 := fun i => get_does B l.length e l i
  have hmx : (if (k.length : Int) < (l.length : Int) then (l.length : Int) else (k.length : Int)) = ((max k.length l.length : Nat) : Int) := by split <;> omega
  repeat' (first
 | refine SO.pure rfl rfl rfl ?_
 | refine SO.pure2 rfl rfl rfl ?_
 | refine SO.nil ?_
 | refine SK.seq ?_
 | refine SK.region ?_
 | refine SK.block ?_
 | fail)
  rw [hmx]
  refine SK.loop (X := {i : Nat // i ≤ max k.length l.length ∧ ∀ j : Nat, j < i → ¬ getI k (j : Int) < getI l (j : Int)}) (fun i => [(11, .int .i64 (i.1 : Int)), (10, .int .i64 ((max k.length l.length : Nat) : Int)), (1, .slice B l.length e), (0, .slice A k.length c)]) (fun i => [slAt RI A k.length k, slAt RI B l.length l]) (fun i => max k.length l.length - i.1) ⟨0, Nat.zero_le _, fun j hj => absurd hj (Nat.not_lt_zero j)⟩ (by repeat constructor) (ent_append_of_takes (by repeat constructor)) ?_
  rintro ⟨i, hi, hall⟩
  dsimp only
  have hlm : max k.length l.length ≤ lim := by omega
  have hlb : lim = 2147483648 := rfl
  have hwi : IntKind.i64.wrap ((i : Int) + 1) = ((i + 1 : Nat) : Int) := by rw [wrap_id (by omega) (by omega)]; omega
  have h1 := g1 (i : Int)
  have h2 := g2 (i : Int)
  rcases Nat.lt_or_ge i (max k.length l.length) with hil | hil
  · have hd : decide ((i : Int) < ((max k.length l.length : Nat) : Int)) = true := decide_eq_true (by omega)
    by_cases hg : getI k (i : Int) < getI l (i : Int)
    · have hd2 : decide (getI k (i : Int) < getI l (i : Int)) = true := decide_eq_true hg
      have hcv : coversB k l = false := by
        unfold coversB
        rw [List.all_eq_false]
        exact ⟨i, List.mem_range.2 hil, by rw [hd2]; decide⟩
      repeat' (first
 | refine SO.call (h1) rfl rfl rfl (by repeat constructor) (by repeat constructor) rfl (fun x hx => ?_)
 | refine SO.call (h2) rfl rfl rfl (by repeat constructor) (by repeat constructor) rfl (fun x hx => ?_)
 | refine SO.pure rfl rfl rfl ?_
 | refine SO.nil ?_
 | refine SK.seq ?_
 | refine SK.region ?_
 | refine SK.skip ?_
 | refine SK.block ?_
 | refine SK.condTP rfl (by first | assumption | (simp only [Go.Sl.bl]; omega)) ?_
 | fail)
      exact SK.retX (.tmp rfl .nil) () trivial (by rw [hcv]; rfl) (by repeat constructor)
    · have hd2 : decide (getI k (i : Int) < getI l (i : Int)) = false := decide_eq_false hg
      repeat' (first
 | refine SO.call (h1) rfl rfl rfl (by repeat constructor) (by repeat constructor) rfl (fun x hx => ?_)
 | refine SO.call (h2) rfl rfl rfl (by repeat constructor) (by repeat constructor) rfl (fun x hx => ?_)
 | refine SO.pure rfl rfl rfl ?_
 | refine SO.nil ?_
 | refine SK.seq ?_
 | refine SK.region ?_
 | refine SK.skip ?_
 | refine SK.block ?_
 | refine SK.blk ?_
 | refine SK.condTP rfl (by first | assumption | (simp only [Go.Sl.bl]; omega)) ?_
 | refine SK.condFP rfl (by first | assumption | (simp only [Go.Sl.bl]; omega)) ?_
 | fail)
      refine SK.inv ⟨⟨i + 1, by omega, fun j hj => ?_⟩, ?_, ?_, ?_⟩
      · rcases Nat.lt_or_ge j i with h | h
        · exact hall j h
        · have : j = i := by omega
          subst this; exact hg
      · show max k.length l.length - (i + 1) < max k.length l.length - i
        omega
      · dsimp only
        rw [hwi]; repeat constructor
      · exact ent_append_of_takes (by repeat constructor)
  · have hd : decide ((i : Int) < ((max k.length l.length : Nat) : Int)) = false := decide_eq_false (by omega)
    have hcv : coversB k l = true := by
      unfold coversB
      rw [List.all_eq_true]
      intro j hj
      have := List.mem_range.1 hj
      rw [decide_eq_false (hall j (by omega))]; rfl
    repeat' (first
 | refine SO.pure rfl rfl rfl ?_
 | refine SO.nil ?_
 | refine SK.seq ?_
 | refine SK.region ?_
 | refine SK.exit rfl ?_
 | refine SK.condFP rfl (by first | assumption | (simp only [Go.Sl.bl]; omega)) ?_
 | fail)
    exact SK.retX (.tmp rfl .nil) () trivial (by rw [hcv]; rfl) (by repeat constructor)
theorem vsame_does (A B : Option Addr) (n c m e : Nat) (k l : List Int) : Does Tryz.prog 111 [.slice A n c, .slice B m e] [slAt RI A n k, slAt RI B m l] [] Unit (fun _ => True) (fun _ => .bool (coversB k l && coversB l k)) (fun _ => []) := by
  refine Does.of Tryz.call111 Tryz.func111 rfl rfl rfl (all_cons (pers_slAt _ _ _ _) (all_cons (pers_slAt _ _ _ _) all_nil)) rfl ?_
  have c1 := vcovers_does A B n c m e k l
  have c2 := vcovers_does B A m e n c l k
  cases hb : coversB k l with
  | true =>
    rw [hb] at c1
    repeat' (first
 | refine SO.call (c1) rfl rfl rfl (by repeat constructor) (by repeat constructor) rfl (fun x hx => ?_)
 | refine SO.call (c2) rfl rfl rfl (by repeat constructor) (by repeat constructor) rfl (fun x hx => ?_)
 | refine SO.pure rfl rfl rfl ?_
 | refine SO.nil ?_
 | refine SO.guardY rfl rfl ?_
 | refine SK.seq ?_
 | refine SK.region ?_
 | fail)
    exact SK.retX (.tmp rfl .nil) () trivial rfl (by repeat constructor)
  | false =>
    rw [hb] at c1
    repeat' (first
 | refine SO.call (c1) rfl rfl rfl (by repeat constructor) (by repeat constructor) rfl (fun x hx => ?_)
 | refine SO.call (c2) rfl rfl rfl (by repeat constructor) (by repeat constructor) rfl (fun x hx => ?_)
 | refine SO.pure rfl rfl rfl ?_
 | refine SO.nil ?_
 | refine SO.guardN rfl rfl rfl ?_
 | refine SK.seq ?_
 | refine SK.region ?_
 | fail)
    exact SK.retX (.tmp rfl .nil) () trivial rfl (by repeat constructor)
end Go.Proofs
