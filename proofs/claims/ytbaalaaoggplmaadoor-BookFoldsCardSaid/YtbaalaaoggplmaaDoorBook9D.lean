/- A part of a proof: what functions of the program compute. -/
import Derived.Test.YtbaalaaoggplmaaDoorBook8D
set_option linter.unusedVariables false
set_option linter.unusedSimpArgs false
set_option maxHeartbeats 0
namespace Go.Proofs
attribute [local irreducible] Go.Sl.SO Go.Sl.SQ Go.Sl.SR Go.Sl.SC Go.Sl.SX Go.Sl.SY Go.Sl.eadr Go.Sl.slAt Go.Sl.sqAt Go.Sl.pts Go.Sl.rod Go.Sl.ob Go.Sl.ex Go.Sl.big Go.Sl.pr Go.Sl.tabs Go.Sl.mpAt
open Go.Sl
theorem rputc_does (A : Option Addr) (n c : Nat) (l : List Cl) (r : Rc) (h : Pl) (hr : ris l) (hnc : n ≤ c) (hlim1 : l.length < 1073741824) : Does Tryd.prog 61 [.slice A n c, RRec.val r h] [slAt RCl A n l] [] Pl (fun z => (putB l (clOf r)).length ≤ z.2) (fun z => .slice z.1 (putB l (clOf r)).length z.2) (fun z => [slAt RCl z.1 (putB l (clOf r)).length (putB l (clOf r))]) := by
  refine Does.of Tryd.call61 Tryd.func61 rfl rfl rfl (all_cons (pers_slAt _ _ _ _) all_nil) rfl ?_
  refine SK.know (sl_len (ρ := RCl) (A := A) (n := n) (l := l) (by repeat constructor)) ?_
  rintro ⟨rfl, hlim, -⟩
  have hpl := posB_le l r.key
  have hlim3 : l.length + 1 ≤ lim := by unfold lim; omega
  repeat' (first
    | (refine SO.pure rfl rfl rfl ?_)
    | (refine SO.nil ?_)
    | (refine SO.load rfl (by repeat constructor) rfl (by rfl) (by exact ⟨rfl, by first | exact fun _ => rfl | exact (fun h => by cases h)⟩) rfl ?_)
    | (refine SO.build rfl rfl rfl rfl ?_)
    | (refine SK.seq ?_)
    | (refine SK.region ?_)
    | (refine SK.block ?_)
    | (refine SO.alloc rfl rfl rfl (fun b => ?_))
    | (refine SO.box rfl rfl rfl (fun b => ?_))
    | (refine SO.storeW rfl rfl (by repeat constructor) rfl (by rfl) (by rfl) (by rfl) ?_)
    | fail)
  rename_i b3
  revert b
  intro b5
  refine SK.loop (X := {i : Nat // i ≤ posB l r.key}) (fun i => [(6, .int .i64 (i.1 : Int)), (0, .slice A l.length c), (3, .pointer (some ⟨b3, 0, none⟩)), (5, .pointer (some ⟨b5, 0, none⟩))]) (fun i => [pts b5 0 (RCl.cells (clOf r) ()), pts b3 0 (RRec.cells r h), slAt RCl A l.length l]) (fun i => posB l r.key - i.1) ⟨0, Nat.zero_le _⟩ (by repeat constructor) (ent_append_of_takes (by repeat constructor)) ?_
  rintro ⟨i, hi⟩
  dsimp only
  have hwi := wrapn (show i ≤ lim by omega)
  rcases Nat.lt_or_ge i (posB l r.key) with hil | hil
  · have hd1 : decide ((i : Int) < (l.length : Int)) = true := decide_eq_true (by omega)
    obtain ⟨u, hu⟩ : ∃ u, l[i]? = some u := ⟨_, List.getElem?_eq_getElem (by omega)⟩
    repeat' (first
    | (refine SO.nil ?_)
    | (refine SK.seq ?_)
    | (refine SK.regionX 3 (.item 0 0 (.item 0 1 (.item 0 2 (.item 0 3 (.item 0 4 (.item 0 5 (.item 0 6 (.item 0 10 (.item 0 7 (.item 0 11 (.item 0 8 (.item 0 9 (.item 0 12 (.item 0 13 .nil)))))))))))))) [] .nil (by repeat (first | exact .nil | apply PersSub.s | apply PersSub.t | apply PersSub.p | apply PersSub.r | apply PersSub.skip)) (by kernel_rfl) (by kernel_rfl) (fun _ _ _ h => h) ?_)
    | (refine SX.tail (by rfl) (by repeat (first | exact .nil | apply DropP.s | apply DropP.t | apply DropP.p | apply DropP.r | apply DropP.keep)) ?_)
    | (refine SX.indexH rfl rfl (by repeat constructor) rfl rfl rfl rfl (by assumption) ?_)
    | (refine SX.pure rfl rfl rfl ?_)
    | (refine SX.guardY rfl rfl ?_)
    | (refine SX.load rfl (by repeat constructor) rfl (by rfl) (by exact ⟨rfl, by first | exact fun _ => rfl | exact (fun h => by cases h)⟩) rfl ?_)
    | (refine SX.efield rfl rfl rfl rfl rfl ?_)
    | (refine SX.eload rfl (by repeat constructor) (by assumption) rfl (by rfl) (by exact fun _ => ⟨rfl, fun _ => rfl⟩) rfl (fun hid => ?_))
    | (refine SX.scmp rfl rfl rfl rfl ?_)
    | (refine SX.guardYP rfl rfl (by first | assumption | (simp only [decide_eq_true_eq, decide_eq_false_iff_not, Bool.not_eq_true', Bool.not_eq_false', Bool.not_true, Bool.not_false, Bool.not_not]; omega)) ?_)
    | fail)
    rw [hd1]
    skip
    rw [show ltS u.key r.key = true by rw [ltS_cmp]; exact decide_eq_true (posB_lt hil hu)]
    repeat' (first
    | (refine SO.pure rfl rfl rfl ?_)
    | (refine SO.nil ?_)
    | (refine SK.region ?_)
    | (refine SK.condT rfl ?_)
    | (refine SK.skip ?_)
    | (refine SK.block ?_)
    | (refine SK.blk ?_)
    | fail)
    refine SK.inv ⟨⟨i + 1, by omega⟩, ?_, ?_, ?_⟩
    · show posB l r.key - (i + 1) < posB l r.key - i
      omega
    · rw [hwi]; repeat constructor
    · exact ent_append_of_takes (by repeat constructor)
  obtain rfl : i = posB l r.key := by omega
  by_cases hlt : posB l r.key < l.length
  · obtain ⟨u, hu⟩ : ∃ u, l[posB l r.key]? = some u := ⟨_, List.getElem?_eq_getElem hlt⟩
    have hnl := posB_ge (k := r.key) hr (Nat.le_refl _) hu
    repeat' (first
    | (refine SO.nil ?_)
    | (refine SK.seq ?_)
    | (refine SK.regionX 3 (.item 0 0 (.item 0 1 (.item 0 2 (.item 0 3 (.item 0 4 (.item 0 5 (.item 0 6 (.item 0 10 (.item 0 7 (.item 0 11 (.item 0 8 (.item 0 9 (.item 0 12 (.item 0 13 .nil)))))))))))))) [] .nil (by repeat (first | exact .nil | apply PersSub.s | apply PersSub.t | apply PersSub.p | apply PersSub.r | apply PersSub.skip)) (by kernel_rfl) (by kernel_rfl) (fun _ _ _ h => h) ?_)
    | (refine SX.tail (by rfl) (by repeat (first | exact .nil | apply DropP.s | apply DropP.t | apply DropP.p | apply DropP.r | apply DropP.keep)) ?_)
    | (refine SX.indexH rfl rfl (by repeat constructor) rfl rfl rfl rfl (by assumption) ?_)
    | (refine SX.pure rfl rfl rfl ?_)
    | (refine SX.guardY rfl rfl ?_)
    | (refine SX.load rfl (by repeat constructor) rfl (by rfl) (by exact ⟨rfl, by first | exact fun _ => rfl | exact (fun h => by cases h)⟩) rfl ?_)
    | (refine SX.efield rfl rfl rfl rfl rfl ?_)
    | (refine SX.eload rfl (by repeat constructor) (by assumption) rfl (by rfl) (by exact fun _ => ⟨rfl, fun _ => rfl⟩) rfl (fun hid => ?_))
    | (refine SX.scmp rfl rfl rfl rfl ?_)
    | (refine SX.guardYP rfl rfl (by first | assumption | (simp only [decide_eq_true_eq, decide_eq_false_iff_not, Bool.not_eq_true', Bool.not_eq_false', Bool.not_true, Bool.not_false, Bool.not_not]; omega)) ?_)
    | fail)
    rw [decide_eq_true (show ((posB l r.key : Nat) : Int) < (l.length : Int) by omega)]
    skip
    rw [show ltS u.key r.key = false by rw [ltS_cmp]; exact decide_eq_false hnl]
    repeat' (first
    | (refine SK.seq ?_)
    | (refine SK.condF rfl ?_)
    | (refine SK.exit rfl ?_)
    | fail)
    refine SK.cutJ (X := Pl) (fun z => [(7, .slice z.1 (posB l r.key + 1) z.2), (6, .int .i64 ((posB l r.key : Nat) : Int)), (0, .slice A l.length c), (3, .pointer (some ⟨b3, 0, none⟩)), (5, .pointer (some ⟨b5, 0, none⟩))]) (fun z => [sqAt false RCl z.1 (posB l r.key + 1) z.2 (l.take (posB l r.key) ++ [clOf r]), pts b3 0 (RRec.cells r h), slAt RCl A l.length l]) (fun _ _ _ h => h) ?_ ?_
    · repeat' (first
    | (refine SO.buildSlice rfl rfl rfl rfl rfl rfl (fun b => SO.shift (toSqR (ρ := RCl) (b := b) (n := 0) (l := []) [] (by repeat constructor) rfl rfl rfl rfl .nil) ?_))
    | (refine SO.append (ρ := RCl) (w := false) rfl rfl (by repeat constructor) (Src.sl (by repeat constructor)) rfl rfl rfl rfl rfl rfl rfl (by simp only [List.length_take, List.length_drop, List.drop_zero, Nat.sub_zero, lim]; omega) (fun A4 c4 => ?_))
    | (refine SO.append (ρ := RCl) (w := false) (ys := [clOf r]) rfl rfl (by repeat constructor) (Src.one (h := ()) (by repeat constructor) (by rfl) (by repeat constructor)) rfl rfl rfl rfl rfl rfl rfl (by omega) (fun A5 c5 => ?_))
    | (refine SX.slice (k1 := .i64) (k2 := .i64) rfl rfl rfl (by repeat constructor) rfl rfl (by rfl) rfl (by exact .inr ⟨rfl, rfl⟩) (by exact .inl rfl) (by omega) (by omega) (by assumption) (fun As cs hcs => SX.copy (M := [slAt RCl As _ _]) (all_cons (pers_slAt _ _ _ _) all_nil) ?_))
    | (refine SO.nil ?_)
    | (refine SO.buildSlice rfl rfl rfl rfl rfl rfl (fun b => ?_))
    | (refine SK.regionX 5 (.item 0 1 (.item 0 2 (.item 0 5 (.item 0 3 (.fork (.item 1 0 (.fork (.item 1 4 (.item 1 6 (.item 2 7 (.item 0 8 .nil)))) (.item 1 6 (.item 1 4 (.item 2 7 (.item 0 8 .nil)))))) (.item 1 6 (.item 1 0 (.item 1 4 (.item 2 7 (.item 0 8 .nil)))))))))) [] .nil (by repeat (first | exact .nil | apply PersSub.s | apply PersSub.t | apply PersSub.p | apply PersSub.r | apply PersSub.skip)) (by kernel_rfl) (by kernel_rfl) (fun _ _ _ h => h) ?_)
    | (refine SX.tail (by rfl) (by repeat (first | exact .nil | apply DropP.s | apply DropP.t | apply DropP.p | apply DropP.r | apply DropP.keep)) ?_)
    | (refine SX.pure rfl rfl rfl ?_)
    | (refine SX.load rfl (by repeat constructor) rfl (by rfl) (by exact ⟨rfl, by first | exact fun _ => rfl | exact (fun h => by cases h)⟩) rfl ?_)
    | (refine SX.fork ?_ ?_)
    | (refine SX.step rfl rfl ?_)
    | (refine SK.invY ?_)
    | (refine SY.go ?_)
    | fail)
      all_goals (
        rw [show [] ++ (l.drop 0).take (posB l r.key - 0) ++ [clOf r] = l.take (posB l r.key) ++ [clOf r] by simp, show 0 + (posB l r.key - 0) + 1 = posB l r.key + 1 by omega]
        exact SK.inv ⟨(A5, c5), by repeat constructor, ent_append_of_takes (by repeat constructor)⟩)
    rintro ⟨A6, c6⟩ T' L' hT hL
    dsimp only at hT hL
    refine SK.weaken hT hL ?_
    repeat' (first
    | (refine SO.nil ?_)
    | (refine SK.seq ?_)
    | (refine SK.regionX 6 (.item 0 0 (.item 0 1 (.item 0 2 (.item 0 3 (.item 0 4 (.item 0 5 (.item 0 6 (.item 0 10 (.item 0 7 (.item 0 11 (.item 0 8 (.item 0 9 (.item 0 12 (.item 0 13 .nil)))))))))))))) [] .nil (by repeat (first | exact .nil | apply PersSub.s | apply PersSub.t | apply PersSub.p | apply PersSub.r | apply PersSub.skip)) (by kernel_rfl) (by kernel_rfl) (fun _ _ _ h => h) ?_)
    | (refine SX.tail (by rfl) (by repeat (first | exact .nil | apply DropP.s | apply DropP.t | apply DropP.p | apply DropP.r | apply DropP.keep)) ?_)
    | (refine SX.indexH rfl rfl (by repeat constructor) rfl rfl rfl rfl (by assumption) ?_)
    | (refine SX.pure rfl rfl rfl ?_)
    | (refine SX.guardY rfl rfl ?_)
    | (refine SX.load rfl (by repeat constructor) rfl (by rfl) (by exact ⟨rfl, by first | exact fun _ => rfl | exact (fun h => by cases h)⟩) rfl ?_)
    | (refine SX.efield rfl rfl rfl rfl rfl ?_)
    | (refine SX.eload rfl (by repeat constructor) (by assumption) rfl (by rfl) (by exact fun _ => ⟨rfl, fun _ => rfl⟩) rfl (fun hid => ?_))
    | (refine SX.guardYP rfl rfl (by first | assumption | (simp only [decide_eq_true_eq, decide_eq_false_iff_not, Bool.not_eq_true', Bool.not_eq_false', Bool.not_true, Bool.not_false, Bool.not_not]; omega)) ?_)
    | fail)
    rw [decide_eq_true (show ((posB l r.key : Nat) : Int) < (l.length : Int) by omega)]
    skip
    by_cases hq : u.key = r.key
    · have hh : hasB l r.key = true := by unfold hasB; rw [hu]; simp [hq, cmpB_self]
      have eL : l.take (posB l r.key) ++ [clOf r] ++ (l.drop (posB l r.key + 1)).take (l.length - (posB l r.key + 1)) = putB l (clOf r) := by
        unfold putB
        rw [if_pos (show hasB l (clOf r).key = true from hh), List.set_eq_take_append_cons_drop, if_pos (show posB l (clOf r).key < l.length from hlt), List.take_of_length_le (l := l.drop (posB l r.key + 1)) (by simp)]
        simp [clOf]
      have eN : posB l r.key + 1 + (l.length - (posB l r.key + 1)) = (putB l (clOf r)).length := by
        rw [← eL]; simp; omega
      rw [eqS_iff.2 hq]
      repeat' (first
    | (refine SO.pure rfl rfl rfl ?_)
    | (refine SO.nil ?_)
    | (refine SK.seq ?_)
    | (refine SK.region ?_)
    | (refine SK.condT rfl ?_)
    | fail)
      rw [hwi]
      repeat' (first
    | (refine SO.append (ρ := RCl) (w := false) rfl rfl (by repeat constructor) (Src.sl (by repeat constructor)) rfl rfl rfl rfl rfl rfl rfl (by simp only [List.length_take, List.length_drop, List.drop_zero, Nat.sub_zero, lim]; omega) (fun A4 c4 => ?_))
    | (refine SO.pure rfl rfl rfl ?_)
    | (refine SO.nil ?_)
    | (refine SO.slice (k1 := .i64) (k2 := .i64) rfl rfl rfl (by repeat constructor) rfl rfl (by rfl) rfl (by first | exact .inl rfl | exact .inr ⟨rfl, rfl⟩) (by first | exact .inl rfl | exact .inr ⟨rfl, rfl⟩) (by first | assumption | omega | exact Nat.le_of_ble_eq_true rfl | (simp only [decide_eq_true_eq, decide_eq_false_iff_not] at *; omega)) (by first | assumption | omega | exact Nat.le_of_ble_eq_true rfl | (simp only [decide_eq_true_eq, decide_eq_false_iff_not] at *; omega)) (by assumption) (fun As cs hcs => ?_))
    | fail)
      rw [eN, eL]
      refine SK.know (sq_len (w := false) (ρ := RCl) (A := A4) (n := (putB l (clOf r)).length) (c := c4) (l := putB l (clOf r)) (by repeat constructor)) ?_
      rintro ⟨-, -, hc, -⟩
      refine SK.share (ρ := RCl) (A := A4) (by repeat constructor) ?_
      exact SK.retX (.tmp rfl .nil) (A4, c4) hc rfl (by repeat constructor)
    · have hh : hasB l r.key = false := by unfold hasB; rw [hu]; simp only [Option.any_some]; exact decide_eq_false fun h => hq (cmpB_zero h)
      have eL : l.take (posB l r.key) ++ [clOf r] ++ (l.drop (posB l r.key)).take (l.length - posB l r.key) = putB l (clOf r) := by
        unfold putB
        rw [if_neg (show ¬ hasB l (clOf r).key = true by rw [show (clOf r).key = r.key from rfl, hh]; simp), List.take_of_length_le (l := l.drop (posB l r.key)) (by simp)]
        simp [clOf]
      have eN : posB l r.key + 1 + (l.length - posB l r.key) = (putB l (clOf r)).length := by
        rw [← eL]; simp; omega
      rw [show eqS u.key r.key = false by rw [Bool.eq_false_iff]; exact fun h => hq (eqS_iff.1 h)]
      repeat' (first
    | (refine SO.append (ρ := RCl) (w := false) rfl rfl (by repeat constructor) (Src.sl (by repeat constructor)) rfl rfl rfl rfl rfl rfl rfl (by simp only [List.length_take, List.length_drop, List.drop_zero, Nat.sub_zero, lim]; omega) (fun A4 c4 => ?_))
    | (refine SO.pure rfl rfl rfl ?_)
    | (refine SO.nil ?_)
    | (refine SK.seq ?_)
    | (refine SK.region ?_)
    | (refine SK.condF rfl ?_)
    | (refine SK.skip ?_)
    | (refine SO.slice (k1 := .i64) (k2 := .i64) rfl rfl rfl (by repeat constructor) rfl rfl (by rfl) rfl (by first | exact .inl rfl | exact .inr ⟨rfl, rfl⟩) (by first | exact .inl rfl | exact .inr ⟨rfl, rfl⟩) (by first | assumption | omega | exact Nat.le_of_ble_eq_true rfl | (simp only [decide_eq_true_eq, decide_eq_false_iff_not] at *; omega)) (by first | assumption | omega | exact Nat.le_of_ble_eq_true rfl | (simp only [decide_eq_true_eq, decide_eq_false_iff_not] at *; omega)) (by assumption) (fun As cs hcs => ?_))
    | fail)
      rw [eN, eL]
      refine SK.know (sq_len (w := false) (ρ := RCl) (A := A4) (n := (putB l (clOf r)).length) (c := c4) (l := putB l (clOf r)) (by repeat constructor)) ?_
      rintro ⟨-, -, hc, -⟩
      refine SK.share (ρ := RCl) (A := A4) (by repeat constructor) ?_
      exact SK.retX (.tmp rfl .nil) (A4, c4) hc rfl (by repeat constructor)
  · have hle : posB l r.key = l.length := by omega
    have hh : hasB l r.key = false := by unfold hasB; rw [List.getElem?_eq_none (by omega)]; rfl
    have eL : l.take (posB l r.key) ++ [clOf r] ++ (l.drop (posB l r.key)).take (l.length - posB l r.key) = putB l (clOf r) := by
      unfold putB
      rw [if_neg (show ¬ hasB l (clOf r).key = true by rw [show (clOf r).key = r.key from rfl, hh]; simp), List.take_of_length_le (l := l.drop (posB l r.key)) (by simp)]
      simp [clOf]
    have eN : posB l r.key + 1 + (l.length - posB l r.key) = (putB l (clOf r)).length := by
      rw [← eL]; simp; omega
    repeat' (first
    | (refine SO.nil ?_)
    | (refine SK.seq ?_)
    | (refine SK.condF rfl ?_)
    | (refine SK.exit rfl ?_)
    | (refine SK.regionX 3 (.item 0 0 (.item 0 1 (.item 0 2 (.item 0 3 (.item 0 4 (.item 0 5 (.item 0 6 (.item 0 10 (.item 0 7 (.item 0 11 (.item 0 8 (.item 0 9 (.item 0 12 (.item 0 13 .nil)))))))))))))) [] .nil (by repeat (first | exact .nil | apply PersSub.s | apply PersSub.t | apply PersSub.p | apply PersSub.r | apply PersSub.skip)) (by kernel_rfl) (by kernel_rfl) (fun _ _ _ h => h) ?_)
    | (refine SX.tail (by rfl) (by repeat (first | exact .nil | apply DropP.s | apply DropP.t | apply DropP.p | apply DropP.r | apply DropP.keep)) ?_)
    | (refine SX.pure rfl rfl rfl ?_)
    | (refine SX.guardN rfl rfl rfl ?_)
    | (refine SX.guardNP rfl rfl rfl (by first | assumption | (simp only [decide_eq_true_eq, decide_eq_false_iff_not, Bool.not_eq_true', Bool.not_eq_false', Bool.not_true, Bool.not_false, Bool.not_not]; omega)) ?_)
    | fail)
    refine SK.cutJ (X := Pl) (fun z => [(7, .slice z.1 (posB l r.key + 1) z.2), (6, .int .i64 ((posB l r.key : Nat) : Int)), (0, .slice A l.length c), (3, .pointer (some ⟨b3, 0, none⟩)), (5, .pointer (some ⟨b5, 0, none⟩))]) (fun z => [sqAt false RCl z.1 (posB l r.key + 1) z.2 (l.take (posB l r.key) ++ [clOf r]), pts b3 0 (RRec.cells r h), slAt RCl A l.length l]) (fun _ _ _ h => h) ?_ ?_
    · repeat' (first
    | (refine SO.buildSlice rfl rfl rfl rfl rfl rfl (fun b => SO.shift (toSqR (ρ := RCl) (b := b) (n := 0) (l := []) [] (by repeat constructor) rfl rfl rfl rfl .nil) ?_))
    | (refine SO.append (ρ := RCl) (w := false) rfl rfl (by repeat constructor) (Src.sl (by repeat constructor)) rfl rfl rfl rfl rfl rfl rfl (by simp only [List.length_take, List.length_drop, List.drop_zero, Nat.sub_zero, lim]; omega) (fun A4 c4 => ?_))
    | (refine SO.append (ρ := RCl) (w := false) (ys := [clOf r]) rfl rfl (by repeat constructor) (Src.one (h := ()) (by repeat constructor) (by rfl) (by repeat constructor)) rfl rfl rfl rfl rfl rfl rfl (by omega) (fun A5 c5 => ?_))
    | (refine SX.slice (k1 := .i64) (k2 := .i64) rfl rfl rfl (by repeat constructor) rfl rfl (by rfl) rfl (by exact .inr ⟨rfl, rfl⟩) (by exact .inl rfl) (by omega) (by omega) (by assumption) (fun As cs hcs => SX.copy (M := [slAt RCl As _ _]) (all_cons (pers_slAt _ _ _ _) all_nil) ?_))
    | (refine SO.nil ?_)
    | (refine SO.buildSlice rfl rfl rfl rfl rfl rfl (fun b => ?_))
    | (refine SK.regionX 5 (.item 0 1 (.item 0 2 (.item 0 5 (.item 0 3 (.fork (.item 1 0 (.fork (.item 1 4 (.item 1 6 (.item 2 7 (.item 0 8 .nil)))) (.item 1 6 (.item 1 4 (.item 2 7 (.item 0 8 .nil)))))) (.item 1 6 (.item 1 0 (.item 1 4 (.item 2 7 (.item 0 8 .nil)))))))))) [] .nil (by repeat (first | exact .nil | apply PersSub.s | apply PersSub.t | apply PersSub.p | apply PersSub.r | apply PersSub.skip)) (by kernel_rfl) (by kernel_rfl) (fun _ _ _ h => h) ?_)
    | (refine SX.tail (by rfl) (by repeat (first | exact .nil | apply DropP.s | apply DropP.t | apply DropP.p | apply DropP.r | apply DropP.keep)) ?_)
    | (refine SX.pure rfl rfl rfl ?_)
    | (refine SX.load rfl (by repeat constructor) rfl (by rfl) (by exact ⟨rfl, by first | exact fun _ => rfl | exact (fun h => by cases h)⟩) rfl ?_)
    | (refine SX.fork ?_ ?_)
    | (refine SX.step rfl rfl ?_)
    | (refine SK.invY ?_)
    | (refine SY.go ?_)
    | fail)
      all_goals (
        rw [show [] ++ (l.drop 0).take (posB l r.key - 0) ++ [clOf r] = l.take (posB l r.key) ++ [clOf r] by simp, show 0 + (posB l r.key - 0) + 1 = posB l r.key + 1 by omega]
        exact SK.inv ⟨(A5, c5), by repeat constructor, ent_append_of_takes (by repeat constructor)⟩)
    rintro ⟨A6, c6⟩ T' L' hT hL
    dsimp only at hT hL
    refine SK.weaken hT hL ?_
    repeat' (first
    | (refine SO.append (ρ := RCl) (w := false) rfl rfl (by repeat constructor) (Src.sl (by repeat constructor)) rfl rfl rfl rfl rfl rfl rfl (by simp only [List.length_take, List.length_drop, List.drop_zero, Nat.sub_zero, lim]; omega) (fun A4 c4 => ?_))
    | (refine SO.pure rfl rfl rfl ?_)
    | (refine SO.nil ?_)
    | (refine SK.seq ?_)
    | (refine SK.region ?_)
    | (refine SK.condF rfl ?_)
    | (refine SK.skip ?_)
    | (refine SO.slice (k1 := .i64) (k2 := .i64) rfl rfl rfl (by repeat constructor) rfl rfl (by rfl) rfl (by first | exact .inl rfl | exact .inr ⟨rfl, rfl⟩) (by first | exact .inl rfl | exact .inr ⟨rfl, rfl⟩) (by first | assumption | omega | exact Nat.le_of_ble_eq_true rfl | (simp only [decide_eq_true_eq, decide_eq_false_iff_not] at *; omega)) (by first | assumption | omega | exact Nat.le_of_ble_eq_true rfl | (simp only [decide_eq_true_eq, decide_eq_false_iff_not] at *; omega)) (by assumption) (fun As cs hcs => ?_))
    | (refine SK.regionX 6 (.item 0 0 (.item 0 1 (.item 0 2 (.item 0 3 (.item 0 4 (.item 0 5 (.item 0 6 (.item 0 10 (.item 0 7 (.item 0 11 (.item 0 8 (.item 0 9 (.item 0 12 (.item 0 13 .nil)))))))))))))) [] .nil (by repeat (first | exact .nil | apply PersSub.s | apply PersSub.t | apply PersSub.p | apply PersSub.r | apply PersSub.skip)) (by kernel_rfl) (by kernel_rfl) (fun _ _ _ h => h) ?_)
    | (refine SX.tail (by rfl) (by repeat (first | exact .nil | apply DropP.s | apply DropP.t | apply DropP.p | apply DropP.r | apply DropP.keep)) ?_)
    | (refine SX.pure rfl rfl rfl ?_)
    | (refine SX.guardN rfl rfl rfl ?_)
    | (refine SX.guardNP rfl rfl rfl (by first | assumption | (simp only [decide_eq_true_eq, decide_eq_false_iff_not, Bool.not_eq_true', Bool.not_eq_false', Bool.not_true, Bool.not_false, Bool.not_not]; omega)) ?_)
    | fail)
    rw [eN, eL]
    refine SK.know (sq_len (w := false) (ρ := RCl) (A := A4) (n := (putB l (clOf r)).length) (c := c4) (l := putB l (clOf r)) (by repeat constructor)) ?_
    rintro ⟨-, -, hc, -⟩
    refine SK.share (ρ := RCl) (A := A4) (by repeat constructor) ?_
    exact SK.retX (.tmp rfl .nil) (A4, c4) hc rfl (by repeat constructor)
end Go.Proofs
