/- A part of a proof: what functions of the program compute. -/
import Derived.Test.YtbaalaaoggplmaaDoorBook3D
import Derived.Test.YtbaalaaoggplmaaDoorLib2
set_option linter.unusedVariables false
set_option linter.unusedSimpArgs false
set_option maxHeartbeats 0
namespace Go.Proofs
attribute [local irreducible] Go.Sl.SO Go.Sl.SQ Go.Sl.SR Go.Sl.SC Go.Sl.SX Go.Sl.SY Go.Sl.eadr Go.Sl.slAt Go.Sl.sqAt Go.Sl.pts Go.Sl.rod Go.Sl.ob Go.Sl.ex Go.Sl.big Go.Sl.pr Go.Sl.tabs Go.Sl.mpAt
open Go.Sl
theorem plainCl : Plain RCl () := ⟨fun _ => rfl, fun _ => rfl⟩
theorem insert_does (A : Option Addr) (n c i vb : Nat) (l : List Cl) (x : Cl) (hi : i ≤ l.length) (hlim1 : l.length < lim) : Does Tryd.prog 55 [.slice A n c, .int .i64 (i : Int), .slice (some ⟨vb, 0, none⟩) 1 1] [] [sqAt true RCl A n c l, pts vb 0 (RCl.cells x ()), plain vb 4] Pl (fun z => l.length + 1 ≤ z.2) (fun z => .slice z.1 (l.length + 1) z.2) (fun z => [sqAt true RCl z.1 (l.length + 1) z.2 (l.take i ++ x :: l.drop i)]) := by
  refine Does.of Tryd.call55 Tryd.func55 rfl rfl rfl all_nil rfl ?_
  refine SK.know (sq_len (w := true) (ρ := RCl) (A := A) (n := n) (c := c) (l := l) (by repeat constructor)) ?_
  rintro ⟨rfl, hlim, hnc, h0⟩
  have hw1 : IntKind.i64.wrap ((l.length : Int) + ((1 : Nat) : Int)) = ((l.length + 1 : Nat) : Int) := by rw [wrap_id (by omega) (by unfold lim at hlim; omega)]; omega
  have hw2 : IntKind.i64.wrap ((i : Int) + ((1 : Nat) : Int)) = ((i + 1 : Nat) : Int) := by rw [wrap_id (by omega) (by unfold lim at hlim; omega)]; omega
  repeat' (first
    | (refine SO.sliceV (k1 := .i64) (k2 := .i64) rfl rfl rfl rfl rfl rfl (by first | exact .inl rfl | exact .inr ⟨rfl, rfl⟩) (by first | exact .inl rfl | exact .inr ⟨rfl, rfl⟩) (by omega) (by omega) (by omega) ?_)
    | (refine SO.pure rfl rfl rfl ?_)
    | (refine SO.nil ?_)
    | (refine SK.seq ?_)
    | (refine SK.region ?_)
    | (refine SK.condF rfl ?_)
    | (refine SK.skip ?_)
    | fail)
  by_cases hin : i = l.length
  · subst hin
    rw [decide_eq_true (rfl : ((l.length : Nat) : Int) = (l.length : Int))]
    repeat' (first
    | (refine SO.append (ρ := RCl) (w := true) (ys := [x]) rfl rfl (by repeat constructor) (Src.one (h := ()) (by repeat constructor) (by rfl) (by repeat constructor)) rfl rfl rfl rfl rfl rfl rfl (by omega) (fun A3 c3 => ?_))
    | (refine SO.pure rfl rfl rfl ?_)
    | (refine SO.nil ?_)
    | (refine SK.seq ?_)
    | (refine SK.region ?_)
    | (refine SK.condT rfl ?_)
    | fail)
    rw [List.take_length, List.drop_length]
    refine SK.know (sq_len (w := true) (ρ := RCl) (A := A3) (n := l.length + 1) (c := c3) (l := l ++ [x]) (by repeat constructor)) ?_
    rintro ⟨-, -, hc3, -⟩
    exact SK.retX (.tmp rfl .nil) (A3, c3) hc3 rfl (by repeat constructor)
  rw [decide_eq_false (show ¬ (i : Int) = (l.length : Int) by omega)]
  repeat' (first
    | (refine SO.cap rfl rfl rfl ?_)
    | (refine SO.pure rfl rfl rfl ?_)
    | (refine SO.nil ?_)
    | (refine SK.seq ?_)
    | (refine SK.region ?_)
    | (refine SK.condF rfl ?_)
    | (refine SK.skip ?_)
    | fail)
  rw [hw1]
  cases A with
  | none => exact absurd (h0 rfl).1 (by intro h; subst h; simp at hi; subst hi; exact hin rfl)
  | some a =>
  refine SK.cells plainCl (by repeat constructor) (fun hsp sp hspl => ?_)
  obtain ⟨ab, ao, asp⟩ := a
  obtain rfl : asp = none := hsp
  dsimp only
  have hall := cellsOf_len (ρ := RCl) (h := ()) l
  have e4 : RCl.sz = 4 := rfl
  rw [e4] at hspl hall
  have hXl : (RCl.cells x ()).length = 4 := rfl
  have e1 : cut (cellsOf RCl () l ++ sp) 0 (i * 4) = cellsOf RCl () (l.take i) := by
    have := cellsOf_cut (ρ := RCl) (h := ()) l sp 0 i 4 rfl (by omega)
    simpa using this
  have e2 : cut (cellsOf RCl () l ++ sp) (i * 4) ((l.length - i) * 4) = cellsOf RCl () (l.drop i) := by
    have := cellsOf_cut (ρ := RCl) (h := ()) l sp i (l.length - i) 4 rfl (by omega)
    rwa [List.take_of_length_le (by simp)] at this
  have hA : (cellsOf RCl () (l.take i)).length = i * 4 := by rw [cellsOf_len (ρ := RCl) (h := ()), List.length_take, Nat.min_eq_left hi]; rfl
  have hD : (cellsOf RCl () (l.drop i)).length = (l.length - i) * 4 := by rw [cellsOf_len (ρ := RCl) (h := ()), List.length_drop]; rfl
  have eAD : cellsOf RCl () l = cellsOf RCl () (l.take i) ++ cellsOf RCl () (l.drop i) := by rw [← cellsOf_app (ρ := RCl) (h := ()), List.take_append_drop]
  have eEnd : cellsOf RCl () (l.take i ++ x :: l.drop i) = cellsOf RCl () (l.take i) ++ (RCl.cells x () ++ cellsOf RCl () (l.drop i)) := by
    rw [cellsOf_app (ρ := RCl) (h := ()), show x :: l.drop i = [x] ++ l.drop i from rfl, cellsOf_app (ρ := RCl) (h := ()), cellsOf_one (ρ := RCl) (h := ())]
  have hne : cellsOf RCl () l ++ sp ≠ [] := fun h => by
    have := congrArg List.length h
    rw [List.length_append, hall] at this
    simp at this; omega
  by_cases hroom : c < l.length + 1
  · rw [decide_eq_true (show ((c : Nat) : Int) < ((l.length + 1 : Nat) : Int) by omega)]
    repeat' (first
    | (refine SO.sliceN (k1 := .i64) (k2 := .i64) rfl rfl rfl rfl rfl rfl (by first | exact .inl rfl | exact .inr ⟨rfl, rfl⟩) (by first | exact .inl rfl | exact .inr ⟨rfl, rfl⟩) (by omega) (by omega) (by omega) (by omega) ?_)
    | (refine SO.pure rfl rfl rfl ?_)
    | (refine SK.seq ?_)
    | (refine SK.region ?_)
    | (refine SK.condT rfl ?_)
    | fail)
    rw [hw1]
    skip
    have hw3 : IntKind.i64.wrap (((l.length + 1 : Nat) : Int) - (i : Int)) = ((l.length + 1 - i : Nat) : Int) := by rw [wrap_id (by omega) (by unfold lim at hlim; omega)]; omega
    rw [hw3]
    refine SO.appendZ rfl rfl (Cells.pts (by repeat constructor) 0 (i * 4)) rfl rfl rfl rfl rfl (by rw [e1, hA]; rfl) (by omega) (by unfold lim at *; omega) rfl (fun b' c' zs sp2 h1 h2 h3 => ?_)
    rw [e1]
    have e5 : i - 0 + (l.length + 1 - i) = l.length + 1 := by omega
    rw [e5] at h1 h3 ⊢
    have hzs : zs = zs.take 4 ++ zs.drop 4 := (List.take_append_drop 4 zs).symm
    have hz1 : (zs.take 4).length = 4 := by rw [List.length_take]; omega
    have hz2 : (zs.drop 4).length = (l.length - i) * 4 := by rw [List.length_drop]; omega
    repeat' (first
    | (refine SO.sliceN (k1 := .i64) (k2 := .i64) rfl rfl rfl rfl rfl rfl (by first | exact .inl rfl | exact .inr ⟨rfl, rfl⟩) (by first | exact .inl rfl | exact .inr ⟨rfl, rfl⟩) (by omega) (by omega) (by omega) (by omega) ?_)
    | (refine SO.pure rfl rfl rfl ?_)
    | (refine SO.nil ?_)
    | (refine SK.seq ?_)
    | (refine SK.region ?_)
    | fail)
    refine SO.copy (k := 1) (cs := RCl.cells x ()) (vs' := cellsOf RCl () (l.take i) ++ (RCl.cells x () ++ (zs.drop 4 ++ sp2))) rfl rfl (by repeat constructor) (Cells.pts (b := vb) (o := 0) (vs := RCl.cells x ()) (by repeat constructor) 0 4) rfl rfl (by show min 1 _ = 1; omega) rfl (RCl.one x ()) (by omega) (by simp only [List.length_append, hA, h2, h3]; omega) ?_ rfl ?_
    · conv => lhs; arg 1; rw [hzs, List.append_assoc, List.append_assoc]
      exact lay_mid (by rw [hA]; omega) (by rw [hz1, hXl])
    repeat' (first
    | (refine SX.sliceN (k1 := .i64) (k2 := .i64) rfl rfl rfl rfl rfl rfl (by first | exact .inl rfl | exact .inr ⟨rfl, rfl⟩) (by first | exact .inl rfl | exact .inr ⟨rfl, rfl⟩) (by omega) (by omega) (by omega) (by omega) ?_)
    | (refine SO.nil ?_)
    | (refine SK.seq ?_)
    | (refine SK.regionX 11 (.item 0 0 (.item 0 1 (.item 0 2 (.item 0 5 (.item 0 6 (.item 0 3 (.item 0 7 (.item 0 4 (.item 2 8 .nil))))))))) (pts b' 0 (cellsOf RCl () (l.take i) ++ (RCl.cells x () ++ (zs.drop 4 ++ sp2))) :: pts ab ao (cellsOf RCl () l ++ sp) :: List.nil) (by repeat constructor) (by repeat (first | exact .nil | apply PersSub.s | apply PersSub.t | apply PersSub.p | apply PersSub.r | apply PersSub.skip)) (by kernel_rfl) (by kernel_rfl) (fun _ _ _ h => h) ?_)
    | (refine SX.pure rfl rfl rfl ?_)
    | fail)
    rw [hw2]
    repeat' (first
    | (refine SX.sliceN (k1 := .i64) (k2 := .i64) rfl rfl rfl rfl rfl rfl (by first | exact .inl rfl | exact .inr ⟨rfl, rfl⟩) (by first | exact .inl rfl | exact .inr ⟨rfl, rfl⟩) (by omega) (by omega) (by omega) (by omega) ?_)
    | (refine SX.tail (by rfl) (by repeat (first | exact .nil | apply DropP.s | apply DropP.t | apply DropP.p | apply DropP.r | apply DropP.keep)) ?_)
    | fail)
    refine SO.copy (k := l.length - i) (cs := cellsOf RCl () (l.drop i)) (vs' := (cellsOf RCl () (l.take i) ++ RCl.cells x ()) ++ (cellsOf RCl () (l.drop i) ++ sp2)) rfl rfl (by repeat constructor) (by rw [← e2]; exact Cells.pts (by repeat constructor) (i * 4) ((l.length - i) * 4)) rfl rfl (by show min _ _ = _; omega) hD (cellsOf_ones _) (by omega) (by simp only [List.length_append, hA, hXl, hz2, h3]; omega) ?_ rfl ?_
    · rw [← List.append_assoc]
      exact lay_mid (by rw [List.length_append, hA, hXl]; omega) (by rw [hz2, hD])
    repeat' (first
    | (refine SO.pure rfl rfl rfl ?_)
    | (refine SO.nil ?_)
    | (refine SK.seq ?_)
    | (refine SK.region ?_)
    | fail)
    refine SK.ret ⟨_, .tmp rfl .nil, (some ⟨b', 0, none⟩, c'), h1, rfl, ?_⟩
    rw [List.append_assoc, ← List.append_assoc (RCl.cells x ()), ← List.append_assoc, ← eEnd]
    refine (cells_sq plainCl (n := l.length + 1) (c := c') (by simp; omega) (by unfold lim at *; omega) h1 (by rw [h3]; rfl)).trans ?_
    exact ent_append_of_takes (by repeat constructor)
  · rw [decide_eq_false (show ¬ ((c : Nat) : Int) < ((l.length + 1 : Nat) : Int) by omega)]
    repeat' (first
    | (refine SO.pure rfl rfl rfl ?_)
    | (refine SK.seq ?_)
    | (refine SK.region ?_)
    | (refine SK.condF rfl ?_)
    | (refine SK.skip ?_)
    | fail)
    rw [hw1]
    repeat' (first
    | (refine SO.sliceN (k1 := .i64) (k2 := .i64) rfl rfl rfl rfl rfl rfl (by first | exact .inl rfl | exact .inr ⟨rfl, rfl⟩) (by first | exact .inl rfl | exact .inr ⟨rfl, rfl⟩) (by omega) (by omega) (by omega) (by omega) ?_)
    | (refine SO.pure rfl rfl rfl ?_)
    | (refine SO.nil ?_)
    | (refine SK.seq ?_)
    | (refine SK.region ?_)
    | fail)
    rw [hw2]
    repeat' (first
    | (refine SO.sliceN (k1 := .i64) (k2 := .i64) rfl rfl rfl rfl rfl rfl (by first | exact .inl rfl | exact .inr ⟨rfl, rfl⟩) (by first | exact .inl rfl | exact .inr ⟨rfl, rfl⟩) (by omega) (by omega) (by omega) (by omega) ?_)
    | fail)
    refine SO.overlaps (tS := 66) (tR := 4) (us := RCl.cells x ()) rfl rfl (by repeat constructor) (by exact List.cons_ne_nil _ _) hne rfl rfl Tryd.func73 (by kernel_rfl) (by kernel_rfl) (by kernel_rfl) (by kernel_rfl) rfl ?_
    repeat' (first
    | (refine SX.sliceN (k1 := .i64) (k2 := .i64) rfl rfl rfl rfl rfl rfl (by first | exact .inl rfl | exact .inr ⟨rfl, rfl⟩) (by first | exact .inl rfl | exact .inr ⟨rfl, rfl⟩) (by omega) (by omega) (by omega) (by omega) ?_)
    | (refine SO.pure rfl rfl rfl ?_)
    | (refine SO.nil ?_)
    | (refine SK.seq ?_)
    | (refine SK.condT rfl ?_)
    | (refine SK.regionX 15 (.item 0 0 (.item 0 1 (.item 0 2 (.item 0 5 (.item 0 6 (.item 0 3 (.item 0 7 (.item 0 4 (.item 2 8 .nil))))))))) (pts ab ao (cellsOf RCl () l ++ sp) :: List.nil) (by repeat constructor) (by repeat (first | exact .nil | apply PersSub.s | apply PersSub.t | apply PersSub.p | apply PersSub.r | apply PersSub.skip)) (by kernel_rfl) (by kernel_rfl) (fun _ _ _ h => h) ?_)
    | (refine SX.pure rfl rfl rfl ?_)
    | fail)
    rw [hw2]
    repeat' (first
    | (refine SX.sliceN (k1 := .i64) (k2 := .i64) rfl rfl rfl rfl rfl rfl (by first | exact .inl rfl | exact .inr ⟨rfl, rfl⟩) (by first | exact .inl rfl | exact .inr ⟨rfl, rfl⟩) (by omega) (by omega) (by omega) (by omega) ?_)
    | (refine SX.tail (by rfl) (by repeat (first | exact .nil | apply DropP.s | apply DropP.t | apply DropP.p | apply DropP.r | apply DropP.keep)) ?_)
    | fail)
    obtain ⟨R, hR⟩ : ∃ R, R = cellsOf RCl () (l.drop i) ++ sp := ⟨_, rfl⟩
    have hRl : R.length = (l.length - i) * 4 + (c - l.length) * 4 := by rw [hR, List.length_append, hD, hspl]
    have hR4 : (R.take 4).length = 4 := by rw [List.length_take]; omega
    have hRm : ((R.drop 4).take ((l.length - i) * 4)).length = (l.length - i) * 4 := by rw [List.length_take, List.length_drop]; omega
    have hSP : ((R.drop 4).drop ((l.length - i) * 4)).length = (c - (l.length + 1)) * 4 := by rw [List.length_drop, List.length_drop]; omega
    have eR : R = R.take 4 ++ ((R.drop 4).take ((l.length - i) * 4) ++ (R.drop 4).drop ((l.length - i) * 4)) := by rw [List.take_append_drop, List.take_append_drop]
    have eall : cellsOf RCl () l ++ sp = cellsOf RCl () (l.take i) ++ R := by rw [eAD, List.append_assoc, hR]
    refine SO.copy (k := l.length - i) (cs := cellsOf RCl () (l.drop i)) (vs' := (cellsOf RCl () (l.take i) ++ R.take 4) ++ (cellsOf RCl () (l.drop i) ++ (R.drop 4).drop ((l.length - i) * 4))) rfl rfl (by repeat constructor) (by rw [← e2]; exact Cells.pts (by repeat constructor) (i * 4) ((l.length - i) * 4)) rfl rfl (by show min _ _ = _; omega) hD (cellsOf_ones _) (by omega) (by rw [List.length_append, hall, hspl]; omega) ?_ rfl ?_
    · rw [eall]
      conv => lhs; arg 1; rw [eR, ← List.append_assoc]
      exact lay_mid (by rw [List.length_append, hA, hR4]; omega) (by rw [hRm, hD])
    repeat' (first
    | (refine SO.sliceN (k1 := .i64) (k2 := .i64) rfl rfl rfl rfl rfl rfl (by first | exact .inl rfl | exact .inr ⟨rfl, rfl⟩) (by first | exact .inl rfl | exact .inr ⟨rfl, rfl⟩) (by omega) (by omega) (by omega) (by omega) ?_)
    | (refine SO.pure rfl rfl rfl ?_)
    | (refine SO.nil ?_)
    | (refine SK.seq ?_)
    | (refine SK.region ?_)
    | fail)
    refine SO.copy (k := 1) (cs := RCl.cells x ()) (vs' := cellsOf RCl () (l.take i) ++ (RCl.cells x () ++ (cellsOf RCl () (l.drop i) ++ (R.drop 4).drop ((l.length - i) * 4)))) rfl rfl (by repeat constructor) (Cells.pts (b := vb) (o := 0) (vs := RCl.cells x ()) (by repeat constructor) 0 4) rfl rfl (by show min 1 _ = 1; omega) rfl (RCl.one x ()) (by omega) (by simp only [List.length_append, hA, hR4, hD, hSP]; omega) ?_ rfl ?_
    · rw [List.append_assoc]
      exact lay_mid (by rw [hA]; omega) (by rw [hR4, hXl])
    repeat' (first
    | (refine SO.pure rfl rfl rfl ?_)
    | (refine SO.nil ?_)
    | (refine SK.seq ?_)
    | (refine SK.region ?_)
    | fail)
    refine SK.ret ⟨_, .tmp rfl .nil, (some ⟨ab, ao, none⟩, c), by show l.length + 1 ≤ c; omega, rfl, ?_⟩
    rw [← List.append_assoc (RCl.cells x ()), ← List.append_assoc, ← eEnd]
    refine (cells_sq plainCl (n := l.length + 1) (c := c) (by simp; omega) (by unfold lim at *; omega) (by omega) (by rw [hSP]; rfl)).trans ?_
    exact ent_append_of_takes (by repeat constructor)
end Go.Proofs
