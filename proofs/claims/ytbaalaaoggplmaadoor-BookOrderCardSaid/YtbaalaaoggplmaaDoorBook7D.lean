/- A part of a proof: what functions of the program compute. -/
import Derived.Test.YtbaalaaoggplmaaDoorBook6D
set_option linter.unusedVariables false
set_option linter.unusedSimpArgs false
set_option maxHeartbeats 0
namespace Go.Proofs
attribute [local irreducible] Go.Sl.SO Go.Sl.SQ Go.Sl.SR Go.Sl.SC Go.Sl.SX Go.Sl.SY Go.Sl.eadr Go.Sl.slAt Go.Sl.sqAt Go.Sl.pts Go.Sl.rod Go.Sl.ob Go.Sl.ex Go.Sl.big Go.Sl.pr Go.Sl.tabs Go.Sl.mpAt
open Go.Sl
theorem bof_does (A : Option Addr) (n c : Nat) (bk : List Cl) (bx : Nat) (B : Option Addr) (m c2 : Nat) (l : List Rc) (hr : ris bk) (hlim1 : bk.length + l.length < lim) : Does Tryd.prog 40 [.slice A n c, .func (.func 60) #[] #[.pointer (some ⟨bx, 0, none⟩)]] [slAt RCl A n bk, slAt RRec B m l] [pts bx 0 [.slice B m c2]] Pl (fun z => (bookAt bk l l.length).length ≤ z.2) (fun z => .slice z.1 (bookAt bk l l.length).length z.2) (fun z => [slAt RCl z.1 (bookAt bk l l.length).length (bookAt bk l l.length)]) := by
  refine Does.of Tryd.call40 Tryd.func40 rfl rfl rfl (all_cons (pers_slAt _ _ _ _) (all_cons (pers_slAt _ _ _ _) all_nil)) rfl ?_
  refine SK.know (sl_len (ρ := RCl) (A := A) (n := n) (l := bk) (by repeat constructor)) ?_
  rintro ⟨rfl, hlim, -⟩
  have hzl : l.zipIdx.length = l.length := by simp
  repeat' (first
    | (refine SO.pure rfl rfl rfl ?_)
    | (refine SO.nil ?_)
    | (refine SK.seq ?_)
    | (refine SK.region ?_)
    | (refine SK.block ?_)
    | (refine SO.box rfl rfl rfl (fun b => ?_))
    | fail)
  revert b
  intro b2
  have h0 : bookAt bk l 0 = bk := rfl
  refine SK.shift (L' := [bookJ b2 (bookAt bk l 0), pts bx 0 [.slice B m c2], slAt RRec B m l]) (fun F w hst => hst.ent (Ent.cons ?_)) ?_
  · unfold bookJ
    exact ent_tok (p := fun _ : Pl => True) (M := fun z : Pl => [pts b2 0 [.slice z.1 (bookAt bk l 0).length z.2], slAt RCl z.1 (bookAt bk l 0).length (bookAt bk l 0)]) (R := [pts bx 0 [.slice B m c2], slAt RRec B m l]) ((A, c) : Pl) trivial (by repeat constructor)
  refine SK.range (numiter bx B m c2 l) Empty (fun i => [bookJ b2 (bookAt bk l i)]) (fun y => nomatch y) (fun y => nomatch y) rfl (by repeat constructor) (by repeat constructor) rfl (fun _ _ => rfl) ?_ ?_ (fun y => nomatch y)
  · rintro i ⟨r, j⟩ hid q R hv
    obtain ⟨hv1, hv2⟩ := num_of hv
    simp only at hv1 hv2
    subst hv2
    have hs := bookAt_step (b := bk) hv1
    have hl := bookAt_len bk l j
    unfold bookJ
    refine SK.tok (.there (.there .here)) (fun z hz => ?_)
    repeat' (first
    | (refine SO.nil ?_)
    | (refine SK.region ?_)
    | (refine SO.alloc rfl rfl rfl (fun b => ?_))
    | (refine SO.storeW rfl rfl (by repeat constructor) rfl (by rfl) (by rfl) (by rfl) ?_)
    | fail)
    refine SK.inv ?_
    repeat' (first
    | (refine SO.call (bput_does z.1 _ z.2 (bookAt bk l j) r hid (bookAt_ris hr l j) (by omega)) rfl rfl rfl (by repeat constructor) (by repeat constructor) rfl (fun x hx => ?_))
    | (refine SO.nil ?_)
    | (refine SO.loadW rfl (by repeat constructor) rfl rfl rfl (by rfl) rfl ?_)
    | (refine SO.load rfl (by repeat constructor) rfl (by rfl) (by exact ⟨rfl, by first | exact fun _ => rfl | exact (fun h => by cases h)⟩) rfl ?_)
    | (refine SK.region ?_)
    | (refine SK.block ?_)
    | (refine SK.blk ?_)
    | (refine SO.storeW rfl rfl (by repeat constructor) rfl (by rfl) (by rfl) (by rfl) ?_)
    | fail)
    rw [← hs]
    refine SK.nil ?_
    show Ent _ (busyA q R :: _)
    refine Ent.trans ?_ Ent.swap
    exact ent_tok (p := fun _ : Pl => True) (M := fun z : Pl => [pts b2 0 [.slice z.1 (bookAt bk l (j + 1)).length z.2], slAt RCl z.1 (bookAt bk l (j + 1)).length (bookAt bk l (j + 1))]) (R := [busyA q R]) x trivial (by repeat constructor)
  · rw [hzl]
    unfold bookJ
    refine SK.blk ?_
    refine SK.tok .here (fun z hz => ?_)
    repeat' (first
    | (refine SO.call (clone_does z.1 _ z.2 (bookAt bk l l.length)) rfl rfl rfl (by repeat constructor) (by repeat constructor) rfl (fun x hx => ?_))
    | (refine SO.pure rfl rfl rfl ?_)
    | (refine SO.nil ?_)
    | (refine SO.load rfl (by repeat constructor) rfl (by rfl) (by exact ⟨rfl, by first | exact fun _ => rfl | exact (fun h => by cases h)⟩) rfl ?_)
    | (refine SK.seq ?_)
    | (refine SK.region ?_)
    | fail)
    refine SK.share (ρ := RCl) (by repeat constructor) ?_
    exact SK.retX (.tmp rfl .nil) x hx rfl (by repeat constructor)
theorem words_does (bx : Nat) (A : Option Addr) (n c : Nat) (l : List Cl) (m : Nat) (hm : l.length ≤ m) (hlim1 : m < 1073741824) : Does Tryd.prog 48 [.func (.func 66) #[] #[.pointer (some ⟨bx, 0, none⟩)], .int .i64 (m : Int)] [slAt RCl A n l] [pts bx 0 [.slice A n c]] Pl (fun z => (wordsB l).length ≤ z.2) (fun z => .tuple #[.slice z.1 (wordsB l).length z.2, .bool true]) (fun z => [slAt RS z.1 (wordsB l).length (wordsB l)]) := by
  refine Does.of Tryd.call48 Tryd.func48 rfl rfl rfl (all_cons (pers_slAt _ _ _ _) all_nil) rfl ?_
  refine SK.know (sl_len (ρ := RCl) (A := A) (n := n) (l := l) (by repeat constructor)) ?_
  rintro ⟨rfl, hlim, -⟩
  repeat' (first
    | (refine SO.pure rfl rfl rfl ?_)
    | (refine SO.pure2 rfl rfl rfl ?_)
    | (refine SO.nil ?_)
    | (refine SK.seq ?_)
    | (refine SK.region ?_)
    | (refine SK.condF rfl ?_)
    | (refine SK.skip ?_)
    | (refine SK.block ?_)
    | (refine SO.alloc rfl rfl rfl (fun b => ?_))
    | (refine SO.box rfl rfl rfl (fun b => ?_))
    | fail)
  rename_i b3 b4 b5
  revert b
  intro b6
  refine SK.shift (L' := [wordJ b6 (wordsB (l.take 0)), pts b3 0 [.int .i64 (m : Int)], pts b4 0 [.slice none 0 0], pts b5 0 [.bool false], pts bx 0 [.slice A l.length c], slAt RCl A l.length l]) (fun F w hst => hst.ent (Ent.cons ((ent_triv (A := sqAt false RS none 0 0 [])).trans ?_))) ?_
  · unfold wordJ
    exact ent_tok (p := fun _ : Pl => True) (M := fun z : Pl => [pts b6 0 [.slice z.1 (wordsB (l.take 0)).length z.2], sqAt false RS z.1 (wordsB (l.take 0)).length z.2 (wordsB (l.take 0))]) ((none, 0) : Pl) trivial (by repeat constructor)
  refine SK.range (alliter bx A l.length c l) Empty (fun i => [wordJ b6 (wordsB (l.take i)), pts b3 0 [.int .i64 (m : Int)], pts b4 0 [.slice none 0 0], pts b5 0 [.bool false]]) (fun y => nomatch y) (fun y => nomatch y) rfl (by repeat constructor) (by repeat constructor) rfl (fun _ _ => rfl) ?_ ?_ (fun y => nomatch y)
  · rintro i u hid q R hv
    have hil := (List.getElem?_eq_some_iff.1 hv).1
    have hs := wordsB_step hv
    have hl : (wordsB (l.take i)).length = 2 * i := by rw [wordsB_len, List.length_take]; omega
    have hl1 : (wordsB (l.take (i + 1))).length = 2 * i + 2 := by rw [wordsB_len, List.length_take]; omega
    have hw : IntKind.i64.wrap (2 * (m : Int)) = ((2 * m : Nat) : Int) := by rw [wrap_id (by omega) (by omega)]; omega
    unfold wordJ
    refine SK.tok .here (fun z hz => ?_)
    rw [hl]
    repeat' (first
    | (refine SO.pure rfl rfl rfl ?_)
    | (refine SO.nil ?_)
    | (refine SK.seq ?_)
    | (refine SK.region ?_)
    | fail)
    refine SK.inv ?_
    repeat' (first
    | (refine SO.pure rfl rfl rfl ?_)
    | (refine SO.nil ?_)
    | (refine SO.load rfl (by repeat constructor) rfl (by rfl) (by exact ⟨rfl, by first | exact fun _ => rfl | exact (fun h => by cases h)⟩) rfl ?_)
    | (refine SK.seq ?_)
    | (refine SK.region ?_)
    | (refine SK.skip ?_)
    | (refine SK.block ?_)
    | (refine SO.buildSlice rfl rfl rfl rfl rfl rfl (fun b => ?_))
    | (refine SK.condFP rfl (by first | assumption | (simp only [decide_eq_true_eq, decide_eq_false_iff_not, Bool.not_eq_true', Bool.not_eq_false', Bool.not_true, Bool.not_false, Bool.not_not]; omega)) ?_)
    | fail)
    rw [hw, decide_eq_false (show ¬ ((2 * m : Nat) : Int) ≤ ((2 * i : Nat) : Int) by omega)]
    skip
    refine SO.shift (toSl (ρ := RS) (l := [u.key, u.val]) [(u.key, ()), (u.val, ())] (by repeat constructor) rfl rfl rfl rfl (by repeat constructor)) ?_
    refine SO.append (ρ := RS) (w := false) rfl rfl (by repeat constructor) (Src.sl (by repeat constructor)) rfl rfl rfl rfl rfl rfl rfl (by unfold lim at *; omega) (fun A3 c3 => ?_)
    repeat' (first
    | (refine SO.nil ?_)
    | (refine SK.blk ?_)
    | (refine SO.storeW rfl rfl (by repeat constructor) rfl (by rfl) (by rfl) (by rfl) ?_)
    | fail)
    refine SK.nil ?_
    rw [hl1, hs]
    show Ent _ (busyA q R :: _)
    refine Ent.trans ?_ Ent.swap
    exact ent_tok (p := fun _ : Pl => True) (M := fun z : Pl => [pts b6 0 [.slice z.1 (2 * i + 2) z.2], sqAt false RS z.1 (2 * i + 2) z.2 (wordsB (l.take i) ++ [u.key, u.val])]) (R := [busyA q R, pts b3 0 [.int .i64 (m : Int)], pts b4 0 [.slice none 0 0], pts b5 0 [.bool false]]) ((A3, c3) : Pl) trivial (by repeat constructor)
  · rw [List.take_length]
    unfold wordJ
    refine SK.blk ?_
    refine SK.tok .here (fun z hz => ?_)
    repeat' (first
    | (refine SO.nil ?_)
    | (refine SO.load rfl (by repeat constructor) rfl (by rfl) (by exact ⟨rfl, by first | exact fun _ => rfl | exact (fun h => by cases h)⟩) rfl ?_)
    | (refine SK.seq ?_)
    | (refine SK.region ?_)
    | (refine SO.storeW rfl rfl (by repeat constructor) rfl (by rfl) (by rfl) (by rfl) ?_)
    | fail)
    refine SK.know (sq_len (w := false) (ρ := RS) (A := z.1) (n := (wordsB l).length) (c := z.2) (l := wordsB l) (by repeat constructor)) ?_
    rintro ⟨-, -, hc, -⟩
    refine SK.share (ρ := RS) (by repeat constructor) ?_
    exact SK.retX (.cell rfl (by repeat constructor) rfl rfl (by exact ⟨rfl, fun _ => rfl⟩) (.cell rfl (by repeat constructor) rfl rfl (by exact ⟨rfl, fun _ => rfl⟩) .nil)) z hc rfl (by repeat constructor)
end Go.Proofs
