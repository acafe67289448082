/- A part of a proof: what functions of the program compute. -/
import Derived.Test.YtbaalaaoggplmaaDoorFPlD
set_option linter.unusedVariables false
set_option linter.unusedSimpArgs false
set_option maxHeartbeats 0
namespace Go.Proofs
attribute [local irreducible] Go.Sl.SO Go.Sl.SQ Go.Sl.SR Go.Sl.SC Go.Sl.SX Go.Sl.SY Go.Sl.eadr Go.Sl.slAt Go.Sl.sqAt Go.Sl.pts Go.Sl.rod Go.Sl.ob Go.Sl.ex Go.Sl.big Go.Sl.pr Go.Sl.tabs Go.Sl.mpAt
open Go.Sl


theorem plays_does (site room : Int) (A : Option Addr) (n c : Nat) (l : List Ac) : Does Tryd.prog 7 [.int .i64 site, .int .i64 room, .slice A n c] [tabs 1 2, slAt RActC A n l] [] Unit (fun _ => True) (fun _ => .bool true) (fun _ => []) := by
  refine Does.of Tryd.call7 Tryd.func7 rfl rfl rfl (all_cons (pers_tabs _ _) (all_cons (pers_slAt _ _ _ _) all_nil)) rfl ?_
  refine SK.know (sl_len (ρ := RActC) (A := A) (n := n) (l := l) (by repeat constructor)) ?_
  rintro ⟨rfl, hlim, -⟩
  repeat' (first
    | (refine SO.call (known_does) rfl rfl rfl (by repeat constructor) (by repeat constructor) rfl (fun x hx => ?_))
    | (refine SO.call (few_does _ _ _ _) rfl rfl rfl (by repeat constructor) (by repeat constructor) rfl (fun x hx => ?_))
    | (refine SO.pure rfl rfl rfl ?_)
    | (refine SO.nil ?_)
    | (refine SK.seq ?_)
    | (refine SK.region ?_)
    | (refine SK.condF rfl ?_)
    | (refine SK.skip ?_)
    | fail)
  cases hfew : (decide (l.length ≤ 80) && l.all fun x => fewR x.r) with
  | false =>
    repeat' (first
    | (refine SO.pure rfl rfl rfl ?_)
    | (refine SO.nil ?_)
    | (refine SK.seq ?_)
    | (refine SK.region ?_)
    | (refine SK.condT rfl ?_)
    | fail)
    exact SK.retX (.tmp rfl .nil) () trivial rfl (by repeat constructor)
  | true =>
  simp only [Bool.and_eq_true, decide_eq_true_eq] at hfew
  obtain ⟨h80, hall⟩ := hfew
  have hshort : ∀ x ∈ l, x.r.dep.length ≤ 70 ∧ x.r.key.size ≤ 50 ∧ x.r.val.size ≤ 50 := fun x hx => fewR_ok (List.all_eq_true.1 hall x hx)
  refine SK.shift (L' := [tabs 1 2, slAt RAct A l.length l]) (fun F w hst => hst.ent (Ent.cons ((ent_append_of_takes (As := [slAt RActC A l.length l, tabs 1 2]) (by repeat constructor)).trans ((act_conv fun x hx => by have := (hshort x hx).1; unfold lim; omega).trans Ent.swap)))) ?_
  by_cases h0 : 0 ≤ site ∧ site < 8 ∧ 1 ≤ room ∧ room ≤ 64
  case neg =>
    repeat' (first
    | (refine SO.call (new_bad site room h0) rfl rfl rfl (by repeat constructor) (by repeat constructor) rfl (fun x hx => ?_))
    | (refine SO.call (gnew_bad site room h0) rfl rfl rfl (by repeat constructor) (by repeat constructor) rfl (fun x hx => ?_))
    | (refine SO.pure rfl rfl rfl ?_)
    | (refine SO.pure2 rfl rfl rfl ?_)
    | (refine SO.nil ?_)
    | (refine SK.seq ?_)
    | (refine SK.region ?_)
    | (refine SK.condT rfl ?_)
    | (refine SK.condF rfl ?_)
    | (refine SK.skip ?_)
    | fail)
    exact SK.retX (.tmp rfl .nil) () trivial rfl (by repeat constructor)
  repeat' (first
    | (refine SO.call (new_does site room h0) rfl rfl rfl (by repeat constructor) (by repeat constructor) rfl (fun x hx => ?_))
    | (refine SO.call (gnew_does site room h0) rfl rfl rfl (by repeat constructor) (by repeat constructor) rfl (fun x hx => ?_))
    | (refine SO.pure rfl rfl rfl ?_)
    | (refine SO.nil ?_)
    | (refine SK.seq ?_)
    | (refine SK.region ?_)
    | (refine SK.condF rfl ?_)
    | (refine SK.skip ?_)
    | (refine SK.block ?_)
    | fail)
  rename_i y _
  obtain ⟨fb0, mb0⟩ := y
  revert x
  intro gb
  refine SK.loop (X := {z : Nat × (Nat × Nat) × Pl × FS // z.1 ≤ l.length ∧ wf z.1 z.2.2.2}) (fun z => [(11, .int .i64 (z.1.1 : Int)), (7, .pointer (some ⟨z.1.2.1.1, 0, none⟩)), (9, .pointer (some ⟨gb, 0, none⟩)), (2, .slice A l.length c)]) (fun z => tabs 1 2 :: slAt RAct A l.length l :: (fAt z.1.2.1.1 z.1.2.1.2 z.1.2.2.2 ++ gAt gb z.1.2.2.1 z.1.2.2.2)) (fun z => l.length - z.1.1) ⟨(0, (fb0, mb0), (none, 0), ⟨site, room, 1, []⟩), Nat.zero_le _, wf_new h0⟩ (by repeat constructor) (ent_append_of_takes (by unfold fAt gAt; repeat constructor)) ?_
  rintro ⟨⟨i, ⟨fb, mb⟩, g, s⟩, hi, hw⟩
  dsimp only at hi hw ⊢
  have hwi := wrapn (show i ≤ lim by omega)
  rcases Nat.lt_or_ge i l.length with hil | hil
  case inr =>
    have hd1 : decide ((i : Int) < (l.length : Int)) = false := decide_eq_false (by omega)
    repeat' (first
    | (refine SO.pure rfl rfl rfl ?_)
    | (refine SO.nil ?_)
    | (refine SK.seq ?_)
    | (refine SK.region ?_)
    | (refine SK.exit rfl ?_)
    | (refine SK.condFP rfl (by first | assumption | (simp only [decide_eq_true_eq, decide_eq_false_iff_not, Bool.not_eq_true', Bool.not_eq_false', Bool.not_true, Bool.not_false, Bool.not_not]; omega)) ?_)
    | fail)
    rw [hd1]
    skip
    exact SK.retX (.tmp rfl .nil) () trivial rfl (by repeat constructor)
  have hd1 : decide ((i : Int) < (l.length : Int)) = true := decide_eq_true (by omega)
  obtain ⟨u, hu⟩ : ∃ u, l[i]? = some u := ⟨_, List.getElem?_eq_getElem hil⟩
  obtain ⟨hu1, hu2, hu3⟩ := hshort u (List.mem_of_getElem? hu)
  have hvl : u.r.val.size ≤ lim := by unfold lim; omega
  have hnx := hw.next
  have hln := hw.len
  repeat' (first
    | (refine SO.indexH rfl rfl (by repeat constructor) rfl rfl rfl rfl (by assumption) ?_)
    | (refine SO.pure rfl rfl rfl ?_)
    | (refine SO.pure2 rfl rfl rfl ?_)
    | (refine SO.nil ?_)
    | (refine SO.load rfl (by repeat constructor) rfl (by rfl) (by exact ⟨rfl, by first | exact fun _ => rfl | exact (fun h => by cases h)⟩) rfl ?_)
    | (refine SO.eloadW rfl (by repeat constructor) (by assumption) rfl (by rfl) rfl (by rfl) rfl (fun hid => ?_))
    | (refine SK.seq ?_)
    | (refine SK.region ?_)
    | (refine SK.condF rfl ?_)
    | (refine SK.skip ?_)
    | (refine SK.block ?_)
    | (refine SO.alloc rfl rfl rfl (fun b => ?_))
    | (refine SO.storeW rfl rfl (by repeat constructor) rfl (by rfl) (by rfl) (by rfl) ?_)
    | (refine SK.condTP rfl (by first | assumption | (simp only [decide_eq_true_eq, decide_eq_false_iff_not, Bool.not_eq_true', Bool.not_eq_false', Bool.not_true, Bool.not_false, Bool.not_not]; omega)) ?_)
    | fail)
  rw [hd1]
  skip
  refine SK.cutJ (X := {z : (Nat × Nat) × Pl × FS // wf (i + 1) z.2.2}) (fun z => [(11, .int .i64 (i : Int)), (7, .pointer (some ⟨z.1.1.1, 0, none⟩)), (9, .pointer (some ⟨gb, 0, none⟩)), (2, .slice A l.length c)]) (fun z => tabs 1 2 :: slAt RAct A l.length l :: (fAt z.1.1.1 z.1.1.2 z.1.2.2 ++ gAt gb z.1.2.1 z.1.2.2)) (fun _ _ _ h => h) ?_ ?_
  · by_cases ho1 : u.op = 1
    · rw [decide_eq_true ho1]
      repeat' (first
    | (refine SO.call (put_does fb mb s u.r hid hvl ⟨by omega, by omega⟩) rfl rfl rfl (by repeat constructor) (by repeat constructor) rfl (fun x hx => ?_))
    | (refine SO.call (of_does u.r hid) rfl rfl rfl (by repeat constructor) (by repeat constructor) rfl (fun x hx => ?_))
    | (refine SO.call (gput_does gb g s u.r hid hvl i hw (by omega)) rfl rfl rfl (by repeat constructor) (by repeat constructor) rfl (fun x hx => ?_))
    | (refine SO.nil ?_)
    | (refine SK.seq ?_)
    | (refine SK.condT rfl ?_)
    | (refine SK.regionX 19 (.item 0 0 (.item 0 1 (.item 0 4 (.item 0 5 (.item 0 2 (.item 0 6 (.item 1 3 (.item 1 7 (.item 2 8 (.item 0 9 .nil)))))))))) (fAt fb mb s ++ gAt gb g s) (by repeat constructor) (by repeat (first | exact .nil | apply PersSub.s | apply PersSub.t | apply PersSub.p | apply PersSub.r | apply PersSub.skip)) (by kernel_rfl) (by kernel_rfl) (fun _ _ _ h => h) ?_)
    | (refine SX.tail (by rfl) (by repeat (first | exact .nil | apply DropP.s | apply DropP.t | apply DropP.p | apply DropP.r | apply DropP.keep)) ?_)
    | (refine SX.pure rfl rfl rfl ?_)
    | (refine SX.load rfl (by repeat constructor) rfl (by rfl) (by exact ⟨rfl, by first | exact fun _ => rfl | exact (fun h => by cases h)⟩) rfl ?_)
    | (refine SX.step rfl rfl ?_)
    | (refine SK.invY ?_)
    | (refine SY.shareGo (by repeat (first | exact .nil | apply PersSub.s | apply PersSub.t | apply PersSub.p | apply PersSub.r | apply PersSub.skip)) ?_)
    | fail)
      rw [decide_eq_true (rfl : (putF s u.r).1 = (putF s u.r).1)]
      repeat' (first
    | (refine SK.condF rfl ?_)
    | (refine SK.skip ?_)
    | fail)
      exact SK.inv ⟨⟨((fb, mb), x, (putF s u.r).2), wf_put hw u.r⟩, by repeat constructor, ent_append_of_takes (by unfold fAt gAt; repeat constructor)⟩
    rw [decide_eq_false ho1]
    by_cases ho2 : u.op = 2
    · have hrl := ready_len s
      have hlm : (readyF s).length ≤ lim := by unfold lim; omega
      have htk := taken_does fb mb s u.n ⟨by omega, by omega⟩ (by unfold lim; omega)
      repeat' (first
    | (refine SO.call (htk) rfl rfl rfl (by repeat constructor) (by repeat constructor) rfl (fun x hx => ?_))
    | (refine SO.pure rfl rfl rfl ?_)
    | (refine SO.nil ?_)
    | (refine SO.load rfl (by repeat constructor) rfl (by rfl) (by exact ⟨rfl, by first | exact fun _ => rfl | exact (fun h => by cases h)⟩) rfl ?_)
    | (refine SK.seq ?_)
    | (refine SK.region ?_)
    | (refine SK.condF rfl ?_)
    | (refine SK.block ?_)
    | (refine SK.condTP rfl (by first | assumption | (simp only [decide_eq_true_eq, decide_eq_false_iff_not, Bool.not_eq_true', Bool.not_eq_false', Bool.not_true, Bool.not_false, Bool.not_not]; omega)) ?_)
    | fail)
      obtain ⟨xs, hxs⟩ : ∃ xs, xs = (readyF s).take u.n.toNat := ⟨_, rfl⟩
      rw [← hxs]
      have hJ1 : xs.length = min u.n.toNat (readyF s).length := by rw [hxs, List.length_take]
      refine SK.loop (X := {z : Nat × Pl × Pl // z.1 ≤ xs.length}) (fun z => [(15, .slice z.1.2.1.1 z.1.1 z.1.2.1.2), (14, .bool true), (13, .slice x.1 xs.length x.2), (12, .pointer (some ⟨b, 0, none⟩)), (11, .int .i64 (i : Int)), (7, .pointer (some ⟨fb, 0, none⟩)), (9, .pointer (some ⟨gb, 0, none⟩)), (2, .slice A l.length c)])
        (fun z => sqAt false RRec z.1.2.1.1 z.1.1 z.1.2.1.2 (xs.take z.1.1) :: pts b 0 (RAct.cells u hid) :: slAt RRec x.1 xs.length xs :: tabs 1 2 :: slAt RAct A l.length l :: (fAt fb mb (afterF s xs.length) ++ gAt gb z.1.2.2 (afterF s z.1.1))) (fun z => xs.length - z.1.1) ⟨(0, (none, 0), g), Nat.zero_le _⟩ (by repeat constructor) ((ent_triv (A := sqAt false RRec none 0 0 [])).trans (ent_append_of_takes (by unfold fAt gAt; repeat constructor))) ?_
      rintro ⟨⟨k, ⟨Ay, cy⟩, g3⟩, hk⟩
      dsimp only at hk ⊢
      have hwk := wf_after hw k (by omega)
      have hgk := ready_get s k (by omega)
      rcases Nat.lt_or_ge k xs.length with hkl | hkl
      · obtain ⟨r, hr⟩ : ∃ r, xs[k]? = some r := ⟨_, List.getElem?_eq_getElem hkl⟩
        have hr2 : (readyF s)[k]? = some r := by rw [hxs] at hr; rw [List.getElem?_take] at hr; split at hr <;> first | exact hr | cases hr
        have hfs : xs.take (k + 1) = xs.take k ++ [r] := by rw [List.take_add_one, hr]; rfl
        have hd2 : decide ((k : Int) < u.n) = true := decide_eq_true (by omega)
        repeat' (first
    | (refine SO.pure rfl rfl rfl ?_)
    | (refine SO.nil ?_)
    | (refine SO.load rfl (by repeat constructor) rfl (by rfl) (by exact ⟨rfl, by first | exact fun _ => rfl | exact (fun h => by cases h)⟩) rfl ?_)
    | (refine SK.seq ?_)
    | (refine SK.region ?_)
    | (refine SK.skip ?_)
    | (refine SK.block ?_)
    | (refine SK.condTP rfl (by first | assumption | (simp only [decide_eq_true_eq, decide_eq_false_iff_not, Bool.not_eq_true', Bool.not_eq_false', Bool.not_true, Bool.not_false, Bool.not_not]; omega)) ?_)
    | fail)
        rw [hd2]
        repeat' (first
    | (refine SO.append (ρ := RRec) (w := false) (ys := [r]) rfl rfl (by repeat constructor) (Src.one (h := _) (by repeat constructor) (by rfl) (by repeat constructor)) rfl rfl rfl rfl rfl rfl rfl (by omega) (fun A3 c3 => ?_))
    | (refine SO.call (gtake_some gb g3 (afterF s k) r hwk.kw (hgk.symm.trans hr2) hwk.next) rfl rfl rfl (by repeat constructor) (by repeat constructor) rfl (fun x hx => ?_))
    | (refine SO.pure rfl rfl rfl ?_)
    | (refine SO.nil ?_)
    | (refine SO.loadW rfl (by repeat constructor) rfl rfl rfl (by rfl) rfl ?_)
    | (refine SK.seq ?_)
    | (refine SK.region ?_)
    | (refine SK.condF rfl ?_)
    | (refine SK.skip ?_)
    | (refine SK.blk ?_)
    | (refine SO.alloc rfl rfl rfl (fun b => ?_))
    | (refine SO.storeW rfl rfl (by repeat constructor) rfl (by rfl) (by rfl) (by rfl) ?_)
    | (refine SO.buildSlice rfl rfl rfl rfl rfl rfl (fun b => ?_))
    | fail)
        refine SK.inv ⟨⟨(k + 1, (A3, c3), x.2), by show k + 1 ≤ xs.length; omega⟩, ?_, ?_, ?_⟩
        · show xs.length - (k + 1) < xs.length - k
          omega
        · repeat constructor
        · dsimp only; rw [hfs]; exact ent_append_of_takes (by unfold fAt gAt; repeat constructor)
      · have hke : k = xs.length := by omega
        subst hke
        rw [List.take_length]
        by_cases hn : ((xs.length : Nat) : Int) < u.n
        · have hno : hasF (afterF s xs.length) = false := by
            unfold hasF
            rw [← hgk, List.getElem?_eq_none (by omega)]; rfl
          repeat' (first
    | (refine SO.call (gtake_none gb g3 (afterF s xs.length) hwk.kw hno) rfl rfl rfl (by repeat constructor) (by repeat constructor) rfl (fun x hx => ?_))
    | (refine SO.pure rfl rfl rfl ?_)
    | (refine SO.nil ?_)
    | (refine SO.guardY rfl rfl ?_)
    | (refine SO.load rfl (by repeat constructor) rfl (by rfl) (by exact ⟨rfl, by first | exact fun _ => rfl | exact (fun h => by cases h)⟩) rfl ?_)
    | (refine SK.seq ?_)
    | (refine SK.region ?_)
    | (refine SK.condT rfl ?_)
    | (refine SK.skip ?_)
    | (refine SK.block ?_)
    | (refine SK.exit rfl ?_)
    | (refine SO.alloc rfl rfl rfl (fun b => ?_))
    | (refine SO.storeW rfl rfl (by repeat constructor) rfl (by rfl) (by rfl) (by rfl) ?_)
    | (refine SK.condTP rfl (by first | assumption | (simp only [decide_eq_true_eq, decide_eq_false_iff_not, Bool.not_eq_true', Bool.not_eq_false', Bool.not_true, Bool.not_false, Bool.not_not]; omega)) ?_)
    | fail)
          refine SO.readable (ρ := RRec) (A := Ay) (n := xs.length) (m := cy) (l := xs) (by repeat constructor) ?_
          repeat' (first
    | (refine SO.call (sameall_does _ _ _ _ _ xs) rfl rfl rfl (by repeat constructor) (by repeat constructor) rfl (fun x hx => ?_))
    | (refine SO.pure rfl rfl rfl ?_)
    | (refine SO.nil ?_)
    | (refine SO.guardY rfl rfl ?_)
    | (refine SK.condF rfl ?_)
    | (refine SK.skip ?_)
    | fail)
          exact SK.inv ⟨⟨((fb, mb), g3, afterF s xs.length), wf_more hwk (by omega)⟩, by repeat constructor, ent_append_of_takes (by unfold fAt gAt; repeat constructor)⟩
        · repeat' (first
    | (refine SO.pure rfl rfl rfl ?_)
    | (refine SO.nil ?_)
    | (refine SO.guardY rfl rfl ?_)
    | (refine SO.load rfl (by repeat constructor) rfl (by rfl) (by exact ⟨rfl, by first | exact fun _ => rfl | exact (fun h => by cases h)⟩) rfl ?_)
    | (refine SK.seq ?_)
    | (refine SK.region ?_)
    | (refine SK.exit rfl ?_)
    | (refine SK.condFP rfl (by first | assumption | (simp only [decide_eq_true_eq, decide_eq_false_iff_not, Bool.not_eq_true', Bool.not_eq_false', Bool.not_true, Bool.not_false, Bool.not_not]; omega)) ?_)
    | fail)
          refine SO.readable (ρ := RRec) (A := Ay) (n := xs.length) (m := cy) (l := xs) (by repeat constructor) ?_
          repeat' (first
    | (refine SO.call (sameall_does _ _ _ _ _ xs) rfl rfl rfl (by repeat constructor) (by repeat constructor) rfl (fun x hx => ?_))
    | (refine SO.pure rfl rfl rfl ?_)
    | (refine SO.nil ?_)
    | (refine SO.guardY rfl rfl ?_)
    | (refine SK.condF rfl ?_)
    | (refine SK.skip ?_)
    | fail)
          exact SK.inv ⟨⟨((fb, mb), g3, afterF s xs.length), wf_more hwk (by omega)⟩, by repeat constructor, ent_append_of_takes (by unfold fAt gAt; repeat constructor)⟩
    by_cases ho3 : u.op = 3
    · repeat' (first
    | (refine SO.call (reset_does fb mb s u.n) rfl rfl rfl (by repeat constructor) (by repeat constructor) rfl (fun x hx => ?_))
    | (refine SO.call (greset_does gb g s u.n) rfl rfl rfl (by repeat constructor) (by repeat constructor) rfl (fun x hx => ?_))
    | (refine SO.pure rfl rfl rfl ?_)
    | (refine SO.nil ?_)
    | (refine SK.seq ?_)
    | (refine SK.region ?_)
    | (refine SK.condF rfl ?_)
    | (refine SK.condTP rfl (by first | assumption | (simp only [decide_eq_true_eq, decide_eq_false_iff_not, Bool.not_eq_true', Bool.not_eq_false', Bool.not_true, Bool.not_false, Bool.not_not]; omega)) ?_)
    | (refine SK.condFP rfl (by first | assumption | (simp only [decide_eq_true_eq, decide_eq_false_iff_not, Bool.not_eq_true', Bool.not_eq_false', Bool.not_true, Bool.not_false, Bool.not_not]; omega)) ?_)
    | (refine SK.regionX 31 (.item 0 0 (.item 0 1 (.item 0 4 (.item 0 5 (.item 0 2 (.item 0 6 (.item 1 3 (.item 2 7 (.item 0 8 .nil))))))))) (fAt fb mb s ++ gAt gb g s) (by repeat constructor) (by repeat (first | exact .nil | apply PersSub.s | apply PersSub.t | apply PersSub.p | apply PersSub.r | apply PersSub.skip)) (by kernel_rfl) (by kernel_rfl) (fun _ _ _ h => h) ?_)
    | (refine SX.tail (by rfl) (by repeat (first | exact .nil | apply DropP.s | apply DropP.t | apply DropP.p | apply DropP.r | apply DropP.keep)) ?_)
    | (refine SX.pure rfl rfl rfl ?_)
    | (refine SX.load rfl (by repeat constructor) rfl (by rfl) (by exact ⟨rfl, by first | exact fun _ => rfl | exact (fun h => by cases h)⟩) rfl ?_)
    | (refine SX.step rfl rfl ?_)
    | (refine SK.invY ?_)
    | (refine SY.shareGo (by repeat (first | exact .nil | apply PersSub.s | apply PersSub.t | apply PersSub.p | apply PersSub.r | apply PersSub.skip)) ?_)
    | fail)
      rename_i mb2 _
      rw [decide_eq_true (rfl : (resetF s u.n).1 = (resetF s u.n).1)]
      repeat' (first
    | (refine SK.condF rfl ?_)
    | (refine SK.skip ?_)
    | fail)
      exact SK.inv ⟨⟨((fb, mb2), x, (resetF s u.n).2), wf_more (wf_reset hw u.n) (by omega)⟩, by repeat constructor, ent_append_of_takes (by unfold fAt gAt; repeat constructor)⟩
    by_cases ho4 : u.op = 4
    · repeat' (first
    | (refine SO.call (twin_does fb mb s) rfl rfl rfl (by repeat constructor) (by repeat constructor) rfl (fun x hx => ?_))
    | (refine SO.call (reset_does fb mb s 7) rfl rfl rfl (by repeat constructor) (by repeat constructor) rfl (fun x hx => ?_))
    | (refine SO.pure rfl rfl rfl ?_)
    | (refine SO.pure2 rfl rfl rfl ?_)
    | (refine SO.nil ?_)
    | (refine SK.seq ?_)
    | (refine SK.region ?_)
    | (refine SK.condF rfl ?_)
    | (refine SK.skip ?_)
    | (refine SK.condTP rfl (by first | assumption | (simp only [decide_eq_true_eq, decide_eq_false_iff_not, Bool.not_eq_true', Bool.not_eq_false', Bool.not_true, Bool.not_false, Bool.not_not]; omega)) ?_)
    | (refine SK.condFP rfl (by first | assumption | (simp only [decide_eq_true_eq, decide_eq_false_iff_not, Bool.not_eq_true', Bool.not_eq_false', Bool.not_true, Bool.not_false, Bool.not_not]; omega)) ?_)
    | fail)
      rename_i z _
      exact SK.inv ⟨⟨(z, g, s), wf_more hw (by omega)⟩, by repeat constructor, ent_append_of_takes (by unfold fAt gAt; repeat constructor)⟩
    · repeat' (first
    | (refine SO.pure rfl rfl rfl ?_)
    | (refine SO.nil ?_)
    | (refine SK.seq ?_)
    | (refine SK.region ?_)
    | (refine SK.condF rfl ?_)
    | (refine SK.skip ?_)
    | (refine SK.condFP rfl (by first | assumption | (simp only [decide_eq_true_eq, decide_eq_false_iff_not, Bool.not_eq_true', Bool.not_eq_false', Bool.not_true, Bool.not_false, Bool.not_not]; omega)) ?_)
    | fail)
      exact SK.inv ⟨⟨((fb, mb), g, s), wf_more hw (by omega)⟩, by repeat constructor, ent_append_of_takes (by unfold fAt gAt; repeat constructor)⟩
  · rintro ⟨⟨⟨fb2, mb2⟩, g2, s2⟩, hw2⟩ T' L' hT hL
    dsimp only at hT hL
    refine SK.blk ?_
    refine SK.weaken hT hL ?_
    have hk2 := hw2.kw
    have hss : ∀ h g : Pl, Does Tryd.prog 29 [RRec.val (firstF s2) h, RRec.val (firstF s2) g] [slAt RI h.1 (firstF s2).dep.length (firstF s2).dep, slAt RI g.1 (firstF s2).dep.length (firstF s2).dep] [] Unit (fun _ => True) (fun _ => .bool true) (fun _ => []) := fun h g => by
      have h0 := rsame_does (firstF s2) (firstF s2) h g
      rw [sameR_refl] at h0
      exact h0
    have hle := len_does fb2 mb2 s2
    rw [← gl_len] at hle
    repeat' (first
    | (refine SO.call (first_does fb2 mb2 s2) rfl rfl rfl (by repeat constructor) (by repeat constructor) rfl (fun x hx => ?_))
    | (refine SO.call (gfirst_does gb g2 s2 hk2) rfl rfl rfl (by repeat constructor) (by repeat constructor) rfl (fun x hx => ?_))
    | (refine SO.pure rfl rfl rfl ?_)
    | (refine SO.nil ?_)
    | (refine SK.seq ?_)
    | (refine SK.region ?_)
    | (refine SO.alloc rfl rfl rfl (fun b => ?_))
    | (refine SO.storeW rfl rfl (by repeat constructor) rfl (by rfl) (by rfl) (by rfl) ?_)
    | (refine SK.regionX 41 (.item 0 0 (.item 0 1 (.item 0 2 (.item 0 3 (.item 0 4 (.item 0 6 (.item 1 5 (.item 2 7 (.item 0 8 (.item 0 9 (.item 0 10 (.item 0 11 (.item 0 13 (.item 0 14 (.item 0 15 (.item 0 16 (.item 1 12 (.item 0 17 (.item 0 18 (.item 0 19 (.item 0 20 (.item 0 22 (.item 0 23 (.item 0 24 (.item 0 25 (.item 0 26 (.item 1 21 (.item 0 27 (.item 0 28 .nil))))))))))))))))))))))))))))) (fAt fb2 mb2 s2) (by repeat constructor) (by repeat (first | exact .nil | apply PersSub.s | apply PersSub.t | apply PersSub.p | apply PersSub.r | apply PersSub.skip)) (by kernel_rfl) (by kernel_rfl) (fun _ _ _ h => h) ?_)
    | (refine SX.pure rfl rfl rfl ?_)
    | (refine SX.pure2 rfl rfl rfl ?_)
    | fail)
    rw [show (hasF s2 == hasF s2) = true from beq_self_eq_true _]
    repeat' (first
    | (refine SO.call (of_does (firstF s2) _) rfl rfl rfl (by repeat constructor) (by repeat constructor) rfl (fun x hx => ?_))
    | (refine SO.call (hss _ _) rfl rfl rfl (by repeat constructor) (by repeat constructor) rfl (fun x hx => ?_))
    | (refine SO.call (next_does fb2 mb2 s2) rfl rfl rfl (by repeat constructor) (by repeat constructor) rfl (fun x hx => ?_))
    | (refine SO.nil ?_)
    | (refine SX.pure rfl rfl rfl ?_)
    | (refine SX.guardY rfl rfl ?_)
    | (refine SX.loadW rfl (by repeat constructor) rfl rfl rfl (by rfl) rfl ?_)
    | (refine SX.load rfl (by repeat constructor) rfl (by rfl) (by exact ⟨rfl, by first | exact fun _ => rfl | exact (fun h => by cases h)⟩) rfl ?_)
    | (refine SX.step rfl rfl ?_)
    | (refine SK.invY ?_)
    | (refine SY.shareGo (by repeat (first | exact .nil | apply PersSub.s | apply PersSub.t | apply PersSub.p | apply PersSub.r | apply PersSub.skip)) ?_)
    | fail)
    rw [show decide (s2.next = s2.next) = true from decide_eq_true rfl]
    repeat' (first
    | (refine SO.call (hle) rfl rfl rfl (by repeat constructor) (by repeat constructor) rfl (fun x hx => ?_))
    | (refine SO.nil ?_)
    | (refine SX.tail (by rfl) (by repeat (first | exact .nil | apply DropP.s | apply DropP.t | apply DropP.p | apply DropP.r | apply DropP.keep)) ?_)
    | (refine SX.pure rfl rfl rfl ?_)
    | (refine SX.guardY rfl rfl ?_)
    | (refine SX.load rfl (by repeat constructor) rfl (by rfl) (by exact ⟨rfl, by first | exact fun _ => rfl | exact (fun h => by cases h)⟩) rfl ?_)
    | (refine SX.step rfl rfl ?_)
    | (refine SK.invY ?_)
    | (refine SY.shareGo (by repeat (first | exact .nil | apply PersSub.s | apply PersSub.t | apply PersSub.p | apply PersSub.r | apply PersSub.skip)) ?_)
    | fail)
    rw [show decide (((gl s2).length : Int) = ((gl s2).length : Int)) = true from decide_eq_true rfl]
    repeat' (first
    | (refine SO.pure rfl rfl rfl ?_)
    | (refine SO.nil ?_)
    | (refine SK.region ?_)
    | (refine SK.condF rfl ?_)
    | (refine SK.skip ?_)
    | (refine SK.blk ?_)
    | fail)
    refine SK.inv ⟨⟨(i + 1, (fb2, mb2), g2, s2), by show i + 1 ≤ l.length; omega, hw2⟩, ?_, ?_, ?_⟩
    · show l.length - (i + 1) < l.length - i
      omega
    · rw [hwi]; repeat constructor
    · exact ent_append_of_takes (by unfold fAt gAt; repeat constructor)
end Go.Proofs
