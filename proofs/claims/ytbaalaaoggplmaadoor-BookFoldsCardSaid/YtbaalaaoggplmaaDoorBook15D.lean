/- A part of a proof: what functions of the program compute. -/
import Derived.Test.YtbaalaaoggplmaaDoorBook13D
import Derived.Test.YtbaalaaoggplmaaDoorBook14D
import Derived.Test.YtbaalaaoggplmaaDoorLib2
set_option linter.unusedVariables false
set_option linter.unusedSimpArgs false
set_option maxHeartbeats 0
namespace Go.Proofs
attribute [local irreducible] Go.Sl.SO Go.Sl.SQ Go.Sl.SR Go.Sl.SC Go.Sl.SX Go.Sl.SY Go.Sl.eadr Go.Sl.slAt Go.Sl.sqAt Go.Sl.pts Go.Sl.rod Go.Sl.ob Go.Sl.ex Go.Sl.big Go.Sl.pr Go.Sl.tabs Go.Sl.mpAt
open Go.Sl
theorem few1_does (r : Rc) (h : Pl) : Does Tryd.prog 38 [RRecC.val r h] [] [] Unit (fun _ => True) (fun _ => .bool (fewR r)) (fun _ => []) := fewr_does r h
theorem rsame_self (A B : Option Addr) (c c2 : Nat) (a : List Cl) : Does Tryd.prog 45 [.slice A a.length c, .slice B a.length c2] [slAt RCl A a.length a, slAt RCl B a.length a] [] Unit (fun _ => True) (fun _ => .bool true) (fun _ => []) := by
  have h := rsamebook_does A B a.length a.length c c2 a a
  rwa [decide_eq_true (rfl : a = a)] at h
theorem folds_does (A : Option Addr) (n c : Nat) (bk : List Cl) (B : Option Addr) (m c2 : Nat) (l : List Rc) (key : ByteArray) : Does Tryd.prog 9 [.slice A n c, .slice B m c2, .string key] [tabs 1 2, slAt RCl A n bk, slAt RRecC B m l] [] Unit (fun _ => True) (fun _ => .bool true) (fun _ => []) := by
  refine Does.of Tryd.call9 Tryd.func9 rfl rfl rfl (all_cons (pers_tabs _ _) (all_cons (pers_slAt _ _ _ _) (all_cons (pers_slAt _ _ _ _) all_nil))) rfl ?_
  refine SK.know (sl_len (ρ := RCl) (A := A) (n := n) (l := bk) (by repeat constructor)) ?_
  rintro ⟨rfl, hlim, -⟩
  refine SK.know (sl_len (ρ := RRecC) (A := B) (n := m) (l := l) (by repeat constructor)) ?_
  rintro ⟨rfl, hlim2, -⟩
  repeat' (first
    | (refine SO.call (bknown_does) rfl rfl rfl (by repeat constructor) (by repeat constructor) rfl (fun x hx => ?_))
    | (refine SO.call (fewb_does _ _ _ bk) rfl rfl rfl (by repeat constructor) (by repeat constructor) rfl (fun x hx => ?_))
    | (refine SO.pure rfl rfl rfl ?_)
    | (refine SO.nil ?_)
    | (refine SK.seq ?_)
    | (refine SK.region ?_)
    | (refine SK.condF rfl ?_)
    | (refine SK.skip ?_)
    | fail)
  cases hfew : fewB bk with
  | false =>
    repeat' (first
    | (refine SO.pure rfl rfl rfl ?_)
    | (refine SO.nil ?_)
    | (refine SO.guardN rfl rfl rfl ?_)
    | (refine SK.seq ?_)
    | (refine SK.region ?_)
    | (refine SK.condT rfl ?_)
    | fail)
    exact SK.retX (.tmp rfl .nil) () trivial rfl (by repeat constructor)
  | true =>
  have hfb : bk.length ≤ 40 ∧ ∀ x ∈ bk, x.key.size ≤ 50 ∧ x.val.size ≤ 50 := by
    unfold fewB at hfew
    rw [Bool.and_eq_true, decide_eq_true_eq] at hfew
    exact ⟨hfew.1, fun x hx => by simpa using List.all_eq_true.1 hfew.2 x hx⟩
  have hbv : ∀ x ∈ bk, x.val.size ≤ lim := fun x hx => by have := (hfb.2 x hx).2; unfold lim; omega
  repeat' (first
    | (refine SO.pure rfl rfl rfl ?_)
    | (refine SO.guardY rfl rfl ?_)
    | fail)
  by_cases h40 : l.length ≤ 40
  case neg =>
    rw [decide_eq_true (show (40 : Int) < (l.length : Int) by omega)]
    repeat' (first
    | (refine SO.pure rfl rfl rfl ?_)
    | (refine SO.nil ?_)
    | (refine SO.guardN rfl rfl rfl ?_)
    | (refine SK.seq ?_)
    | (refine SK.region ?_)
    | (refine SK.condT rfl ?_)
    | fail)
    exact SK.retX (.tmp rfl .nil) () trivial rfl (by repeat constructor)
  rw [decide_eq_false (show ¬ (40 : Int) < (l.length : Int) by omega)]
  repeat' (first
    | (refine SO.call (ofb_does _ _ _ bk) rfl rfl rfl (by repeat constructor) (by repeat constructor) rfl (fun x hx => ?_))
    | (refine SO.call (rcheckb_does _ _ _ bk hbv) rfl rfl rfl (by repeat constructor) (by repeat constructor) rfl (fun x hx => ?_))
    | (refine SO.pure rfl rfl rfl ?_)
    | (refine SO.nil ?_)
    | (refine SO.guardY rfl rfl ?_)
    | fail)
  by_cases hck : chkB none bk = 0
  case neg =>
    rw [decide_eq_false hck]
    repeat' (first
    | (refine SO.pure rfl rfl rfl ?_)
    | (refine SO.nil ?_)
    | (refine SK.seq ?_)
    | (refine SK.region ?_)
    | (refine SK.condT rfl ?_)
    | fail)
    exact SK.retX (.tmp rfl .nil) () trivial rfl (by repeat constructor)
  obtain ⟨hgood, hris, -⟩ := chkB_zero hck
  rw [decide_eq_true hck]
  repeat' (first
    | (refine SO.pure rfl rfl rfl ?_)
    | (refine SO.nil ?_)
    | (refine SK.seq ?_)
    | (refine SK.region ?_)
    | (refine SK.condF rfl ?_)
    | (refine SK.skip ?_)
    | (refine SK.block ?_)
    | fail)
  have hbl := fun i => bookAt_len bk l i
  refine SK.loop (X := {z : Nat × Pl // z.1 ≤ l.length ∧ (l.take z.1).all fewR = true}) (fun z => [(8, .int .i64 (z.1.1 : Int)), (7, .slice z.1.2.1 (bookAt bk l z.1.1).length z.1.2.2), (0, .slice A bk.length c), (1, .slice B l.length c2), (2, .string key)]) (fun z => [slAt RCl z.1.2.1 (bookAt bk l z.1.1).length (bookAt bk l z.1.1), tabs 1 2, slAt RCl A bk.length bk, slAt RRecC B l.length l]) (fun z => l.length - z.1.1) ⟨(0, (A, c)), Nat.zero_le _, by simp⟩ (by repeat constructor) ((HasAll.ent (As := [slAt RCl A bk.length bk]) (all_cons (pers_slAt _ _ _ _) all_nil) (by repeat constructor)).trans (ent_append_of_takes (by repeat constructor))) ?_
  rintro ⟨⟨i, ⟨A0, c0⟩⟩, hi, hall⟩
  dsimp only at hi hall ⊢
  have hwi := wrapn (show i ≤ lim by omega)
  rcases Nat.lt_or_ge i l.length with hil | hil
  · have hd1 : decide ((i : Int) < (l.length : Int)) = true := decide_eq_true (by omega)
    obtain ⟨u, hu⟩ : ∃ u, l[i]? = some u := ⟨_, List.getElem?_eq_getElem hil⟩
    have hs := bookAt_step (b := bk) hu
    have hfewu := few1_does u
    have hof := of_does u
    repeat' (first
    | (refine SO.indexH rfl rfl (by repeat constructor) rfl rfl rfl rfl (by assumption) ?_)
    | (refine SO.pure rfl rfl rfl ?_)
    | (refine SO.nil ?_)
    | (refine SO.eloadW rfl (by repeat constructor) (by assumption) rfl (by rfl) rfl (by rfl) rfl (fun hid => ?_))
    | (refine SK.seq ?_)
    | (refine SK.region ?_)
    | (refine SK.skip ?_)
    | (refine SK.block ?_)
    | (refine SK.condTP rfl (by first | assumption | (simp only [decide_eq_true_eq, decide_eq_false_iff_not, Bool.not_eq_true', Bool.not_eq_false', Bool.not_true, Bool.not_false, Bool.not_not]; omega)) ?_)
    | fail)
    rw [hd1]
    repeat' (first
    | (refine SO.call (hfewu _) rfl rfl rfl (by repeat constructor) (by repeat constructor) rfl (fun x hx => ?_))
    | (refine SO.pure rfl rfl rfl ?_)
    | fail)
    cases hq : fewR u with
    | false =>
      repeat' (first
    | (refine SO.pure rfl rfl rfl ?_)
    | (refine SO.nil ?_)
    | (refine SO.guardN rfl rfl rfl ?_)
    | (refine SK.seq ?_)
    | (refine SK.region ?_)
    | (refine SK.condT rfl ?_)
    | fail)
      exact SK.retX (.tmp rfl .nil) () trivial rfl (by repeat constructor)
    | true =>
    obtain ⟨hq1, hq2, hq3⟩ := fewR_ok hq
    repeat' (first
    | (refine SO.call (hof _) rfl rfl rfl (by repeat constructor) (by repeat constructor) rfl (fun x hx => ?_))
    | (refine SO.indexH rfl rfl (by repeat constructor) rfl rfl rfl rfl (by assumption) ?_)
    | (refine SO.pure rfl rfl rfl ?_)
    | (refine SO.guardY rfl rfl ?_)
    | (refine SO.eloadW rfl (by repeat constructor) (by assumption) rfl (by rfl) rfl (by rfl) rfl (fun hid => ?_))
    | fail)
    refine SO.shift (L' := _) (fun F w hst => slC_has (ρ := RI) (A := hid.1) (n := u.dep.length) (l := u.dep) (by repeat constructor) (by unfold lim; omega) hst) ?_
    have hv8 : u.val.size ≤ lim := by unfold lim; omega
    have hput := fun h => bput_does A0 (bookAt bk l i).length c0 (bookAt bk l i) u h (bookAt_ris hris l i) (by have := hbl i; unfold lim; omega)
    repeat' (first
    | (refine SO.call (rcheck_does u hid 8 hv8) rfl rfl rfl (by repeat constructor) (by repeat constructor) rfl (fun x hx => ?_))
    | (refine SO.pure rfl rfl rfl ?_)
    | (refine SO.nil ?_)
    | (refine SO.guardY rfl rfl ?_)
    | fail)
    by_cases hc8 : checkR u 8 = 0
    case neg =>
      rw [decide_eq_false hc8]
      repeat' (first
    | (refine SO.pure rfl rfl rfl ?_)
    | (refine SO.nil ?_)
    | (refine SK.seq ?_)
    | (refine SK.region ?_)
    | (refine SK.condT rfl ?_)
    | fail)
      exact SK.retX (.tmp rfl .nil) () trivial rfl (by repeat constructor)
    rw [decide_eq_true hc8]
    repeat' (first
    | (refine SO.call (hput _) rfl rfl rfl (by repeat constructor) (by repeat constructor) rfl (fun x hx => ?_))
    | (refine SO.indexH rfl rfl (by repeat constructor) rfl rfl rfl rfl (by assumption) ?_)
    | (refine SO.pure rfl rfl rfl ?_)
    | (refine SO.nil ?_)
    | (refine SO.eloadW rfl (by repeat constructor) (by assumption) rfl (by rfl) rfl (by rfl) rfl (fun hid => ?_))
    | (refine SK.region ?_)
    | (refine SK.condF rfl ?_)
    | (refine SK.skip ?_)
    | (refine SK.blk ?_)
    | fail)
    rw [← hs]
    refine SK.inv ⟨⟨(i + 1, x), by show i + 1 ≤ l.length; omega, by show (l.take (i + 1)).all fewR = true; rw [List.take_add_one, hu, List.all_append, hall]; simp [hq]⟩, ?_, ?_, ?_⟩
    · show l.length - (i + 1) < l.length - i
      omega
    · rw [hwi]; repeat constructor
    · exact ent_append_of_takes (by repeat constructor)
  have hd1 : decide ((i : Int) < (l.length : Int)) = false := decide_eq_false (by omega)
  obtain rfl : i = l.length := by omega
  rw [List.take_length] at hall
  refine SK.shift (L' := [slAt RRec B l.length l, slAt RCl A0 (bookAt bk l l.length).length (bookAt bk l l.length), tabs 1 2, slAt RCl A bk.length bk]) (fun F w hst => hst.ent (Ent.cons ((ent_append_of_takes (As := [slAt RRecC B l.length l, slAt RCl A0 (bookAt bk l l.length).length (bookAt bk l l.length), tabs 1 2, slAt RCl A bk.length bk]) (by repeat constructor)).trans (recs_conv fun x hx => by have := (fewR_ok (List.all_eq_true.1 hall x hx)).1; unfold lim; omega)))) ?_
  have hb0 := hbl l.length
  have hbof := fun bx => bof_does A bk.length c bk bx B l.length c2 l hris (by unfold lim; omega)
  repeat' (first
    | (refine SO.pure rfl rfl rfl ?_)
    | (refine SO.nil ?_)
    | (refine SK.seq ?_)
    | (refine SK.region ?_)
    | (refine SK.exit rfl ?_)
    | (refine SK.condFP rfl (by first | assumption | (simp only [decide_eq_true_eq, decide_eq_false_iff_not, Bool.not_eq_true', Bool.not_eq_false', Bool.not_true, Bool.not_false, Bool.not_not]; omega)) ?_)
    | fail)
  rw [hd1]
  repeat' (first
    | (refine SO.call (numbered_does _ _ _) rfl rfl rfl (by repeat constructor) (by repeat constructor) rfl (fun x hx => ?_))
    | (refine SO.call (hbof _) rfl rfl rfl (by repeat constructor) (by repeat constructor) rfl (fun x hx => ?_))
    | (refine SO.pure rfl rfl rfl ?_)
    | (refine SO.nil ?_)
    | (refine SK.seq ?_)
    | (refine SK.region ?_)
    | fail)
  revert x
  intro xd hxd
  repeat' (first
    | (refine SO.call (ofb_does _ _ _ bk) rfl rfl rfl (by repeat constructor) (by repeat constructor) rfl (fun x hx => ?_))
    | (refine SO.pure rfl rfl rfl ?_)
    | fail)
  revert x
  intro xo hxo
  have hrf := fun B' c' => rfold_does xo.1 bk.length xo.2 bk B' l.length c' l hris hxo (by omega)
  repeat' (first
    | (refine SO.call (ofall_does _ _ _ l) rfl rfl rfl (by repeat constructor) (by repeat constructor) rfl (fun x hx => ?_))
    | (refine SO.call (hrf _ _) rfl rfl rfl (by repeat constructor) (by repeat constructor) rfl (fun x hx => ?_))
    | (refine SO.pure rfl rfl rfl ?_)
    | (refine SO.nil ?_)
    | (refine SK.seq ?_)
    | (refine SK.region ?_)
    | fail)
  revert x
  intro xm hxm
  repeat' (first
    | (refine SO.call (getb_does A0 _ c0 (bookAt bk l l.length) key (bookAt_ris hris l _)) rfl rfl rfl (by repeat constructor) (by repeat constructor) rfl (fun x hx => ?_))
    | (refine SO.pure rfl rfl rfl ?_)
    | (refine SO.nil ?_)
    | (refine SK.seq ?_)
    | (refine SK.region ?_)
    | (refine SK.block ?_)
    | (refine SO.alloc rfl rfl rfl (fun b => ?_))
    | (refine SO.storeW rfl rfl (by repeat constructor) rfl (by rfl) (by rfl) (by rfl) ?_)
    | fail)
  have hw0 : IntKind.i64.wrap ((l.length : Int) - 1) = (l.length : Int) - 1 := wrap_id (by omega) (by omega)
  rw [hw0]
  refine SK.loop (X := {z : Nat // z ≤ l.length ∧ (l.drop z).all (fun x => !decide (x.key = key)) = true}) (fun z => [(13, .int .i64 ((z.1 : Int) - 1)), (12, .bool (getB (bookAt bk l l.length) key).isSome), (11, .pointer (some ⟨b, 0, none⟩)), (10, .slice xm.1 (bookAt bk l l.length).length xm.2), (9, .slice xd.1 (bookAt bk l l.length).length xd.2), (7, .slice A0 (bookAt bk l l.length).length c0), (0, .slice A bk.length c), (1, .slice B l.length c2), (2, .string key)])
    (fun z => [pts b 0 (RCl.cells (gotB (bookAt bk l l.length) key) ()), slAt RCl xm.1 (bookAt bk l l.length).length (bookAt bk l l.length), slAt RCl xd.1 (bookAt bk l l.length).length (bookAt bk l l.length), slAt RCl A0 (bookAt bk l l.length).length (bookAt bk l l.length), slAt RCl A bk.length bk, slAt RRec B l.length l]) (fun z => z.1) ⟨l.length, Nat.le_refl _, by simp⟩ (by repeat constructor) (ent_append_of_takes (by repeat constructor)) ?_
  rintro ⟨z, hz, hno⟩
  dsimp only
  cases z with
  | zero =>
    rw [List.drop_zero] at hno
    have hgn := getB_none hris hno
    rw [show gotB (bookAt bk l l.length) key = gotB bk key by unfold gotB; rw [hgn], hgn]
    repeat' (first
    | (refine SO.pure rfl rfl rfl ?_)
    | (refine SO.nil ?_)
    | (refine SK.seq ?_)
    | (refine SK.region ?_)
    | (refine SK.condF rfl ?_)
    | (refine SK.exit rfl ?_)
    | fail)
    rw [decide_eq_false (show ¬ (0 : Int) ≤ ((0 : Nat) : Int) - 1 by omega)]
    repeat' (first
    | (refine SO.call (ofb_does _ _ _ bk) rfl rfl rfl (by repeat constructor) (by repeat constructor) rfl (fun x hx => ?_))
    | (refine SO.call (rgetc_does _ _ _ bk key) rfl rfl rfl (by repeat constructor) (by repeat constructor) rfl (fun x hx => ?_))
    | (refine SO.pure rfl rfl rfl ?_)
    | (refine SO.pure2 rfl rfl rfl ?_)
    | (refine SO.nil ?_)
    | (refine SK.seq ?_)
    | (refine SK.region ?_)
    | (refine SO.alloc rfl rfl rfl (fun b => ?_))
    | (refine SO.storeW rfl rfl (by repeat constructor) rfl (by rfl) (by rfl) (by rfl) ?_)
    | fail)
    rw [show ((getB bk key).isSome == (getB bk key).isSome) = true from beq_self_eq_true _]
    repeat' (first
    | (refine SO.pure rfl rfl rfl ?_)
    | (refine SO.guardY rfl rfl ?_)
    | (refine SO.load rfl (by repeat constructor) rfl (by rfl) (by exact ⟨rfl, by first | exact fun _ => rfl | exact (fun h => by cases h)⟩) rfl ?_)
    | fail)
    rw [show eqS (gotB bk key).val (gotB bk key).val = true from eqS_iff.2 rfl]
    repeat' (first
    | (refine SO.call (ofb_does _ _ _ (bookAt bk l l.length)) rfl rfl rfl (by repeat constructor) (by repeat constructor) rfl (fun x hx => ?_))
    | (refine SO.call (rsame_self _ _ _ _ (bookAt bk l l.length)) rfl rfl rfl (by repeat constructor) (by repeat constructor) rfl (fun x hx => ?_))
    | (refine SO.pure rfl rfl rfl ?_)
    | (refine SO.nil ?_)
    | (refine SO.guardY rfl rfl ?_)
    | fail)
    exact SK.retX (.tmp rfl .nil) () trivial rfl (by repeat constructor)
  | succ i =>
    obtain ⟨u, hu⟩ : ∃ u, l[i]? = some u := ⟨_, List.getElem?_eq_getElem (by omega)⟩
    rw [show ((i + 1 : Nat) : Int) - 1 = (i : Int) by omega]
    repeat' (first
    | (refine SO.indexH rfl rfl (by repeat constructor) rfl rfl rfl rfl (by assumption) ?_)
    | (refine SO.pure rfl rfl rfl ?_)
    | (refine SO.nil ?_)
    | (refine SO.efield rfl rfl rfl rfl rfl ?_)
    | (refine SO.eload rfl (by repeat constructor) (by assumption) rfl (by rfl) (by exact fun _ => ⟨rfl, fun _ => rfl⟩) rfl (fun hid => ?_))
    | (refine SK.seq ?_)
    | (refine SK.region ?_)
    | (refine SK.condT rfl ?_)
    | (refine SK.skip ?_)
    | (refine SK.block ?_)
    | fail)
    rw [decide_eq_true (show (0 : Int) ≤ (i : Int) by omega)]
    skip
    by_cases hq : u.key = key
    · subst hq
      have hgl := getB_last hris hu hno
      rw [show gotB (bookAt bk l l.length) u.key = clOf u by unfold gotB; rw [hgl]; rfl, hgl]
      rw [eqS_iff.2 (rfl : u.key = u.key)]
      repeat' (first
    | (refine SK.seq ?_)
    | (refine SK.condT rfl ?_)
    | (refine SK.regionX 19 (.item 0 0 (.item 0 1 (.item 0 2 (.item 0 4 (.item 0 5 (.item 0 3 (.item 0 6 (.item 0 7 (.item 0 8 (.item 0 9 (.item 0 10 (.item 0 11 (.item 0 12 (.item 0 14 (.item 0 15 (.item 0 13 (.item 0 16 (.item 0 17 (.item 0 18 (.item 0 19 (.item 0 20 (.item 0 21 (.item 0 22 (.item 0 24 (.item 0 25 (.item 0 23 (.item 0 26 (.item 0 27 (.item 0 28 (.item 0 29 (.item 0 30 (.item 0 31 (.item 0 32 (.item 0 34 (.item 1 33 (.item 2 35 (.item 0 36 (.item 0 37 (.item 0 38 (.item 0 40 (.item 1 39 (.item 2 41 (.item 0 42 (.item 0 43 .nil)))))))))))))))))))))))))))))))))))))))))))) [] .nil (by repeat (first | exact .nil | apply PersSub.s | apply PersSub.t | apply PersSub.p | apply PersSub.r | apply PersSub.skip)) (by kernel_rfl) (by kernel_rfl) (fun _ _ _ h => h) ?_)
    | (refine SX.indexH rfl rfl (by repeat constructor) rfl rfl rfl rfl (by assumption) ?_)
    | (refine SX.pure rfl rfl rfl ?_)
    | (refine SX.guardY rfl rfl ?_)
    | (refine SX.load rfl (by repeat constructor) rfl (by rfl) (by exact ⟨rfl, by first | exact fun _ => rfl | exact (fun h => by cases h)⟩) rfl ?_)
    | (refine SX.efield rfl rfl rfl rfl rfl ?_)
    | (refine SX.eload rfl (by repeat constructor) (by assumption) rfl (by rfl) (by exact fun _ => ⟨rfl, fun _ => rfl⟩) rfl (fun hid => ?_))
    | fail)
      rw [show eqS (clOf u).val u.val = true from eqS_iff.2 rfl]
      repeat' (first
    | (refine SX.indexH rfl rfl (by repeat constructor) rfl rfl rfl rfl (by assumption) ?_)
    | (refine SX.pure rfl rfl rfl ?_)
    | (refine SX.guardY rfl rfl ?_)
    | (refine SX.load rfl (by repeat constructor) rfl (by rfl) (by exact ⟨rfl, by first | exact fun _ => rfl | exact (fun h => by cases h)⟩) rfl ?_)
    | (refine SX.efield rfl rfl rfl rfl rfl ?_)
    | (refine SX.eload rfl (by repeat constructor) (by assumption) rfl (by rfl) (by exact fun _ => ⟨rfl, fun _ => rfl⟩) rfl (fun hid => ?_))
    | fail)
      rw [show decide ((clOf u).site = u.site) = true from decide_eq_true rfl]
      repeat' (first
    | (refine SX.indexH rfl rfl (by repeat constructor) rfl rfl rfl rfl (by assumption) ?_)
    | (refine SX.pure rfl rfl rfl ?_)
    | (refine SX.guardY rfl rfl ?_)
    | (refine SX.load rfl (by repeat constructor) rfl (by rfl) (by exact ⟨rfl, by first | exact fun _ => rfl | exact (fun h => by cases h)⟩) rfl ?_)
    | (refine SX.efield rfl rfl rfl rfl rfl ?_)
    | (refine SX.eload rfl (by repeat constructor) (by assumption) rfl (by rfl) (by exact fun _ => ⟨rfl, fun _ => rfl⟩) rfl (fun hid => ?_))
    | fail)
      rw [show decide ((clOf u).seq = u.seq) = true from decide_eq_true rfl]
      repeat' (first
    | (refine SO.call (ofb_does _ _ _ (bookAt bk l l.length)) rfl rfl rfl (by repeat constructor) (by repeat constructor) rfl (fun x hx => ?_))
    | (refine SO.call (rsame_self _ _ _ _ (bookAt bk l l.length)) rfl rfl rfl (by repeat constructor) (by repeat constructor) rfl (fun x hx => ?_))
    | (refine SO.nil ?_)
    | (refine SX.tail (by rfl) (by repeat (first | exact .nil | apply DropP.s | apply DropP.t | apply DropP.p | apply DropP.r | apply DropP.keep)) ?_)
    | (refine SX.pure rfl rfl rfl ?_)
    | (refine SX.guardY rfl rfl ?_)
    | (refine SX.step rfl rfl ?_)
    | (refine SK.invY ?_)
    | (refine SY.shareGo (by repeat (first | exact .nil | apply PersSub.s | apply PersSub.t | apply PersSub.p | apply PersSub.r | apply PersSub.skip)) ?_)
    | fail)
      exact SK.retX (.tmp rfl .nil) () trivial rfl (by repeat constructor)
    · rw [show eqS u.key key = false by rw [Bool.eq_false_iff]; exact fun h => hq (eqS_iff.1 h)]
      repeat' (first
    | (refine SO.pure rfl rfl rfl ?_)
    | (refine SO.nil ?_)
    | (refine SK.region ?_)
    | (refine SK.condF rfl ?_)
    | (refine SK.skip ?_)
    | (refine SK.blk ?_)
    | fail)
      rw [show IntKind.i64.wrap ((i : Int) - 1) = (i : Int) - 1 from wrap_id (by omega) (by omega)]
      refine SK.inv ⟨⟨i, by omega, ?_⟩, ?_, by repeat constructor, ent_append_of_takes (by repeat constructor)⟩
      · rw [List.drop_eq_getElem_cons (by omega), List.all_cons, (List.getElem?_eq_some_iff.1 hu).2, hno, decide_eq_false hq]; rfl
      · show i < i + 1
        omega
end Go.Proofs
