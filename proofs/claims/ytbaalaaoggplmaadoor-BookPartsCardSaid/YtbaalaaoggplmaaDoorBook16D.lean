/- A part of a proof: what functions of the program compute. -/
import Derived.Test.YtbaalaaoggplmaaDoorBook14D
import Derived.Test.YtbaalaaoggplmaaDoorLib2
set_option linter.unusedVariables false
set_option linter.unusedSimpArgs false
set_option maxHeartbeats 0
namespace Go.Proofs
attribute [local irreducible] Go.Sl.SO Go.Sl.SQ Go.Sl.SR Go.Sl.SC Go.Sl.SX Go.Sl.SY Go.Sl.eadr Go.Sl.slAt Go.Sl.sqAt Go.Sl.pts Go.Sl.rod Go.Sl.ob Go.Sl.ex Go.Sl.big Go.Sl.pr Go.Sl.tabs Go.Sl.mpAt
open Go.Sl
theorem few2_does (r : Rc) (h : Pl) : Does Tryd.prog 38 [RRecC.val r h] [] [] Unit (fun _ => True) (fun _ => .bool (fewR r)) (fun _ => []) := fewr_does r h
theorem same_self (A B : Option Addr) (c c2 : Nat) (a : List Cl) : Does Tryd.prog 33 [.slice A a.length c, .slice B a.length c2] [slAt RCl A a.length a, slAt RCl B a.length a] [] Unit (fun _ => True) (fun _ => .bool true) (fun _ => []) := by
  have h := same_does A B a.length a.length c c2 a a
  rwa [decide_eq_true (rfl : a = a)] at h
theorem parts_long (B : Option Addr) (m c2 : Nat) (k : Int) (hm : 30 < m) : Does Tryd.prog 10 [.slice B m c2, .int .u8 k] [tabs 1 2] [] Unit (fun _ => True) (fun _ => .bool true) (fun _ => []) := by
  refine Does.of Tryd.call10 Tryd.func10 rfl rfl rfl (all_cons (pers_tabs _ _) all_nil) rfl ?_
  repeat' (first
    | (refine SO.call (bknown_does) rfl rfl rfl (by repeat constructor) (by repeat constructor) rfl (fun x hx => ?_))
    | (refine SO.pure rfl rfl rfl ?_)
    | (refine SO.nil ?_)
    | (refine SK.seq ?_)
    | (refine SK.region ?_)
    | (refine SK.condF rfl ?_)
    | (refine SK.skip ?_)
    | (refine SK.condTP rfl (by first | assumption | (simp only [decide_eq_true_eq, decide_eq_false_iff_not, Bool.not_eq_true', Bool.not_eq_false', Bool.not_true, Bool.not_false, Bool.not_not]; omega)) ?_)
    | fail)
  exact SK.retX (.tmp rfl .nil) () trivial rfl (by repeat constructor)
theorem parts_does (B : Option Addr) (m c2 : Nat) (l : List Rc) (k : Int) (hk : 0 ≤ k ∧ k ≤ 255) (hmc : m ≤ c2) : Does Tryd.prog 10 [.slice B m c2, .int .u8 k] [tabs 1 2, slAt RRecC B m l] [] Unit (fun _ => True) (fun _ => .bool true) (fun _ => []) := by
  refine Does.of Tryd.call10 Tryd.func10 rfl rfl rfl (all_cons (pers_tabs _ _) (all_cons (pers_slAt _ _ _ _) all_nil)) rfl ?_
  refine SK.know (sl_len (ρ := RRecC) (A := B) (n := m) (l := l) (by repeat constructor)) ?_
  rintro ⟨rfl, hlim2, -⟩
  repeat' (first
    | (refine SO.call (bknown_does) rfl rfl rfl (by repeat constructor) (by repeat constructor) rfl (fun x hx => ?_))
    | (refine SO.pure rfl rfl rfl ?_)
    | (refine SO.nil ?_)
    | (refine SK.seq ?_)
    | (refine SK.region ?_)
    | (refine SK.condF rfl ?_)
    | (refine SK.skip ?_)
    | fail)
  by_cases h30 : l.length ≤ 30
  case neg =>
    rw [decide_eq_true (show (30 : Int) < (l.length : Int) by omega)]
    repeat' (first
    | (refine SO.pure rfl rfl rfl ?_)
    | (refine SO.nil ?_)
    | (refine SK.seq ?_)
    | (refine SK.region ?_)
    | (refine SK.condT rfl ?_)
    | fail)
    exact SK.retX (.tmp rfl .nil) () trivial rfl (by repeat constructor)
  rw [decide_eq_false (show ¬ (30 : Int) < (l.length : Int) by omega)]
  repeat' (first
    | (refine SO.pure rfl rfl rfl ?_)
    | (refine SO.nil ?_)
    | (refine SK.seq ?_)
    | (refine SK.region ?_)
    | (refine SK.condF rfl ?_)
    | (refine SK.skip ?_)
    | (refine SK.block ?_)
    | fail)
  refine SK.loop (X := {i : Nat // i ≤ l.length ∧ (l.take i).all (fun r => fewR r && decide (checkR r 8 = 0)) = true}) (fun i => [(5, .int .i64 (i.1 : Int)), (0, .slice B l.length c2), (1, .int .u8 k)]) (fun i => [tabs 1 2, slAt RRecC B l.length l]) (fun i => l.length - i.1) ⟨0, Nat.zero_le _, by simp⟩ (by repeat constructor) (ent_append_of_takes (by repeat constructor)) ?_
  rintro ⟨i, hi, hall⟩
  dsimp only
  have hwi := wrapn (show i ≤ lim by omega)
  rcases Nat.lt_or_ge i l.length with hil | hil
  · have hd1 : decide ((i : Int) < (l.length : Int)) = true := decide_eq_true (by omega)
    obtain ⟨u, hu⟩ : ∃ u, l[i]? = some u := ⟨_, List.getElem?_eq_getElem hil⟩
    have hfewu := few2_does u
    repeat' (first
    | (refine SO.indexH rfl rfl (by repeat constructor) rfl rfl rfl rfl (by assumption) ?_)
    | (refine SO.pure rfl rfl rfl ?_)
    | (refine SO.nil ?_)
    | (refine SO.eloadW rfl (by repeat constructor) (by assumption) rfl (by rfl) rfl (by rfl) rfl (fun hid => ?_))
    | (refine SK.seq ?_)
    | (refine SK.region ?_)
    | (refine SK.skip ?_)
    | (refine SK.block ?_)
    | (refine SK.condTP rfl (by first | assumption | (simp only [decide_eq_true_eq, decide_eq_false_iff_not, Bool.not_eq_true', Bool.not_eq_false', Bool.not_true, Bool.not_false, Bool.not_not]; omega)) ?_)
    | fail)
    rw [hd1]
    repeat' (first
    | (refine SO.call (hfewu _) rfl rfl rfl (by repeat constructor) (by repeat constructor) rfl (fun x hx => ?_))
    | (refine SO.pure rfl rfl rfl ?_)
    | fail)
    cases hq : fewR u with
    | false =>
      repeat' (first
    | (refine SO.pure rfl rfl rfl ?_)
    | (refine SO.nil ?_)
    | (refine SO.guardN rfl rfl rfl ?_)
    | (refine SK.seq ?_)
    | (refine SK.region ?_)
    | (refine SK.condT rfl ?_)
    | fail)
      exact SK.retX (.tmp rfl .nil) () trivial rfl (by repeat constructor)
    | true =>
    obtain ⟨hq1, hq2, hq3⟩ := fewR_ok hq
    repeat' (first
    | (refine SO.indexH rfl rfl (by repeat constructor) rfl rfl rfl rfl (by assumption) ?_)
    | (refine SO.pure rfl rfl rfl ?_)
    | (refine SO.guardY rfl rfl ?_)
    | (refine SO.eloadW rfl (by repeat constructor) (by assumption) rfl (by rfl) rfl (by rfl) rfl (fun hid => ?_))
    | fail)
    refine SO.shift (L' := _) (fun F w hst => slC_has (ρ := RI) (A := hid.1) (n := u.dep.length) (l := u.dep) (by repeat constructor) (by unfold lim; omega) hst) ?_
    have hv8 : u.val.size ≤ lim := by unfold lim; omega
    repeat' (first
    | (refine SO.call (check_does u hid 8 hv8) rfl rfl rfl (by repeat constructor) (by repeat constructor) rfl (fun x hx => ?_))
    | (refine SO.pure rfl rfl rfl ?_)
    | (refine SO.nil ?_)
    | (refine SO.guardY rfl rfl ?_)
    | fail)
    by_cases hc8 : checkR u 8 = 0
    case neg =>
      rw [decide_eq_false hc8]
      repeat' (first
    | (refine SO.pure rfl rfl rfl ?_)
    | (refine SO.nil ?_)
    | (refine SK.seq ?_)
    | (refine SK.region ?_)
    | (refine SK.condT rfl ?_)
    | fail)
      exact SK.retX (.tmp rfl .nil) () trivial rfl (by repeat constructor)
    rw [decide_eq_true hc8]
    repeat' (first
    | (refine SO.pure rfl rfl rfl ?_)
    | (refine SO.nil ?_)
    | (refine SK.region ?_)
    | (refine SK.condF rfl ?_)
    | (refine SK.skip ?_)
    | (refine SK.blk ?_)
    | fail)
    refine SK.inv ⟨⟨i + 1, by omega, by rw [List.take_add_one, hu, List.all_append, hall]; simp [hq, hc8]⟩, ?_, ?_, ?_⟩
    · show l.length - (i + 1) < l.length - i
      omega
    · rw [hwi]; repeat constructor
    · exact ent_append_of_takes (by repeat constructor)
  have hd1 : decide ((i : Int) < (l.length : Int)) = false := decide_eq_false (by omega)
  obtain rfl : i = l.length := by omega
  rw [List.take_length] at hall
  have hall2 : ∀ x ∈ l, fewR x = true ∧ checkR x 8 = 0 := fun x hx => by
    have := List.all_eq_true.1 hall x hx
    simpa using this
  refine SK.shift (L' := [slAt RRec B l.length l, tabs 1 2]) (fun F w hst => hst.ent (Ent.cons ((ent_append_of_takes (As := [slAt RRecC B l.length l, tabs 1 2]) (by repeat constructor)).trans (recs_conv fun x hx => by have := (fewR_ok (hall2 x hx).1).1; unfold lim; omega)))) ?_
  repeat' (first
    | (refine SO.pure rfl rfl rfl ?_)
    | (refine SO.nil ?_)
    | (refine SK.seq ?_)
    | (refine SK.region ?_)
    | (refine SK.exit rfl ?_)
    | (refine SK.condFP rfl (by first | assumption | (simp only [decide_eq_true_eq, decide_eq_false_iff_not, Bool.not_eq_true', Bool.not_eq_false', Bool.not_true, Bool.not_false, Bool.not_not]; omega)) ?_)
    | fail)
  rw [hd1]
  have hw1 : IntKind.i64.wrap k = k := wrap_id (by omega) (by omega)
  have hw2 : IntKind.i64.wrap ((l.length : Int) + 1) = ((l.length + 1 : Nat) : Int) := hwi
  skip
  rw [hw1, hw2]
  have hb0 : (bookAt [] l l.length).length ≤ 0 + l.length := bookAt_len [] l l.length
  obtain ⟨j, hj1, hj2⟩ : ∃ j : Nat, j ≤ l.length ∧ k.tmod ((l.length + 1 : Nat) : Int) = (j : Int) := by
    refine ⟨k.toNat % (l.length + 1), by have := Nat.mod_lt k.toNat (show 0 < l.length + 1 by omega); omega, ?_⟩
    conv => lhs; rw [show k = ((k.toNat : Nat) : Int) by omega]
    rfl
  have hM1 := bookAt_len [] (l.take j) (l.take j).length
  have e2 : (l.drop j).take (l.length - j) = l.drop j := List.take_of_length_le (by simp)
  have hM2 : bookAt (bookAt [] (l.take j) (l.take j).length) ((l.drop j).take (l.length - j)) ((l.drop j).take (l.length - j)).length = bookAt [] l l.length := by rw [e2]; exact bookAt_parts [] l j
  have htl : (l.take j).length ≤ 30 := by rw [List.length_take]; omega
  have hdl : ((l.drop j).take (l.length - j)).length ≤ 30 := by rw [e2, List.length_drop]; omega
  have hM1l : (bookAt [] (l.take j) (l.take j).length).length ≤ 30 := by have h0 : ([] : List Cl).length = 0 := rfl; omega
  have hbof := fun bx => bof_does none 0 0 [] bx B l.length c2 l List.Pairwise.nil (by show 0 + l.length < lim; unfold lim; omega)
  have hbofA := fun bx As cs => bof_does none 0 0 [] bx As j cs (l.take j) List.Pairwise.nil (by show 0 + (l.take j).length < lim; unfold lim; omega)
  have hbofB := fun Ab cb bx As cs => bof_does Ab (bookAt [] (l.take j) (l.take j).length).length cb (bookAt [] (l.take j) (l.take j).length) bx As (l.length - j) cs ((l.drop j).take (l.length - j)) (bookAt_ris List.Pairwise.nil _ _) (by unfold lim; omega)
  simp only [hM2] at hbofB
  repeat' (first
    | (refine SO.div rfl rfl (rem_ne (by omega)) rfl ?_)
    | (refine SO.pure rfl rfl rfl ?_)
    | (refine SO.nil ?_)
    | (refine SK.seq ?_)
    | (refine SK.region ?_)
    | fail)
  rw [hj2]
  repeat' (first
    | (refine SO.call (numbered_does _ _ _) rfl rfl rfl (by repeat constructor) (by repeat constructor) rfl (fun x hx => ?_))
    | (refine SO.call (hbof _) rfl rfl rfl (by repeat constructor) (by repeat constructor) rfl (fun x hx => ?_))
    | (refine SO.pure rfl rfl rfl ?_)
    | (refine SO.nil ?_)
    | (refine SK.seq ?_)
    | fail)
  revert x
  intro xa hxa
  repeat' (first
    | (refine SX.slice (ρ := RRec) (k1 := .i64) (k2 := .i64) rfl rfl rfl (by repeat constructor) rfl rfl (by rfl) rfl (by exact .inr ⟨rfl, rfl⟩) (by exact .inl rfl) (by omega) (by omega) (by assumption) (fun As cs hcs => SX.copy (M := [slAt RRec As _ _]) (all_cons (pers_slAt _ _ _ _) all_nil) ?_))
    | (refine SX.slice (ρ := RRec) (k1 := .i64) (k2 := .i64) rfl rfl rfl (by repeat constructor) rfl rfl (by rfl) rfl (by exact .inl rfl) (by exact .inr ⟨rfl, rfl⟩) (by omega) (by omega) (by assumption) (fun As cs hcs => SX.copy (M := [slAt RRec As _ _]) (all_cons (pers_slAt _ _ _ _) all_nil) ?_))
    | (refine SO.call (numbered_does _ _ _) rfl rfl rfl (by repeat constructor) (by repeat constructor) rfl (fun x hx => ?_))
    | (refine SO.call (hbofA _ _ _) rfl rfl rfl (by repeat constructor) (by repeat constructor) rfl (fun x hx => ?_))
    | (refine SO.call (hbofB _ _ _ _ _) rfl rfl rfl (by repeat constructor) (by repeat constructor) rfl (fun x hx => ?_))
    | (refine SO.pure rfl rfl rfl ?_)
    | (refine SO.nil ?_)
    | (refine SK.seq ?_)
    | (refine SK.region ?_)
    | (refine SK.regionX 12 (.item 0 0 (.item 0 1 (.item 0 5 (.item 0 6 (.item 0 2 (.item 0 7 (.item 1 3 (.item 1 4 (.item 2 8 (.item 2 9 (.item 0 10 .nil))))))))))) [] .nil (by repeat (first | exact .nil | apply PersSub.s | apply PersSub.t | apply PersSub.p | apply PersSub.r | apply PersSub.skip)) (by kernel_rfl) (by kernel_rfl) (fun _ _ _ h => h) ?_)
    | (refine SX.tail (by rfl) (by repeat (first | exact .nil | apply DropP.s | apply DropP.t | apply DropP.p | apply DropP.r | apply DropP.keep)) ?_)
    | (refine SX.pure rfl rfl rfl ?_)
    | (refine SX.step rfl rfl ?_)
    | (refine SK.invY ?_)
    | (refine SY.shareGo (by repeat (first | exact .nil | apply PersSub.s | apply PersSub.t | apply PersSub.p | apply PersSub.r | apply PersSub.skip)) ?_)
    | fail)
  have hM : (bookAt [] l l.length).length ≤ l.length := by omega
  have hgood : chkB none (bookAt [] l l.length) = 0 := bookAt_good fun x hx => rec_clBad (hall2 x hx).2
  have hvals : ∀ x ∈ bookAt [] l l.length, x.val.size ≤ lim := fun x hx => by
    rw [bookAt_all] at hx
    rcases putsB_mem hx with h | h
    · obtain ⟨y, hy, rfl⟩ := List.mem_map.1 h
      have := (fewR_ok (hall2 y hy).1).2.2
      show y.val.size ≤ lim
      unfold lim; omega
    · cases h
  have hch := fun A' c' => bcheck_does A' (bookAt [] l l.length).length c' (bookAt [] l l.length) hvals
  simp only [hgood] at hch
  have hwd := fun bx => words_does bx xa.1 (bookAt [] l l.length).length xa.2 (bookAt [] l l.length) 50 (by omega) (by decide)
  have hss := fun A' B' c' d' => same_self A' B' c' d' (bookAt [] l l.length)
  repeat' (first
    | (refine SO.call (ball_does _ _ _) rfl rfl rfl (by repeat constructor) (by repeat constructor) rfl (fun x hx => ?_))
    | (refine SO.call (hwd _) rfl rfl rfl (by repeat constructor) (by repeat constructor) rfl (fun x hx => ?_))
    | (refine SO.call (hss _ _ _ _) rfl rfl rfl (by repeat constructor) (by repeat constructor) rfl (fun x hx => ?_))
    | (refine SO.call (hch _ _) rfl rfl rfl (by repeat constructor) (by repeat constructor) rfl (fun x hx => ?_))
    | (refine SO.pure rfl rfl rfl ?_)
    | (refine SO.nil ?_)
    | (refine SO.guardY rfl rfl ?_)
    | (refine SK.seq ?_)
    | (refine SK.region ?_)
    | fail)
  rw [show IntKind.i64.wrap (2 * ((bookAt [] l l.length).length : Int)) = ((2 * (bookAt [] l l.length).length : Nat) : Int) by rw [wrap_id (by omega) (by omega)]; omega, wordsB_len]
  rw [show decide (((2 * (bookAt [] l l.length).length : Nat) : Int) = ((2 * (bookAt [] l l.length).length : Nat) : Int)) = true from decide_eq_true rfl]
  repeat' (first
    | (refine SO.pure rfl rfl rfl ?_)
    | (refine SO.nil ?_)
    | (refine SO.guardY rfl rfl ?_)
    | fail)
  rw [decide_eq_true (show ((bookAt [] l l.length).length : Int) ≤ (l.length : Int) by omega)]
  skip
  exact SK.retX (.tmp rfl .nil) () trivial rfl (by repeat constructor)
end Go.Proofs
