/- A part of a proof: what functions of the program compute. -/
import Derived.Test.YtbaalaaoggplmaaDoorBook10D
import Derived.Test.YtbaalaaoggplmaaDoorBook11D
set_option linter.unusedVariables false
set_option linter.unusedSimpArgs false
set_option maxHeartbeats 0
namespace Go.Proofs
attribute [local irreducible] Go.Sl.SO Go.Sl.SQ Go.Sl.SR Go.Sl.SC Go.Sl.SX Go.Sl.SY Go.Sl.eadr Go.Sl.slAt Go.Sl.sqAt Go.Sl.pts Go.Sl.rod Go.Sl.ob Go.Sl.ex Go.Sl.big Go.Sl.pr Go.Sl.tabs Go.Sl.mpAt
open Go.Sl
theorem bcheck_does (A : Option Addr) (n c : Nat) (l : List Cl) (hv : ∀ x ∈ l, x.val.size ≤ lim) : Does Tryd.prog 34 [.slice A n c] [tabs 1 2, slAt RCl A n l] [] Unit (fun _ => True) (fun _ => .int .i64 (chkB none l)) (fun _ => []) := by
  refine Does.of Tryd.call34 Tryd.func34 rfl rfl rfl (all_cons (pers_tabs _ _) (all_cons (pers_slAt _ _ _ _) all_nil)) rfl ?_
  refine SK.know (sl_len (ρ := RCl) (A := A) (n := n) (l := l) (by repeat constructor)) ?_
  rintro ⟨rfl, hlim, -⟩
  repeat' (first
    | (refine SO.pure rfl rfl rfl ?_)
    | (refine SO.nil ?_)
    | (refine SK.seq ?_)
    | (refine SK.region ?_)
    | (refine SK.block ?_)
    | fail)
  refine SK.loop (X := {i : Nat // i ≤ l.length ∧ chkB none l = chkB (prevB l i) (l.drop i)}) (fun i => [(8, .int .i64 (i.1 : Int)), (7, .int .i64 (l.length : Int)), (6, .slice A l.length c), (0, .slice A l.length c)]) (fun i => [tabs 1 2, slAt RCl A l.length l]) (fun i => l.length - i.1) ⟨0, Nat.zero_le _, rfl⟩ (by repeat constructor) (ent_append_of_takes (by repeat constructor)) ?_
  rintro ⟨i, hi, hck⟩
  dsimp only
  have hwi := wrapn (show i ≤ lim by omega)
  rcases Nat.lt_or_ge i l.length with hil | hil
  · have hd1 : decide ((i : Int) < (l.length : Int)) = true := decide_eq_true (by omega)
    obtain ⟨u, hu⟩ : ∃ u, l[i]? = some u := ⟨_, List.getElem?_eq_getElem hil⟩
    have hst := chkB_step hu hck
    repeat' (first
    | (refine SO.indexH rfl rfl (by repeat constructor) rfl rfl rfl rfl (by assumption) ?_)
    | (refine SO.pure rfl rfl rfl ?_)
    | (refine SO.nil ?_)
    | (refine SO.load rfl (by repeat constructor) rfl (by rfl) (by exact ⟨rfl, by first | exact fun _ => rfl | exact (fun h => by cases h)⟩) rfl ?_)
    | (refine SO.build rfl rfl rfl rfl ?_)
    | (refine SO.eloadW rfl (by repeat constructor) (by assumption) rfl (by rfl) rfl (by rfl) rfl (fun hid => ?_))
    | (refine SK.seq ?_)
    | (refine SK.region ?_)
    | (refine SK.skip ?_)
    | (refine SK.block ?_)
    | (refine SO.alloc rfl rfl rfl (fun b => ?_))
    | (refine SO.storeW rfl rfl (by repeat constructor) rfl (by rfl) (by rfl) (by rfl) ?_)
    | (refine SK.condTP rfl (by first | assumption | (simp only [decide_eq_true_eq, decide_eq_false_iff_not, Bool.not_eq_true', Bool.not_eq_false', Bool.not_true, Bool.not_false, Bool.not_not]; omega)) ?_)
    | fail)
    rw [hd1]
    repeat' (first
    | (refine SO.call (check1_does u.key u.val (hv u (List.mem_of_getElem? hu))) rfl rfl rfl (by repeat constructor) (by repeat constructor) rfl (fun x hx => ?_))
    | (refine SO.pure rfl rfl rfl ?_)
    | (refine SO.nil ?_)
    | (refine SK.seq ?_)
    | (refine SK.region ?_)
    | (refine SK.block ?_)
    | fail)
    by_cases hcb : cellBad u.key u.val = 0
    case neg =>
      rw [hst, clBad_cell hcb, if_pos hcb]
      rw [decide_eq_false hcb]
      repeat' (first
    | (refine SO.pure rfl rfl rfl ?_)
    | (refine SO.nil ?_)
    | (refine SK.seq ?_)
    | (refine SK.region ?_)
    | (refine SK.condT rfl ?_)
    | fail)
      exact SK.retX (.tmp rfl .nil) () trivial rfl (by repeat constructor)
    rw [decide_eq_true hcb]
    repeat' (first
    | (refine SO.pure rfl rfl rfl ?_)
    | (refine SO.load rfl (by repeat constructor) rfl (by rfl) (by exact ⟨rfl, by first | exact fun _ => rfl | exact (fun h => by cases h)⟩) rfl ?_)
    | (refine SK.seq ?_)
    | (refine SK.region ?_)
    | (refine SK.condF rfl ?_)
    | fail)
    by_cases hs : u.site < 0 ∨ 8 ≤ u.site ∨ u.seq < 1 ∨ 1048576 < u.seq
    · rw [hst, clBad_site hcb hs, if_pos (show (1 : Int) ≠ 0 by decide)]
      by_cases h1 : u.site < 0
      · rw [decide_eq_true h1]
        repeat' (first
    | (refine SO.pure rfl rfl rfl ?_)
    | (refine SO.nil ?_)
    | (refine SO.guardN rfl rfl rfl ?_)
    | (refine SK.seq ?_)
    | (refine SK.region ?_)
    | (refine SK.condT rfl ?_)
    | fail)
        exact SK.retX (.tmp rfl .nil) () trivial rfl (by repeat constructor)
      rw [decide_eq_false h1]
      repeat' (first
    | (refine SO.pure rfl rfl rfl ?_)
    | (refine SO.guardY rfl rfl ?_)
    | (refine SO.load rfl (by repeat constructor) rfl (by rfl) (by exact ⟨rfl, by first | exact fun _ => rfl | exact (fun h => by cases h)⟩) rfl ?_)
    | fail)
      by_cases h2 : 8 ≤ u.site
      · rw [decide_eq_true h2]
        repeat' (first
    | (refine SO.pure rfl rfl rfl ?_)
    | (refine SO.nil ?_)
    | (refine SO.guardN rfl rfl rfl ?_)
    | (refine SK.seq ?_)
    | (refine SK.region ?_)
    | (refine SK.condT rfl ?_)
    | fail)
        exact SK.retX (.tmp rfl .nil) () trivial rfl (by repeat constructor)
      rw [decide_eq_false h2]
      repeat' (first
    | (refine SO.pure rfl rfl rfl ?_)
    | (refine SO.guardY rfl rfl ?_)
    | (refine SO.load rfl (by repeat constructor) rfl (by rfl) (by exact ⟨rfl, by first | exact fun _ => rfl | exact (fun h => by cases h)⟩) rfl ?_)
    | fail)
      by_cases h3 : u.seq < 1
      · rw [decide_eq_true h3]
        repeat' (first
    | (refine SO.pure rfl rfl rfl ?_)
    | (refine SO.nil ?_)
    | (refine SO.guardN rfl rfl rfl ?_)
    | (refine SK.seq ?_)
    | (refine SK.region ?_)
    | (refine SK.condT rfl ?_)
    | fail)
        exact SK.retX (.tmp rfl .nil) () trivial rfl (by repeat constructor)
      rw [decide_eq_false h3]
      repeat' (first
    | (refine SO.pure rfl rfl rfl ?_)
    | (refine SO.nil ?_)
    | (refine SO.guardY rfl rfl ?_)
    | (refine SO.load rfl (by repeat constructor) rfl (by rfl) (by exact ⟨rfl, by first | exact fun _ => rfl | exact (fun h => by cases h)⟩) rfl ?_)
    | (refine SK.seq ?_)
    | (refine SK.region ?_)
    | (refine SK.condTP rfl (by first | assumption | (simp only [decide_eq_true_eq, decide_eq_false_iff_not, Bool.not_eq_true', Bool.not_eq_false', Bool.not_true, Bool.not_false, Bool.not_not]; omega)) ?_)
    | fail)
      rw [decide_eq_true (show 1048576 < u.seq by omega)]
      skip
      exact SK.retX (.tmp rfl .nil) () trivial rfl (by repeat constructor)
    · rw [clBad_ok hcb hs, if_neg (show ¬ (0 : Int) ≠ 0 by simp)] at hst
      rw [decide_eq_false (show ¬ u.site < 0 by omega)]
      repeat' (first
    | (refine SO.pure rfl rfl rfl ?_)
    | (refine SO.nil ?_)
    | (refine SO.guardY rfl rfl ?_)
    | (refine SO.load rfl (by repeat constructor) rfl (by rfl) (by exact ⟨rfl, by first | exact fun _ => rfl | exact (fun h => by cases h)⟩) rfl ?_)
    | (refine SK.seq ?_)
    | (refine SO.guardYP rfl rfl (by first | assumption | (simp only [decide_eq_true_eq, decide_eq_false_iff_not, Bool.not_eq_true', Bool.not_eq_false', Bool.not_true, Bool.not_false, Bool.not_not]; omega)) ?_)
    | (refine SK.condFP rfl (by first | assumption | (simp only [decide_eq_true_eq, decide_eq_false_iff_not, Bool.not_eq_true', Bool.not_eq_false', Bool.not_true, Bool.not_false, Bool.not_not]; omega)) ?_)
    | (refine SK.regionX 9 (.item 0 0 (.item 0 1 (.item 0 2 (.item 0 3 (.item 0 5 (.item 0 6 (.item 0 4 (.item 0 7 (.item 0 8 (.item 0 9 (.item 0 10 (.item 0 11 (.item 0 12 (.item 0 13 .nil)))))))))))))) [] .nil (by repeat (first | exact .nil | apply PersSub.s | apply PersSub.t | apply PersSub.p | apply PersSub.r | apply PersSub.skip)) (by kernel_rfl) (by kernel_rfl) (fun _ _ _ h => h) ?_)
    | (refine SX.pure rfl rfl rfl ?_)
    | fail)
      rw [decide_eq_false (show ¬ 8 ≤ u.site by omega)]
      skip
      rw [decide_eq_false (show ¬ u.seq < 1 by omega)]
      skip
      rw [decide_eq_false (show ¬ 1048576 < u.seq by omega)]
      skip
      cases i with
      | zero =>
        rw [decide_eq_false (show ¬ (0 : Int) < ((0 : Nat) : Int) by simp)]
        repeat' (first
    | (refine SO.pure rfl rfl rfl ?_)
    | (refine SO.nil ?_)
    | (refine SK.region ?_)
    | (refine SK.condF rfl ?_)
    | (refine SK.skip ?_)
    | (refine SK.blk ?_)
    | (refine SX.tail (by rfl) (by repeat (first | exact .nil | apply DropP.s | apply DropP.t | apply DropP.p | apply DropP.r | apply DropP.keep)) ?_)
    | (refine SX.pure rfl rfl rfl ?_)
    | (refine SX.guardN rfl rfl rfl ?_)
    | fail)
        rw [show riseOk (prevB l 0) u = true from rfl, if_neg (by simp)] at hst
        refine SK.inv ⟨⟨0 + 1, by omega, hst⟩, ?_, ?_, ?_⟩
        · show l.length - (0 + 1) < l.length - 0
          omega
        · rw [hwi]; repeat constructor
        · exact ent_append_of_takes (by repeat constructor)
      | succ j =>
        obtain ⟨q, hq⟩ : ∃ q, l[j]? = some q := ⟨_, List.getElem?_eq_getElem (by omega)⟩
        have hw0 : IntKind.i64.wrap (((j + 1 : Nat) : Int) - 1) = (j : Int) := by rw [wrap_id (by omega) (by unfold lim at hlim; omega)]; omega
        rw [decide_eq_true (show (0 : Int) < ((j + 1 : Nat) : Int) by omega)]
        repeat' (first
    | (refine SX.pure rfl rfl rfl ?_)
    | (refine SX.guardY rfl rfl ?_)
    | (refine SX.load rfl (by repeat constructor) rfl (by rfl) (by exact ⟨rfl, by first | exact fun _ => rfl | exact (fun h => by cases h)⟩) rfl ?_)
    | fail)
        rw [hw0]
        repeat' (first
    | (refine SO.nil ?_)
    | (refine SX.tail (by rfl) (by repeat (first | exact .nil | apply DropP.s | apply DropP.t | apply DropP.p | apply DropP.r | apply DropP.keep)) ?_)
    | (refine SX.indexH rfl rfl (by repeat constructor) rfl rfl rfl rfl (by assumption) ?_)
    | (refine SX.pure rfl rfl rfl ?_)
    | (refine SX.guardY rfl rfl ?_)
    | (refine SX.efield rfl rfl rfl rfl rfl ?_)
    | (refine SX.eload rfl (by repeat constructor) (by assumption) rfl (by rfl) (by exact fun _ => ⟨rfl, fun _ => rfl⟩) rfl (fun hid => ?_))
    | (refine SX.scmp rfl rfl rfl rfl ?_)
    | fail)
        rw [leS_cmp]
        rw [show riseOk (prevB l (j + 1)) u = decide (cmpB q.key u.key < 0) by unfold prevB riseOk; simp [hq]] at hst
        by_cases hr : cmpB q.key u.key < 0
        · rw [decide_eq_true hr] at hst ⊢
          rw [if_neg (by simp)] at hst
          repeat' (first
    | (refine SO.pure rfl rfl rfl ?_)
    | (refine SO.nil ?_)
    | (refine SK.region ?_)
    | (refine SK.condF rfl ?_)
    | (refine SK.skip ?_)
    | (refine SK.blk ?_)
    | fail)
          refine SK.inv ⟨⟨j + 1 + 1, by omega, hst⟩, ?_, ?_, ?_⟩
          · show l.length - (j + 1 + 1) < l.length - (j + 1)
            omega
          · rw [hwi]; repeat constructor
          · exact ent_append_of_takes (by repeat constructor)
        · rw [decide_eq_false hr] at hst ⊢
          rw [if_pos rfl] at hst
          rw [hst]
          repeat' (first
    | (refine SO.pure rfl rfl rfl ?_)
    | (refine SO.nil ?_)
    | (refine SK.seq ?_)
    | (refine SK.region ?_)
    | (refine SK.condT rfl ?_)
    | fail)
          exact SK.retX (.tmp rfl .nil) () trivial rfl (by repeat constructor)
  · have hd1 : decide ((i : Int) < (l.length : Int)) = false := decide_eq_false (by omega)
    rw [chkB_end hil hck]
    repeat' (first
    | (refine SO.pure rfl rfl rfl ?_)
    | (refine SO.nil ?_)
    | (refine SK.seq ?_)
    | (refine SK.region ?_)
    | (refine SK.exit rfl ?_)
    | (refine SK.condFP rfl (by first | assumption | (simp only [decide_eq_true_eq, decide_eq_false_iff_not, Bool.not_eq_true', Bool.not_eq_false', Bool.not_true, Bool.not_false, Bool.not_not]; omega)) ?_)
    | fail)
    rw [hd1]
    skip
    exact SK.retX (.tmp rfl .nil) () trivial rfl (by repeat constructor)
end Go.Proofs
