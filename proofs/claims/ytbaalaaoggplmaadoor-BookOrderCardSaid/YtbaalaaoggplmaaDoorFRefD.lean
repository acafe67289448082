/- A part of a proof: what functions of the program compute. -/
import Derived.Test.YtbaalaaoggplmaaDoorRef2D
import Derived.Test.YtbaalaaoggplmaaDoorLib1
import Derived.Test.YtbaalaaoggplmaaDoorLib2
set_option linter.unusedVariables false
set_option linter.unusedSimpArgs false
set_option maxHeartbeats 0
namespace Go.Proofs
attribute [local irreducible] Go.Sl.SO Go.Sl.SQ Go.Sl.SR Go.Sl.SC Go.Sl.SX Go.Sl.SY Go.Sl.eadr Go.Sl.slAt Go.Sl.sqAt Go.Sl.pts Go.Sl.rod Go.Sl.ob Go.Sl.ex Go.Sl.big Go.Sl.pr Go.Sl.tabs Go.Sl.mpAt
open Go.Sl

theorem of_does (r : Rc) (h : Pl) : Does Tryd.prog 23 [RRec.val r h] [] [] Unit (fun _ => True) (fun _ => RRec.val r h) (fun _ => []) := by
  refine Does.of Tryd.call23 Tryd.func23 rfl rfl rfl all_nil rfl ?_
  repeat' (first
    | (refine SO.pure rfl rfl rfl ?_)
    | (refine SO.nil ?_)
    | (refine SO.load rfl (by repeat constructor) rfl (by rfl) (by exact ⟨rfl, by first | exact fun _ => rfl | exact (fun h => by cases h)⟩) rfl ?_)
    | (refine SO.build rfl rfl rfl rfl ?_)
    | (refine SK.seq ?_)
    | (refine SK.region ?_)
    | (refine SO.alloc rfl rfl rfl (fun b => ?_))
    | (refine SO.box rfl rfl rfl (fun b => ?_))
    | (refine SO.storeW rfl rfl (by repeat constructor) rfl (by rfl) (by rfl) (by rfl) ?_)
    | fail)
  exact SK.retX (.cell rfl (by repeat constructor) rfl rfl (by exact ⟨rfl, fun h => by cases h⟩) .nil) () trivial rfl (by repeat constructor)
theorem fewr_does (r : Rc) (h : Pl) : Does Tryd.prog 38 [RRec.val r h] [] [] Unit (fun _ => True) (fun _ => .bool (decide ((r.dep.length : Int) ≤ 70) && decide ((r.key.size : Int) ≤ 50) && decide ((r.val.size : Int) ≤ 50))) (fun _ => []) := by
  refine Does.of Tryd.call38 Tryd.func38 rfl rfl rfl all_nil rfl ?_
  repeat' (first
    | (refine SO.pure rfl rfl rfl ?_)
    | (refine SO.nil ?_)
    | (refine SO.guardY rfl rfl ?_)
    | (refine SO.guardN rfl rfl rfl ?_)
    | (refine SO.load rfl (by repeat constructor) rfl (by rfl) (by exact ⟨rfl, by first | exact fun _ => rfl | exact (fun h => by cases h)⟩) rfl ?_)
    | (refine SK.seq ?_)
    | (refine SK.region ?_)
    | (refine SO.box rfl rfl rfl (fun b => ?_))
    | (refine SO.guard rfl rfl rfl (fun h => ?_) (fun h => ?_))
    | fail)
  all_goals refine SK.retX (.tmp rfl .nil) () trivial (congrArg Value.bool ?_) (by repeat constructor)
  all_goals simp_all
  all_goals (intros; omega)
theorem gnew_does (site room : Int) (h0 : 0 ≤ site ∧ site < 8 ∧ 1 ≤ room ∧ room ≤ 64) : Does Tryd.prog 21 [.int .i64 site, .int .i64 room] [] [] Nat (fun _ => True) (fun b => .tuple #[.pointer (some ⟨b, 0, none⟩), .int .i64 0]) (fun b => gAt b (none, 0) ⟨site, room, 1, []⟩) := by
  refine Does.of Tryd.call21 Tryd.func21 rfl rfl rfl all_nil rfl ?_
  repeat' (first
    | (refine SO.pure rfl rfl rfl ?_)
    | (refine SO.nil ?_)
    | (refine SO.guardY rfl rfl ?_)
    | (refine SO.build rfl rfl rfl rfl ?_)
    | (refine SK.seq ?_)
    | (refine SK.region ?_)
    | (refine SK.skip ?_)
    | (refine SO.box rfl rfl rfl (fun b => ?_))
    | (refine SO.guardYP rfl rfl (by first | assumption | (simp only [decide_eq_true_eq, decide_eq_false_iff_not, Bool.not_eq_true', Bool.not_eq_false', Bool.not_true, Bool.not_false, Bool.not_not]; omega)) ?_)
    | (refine SK.condFP rfl (by first | assumption | (simp only [decide_eq_true_eq, decide_eq_false_iff_not, Bool.not_eq_true', Bool.not_eq_false', Bool.not_true, Bool.not_false, Bool.not_not]; omega)) ?_)
    | fail)
  refine SK.ret ⟨_, .tmp rfl (.tmp rfl .nil), b, trivial, rfl, ?_⟩
  show Ent _ [pts b 0 [.int .i64 site, .int .i64 room, .int .i64 1, .slice none 0 0], slAt RRec none 0 [], pr (0 ≤ 0)]
  exact (ent_pr (p := 0 ≤ 0) (Nat.le_refl 0)).trans ((ent_triv (A := slAt RRec none 0 [])).trans (ent_append_of_takes (by repeat constructor)))
theorem gnew_bad (site room : Int) (h0 : ¬ (0 ≤ site ∧ site < 8 ∧ 1 ≤ room ∧ room ≤ 64)) : Does Tryd.prog 21 [.int .i64 site, .int .i64 room] [] [] Unit (fun _ => True) (fun x => .tuple #[.pointer none, .int .i64 1]) (fun _ => []) := by
  refine Does.of Tryd.call21 Tryd.func21 rfl rfl rfl all_nil rfl ?_
  repeat' (first
    | (refine SO.pure rfl rfl rfl ?_)
    | (refine SO.nil ?_)
    | (refine SO.guardY rfl rfl ?_)
    | (refine SO.guardN rfl rfl rfl ?_)
    | (refine SO.build rfl rfl rfl rfl ?_)
    | (refine SK.seq ?_)
    | (refine SK.region ?_)
    | (refine SK.condT rfl ?_)
    | (refine SK.skip ?_)
    | (refine SO.box rfl rfl rfl (fun b => ?_))
    | (refine SO.guard rfl rfl rfl (fun h => ?_) (fun h => ?_))
    | (refine SK.cond rfl (fun h => ?_) (fun h => ?_))
    | fail)
  all_goals first
    | exact SK.retX (.tmp rfl (.tmp rfl .nil)) () trivial rfl (by repeat constructor)
    | (exfalso; simp at *; omega)
theorem greset_does (gb : Nat) (g : Pl) (s : FS) (n : Int) : Does Tryd.prog 26 [.pointer (some ⟨gb, 0, none⟩), .int .i64 n] [] (gAt gb g s) Pl (fun _ => True) (fun _ => .int .i64 (resetF s n).1) (fun g' => gAt gb g' (resetF s n).2) := by
  refine Does.of Tryd.call26 Tryd.func26 rfl rfl rfl all_nil rfl ?_
  by_cases hc : n < 1 ∨ 1048577 < n
  · rw [show resetF s n = (1, s) by unfold resetF; rw [if_pos hc]]
    unfold gAt
    repeat' (first
    | (refine SO.pure rfl rfl rfl ?_)
    | (refine SO.nil ?_)
    | (refine SO.guardY rfl rfl ?_)
    | (refine SO.guardN rfl rfl rfl ?_)
    | (refine SK.seq ?_)
    | (refine SK.region ?_)
    | (refine SK.condT rfl ?_)
    | (refine SK.skip ?_)
    | (refine SO.store rfl rfl (by repeat constructor) rfl (by rfl) rfl rfl (by rfl) (by rfl) ?_)
    | (refine SO.guard rfl rfl rfl (fun h => ?_) (fun h => ?_))
    | (refine SK.cond rfl (fun h => ?_) (fun h => ?_))
    | fail)
    all_goals first
      | exact SK.retX (.tmp rfl .nil) g trivial rfl (by repeat constructor)
      | (exfalso; simp at *; omega)
  · rw [show resetF s n = (0, { s with next := n, held := [] }) by unfold resetF; rw [if_neg hc]]
    unfold gAt
    repeat' (first
    | (refine SO.pure rfl rfl rfl ?_)
    | (refine SO.nil ?_)
    | (refine SO.guardY rfl rfl ?_)
    | (refine SK.seq ?_)
    | (refine SK.region ?_)
    | (refine SK.skip ?_)
    | (refine SO.store rfl rfl (by repeat constructor) rfl (by rfl) rfl rfl (by rfl) (by rfl) ?_)
    | (refine SO.guardYP rfl rfl (by first | assumption | (simp only [decide_eq_true_eq, decide_eq_false_iff_not, Bool.not_eq_true', Bool.not_eq_false', Bool.not_true, Bool.not_false, Bool.not_not]; omega)) ?_)
    | (refine SK.condFP rfl (by first | assumption | (simp only [decide_eq_true_eq, decide_eq_false_iff_not, Bool.not_eq_true', Bool.not_eq_false', Bool.not_true, Bool.not_false, Bool.not_not]; omega)) ?_)
    | fail)
    all_goals first
      | (exfalso; simp at *; omega)
      | (refine SK.ret ⟨_, .tmp rfl .nil, (none, 0), trivial, rfl, ?_⟩
         show Ent _ [pts gb 0 [.int .i64 s.site, .int .i64 s.room, .int .i64 n, .slice none 0 0], slAt RRec none 0 [], pr (0 ≤ 0)]
         exact (ent_pr (p := 0 ≤ 0) (Nat.le_refl 0)).trans ((ent_triv (A := slAt RRec none 0 [])).trans (ent_append_of_takes (by repeat constructor))))
theorem gfirst_does (gb : Nat) (g : Pl) (s : FS) (hk : kw s) : Does Tryd.prog 28 [.pointer (some ⟨gb, 0, none⟩)] [] (gAt gb g s) Pl (fun _ => True) (fun q => .tuple #[RRec.val (firstF s) q, .bool (hasF s)]) (fun q => RRec.atoms (firstF s) q ++ gAt gb g s) := by
  refine Does.of Tryd.call28 Tryd.func28 rfl rfl rfl all_nil rfl ?_
  unfold gAt
  refine SK.know (sl_len (ρ := RRec) (A := g.1) (n := (gl s).length) (l := gl s) (by repeat constructor)) ?_
  rintro ⟨-, hlim, -⟩
  repeat' (first
    | (refine SO.pure rfl rfl rfl ?_)
    | (refine SO.nil ?_)
    | (refine SK.seq ?_)
    | (refine SK.region ?_)
    | (refine SK.block ?_)
    | (refine SO.alloc rfl rfl rfl (fun b => ?_))
    | fail)
  refine SK.loop (X := {i : Nat // i ≤ (gl s).length ∧ ((gl s).take i).all (fun x => !decide (x.seq = s.next)) = true}) (fun i => [(4, .int .i64 (i.1 : Int)), (0, .pointer (some ⟨gb, 0, none⟩)), (2, .pointer (some ⟨b, 0, none⟩))]) (fun i => pts b 0 [.int .i64 0, .int .i64 0, .slice none 0 0, .string bE, .string bE] :: gAt gb g s) (fun i => (gl s).length - i.1) ⟨0, by omega, by simp⟩ (by repeat constructor) (ent_append_of_takes (by unfold gAt; repeat constructor)) ?_
  rintro ⟨i, hi, hall⟩
  dsimp only
  unfold gAt
  have hwi := wrapn (show i ≤ lim by omega)
  rcases Nat.lt_or_ge i (gl s).length with hil | hil
  · have hd1 : decide ((i : Int) < ((gl s).length : Int)) = true := decide_eq_true (by omega)
    obtain ⟨r, hr⟩ : ∃ r, (gl s)[i]? = some r := ⟨_, List.getElem?_eq_getElem hil⟩
    repeat' (first
    | (refine SO.pure rfl rfl rfl ?_)
    | (refine SO.nil ?_)
    | (refine SO.load rfl (by repeat constructor) rfl (by rfl) (by exact ⟨rfl, by first | exact fun _ => rfl | exact (fun h => by cases h)⟩) rfl ?_)
    | (refine SK.seq ?_)
    | (refine SK.region ?_)
    | (refine SK.skip ?_)
    | (refine SK.block ?_)
    | (refine SK.condTP rfl (by first | assumption | (simp only [decide_eq_true_eq, decide_eq_false_iff_not, Bool.not_eq_true', Bool.not_eq_false', Bool.not_true, Bool.not_false, Bool.not_not]; omega)) ?_)
    | (refine SK.regionX 4 (.item 0 0 (.item 0 4 (.item 0 8 (.item 0 1 (.item 0 9 (.item 0 2 (.item 0 10 (.item 0 3 (.item 0 11 (.item 0 5 (.item 0 6 (.item 0 7 (.item 0 12 .nil))))))))))))) [] .nil (by repeat (first | exact .nil | apply PersSub.s | apply PersSub.t | apply PersSub.p | apply PersSub.r | apply PersSub.skip)) (by kernel_rfl) (by kernel_rfl) (fun _ _ _ h => h) ?_)
    | (refine SX.tail (by rfl) (by repeat (first | exact .nil | apply DropP.s | apply DropP.t | apply DropP.p | apply DropP.r | apply DropP.keep)) ?_)
    | (refine SX.indexH rfl rfl (by repeat constructor) rfl rfl rfl rfl (by assumption) ?_)
    | (refine SX.pure rfl rfl rfl ?_)
    | (refine SX.load rfl (by repeat constructor) rfl (by rfl) (by exact ⟨rfl, by first | exact fun _ => rfl | exact (fun h => by cases h)⟩) rfl ?_)
    | (refine SX.efield rfl rfl rfl rfl rfl ?_)
    | (refine SX.eload rfl (by repeat constructor) (by assumption) rfl (by rfl) (by exact fun _ => ⟨rfl, fun _ => rfl⟩) rfl (fun hid => ?_))
    | fail)
    rw [hd1]
    skip
    by_cases hq : r.seq = s.next
    · have hf : mget s.held s.next = some r := by rw [kw_first hk]; exact find_at hall hr (decide_eq_true hq)
      rw [show firstF s = r by unfold firstF; rw [hf]; rfl, show hasF s = true by unfold hasF; rw [hf]; rfl]
      rw [decide_eq_true hq]
      repeat' (first
    | (refine SO.indexH rfl rfl (by repeat constructor) rfl rfl rfl rfl (by assumption) ?_)
    | (refine SO.pure rfl rfl rfl ?_)
    | (refine SO.nil ?_)
    | (refine SO.load rfl (by repeat constructor) rfl (by rfl) (by exact ⟨rfl, by first | exact fun _ => rfl | exact (fun h => by cases h)⟩) rfl ?_)
    | (refine SO.eloadW rfl (by repeat constructor) (by assumption) rfl (by rfl) rfl (by rfl) rfl (fun hid => ?_))
    | (refine SK.seq ?_)
    | (refine SK.region ?_)
    | (refine SK.condT rfl ?_)
    | (refine SO.storeW rfl rfl (by repeat constructor) rfl (by rfl) (by rfl) (by rfl) ?_)
    | fail)
      exact SK.retX (.cell rfl (by repeat constructor) rfl rfl (by exact ⟨rfl, fun h => by cases h⟩) (.tmp rfl .nil)) hid trivial rfl (by repeat constructor)
    · rw [decide_eq_false hq]
      repeat' (first
    | (refine SO.pure rfl rfl rfl ?_)
    | (refine SO.nil ?_)
    | (refine SK.region ?_)
    | (refine SK.condF rfl ?_)
    | (refine SK.skip ?_)
    | (refine SK.blk ?_)
    | fail)
      refine SK.inv ⟨⟨i + 1, by omega, not_step hall hr (decide_eq_false hq)⟩, ?_, ?_, ?_⟩
      · show (gl s).length - (i + 1) < (gl s).length - i
        omega
      · rw [hwi]; repeat constructor
      · exact ent_append_of_takes (by repeat constructor)
  · have hd1 : decide ((i : Int) < ((gl s).length : Int)) = false := decide_eq_false (by omega)
    have hno : mget s.held s.next = none := by rw [kw_first hk]; exact find_none hall hil
    have h1 : firstF s = rc0 := by unfold firstF; rw [hno]; rfl
    have h2 : hasF s = false := by unfold hasF; rw [hno]; rfl
    rw [h1, h2]
    repeat' (first
    | (refine SO.pure rfl rfl rfl ?_)
    | (refine SO.nil ?_)
    | (refine SO.load rfl (by repeat constructor) rfl (by rfl) (by exact ⟨rfl, by first | exact fun _ => rfl | exact (fun h => by cases h)⟩) rfl ?_)
    | (refine SO.build rfl rfl rfl rfl ?_)
    | (refine SK.seq ?_)
    | (refine SK.region ?_)
    | (refine SK.exit rfl ?_)
    | (refine SO.storeW rfl rfl (by repeat constructor) rfl (by rfl) (by rfl) (by rfl) ?_)
    | (refine SK.condFP rfl (by first | assumption | (simp only [decide_eq_true_eq, decide_eq_false_iff_not, Bool.not_eq_true', Bool.not_eq_false', Bool.not_true, Bool.not_false, Bool.not_not]; omega)) ?_)
    | fail)
    rw [hd1]
    skip
    refine SK.ret ⟨_, .cell rfl (by repeat constructor) rfl rfl (by exact ⟨rfl, fun h => by cases h⟩) (.tmp rfl .nil), (none, 0), trivial, rfl, ?_⟩
    exact (ent_triv (A := pr (([] : List Int).length ≤ 0))).trans ((ent_triv (A := slAt RI none 0 [])).trans (ent_append_of_takes (by repeat constructor)))
end Go.Proofs
