/- A part of a proof: what functions of the program compute. -/
import Derived.Test.YtbaalaaoggplmaaDoorRecD
import Derived.Test.YtbaalaaoggplmaaDoorLib1
set_option linter.unusedVariables false
set_option linter.unusedSimpArgs false
set_option maxHeartbeats 0
namespace Go.Proofs
attribute [local irreducible] Go.Sl.SO Go.Sl.SQ Go.Sl.SR Go.Sl.SC Go.Sl.eadr Go.Sl.slAt Go.Sl.sqAt Go.Sl.pts Go.Sl.rod Go.Sl.ob Go.Sl.ex Go.Sl.big Go.Sl.pr Go.Sl.tabs Go.Sl.mpAt
open Go.Sl

theorem new_does (site room : Int) (h0 : 0 ≤ site ∧ site < 8 ∧ 1 ≤ room ∧ room ≤ 64) : Does Tryd.prog 12 [.int .i64 site, .int .i64 room] [] [] (Nat × Nat) (fun _ => True) (fun x => .tuple #[.pointer (some ⟨x.1, 0, none⟩), .int .i64 0]) (fun x => fAt x.1 x.2 ⟨site, room, 1, []⟩) := by
  refine Does.of Tryd.call12 Tryd.func12 rfl rfl rfl all_nil rfl ?_
  repeat' (first
    | (refine SO.pure rfl rfl rfl ?_)
    | (refine SO.nil ?_)
    | (refine SO.guardY rfl rfl ?_)
    | (refine SO.build rfl rfl rfl rfl ?_)
    | (refine SK.seq ?_)
    | (refine SK.region ?_)
    | (refine SK.skip ?_)
    | (refine SO.box rfl rfl rfl (fun b => ?_))
    | (refine SO.guardYP rfl rfl (by first | assumption | (simp only [decide_eq_true_eq, decide_eq_false_iff_not, Bool.not_eq_true', Bool.not_eq_false', Bool.not_true, Bool.not_false, Bool.not_not]; omega)) ?_)
    | (refine SK.condFP rfl (by first | assumption | (simp only [decide_eq_true_eq, decide_eq_false_iff_not, Bool.not_eq_true', Bool.not_eq_false', Bool.not_true, Bool.not_false, Bool.not_not]; omega)) ?_)
    | (refine SO.makeMap (kr := KI .i64) (ρ := RRec) rfl (fun mb => ?_))
    | fail)
  exact SK.retX (.tmp rfl (.tmp rfl .nil)) (b, mb) trivial rfl (by repeat constructor)
theorem new_bad (site room : Int) (h0 : ¬ (0 ≤ site ∧ site < 8 ∧ 1 ≤ room ∧ room ≤ 64)) : Does Tryd.prog 12 [.int .i64 site, .int .i64 room] [] [] Unit (fun _ => True) (fun x => .tuple #[.pointer none, .int .i64 1]) (fun _ => []) := by
  refine Does.of Tryd.call12 Tryd.func12 rfl rfl rfl all_nil rfl ?_
  repeat' (first
    | (refine SO.pure rfl rfl rfl ?_)
    | (refine SO.nil ?_)
    | (refine SO.guardY rfl rfl ?_)
    | (refine SO.guardN rfl rfl rfl ?_)
    | (refine SO.build rfl rfl rfl rfl ?_)
    | (refine SK.seq ?_)
    | (refine SK.region ?_)
    | (refine SK.condT rfl ?_)
    | (refine SK.skip ?_)
    | (refine SO.box rfl rfl rfl (fun b => ?_))
    | (refine SO.guard rfl rfl rfl (fun h => ?_) (fun h => ?_))
    | (refine SK.cond rfl (fun h => ?_) (fun h => ?_))
    | (refine SO.makeMap (kr := KI .i64) (ρ := RRec) rfl (fun mb => ?_))
    | fail)
  all_goals first
    | exact SK.retX (.tmp rfl (.tmp rfl .nil)) () trivial rfl (by repeat constructor)
    | (exfalso; simp at *; omega)

theorem len_does (b mb : Nat) (s : FS) : Does Tryd.prog 16 [.pointer (some ⟨b, 0, none⟩)] [] (fAt b mb s) Unit (fun _ => True) (fun _ => .int .i64 (s.held.length : Int)) (fun _ => fAt b mb s) := by
  refine Does.of Tryd.call16 Tryd.func16 rfl rfl rfl all_nil rfl ?_
  unfold fAt
  repeat' (first
    | (refine SO.pure rfl rfl rfl ?_)
    | (refine SO.nil ?_)
    | (refine SO.load rfl (by repeat constructor) rfl (by rfl) (by exact ⟨rfl, by first | exact fun _ => rfl | exact (fun h => by cases h)⟩) rfl ?_)
    | (refine SO.lenMap rfl (by repeat constructor) rfl rfl ?_)
    | (refine SK.seq ?_)
    | (refine SK.region ?_)
    | fail)
  exact SK.retX (.tmp rfl .nil) () trivial rfl (by repeat constructor)
theorem next_does (b mb : Nat) (s : FS) : Does Tryd.prog 17 [.pointer (some ⟨b, 0, none⟩)] [] (fAt b mb s) Unit (fun _ => True) (fun _ => .int .i64 s.next) (fun _ => fAt b mb s) := by
  refine Does.of Tryd.call17 Tryd.func17 rfl rfl rfl all_nil rfl ?_
  unfold fAt
  repeat' (first
    | (refine SO.pure rfl rfl rfl ?_)
    | (refine SO.nil ?_)
    | (refine SO.load rfl (by repeat constructor) rfl (by rfl) (by exact ⟨rfl, by first | exact fun _ => rfl | exact (fun h => by cases h)⟩) rfl ?_)
    | (refine SK.seq ?_)
    | (refine SK.region ?_)
    | fail)
  exact SK.retX (.tmp rfl .nil) () trivial rfl (by repeat constructor)
theorem reset_does (b mb : Nat) (s : FS) (n : Int) : Does Tryd.prog 18 [.pointer (some ⟨b, 0, none⟩), .int .i64 n] [] (fAt b mb s) Nat (fun _ => True) (fun _ => .int .i64 (resetF s n).1) (fun mb' => fAt b mb' (resetF s n).2) := by
  refine Does.of Tryd.call18 Tryd.func18 rfl rfl rfl all_nil rfl ?_
  unfold fAt
  repeat' (first
    | (refine SO.pure rfl rfl rfl ?_)
    | (refine SO.nil ?_)
    | (refine SO.guardY rfl rfl ?_)
    | (refine SO.guardN rfl rfl rfl ?_)
    | (refine SK.seq ?_)
    | (refine SK.region ?_)
    | (refine SK.condT rfl ?_)
    | (refine SK.skip ?_)
    | (refine SO.store rfl rfl (by repeat constructor) rfl (by rfl) rfl rfl (by rfl) (by rfl) ?_)
    | (refine SO.guard rfl rfl rfl (fun h => ?_) (fun h => ?_))
    | (refine SK.cond rfl (fun h => ?_) (fun h => ?_))
    | (refine SO.makeMap (kr := KI .i64) (ρ := RRec) rfl (fun mb => ?_))
    | fail)
  · rw [show resetF s n = (1, s) by unfold resetF; rw [if_pos (.inr (of_decide_eq_true h))]]
    exact SK.retX (.tmp rfl .nil) mb trivial rfl (by repeat constructor)
  · rename_i mb0 h1
    have hc : ¬ (n < 1 ∨ 1048577 < n) := by have := of_decide_eq_false h1; have := of_decide_eq_false h; omega
    rw [show resetF s n = (0, { s with next := n, held := [] }) by unfold resetF; rw [if_neg hc]]
    exact SK.retX (.tmp rfl .nil) mb trivial rfl (by repeat constructor)
  · rw [show resetF s n = (1, s) by unfold resetF; rw [if_pos (.inl (of_decide_eq_true h))]]
    exact SK.retX (.tmp rfl .nil) mb trivial rfl (by repeat constructor)
theorem first_does (b mb : Nat) (s : FS) : Does Tryd.prog 19 [.pointer (some ⟨b, 0, none⟩)] [] (fAt b mb s) Pl (fun _ => True) (fun h => .tuple #[RRec.val (firstF s) h, .bool (hasF s)]) (fun h => RRec.atoms (firstF s) h ++ fAt b mb s) := by
  refine Does.of Tryd.call19 Tryd.func19 rfl rfl rfl all_nil rfl ?_
  unfold fAt
  repeat' (first
    | (refine SO.pure rfl rfl rfl ?_)
    | (refine SO.nil ?_)
    | (refine SO.loadW rfl (by repeat constructor) rfl rfl rfl (by rfl) rfl ?_)
    | (refine SK.seq ?_)
    | (refine SK.region ?_)
    | (refine SO.alloc rfl rfl rfl (fun b => ?_))
    | (refine SO.storeW rfl rfl (by repeat constructor) rfl (by rfl) (by rfl) (by rfl) ?_)
    | (refine SK.regionM1 1 [0, 1, 2, 3, 4, 5, 6, 7, 8, 9, 10, 11] 12 [11] [13, 14] (by kernel_rfl) (by kernel_rfl) (fun _ _ _ h => h) ?_)
    | (refine SR.pure rfl rfl rfl ?_)
    | (refine SR.load rfl (by repeat constructor) rfl (by rfl) (by exact ⟨rfl, by first | exact fun _ => rfl | exact (fun h => by cases h)⟩) rfl ?_)
    | (refine SR.nil (fun b => ?_))
    | (refine SR.lookup rfl (by repeat constructor) (by rfl) rfl rfl (by rfl) rfl rfl (fun u hid hu => ?_) (fun hu => ?_))
    | fail)
  · have h1 : firstF s = u := by unfold firstF; rw [hu]; rfl
    have h2 : hasF s = true := by unfold hasF; rw [hu]; rfl
    rw [h1, h2]
    exact SK.retX (.cell rfl (by repeat constructor) rfl rfl (by exact ⟨rfl, fun h => by cases h⟩) (.tmp rfl .nil)) hid trivial rfl (by repeat constructor)
  · have h1 : firstF s = rc0 := by unfold firstF; rw [hu]; rfl
    have h2 : hasF s = false := by unfold hasF; rw [hu]; rfl
    rw [h1, h2]
    refine SK.ret ⟨_, .cell rfl (by repeat constructor) rfl rfl (by exact ⟨rfl, fun h => by cases h⟩) (.tmp rfl .nil), (none, 0), trivial, rfl, ?_⟩
    exact (ent_triv (A := pr (([] : List Int).length ≤ 0))).trans ((ent_triv (A := slAt RI none 0 [])).trans (ent_append_of_takes (by repeat constructor)))

theorem put_does (b mb : Nat) (s : FS) (r : Rc) (pl : Pl) (hv : r.val.size ≤ lim) (hn : 0 ≤ s.next ∧ s.next < 4611686018427387904) : Does Tryd.prog 13 [.pointer (some ⟨b, 0, none⟩), RRec.val r pl] [tabs 1 2, slAt RI pl.1 r.dep.length r.dep, pr (r.dep.length ≤ pl.2)] (fAt b mb s) Unit (fun _ => True) (fun _ => .int .i64 (putF s r).1) (fun _ => fAt b mb (putF s r).2) := by
  refine Does.of Tryd.call13 Tryd.func13 rfl rfl rfl (all_cons (pers_tabs _ _) (all_cons (pers_slAt _ _ _ _) (all_cons (pers_pr _) all_nil))) rfl ?_
  unfold fAt
  repeat' (first
    | (refine SO.call (check_does r pl 8 hv) rfl rfl rfl (by repeat constructor) (by repeat constructor) rfl (fun x hx => ?_))
    | (refine SO.pure rfl rfl rfl ?_)
    | (refine SO.nil ?_)
    | (refine SO.loadW rfl (by repeat constructor) rfl rfl rfl (by rfl) rfl ?_)
    | (refine SK.seq ?_)
    | (refine SK.region ?_)
    | (refine SK.condT rfl ?_)
    | (refine SK.skip ?_)
    | (refine SK.block ?_)
    | (refine SK.blk ?_)
    | (refine SO.box rfl rfl rfl (fun b => ?_))
    | (refine SO.storeW rfl rfl (by repeat constructor) rfl (by rfl) (by rfl) (by rfl) ?_)
    | (refine SQ.pure rfl rfl rfl ?_)
    | (refine SQ.nil ?_)
    | (refine SQ.guardY rfl rfl ?_)
    | (refine SQ.guardN rfl rfl rfl ?_)
    | (refine SQ.load rfl (by repeat constructor) rfl (by rfl) (by exact ⟨rfl, by first | exact fun _ => rfl | exact (fun h => by cases h)⟩) rfl ?_)
    | (refine SK.regionM1 4 [0, 1, 2, 3, 4, 5, 6, 7, 8, 9] 10 [9] [11, 12] (by kernel_rfl) (by kernel_rfl) (fun _ _ _ h => h) ?_)
    | (refine SK.regionM0 11 [0, 1, 2, 3, 4, 5, 6] [] [7] (by kernel_rfl) (by kernel_rfl) (fun _ _ _ h => h) ?_)
    | (refine SR.pure rfl rfl rfl ?_)
    | (refine SR.loadW rfl (by repeat constructor) rfl rfl rfl (by rfl) rfl ?_)
    | (refine SR.load rfl (by repeat constructor) rfl (by rfl) (by exact ⟨rfl, by first | exact fun _ => rfl | exact (fun h => by cases h)⟩) rfl ?_)
    | (refine SR.nil (fun b => ?_))
    | (refine SR.nil ?_)
    | (refine SK.regionQ (by kernel_rfl) (by kernel_rfl) rfl ?_)
    | (refine SK.cond rfl (fun h => ?_) (fun h => ?_))
    | (refine SR.lookup rfl (by repeat constructor) (by rfl) rfl rfl (by rfl) rfl rfl (fun u hid hu => ?_) (fun hu => ?_))
    | fail)
  · have h1 : checkR r 8 ≠ 0 := by simpa using h
    rw [show putF s r = (checkR r 8, s) by unfold putF; rw [if_pos h1]]
    exact SK.retX (.tmp rfl .nil) () trivial rfl (by repeat constructor)
  · rename_i h0
    have h0 : checkR r 8 = 0 := by simpa using h0
    have h1 : r.site ≠ s.site := by simpa using h
    rw [show putF s r = (1, s) by unfold putF; rw [if_neg (by rw [h0]; simp), if_pos h1]]
    exact SK.retX (.tmp rfl .nil) () trivial rfl (by repeat constructor)
  · rename_i h0
    have h0 : checkR r 8 = 0 := by simpa using h0
    have h1 : r.site = s.site := by simpa using h
    rw [show putF s r = (5, s) by unfold putF; rw [if_neg (by rw [h0]; simp), if_neg (by simp [h1]), if_pos (.inl (by rw [hu]; rfl))]]
    exact SK.retX (.tmp rfl .nil) () trivial rfl (by repeat constructor)
  · rename_i h0
    have h0 : checkR r 8 = 0 := by simpa using h0
    have h1 : r.site ≠ s.site := by simpa using h
    rw [show putF s r = (1, s) by unfold putF; rw [if_neg (by rw [h0]; simp), if_pos h1]]
    exact SK.retX (.tmp rfl .nil) () trivial rfl (by repeat constructor)
  · rename_i h0 h2
    have h0 : checkR r 8 = 0 := by simpa using h0
    have h1 : r.site = s.site := by simpa using h2
    rw [show putF s r = (5, s) by unfold putF; rw [if_neg (by rw [h0]; simp), if_neg (by simp [h1]), if_pos (.inr (of_decide_eq_true h))]]
    exact SK.retX (.tmp rfl .nil) () trivial rfl (by repeat constructor)
  · rename_i h0 h2 h3
    have h0 : checkR r 8 = 0 := by simpa using h0
    have h1 : r.site = s.site := by simpa using h2
    obtain ⟨_, _, hs1, hs2⟩ := checkR_zero h0
    have hw := of_decide_eq_true h
    rw [wrap_id (by omega) (by omega)] at hw
    rw [show putF s r = (6, s) by unfold putF; rw [if_neg (by rw [h0]; simp), if_neg (by simp [h1]), if_neg (by rw [hu]; have := of_decide_eq_false h3; simp; omega), if_pos hw]]
    exact SK.retX (.tmp rfl .nil) () trivial rfl (by repeat constructor)
  · rename_i h0 h2 h3
    have h0 : checkR r 8 = 0 := by simpa using h0
    have h1 : r.site = s.site := by simpa using h2
    obtain ⟨_, _, hs1, hs2⟩ := checkR_zero h0
    have hw := of_decide_eq_false h
    rw [wrap_id (by omega) (by omega)] at hw
    rw [show putF s r = (0, { s with held := mput s.held r.seq r }) by unfold putF; rw [if_neg (by rw [h0]; simp), if_neg (by simp [h1]), if_neg (by rw [hu]; have := of_decide_eq_false h3; simp; omega), if_neg hw]]
    refine SO.mapUpdate (kr := KI .i64) (ρ := RRec) (u := r) (h := pl) (key := r.seq) rfl (by repeat constructor) rfl rfl (by repeat constructor) rfl rfl rfl ?_
    repeat' (first
    | (refine SO.pure rfl rfl rfl ?_)
    | (refine SO.nil ?_)
    | (refine SK.seq ?_)
    | (refine SK.region ?_)
    | fail)
    exact SK.retX (.tmp rfl .nil) () trivial rfl (by repeat constructor)
end Go.Proofs
