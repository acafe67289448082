/- A part of a proof: what functions of the program compute. -/
import Derived.Test.YtmbfcjffjgecjaaGreatDoorVecE
import Derived.Test.YtmbfcjffjgecjaaGreatDoorShE
import Derived.Test.YtmbfcjffjgecjaaGreatDoorLib1
set_option linter.unusedVariables false
set_option linter.unusedSimpArgs false
set_option maxHeartbeats 0
namespace Go.Proofs
attribute [local irreducible] Go.Sl.SO Go.Sl.SQ Go.Sl.SR Go.Sl.SC Go.Sl.eadr Go.Sl.slAt Go.Sl.sqAt Go.Sl.pts Go.Sl.rod Go.Sl.ob Go.Sl.ex Go.Sl.big Go.Sl.pr Go.Sl.tabs
open Go.Sl
theorem name_does (c : Int) : Does Tryz.prog 138 [.int .i32 c] [] [] Unit (fun _ => True) (fun _ => .bool ((decide (97 ≤ c) && decide (c ≤ 122)) || (decide (48 ≤ c) && decide (c ≤ 57)))) (fun _ => []) := by
  refine Does.of Tryz.call138 Tryz.func138 rfl rfl rfl all_nil rfl ?_
  repeat' (first
 | refine SO.pure rfl rfl rfl ?_
 | refine SO.nil ?_
 | refine SO.guardY rfl rfl ?_
 | refine SO.guardN rfl rfl rfl ?_
 | refine SO.guardU rfl rfl rfl rfl ?_
 | refine SK.seq ?_
 | refine SK.region ?_
 | refine SO.guard rfl rfl rfl (fun h => ?_) (fun h => ?_)
 | fail)
  all_goals refine SK.retX (.tmp rfl .nil) () trivial ?_ (by repeat constructor)
  all_goals (simp_all [tupV]; try omega)
theorem name_nat (x : Nat) : Does Tryz.prog 138 [.int .i32 (x : Int)] [] [] Unit (fun _ => True) (fun _ => .bool (nameR x)) (fun _ => []) := by
  have h := name_does (x : Int)
  have e : ((decide ((97 : Int) ≤ x) && decide ((x : Int) ≤ 122)) || (decide ((48 : Int) ≤ x) && decide ((x : Int) ≤ 57))) = nameR x := by
    unfold nameR
    congr 1 <;> congr 1 <;> (apply decide_eq_decide.2; omega)
  rw [e] at h
  exact h
theorem trim_does (s : ByteArray) (hs : s.size ≤ 9223372036854775807) : Does Tryz.prog 137 [.string s, .func (.func 138) #[] #[]] [tabs 4 5] [] Unit (fun _ => True) (fun _ => .string (Lib.trimF nameR s)) (fun _ => []) :=
  Does.ofCalls Tryz.call137 (all_cons (pers_tabs _ _) all_nil) fun F w hst =>
    Tryz.strings_TrimFunc_grows 138 #[] Tryz.call138 nameR s w hs (tabs_at (hst.ent Ent.swap)) (Does.grows (lb := []) (fun x _ => name_nat x) w)
theorem check_does (r : Rc) (h : Pl) (m : Int) (hv : r.val.size ≤ lim) : Does Tryz.prog 100 [RRec.val r h, .int .i64 m] [tabs 4 5, slAt RI h.1 r.dep.length r.dep] [] Unit (fun _ => True) (fun _ => .int .i64 (checkR r m)) (fun _ => []) := by
  refine Does.of Tryz.call100 Tryz.func100 rfl rfl rfl (all_cons (pers_tabs _ _) (all_cons (pers_slAt _ _ _ _) all_nil)) rfl ?_
  by_cases hk : r.key.size ≤ 8
  · repeat' (first
 | refine SO.call (vcheck_does _ _ _ _ _) rfl rfl rfl (by repeat constructor) (by repeat constructor) rfl (fun x hx => ?_)
 | refine SO.call (get_does _ _ _ _ _) rfl rfl rfl (by repeat constructor) (by repeat constructor) rfl (fun x hx => ?_)
 | refine SO.call (trim_does r.key (by omega)) rfl rfl rfl (by repeat constructor) (by repeat constructor) rfl (fun x hx => ?_)
 | refine SQ.call (vcheck_does _ _ _ _ _) rfl rfl rfl (fun _ _ => rfl) (by repeat constructor) rfl ?_
 | refine SQ.call (get_does _ _ _ _ _) rfl rfl rfl (fun _ _ => rfl) (by repeat constructor) rfl ?_
 | refine SQ.call (trim_does r.key (by omega)) rfl rfl rfl (fun _ _ => rfl) (by repeat constructor) rfl ?_
 | refine SO.pure rfl rfl rfl ?_
 | refine SO.nil ?_
 | refine SO.guardY rfl rfl ?_
 | refine SO.guardN rfl rfl rfl ?_
 | refine SO.load rfl (by repeat constructor) rfl (by rfl) (by exact ⟨rfl, by first | exact fun _ => rfl | exact (fun h => by cases h)⟩) rfl ?_
 | refine SK.seq ?_
 | refine SK.region ?_
 | refine SK.condT rfl ?_
 | refine SK.skip ?_
 | refine SK.block ?_
 | refine SK.blk ?_
 | refine SO.box rfl rfl rfl (fun b => ?_)
 | refine SQ.pure rfl rfl rfl ?_
 | refine SQ.nil ?_
 | refine SQ.load rfl (by repeat constructor) rfl (by rfl) (by exact ⟨rfl, by first | exact fun _ => rfl | exact (fun h => by cases h)⟩) rfl ?_
 | refine SK.regionQ (by kernel_rfl) (by kernel_rfl) rfl ?_
 | refine SO.guardYP rfl rfl (by first | assumption | (simp only [Go.Sl.bl]; omega)) ?_
 | refine SO.guard rfl rfl rfl (fun h => ?_) (fun h => ?_)
 | refine SK.cond rfl (fun h => ?_) (fun h => ?_)
 | fail)
    all_goals try (
      refine SK.retX (.tmp rfl .nil) () trivial (congrArg (Value.int .i64) ?_) (by repeat constructor)
      unfold checkR
      simp only [decide_eq_true_eq, decide_eq_false_iff_not, Bool.not_eq_true', Bool.not_eq_false', Bool.not_false, Bool.not_true, trim_name] at *
      repeat' split
      all_goals first
        | rfl
        | omega
        | (simp_all; done)
        | (exfalso; simp_all; omega))
    · rename_i h9 h8 h7 h6 h5 h4 h3 _ _ h2 h1 h0
      have hck : checkR r m = if valOk r.val = false then 2 else if 16 < r.val.size then 4 else 0 := by
        simp only [decide_eq_true_eq, decide_eq_false_iff_not, Bool.not_eq_true', Bool.not_eq_false', trim_name] at h h0 h1 h2 h3 h4 h5 h6 h7 h8
        unfold checkR
        rw [if_neg (by omega), if_neg (by omega), if_neg (by omega), if_neg (by rintro (h' | h' | h') <;> first | omega | (rw [h] at h'; cases h'))]
      refine SO.bytesOfR rfl rfl rfl rfl hv rfl (fun b2 c2 hc2 => ?_)
      repeat' (first
 | refine SO.pure rfl rfl rfl ?_
 | refine SO.nil ?_
 | refine SK.block ?_
 | fail)
      refine SK.loop (X := {i : Nat // i ≤ r.val.size ∧ ((bytesI r.val).take i).all (fun c => decide (33 ≤ c) && decide (c ≤ 126)) = true}) (fun i => [(72, .int .i64 (i.1 : Int)), (71, .int .i64 (r.val.size : Int)), (70, .slice (some ⟨b2, 0, none⟩) r.val.size c2), (2, .pointer (some ⟨b, 0, none⟩))])
        (fun i => [slAt RU (some ⟨b2, 0, none⟩) r.val.size (bytesI r.val), pts b 0 (RRec.cells r h9)]) (fun i => r.val.size - i.1) ⟨0, by omega, by simp⟩ (by repeat constructor) (ent_append_of_takes (by repeat constructor)) ?_
      rintro ⟨i, hi, hall⟩
      dsimp only
      repeat' (first
 | refine SO.pure rfl rfl rfl ?_
 | refine SO.nil ?_
 | refine SO.load rfl (by repeat constructor) rfl (by rfl) (by exact ⟨rfl, by first | exact fun _ => rfl | exact (fun h => by cases h)⟩) rfl ?_
 | refine SK.seq ?_
 | refine SK.region ?_
 | refine SK.skip ?_
 | refine SK.block ?_
 | refine SK.exit rfl ?_
 | refine SK.cond rfl (fun h => ?_) (fun h => ?_)
 | fail)
      · have hlt : i < r.val.size := by have := of_decide_eq_true h; omega
        repeat' (first
 | refine SO.pure rfl rfl rfl ?_
 | refine SO.nil ?_
 | refine SO.guardY rfl rfl ?_
 | refine SO.guardN rfl rfl rfl ?_
 | refine SO.index rfl rfl (by repeat constructor) rfl rfl rfl rfl (by first | assumption | omega | exact Nat.le_of_ble_eq_true rfl | (simp only [decide_eq_true_eq, decide_eq_false_iff_not] at *; omega)) (fun v hv => ?_)
 | refine SO.eloadW rfl (by repeat constructor) (by assumption) rfl (by rfl) rfl (by rfl) rfl (fun hid => ?_)
 | refine SK.seq ?_
 | refine SK.region ?_
 | refine SK.condT rfl ?_
 | refine SK.skip ?_
 | refine SK.blk ?_
 | refine SO.guard rfl rfl rfl (fun h => ?_) (fun h => ?_)
 | refine SK.cond rfl (fun h => ?_) (fun h => ?_)
 | fail)
        · have hb : valOk r.val = false := by
            unfold valOk
            rw [Bool.eq_false_iff]
            intro ha
            have := List.all_eq_true.1 ha v (List.mem_of_getElem? hv)
            simp at this h
            omega
          refine SK.retX (.tmp rfl .nil) () trivial (congrArg (Value.int .i64) ?_) (by repeat constructor)
          rw [hck, if_pos hb]
        · rename_i h11
          have hall2 : ((bytesI r.val).take (i + 1)).all (fun c => decide (33 ≤ c) && decide (c ≤ 126)) = true := by
            rw [List.take_add_one, hv, List.all_append, hall]
            have h12 := of_decide_eq_false h11
            have h13 := of_decide_eq_false h
            simp; omega
          have hw := wrap_nat (show i < lim by omega)
          refine SK.inv ⟨⟨i + 1, by omega, hall2⟩, ?_, ⟨?_, by repeat constructor⟩, ent_append_of_takes (by repeat constructor)⟩
          · show r.val.size - (i + 1) < r.val.size - i
            omega
          · simp only [TT.get_cons, putD]
            simp [hw]
        · have hb : valOk r.val = false := by
            unfold valOk
            rw [Bool.eq_false_iff]
            intro ha
            have := List.all_eq_true.1 ha v (List.mem_of_getElem? hv)
            simp at this h
            omega
          refine SK.retX (.tmp rfl .nil) () trivial (congrArg (Value.int .i64) ?_) (by repeat constructor)
          rw [hck, if_pos hb]
      · have h16 := h
        have hi2 : i = r.val.size := by rename_i h10; have := of_decide_eq_false h10; omega
        subst hi2
        rw [← bytesI_len, List.take_length] at hall
        refine SK.retX (.tmp rfl .nil) () trivial (congrArg (Value.int .i64) ?_) (by repeat constructor)
        rw [hck, if_neg (by unfold valOk; rw [hall]; simp), if_pos (by have := of_decide_eq_true h16; omega)]
      · have h16 := h
        have hi2 : i = r.val.size := by rename_i h10; have := of_decide_eq_false h10; omega
        subst hi2
        rw [← bytesI_len, List.take_length] at hall
        refine SK.retX (.tmp rfl .nil) () trivial (congrArg (Value.int .i64) ?_) (by repeat constructor)
        rw [hck, if_neg (by unfold valOk; rw [hall]; simp), if_neg (by have := of_decide_eq_false h16; omega)]
  · repeat' (first
 | refine SO.call (vcheck_does _ _ _ _ _) rfl rfl rfl (by repeat constructor) (by repeat constructor) rfl (fun x hx => ?_)
 | refine SO.call (get_does _ _ _ _ _) rfl rfl rfl (by repeat constructor) (by repeat constructor) rfl (fun x hx => ?_)
 | refine SQ.call (vcheck_does _ _ _ _ _) rfl rfl rfl (fun _ _ => rfl) (by repeat constructor) rfl ?_
 | refine SQ.call (get_does _ _ _ _ _) rfl rfl rfl (fun _ _ => rfl) (by repeat constructor) rfl ?_
 | refine SO.pure rfl rfl rfl ?_
 | refine SO.nil ?_
 | refine SO.guardY rfl rfl ?_
 | refine SO.guardN rfl rfl rfl ?_
 | refine SO.load rfl (by repeat constructor) rfl (by rfl) (by exact ⟨rfl, by first | exact fun _ => rfl | exact (fun h => by cases h)⟩) rfl ?_
 | refine SK.seq ?_
 | refine SK.region ?_
 | refine SK.condT rfl ?_
 | refine SK.skip ?_
 | refine SK.block ?_
 | refine SO.box rfl rfl rfl (fun b => ?_)
 | refine SQ.pure rfl rfl rfl ?_
 | refine SQ.nil ?_
 | refine SQ.load rfl (by repeat constructor) rfl (by rfl) (by exact ⟨rfl, by first | exact fun _ => rfl | exact (fun h => by cases h)⟩) rfl ?_
 | refine SK.regionQ (by kernel_rfl) (by kernel_rfl) rfl ?_
 | refine SO.guardYP rfl rfl (by first | assumption | (simp only [Go.Sl.bl]; omega)) ?_
 | refine SO.guardNP rfl rfl rfl (by first | assumption | (simp only [Go.Sl.bl]; omega)) ?_
 | refine SO.guard rfl rfl rfl (fun h => ?_) (fun h => ?_)
 | refine SK.cond rfl (fun h => ?_) (fun h => ?_)
 | fail)
    all_goals (
      refine SK.retX (.tmp rfl .nil) () trivial (congrArg (Value.int .i64) ?_) (by repeat constructor)
      unfold checkR
      simp only [decide_eq_true_eq, decide_eq_false_iff_not, Bool.not_eq_true', Bool.not_eq_false', Bool.not_false, Bool.not_true, trim_name] at *
      repeat' split
      all_goals first
        | rfl
        | omega
        | (simp_all; done)
        | (exfalso; simp_all; omega))
end Go.Proofs
