/- A part of a proof: what functions of the program compute. -/
import Derived.Test.YtbaalaaoggplmaaDoorFRef2D
set_option linter.unusedVariables false
set_option linter.unusedSimpArgs false
set_option maxHeartbeats 0
namespace Go.Proofs
attribute [local irreducible] Go.Sl.SO Go.Sl.SQ Go.Sl.SR Go.Sl.SC Go.Sl.SX Go.Sl.SY Go.Sl.eadr Go.Sl.slAt Go.Sl.sqAt Go.Sl.pts Go.Sl.rod Go.Sl.ob Go.Sl.ex Go.Sl.big Go.Sl.pr Go.Sl.tabs Go.Sl.mpAt
open Go.Sl

theorem gput_does (gb : Nat) (g : Pl) (s : FS) (r : Rc) (pl : Pl) (hv : r.val.size ≤ lim) (n : Nat) (hw : wf n s) (hn : n < 1000) : Does Tryd.prog 22 [.pointer (some ⟨gb, 0, none⟩), RRec.val r pl] [slAt RI pl.1 r.dep.length r.dep, pr (r.dep.length ≤ pl.2)] (gAt gb g s) Pl (fun _ => True) (fun _ => .int .i64 (putF s r).1) (fun g' => gAt gb g' (putF s r).2) := by
  refine Does.of Tryd.call22 Tryd.func22 rfl rfl rfl (all_cons (pers_slAt _ _ _ _) (all_cons (pers_pr _) all_nil)) rfl ?_
  have hlen : (gl s).length < 1000 := by rw [gl_len]; have := hw.len; omega
  have hnx := hw.next
  have hrm := hw.room
  unfold gAt
  by_cases h0 : checkR r 8 = 0
  case neg =>
    rw [show putF s r = (checkR r 8, s) by unfold putF; rw [if_pos h0]]
    repeat' (first
    | (refine SO.call (rcheck_does r pl 8 hv) rfl rfl rfl (by repeat constructor) (by repeat constructor) rfl (fun x hx => ?_))
    | (refine SO.pure rfl rfl rfl ?_)
    | (refine SO.nil ?_)
    | (refine SO.loadW rfl (by repeat constructor) rfl rfl rfl (by rfl) rfl ?_)
    | (refine SK.seq ?_)
    | (refine SK.region ?_)
    | (refine SO.box rfl rfl rfl (fun b => ?_))
    | (refine SK.condTP rfl (by first | assumption | (simp only [decide_eq_true_eq, decide_eq_false_iff_not, Bool.not_eq_true', Bool.not_eq_false', Bool.not_true, Bool.not_false, Bool.not_not]; omega)) ?_)
    | fail)
    rw [decide_eq_false h0]
    skip
    exact SK.retX (.tmp rfl .nil) g trivial rfl (by repeat constructor)
  obtain ⟨hs0, hs1, hq0, hq1⟩ := checkR_zero h0
  by_cases h1 : r.site = s.site
  case neg =>
    rw [show putF s r = (1, s) by unfold putF; rw [if_neg (by rw [h0]; simp), if_pos h1]]
    repeat' (first
    | (refine SO.call (rcheck_does r pl 8 hv) rfl rfl rfl (by repeat constructor) (by repeat constructor) rfl (fun x hx => ?_))
    | (refine SO.pure rfl rfl rfl ?_)
    | (refine SO.nil ?_)
    | (refine SO.loadW rfl (by repeat constructor) rfl rfl rfl (by rfl) rfl ?_)
    | (refine SK.seq ?_)
    | (refine SK.region ?_)
    | (refine SK.skip ?_)
    | (refine SO.box rfl rfl rfl (fun b => ?_))
    | (refine SK.condTP rfl (by first | assumption | (simp only [decide_eq_true_eq, decide_eq_false_iff_not, Bool.not_eq_true', Bool.not_eq_false', Bool.not_true, Bool.not_false, Bool.not_not]; omega)) ?_)
    | (refine SK.condFP rfl (by first | assumption | (simp only [decide_eq_true_eq, decide_eq_false_iff_not, Bool.not_eq_true', Bool.not_eq_false', Bool.not_true, Bool.not_false, Bool.not_not]; omega)) ?_)
    | (refine SK.regionX 4 (.item 0 0 (.item 0 2 (.item 0 1 (.item 0 3 (.item 0 4 (.item 0 5 (.item 0 6 .nil))))))) [] .nil (by repeat (first | exact .nil | apply PersSub.s | apply PersSub.t | apply PersSub.p | apply PersSub.r | apply PersSub.skip)) (by kernel_rfl) (by kernel_rfl) (fun _ _ _ h => h) ?_)
    | (refine SX.tail (by rfl) (by repeat (first | exact .nil | apply DropP.s | apply DropP.t | apply DropP.p | apply DropP.r | apply DropP.keep)) ?_)
    | (refine SX.pure rfl rfl rfl ?_)
    | (refine SX.load rfl (by repeat constructor) rfl (by rfl) (by exact ⟨rfl, by first | exact fun _ => rfl | exact (fun h => by cases h)⟩) rfl ?_)
    | fail)
    rw [decide_eq_true h0]
    skip
    rw [decide_eq_false h1]
    skip
    exact SK.retX (.tmp rfl .nil) g trivial rfl (by repeat constructor)
  repeat' (first
    | (refine SO.call (rcheck_does r pl 8 hv) rfl rfl rfl (by repeat constructor) (by repeat constructor) rfl (fun x hx => ?_))
    | (refine SO.pure rfl rfl rfl ?_)
    | (refine SO.nil ?_)
    | (refine SO.loadW rfl (by repeat constructor) rfl rfl rfl (by rfl) rfl ?_)
    | (refine SK.seq ?_)
    | (refine SK.region ?_)
    | (refine SK.skip ?_)
    | (refine SK.block ?_)
    | (refine SO.box rfl rfl rfl (fun b => ?_))
    | (refine SK.condFP rfl (by first | assumption | (simp only [decide_eq_true_eq, decide_eq_false_iff_not, Bool.not_eq_true', Bool.not_eq_false', Bool.not_true, Bool.not_false, Bool.not_not]; omega)) ?_)
    | (refine SK.regionX 4 (.item 0 0 (.item 0 2 (.item 0 1 (.item 0 3 (.item 0 4 (.item 0 5 (.item 0 6 .nil))))))) [] .nil (by repeat (first | exact .nil | apply PersSub.s | apply PersSub.t | apply PersSub.p | apply PersSub.r | apply PersSub.skip)) (by kernel_rfl) (by kernel_rfl) (fun _ _ _ h => h) ?_)
    | (refine SX.tail (by rfl) (by repeat (first | exact .nil | apply DropP.s | apply DropP.t | apply DropP.p | apply DropP.r | apply DropP.keep)) ?_)
    | (refine SX.pure rfl rfl rfl ?_)
    | (refine SX.load rfl (by repeat constructor) rfl (by rfl) (by exact ⟨rfl, by first | exact fun _ => rfl | exact (fun h => by cases h)⟩) rfl ?_)
    | fail)
  rw [decide_eq_true h0]
  skip
  rw [decide_eq_true h1]
  skip
  refine SK.loop (X := {i : Nat // i ≤ (gl s).length ∧ ((gl s).take i).all (fun x => !decide (x.seq = r.seq)) = true}) (fun i => [(6, .int .i64 (i.1 : Int)), (0, .pointer (some ⟨gb, 0, none⟩)), (3, .pointer (some ⟨b, 0, none⟩))]) (fun i => pts b 0 (RRec.cells r pl) :: slAt RI pl.1 r.dep.length r.dep :: pr (r.dep.length ≤ pl.2) :: gAt gb g s) (fun i => (gl s).length - i.1) ⟨0, Nat.zero_le _, by simp⟩ (by repeat constructor) (ent_append_of_takes (by unfold gAt; repeat constructor)) ?_
  rintro ⟨i, hi, hall⟩
  dsimp only
  unfold gAt
  have hwi := wrapn (show i ≤ lim by unfold lim; omega)
  rcases Nat.lt_or_ge i (gl s).length with hil | hil
  · have hd1 : decide ((i : Int) < ((gl s).length : Int)) = true := decide_eq_true (by omega)
    obtain ⟨u, hu⟩ : ∃ u, (gl s)[i]? = some u := ⟨_, List.getElem?_eq_getElem hil⟩
    repeat' (first
    | (refine SO.pure rfl rfl rfl ?_)
    | (refine SO.nil ?_)
    | (refine SO.load rfl (by repeat constructor) rfl (by rfl) (by exact ⟨rfl, by first | exact fun _ => rfl | exact (fun h => by cases h)⟩) rfl ?_)
    | (refine SK.seq ?_)
    | (refine SK.region ?_)
    | (refine SK.skip ?_)
    | (refine SK.block ?_)
    | (refine SK.condTP rfl (by first | assumption | (simp only [decide_eq_true_eq, decide_eq_false_iff_not, Bool.not_eq_true', Bool.not_eq_false', Bool.not_true, Bool.not_false, Bool.not_not]; omega)) ?_)
    | (refine SK.regionX 9 (.item 0 0 (.item 0 4 (.item 0 8 (.item 0 1 (.item 0 9 (.item 0 2 (.item 0 3 (.item 0 5 (.item 0 6 (.item 0 7 (.item 0 10 .nil))))))))))) [] .nil (by repeat (first | exact .nil | apply PersSub.s | apply PersSub.t | apply PersSub.p | apply PersSub.r | apply PersSub.skip)) (by kernel_rfl) (by kernel_rfl) (fun _ _ _ h => h) ?_)
    | (refine SX.tail (by rfl) (by repeat (first | exact .nil | apply DropP.s | apply DropP.t | apply DropP.p | apply DropP.r | apply DropP.keep)) ?_)
    | (refine SX.indexH rfl rfl (by repeat constructor) rfl rfl rfl rfl (by assumption) ?_)
    | (refine SX.pure rfl rfl rfl ?_)
    | (refine SX.load rfl (by repeat constructor) rfl (by rfl) (by exact ⟨rfl, by first | exact fun _ => rfl | exact (fun h => by cases h)⟩) rfl ?_)
    | (refine SX.efield rfl rfl rfl rfl rfl ?_)
    | (refine SX.eload rfl (by repeat constructor) (by assumption) rfl (by rfl) (by exact fun _ => ⟨rfl, fun _ => rfl⟩) rfl (fun hid => ?_))
    | fail)
    rw [hd1]
    skip
    by_cases hq : u.seq = r.seq
    · have hany : (mget s.held r.seq).isSome = true := by
        rw [mget_any hw.kw.key]
        exact List.any_eq_true.2 ⟨u, List.mem_of_getElem? hu, decide_eq_true hq⟩
      rw [show putF s r = (5, s) by unfold putF; rw [if_neg (by rw [h0]; simp), if_neg (by simp [h1]), if_pos (.inl hany)]]
      rw [decide_eq_true hq]
      repeat' (first
    | (refine SO.pure rfl rfl rfl ?_)
    | (refine SO.nil ?_)
    | (refine SK.seq ?_)
    | (refine SK.region ?_)
    | (refine SK.condT rfl ?_)
    | fail)
      exact SK.retX (.tmp rfl .nil) g trivial rfl (by repeat constructor)
    · rw [decide_eq_false hq]
      repeat' (first
    | (refine SO.pure rfl rfl rfl ?_)
    | (refine SO.nil ?_)
    | (refine SK.region ?_)
    | (refine SK.condF rfl ?_)
    | (refine SK.skip ?_)
    | (refine SK.blk ?_)
    | fail)
      refine SK.inv ⟨⟨i + 1, by omega, not_step hall hu (decide_eq_false hq)⟩, ?_, ?_, ?_⟩
      · show (gl s).length - (i + 1) < (gl s).length - i
        omega
      · rw [hwi]; repeat constructor
      · exact ent_append_of_takes (by repeat constructor)
  have hd1 : decide ((i : Int) < ((gl s).length : Int)) = false := decide_eq_false (by omega)
  have hany : (gl s).any (fun x => decide (x.seq = r.seq)) = false := by
    rw [Bool.eq_false_iff]
    intro h
    obtain ⟨u, hu1, hu2⟩ := List.any_eq_true.1 h
    rw [List.take_of_length_le hil] at hall
    have := List.all_eq_true.1 hall u hu1
    rw [hu2] at this
    cases this
  have hnone : (mget s.held r.seq).isSome = false := by rw [mget_any hw.kw.key]; exact hany
  repeat' (first
    | (refine SO.pure rfl rfl rfl ?_)
    | (refine SO.nil ?_)
    | (refine SO.load rfl (by repeat constructor) rfl (by rfl) (by exact ⟨rfl, by first | exact fun _ => rfl | exact (fun h => by cases h)⟩) rfl ?_)
    | (refine SK.seq ?_)
    | (refine SK.region ?_)
    | (refine SK.exit rfl ?_)
    | (refine SK.condFP rfl (by first | assumption | (simp only [decide_eq_true_eq, decide_eq_false_iff_not, Bool.not_eq_true', Bool.not_eq_false', Bool.not_true, Bool.not_false, Bool.not_not]; omega)) ?_)
    | (refine SK.regionX 11 (.item 0 0 (.item 0 2 (.item 0 1 (.item 0 3 (.item 0 4 (.item 0 5 (.item 0 6 .nil))))))) [] .nil (by repeat (first | exact .nil | apply PersSub.s | apply PersSub.t | apply PersSub.p | apply PersSub.r | apply PersSub.skip)) (by kernel_rfl) (by kernel_rfl) (fun _ _ _ h => h) ?_)
    | (refine SX.tail (by rfl) (by repeat (first | exact .nil | apply DropP.s | apply DropP.t | apply DropP.p | apply DropP.r | apply DropP.keep)) ?_)
    | (refine SX.pure rfl rfl rfl ?_)
    | (refine SX.load rfl (by repeat constructor) rfl (by rfl) (by exact ⟨rfl, by first | exact fun _ => rfl | exact (fun h => by cases h)⟩) rfl ?_)
    | fail)
  rw [hd1]
  skip
  by_cases h3 : r.seq < s.next
  · rw [show putF s r = (5, s) by unfold putF; rw [if_neg (by rw [h0]; simp), if_neg (by simp [h1]), if_pos (.inr h3)]]
    rw [decide_eq_true h3]
    repeat' (first
    | (refine SO.pure rfl rfl rfl ?_)
    | (refine SO.nil ?_)
    | (refine SK.seq ?_)
    | (refine SK.region ?_)
    | (refine SK.condT rfl ?_)
    | fail)
    exact SK.retX (.tmp rfl .nil) g trivial rfl (by repeat constructor)
  rw [decide_eq_false h3]
  have hwr : IntKind.i64.wrap (s.next + s.room) = s.next + s.room := wrap_id (by omega) (by omega)
  repeat' (first
    | (refine SO.nil ?_)
    | (refine SK.seq ?_)
    | (refine SK.condF rfl ?_)
    | (refine SK.skip ?_)
    | (refine SK.regionX 13 (.item 0 0 (.item 0 2 (.item 0 6 (.item 0 1 (.item 0 3 (.item 0 7 (.item 0 4 (.item 0 8 (.item 0 5 (.item 0 9 (.item 0 10 (.item 0 11 .nil)))))))))))) [] .nil (by repeat (first | exact .nil | apply PersSub.s | apply PersSub.t | apply PersSub.p | apply PersSub.r | apply PersSub.skip)) (by kernel_rfl) (by kernel_rfl) (fun _ _ _ h => h) ?_)
    | (refine SX.tail (by rfl) (by repeat (first | exact .nil | apply DropP.s | apply DropP.t | apply DropP.p | apply DropP.r | apply DropP.keep)) ?_)
    | (refine SX.pure rfl rfl rfl ?_)
    | (refine SX.load rfl (by repeat constructor) rfl (by rfl) (by exact ⟨rfl, by first | exact fun _ => rfl | exact (fun h => by cases h)⟩) rfl ?_)
    | fail)
  rw [hwr]
  by_cases h4 : s.next + s.room ≤ r.seq
  · rw [show putF s r = (6, s) by unfold putF; rw [if_neg (by rw [h0]; simp), if_neg (by simp [h1]), if_neg (by rw [hnone]; simp; omega), if_pos (by omega)]]
    rw [decide_eq_true h4]
    repeat' (first
    | (refine SO.pure rfl rfl rfl ?_)
    | (refine SO.nil ?_)
    | (refine SK.seq ?_)
    | (refine SK.region ?_)
    | (refine SK.condT rfl ?_)
    | fail)
    exact SK.retX (.tmp rfl .nil) g trivial rfl (by repeat constructor)
  rw [decide_eq_false h4]
  obtain ⟨e1, e2, e3⟩ := gl_put hw.kw r h0 h1 hany h3 (by omega)
  rw [e1, e2]
  rw [show (putF s r).2.site = s.site by rw [e3], show (putF s r).2.room = s.room by rw [e3], show (putF s r).2.next = s.next by rw [e3]]
  have hlim2 : (gl s).length + 1 ≤ lim := by unfold lim; omega
  refine SK.condF rfl ?_
  refine SK.skip ?_
  refine SK.seq ?_
  refine SK.cutJ (X := Pl) (fun x => []) (fun x => [pts gb 0 [.int .i64 s.site, .int .i64 s.room, .int .i64 s.next, .slice x.1 (0 + (gl s).length + 1) x.2], sqAt false RRec x.1 (0 + (gl s).length + 1) x.2 ([] ++ gl s ++ [r])]) (fun _ _ _ h => h) ?_ ?_
  · repeat' (first
    | (refine SO.buildSlice rfl rfl rfl rfl rfl rfl (fun b => SO.shift (toSqR (ρ := RRec) (b := b) (n := 0) (l := []) [] (by repeat constructor) rfl rfl rfl rfl .nil) ?_))
    | (refine SO.append (ρ := RRec) (w := false) (ys := [r]) rfl rfl (by repeat constructor) (Src.one (h := pl) (by repeat constructor) (by rfl) (by repeat constructor)) rfl rfl rfl rfl rfl rfl rfl (by omega) (fun A5 c5 => ?_))
    | (refine SO.append (ρ := RRec) (w := false) (ys := gl s) rfl rfl (by repeat constructor) (Src.sl (by repeat constructor)) rfl rfl rfl rfl rfl rfl rfl (by omega) (fun A4 c4 => ?_))
    | (refine SO.nil ?_)
    | (refine SO.store rfl rfl (by repeat constructor) rfl (by rfl) rfl rfl (by rfl) (by rfl) ?_)
    | (refine SO.buildSlice rfl rfl rfl rfl rfl rfl (fun b => ?_))
    | (refine SK.regionX 15 (.item 0 0 (.item 0 2 (.item 0 7 (.item 0 3 (.item 0 4 (.item 0 5 (.fork (.item 1 1 (.fork (.item 1 6 (.item 1 8 (.item 1 9 (.item 0 10 (.item 0 11 (.item 2 12 .nil)))))) (.item 1 8 (.item 1 6 (.item 1 9 (.item 0 10 (.item 0 11 (.item 2 12 .nil)))))))) (.item 1 8 (.item 1 1 (.item 1 6 (.item 1 9 (.item 0 10 (.item 0 11 (.item 2 12 .nil)))))))))))))) [] .nil (by repeat (first | exact .nil | apply PersSub.s | apply PersSub.t | apply PersSub.p | apply PersSub.r | apply PersSub.skip)) (by kernel_rfl) (by kernel_rfl) (fun _ _ _ h => h) ?_)
    | (refine SX.tail (by rfl) (by repeat (first | exact .nil | apply DropP.s | apply DropP.t | apply DropP.p | apply DropP.r | apply DropP.keep)) ?_)
    | (refine SX.pure rfl rfl rfl ?_)
    | (refine SX.load rfl (by repeat constructor) rfl (by rfl) (by exact ⟨rfl, by first | exact fun _ => rfl | exact (fun h => by cases h)⟩) rfl ?_)
    | (refine SX.fork ?_ ?_)
    | (refine SX.step rfl rfl ?_)
    | (refine SK.invY ?_)
    | (refine SY.go ?_)
    | fail)
    all_goals exact SK.inv ⟨(A5, c5), trivial, ent_append_of_takes (by repeat constructor)⟩
  · rintro ⟨A5, c5⟩ T' L' - hL
    refine SK.weaken (T' := []) trivial hL ?_
    rw [Nat.zero_add, List.nil_append]
    repeat' (first
    | (refine SO.pure rfl rfl rfl ?_)
    | (refine SO.nil ?_)
    | (refine SK.seq ?_)
    | (refine SK.region ?_)
    | fail)
    refine SK.know (sq_len (w := false) (ρ := RRec) (A := A5) (n := (gl s).length + 1) (c := c5) (l := gl s ++ [r]) (by repeat constructor)) ?_
    rintro ⟨-, -, hc, -⟩
    refine SK.readable (ρ := RRec) (A := A5) (n := (gl s).length + 1) (m := c5) (l := gl s ++ [r]) (by repeat constructor) ?_
    rw [List.length_append]
    refine SK.ret ⟨_, .tmp rfl .nil, (A5, c5), trivial, rfl, ?_⟩
    exact (ent_pr (p := (gl s).length + 1 ≤ c5) hc).trans (ent_append_of_takes (by repeat constructor))
end Go.Proofs
