/- A part of a proof: what functions of the program compute. -/
import Derived.Test.YtbaalaaoggplmaaDoorFRefD
set_option linter.unusedVariables false
set_option linter.unusedSimpArgs false
set_option maxHeartbeats 0
namespace Go.Proofs
attribute [local irreducible] Go.Sl.SO Go.Sl.SQ Go.Sl.SR Go.Sl.SC Go.Sl.SX Go.Sl.SY Go.Sl.eadr Go.Sl.slAt Go.Sl.sqAt Go.Sl.pts Go.Sl.rod Go.Sl.ob Go.Sl.ex Go.Sl.big Go.Sl.pr Go.Sl.tabs Go.Sl.mpAt
open Go.Sl

theorem gtake_none (gb : Nat) (g : Pl) (s : FS) (hk : kw s) (hs : hasF s = false) : Does Tryd.prog 24 [.pointer (some ⟨gb, 0, none⟩)] [] (gAt gb g s) Pl (fun _ => True) (fun q => .tuple #[RRec.val rc0 q, .bool false]) (fun q => RRec.atoms rc0 q ++ gAt gb g s) := by
  refine Does.of Tryd.call24 Tryd.func24 rfl rfl rfl all_nil rfl ?_
  have hf := gfirst_does gb g s hk
  rw [hs, show firstF s = rc0 by unfold hasF at hs; unfold firstF; cases h : mget s.held s.next with
    | none => rfl
    | some r => rw [h] at hs; cases hs] at hf
  repeat' (first
    | (refine SO.call (hf) rfl rfl rfl (by repeat constructor) (by repeat constructor) rfl (fun x hx => ?_))
    | (refine SO.pure rfl rfl rfl ?_)
    | (refine SO.nil ?_)
    | (refine SO.loadW rfl (by repeat constructor) rfl rfl rfl (by rfl) rfl ?_)
    | (refine SK.seq ?_)
    | (refine SK.region ?_)
    | (refine SK.condT rfl ?_)
    | (refine SO.alloc rfl rfl rfl (fun b => ?_))
    | (refine SO.storeW rfl rfl (by repeat constructor) rfl (by rfl) (by rfl) (by rfl) ?_)
    | fail)
  exact SK.retX (.cell rfl (by repeat constructor) rfl rfl (by exact ⟨rfl, fun h => by cases h⟩) (.tmp rfl .nil)) x trivial rfl (by unfold gAt; repeat constructor)
theorem gtake_some (gb : Nat) (g : Pl) (s : FS) (r : Rc) (hk : kw s) (hs : mget s.held s.next = some r) (hnx : 1 ≤ s.next ∧ s.next ≤ 1048577) : Does Tryd.prog 24 [.pointer (some ⟨gb, 0, none⟩)] [] (gAt gb g s) (Pl × Pl) (fun _ => True) (fun q => .tuple #[RRec.val r q.1, .bool true]) (fun q => RRec.atoms r q.1 ++ gAt gb q.2 (stepF s)) := by
  refine Does.of Tryd.call24 Tryd.func24 rfl rfl rfl all_nil rfl ?_
  have hf := gfirst_does gb g s hk
  rw [show hasF s = true by unfold hasF; rw [hs]; rfl, show firstF s = r by unfold firstF; rw [hs]; rfl] at hf
  have hgl := gl_step hk
  refine SK.know (sl_len (ρ := RRec) (A := g.1) (n := (gl s).length) (l := gl s) (by unfold gAt; repeat constructor)) ?_
  rintro ⟨-, hlim, -⟩
  repeat' (first
    | (refine SO.call (hf) rfl rfl rfl (by repeat constructor) (by repeat constructor) rfl (fun x hx => ?_))
    | (refine SO.pure rfl rfl rfl ?_)
    | (refine SO.nil ?_)
    | (refine SK.seq ?_)
    | (refine SK.region ?_)
    | (refine SK.condF rfl ?_)
    | (refine SK.skip ?_)
    | (refine SK.block ?_)
    | (refine SO.alloc rfl rfl rfl (fun b => ?_))
    | (refine SO.storeW rfl rfl (by repeat constructor) rfl (by rfl) (by rfl) (by rfl) ?_)
    | fail)
  rename_i b2
  obtain ⟨p, hp⟩ : ∃ p : Rc → Bool, p = fun r => !decide (r.seq = s.next) := ⟨_, rfl⟩
  refine SK.loop (X := {y : Nat × Pl // y.1 ≤ (gl s).length}) (fun y => [(7, .int .i64 (y.1.1 : Int)), (6, .slice y.1.2.1 (((gl s).take y.1.1).filter p).length y.1.2.2), (0, .pointer (some ⟨gb, 0, none⟩)), (2, .pointer (some ⟨b2, 0, none⟩)), (4, .pointer (some ⟨b, 0, none⟩))])
    (fun y => sqAt false RRec y.1.2.1 (((gl s).take y.1.1).filter p).length y.1.2.2 (((gl s).take y.1.1).filter p) :: pts b 0 (RRec.cells r x) :: pts b2 0 [.int .i64 0, .int .i64 0, .slice none 0 0, .string bE, .string bE] :: slAt RI x.1 r.dep.length r.dep :: pr (r.dep.length ≤ x.2) :: gAt gb g s) (fun y => (gl s).length - y.1.1) ⟨(0, (none, 0)), Nat.zero_le _⟩ (by repeat constructor) ((ent_triv (A := sqAt false RRec none 0 0 [])).trans (ent_append_of_takes (by unfold gAt; repeat constructor))) ?_
  rintro ⟨⟨i, A6, c6⟩, hi⟩
  dsimp only at hi ⊢
  unfold gAt
  have hwi := wrapn (show i ≤ lim by omega)
  rcases Nat.lt_or_ge i (gl s).length with hil | hil
  · have hd1 : decide ((i : Int) < ((gl s).length : Int)) = true := decide_eq_true (by omega)
    obtain ⟨u, hu⟩ : ∃ u, (gl s)[i]? = some u := ⟨_, List.getElem?_eq_getElem hil⟩
    have hfs := filter_step (p := p) hu
    have hfl : (((gl s).take i).filter p).length ≤ i := by
      refine Nat.le_trans (List.length_filter_le _ _) ?_
      rw [List.length_take]; omega
    repeat' (first
    | (refine SO.pure rfl rfl rfl ?_)
    | (refine SO.nil ?_)
    | (refine SO.load rfl (by repeat constructor) rfl (by rfl) (by exact ⟨rfl, by first | exact fun _ => rfl | exact (fun h => by cases h)⟩) rfl ?_)
    | (refine SK.seq ?_)
    | (refine SK.region ?_)
    | (refine SK.skip ?_)
    | (refine SK.block ?_)
    | (refine SK.condTP rfl (by first | assumption | (simp only [decide_eq_true_eq, decide_eq_false_iff_not, Bool.not_eq_true', Bool.not_eq_false', Bool.not_true, Bool.not_false, Bool.not_not]; omega)) ?_)
    | (refine SK.regionX 8 (.item 0 0 (.item 0 4 (.item 0 8 (.item 0 1 (.item 0 9 (.item 0 2 (.item 0 10 (.item 0 3 (.item 0 11 (.item 0 5 (.item 0 6 (.item 0 7 (.item 0 12 .nil))))))))))))) [] .nil (by repeat (first | exact .nil | apply PersSub.s | apply PersSub.t | apply PersSub.p | apply PersSub.r | apply PersSub.skip)) (by kernel_rfl) (by kernel_rfl) (fun _ _ _ h => h) ?_)
    | (refine SX.tail (by rfl) (by repeat (first | exact .nil | apply DropP.s | apply DropP.t | apply DropP.p | apply DropP.r | apply DropP.keep)) ?_)
    | (refine SX.indexH rfl rfl (by repeat constructor) rfl rfl rfl rfl (by assumption) ?_)
    | (refine SX.pure rfl rfl rfl ?_)
    | (refine SX.load rfl (by repeat constructor) rfl (by rfl) (by exact ⟨rfl, by first | exact fun _ => rfl | exact (fun h => by cases h)⟩) rfl ?_)
    | (refine SX.efield rfl rfl rfl rfl rfl ?_)
    | (refine SX.eload rfl (by repeat constructor) (by assumption) rfl (by rfl) (by exact fun _ => ⟨rfl, fun _ => rfl⟩) rfl (fun hid => ?_))
    | fail)
    rw [hd1]
    skip
    by_cases hq : u.seq = s.next
    · have hpu : p u = false := by rw [hp]; simp [hq]
      rw [hpu] at hfs
      simp only [Bool.false_eq_true, if_false, List.append_nil] at hfs
      rw [decide_eq_true hq]
      repeat' (first
    | (refine SO.pure rfl rfl rfl ?_)
    | (refine SO.nil ?_)
    | (refine SK.region ?_)
    | (refine SK.condF rfl ?_)
    | (refine SK.skip ?_)
    | (refine SK.blk ?_)
    | fail)
      refine SK.inv ⟨⟨(i + 1, A6, c6), by show i + 1 ≤ (gl s).length; omega⟩, ?_, ?_, ?_⟩
      · show (gl s).length - (i + 1) < (gl s).length - i
        omega
      · rw [hwi]; dsimp only; rw [hfs]; repeat constructor
      · dsimp only; rw [hfs]; exact ent_append_of_takes (by repeat constructor)
    · have hpu : p u = true := by rw [hp]; simp [hq]
      rw [hpu] at hfs
      simp only [if_true] at hfs
      rw [decide_eq_false hq]
      repeat' (first
    | (refine SO.indexH rfl rfl (by repeat constructor) rfl rfl rfl rfl (by assumption) ?_)
    | (refine SO.pure rfl rfl rfl ?_)
    | (refine SO.load rfl (by repeat constructor) rfl (by rfl) (by exact ⟨rfl, by first | exact fun _ => rfl | exact (fun h => by cases h)⟩) rfl ?_)
    | (refine SO.eloadW rfl (by repeat constructor) (by assumption) rfl (by rfl) rfl (by rfl) rfl (fun hid => ?_))
    | (refine SK.region ?_)
    | (refine SK.condT rfl ?_)
    | (refine SO.buildSlice rfl rfl rfl rfl rfl rfl (fun b => ?_))
    | fail)
      refine SO.append (ρ := RRec) (w := false) (ys := [u]) rfl rfl (by repeat constructor) (Src.one (h := hid) (by repeat constructor) (by rfl) (by repeat constructor)) rfl rfl rfl rfl rfl rfl rfl (by omega) (fun A3 c3 => ?_)
      repeat' (first
    | (refine SO.pure rfl rfl rfl ?_)
    | (refine SO.nil ?_)
    | (refine SK.region ?_)
    | (refine SK.blk ?_)
    | fail)
      refine SK.inv ⟨⟨(i + 1, A3, c3), by show i + 1 ≤ (gl s).length; omega⟩, ?_, ?_, ?_⟩
      · show (gl s).length - (i + 1) < (gl s).length - i
        omega
      · rw [hwi]; dsimp only; rw [hfs, List.length_append]; repeat constructor
      · dsimp only; rw [hfs, List.length_append]; exact ent_append_of_takes (by repeat constructor)
  · have hd1 : decide ((i : Int) < ((gl s).length : Int)) = false := decide_eq_false (by omega)
    have hall : ((gl s).take i).filter p = gl (stepF s) := by rw [List.take_of_length_le (by omega), hgl, hp]
    rw [hall]
    have hw : IntKind.i64.wrap (s.next + 1) = s.next + 1 := wrap_id (by omega) (by omega)
    repeat' (first
    | (refine SO.pure rfl rfl rfl ?_)
    | (refine SO.nil ?_)
    | (refine SO.load rfl (by repeat constructor) rfl (by rfl) (by exact ⟨rfl, by first | exact fun _ => rfl | exact (fun h => by cases h)⟩) rfl ?_)
    | (refine SK.seq ?_)
    | (refine SK.region ?_)
    | (refine SK.exit rfl ?_)
    | (refine SO.storeW rfl rfl (by repeat constructor) rfl (by rfl) (by rfl) (by rfl) ?_)
    | (refine SO.store rfl rfl (by repeat constructor) rfl (by rfl) rfl rfl (by rfl) (by rfl) ?_)
    | (refine SK.condFP rfl (by first | assumption | (simp only [decide_eq_true_eq, decide_eq_false_iff_not, Bool.not_eq_true', Bool.not_eq_false', Bool.not_true, Bool.not_false, Bool.not_not]; omega)) ?_)
    | fail)
    rw [hd1]
    skip
    rw [hw]
    refine SK.know (sq_len (w := false) (ρ := RRec) (A := A6) (n := (gl (stepF s)).length) (c := c6) (l := gl (stepF s)) (by repeat constructor)) ?_
    rintro ⟨-, -, hc, -⟩
    refine SK.readable (ρ := RRec) (A := A6) (n := (gl (stepF s)).length) (m := c6) (l := gl (stepF s)) (by repeat constructor) ?_
    refine SK.ret ⟨_, .cell rfl (by repeat constructor) rfl rfl (by exact ⟨rfl, fun h => by cases h⟩) (.tmp rfl .nil), (x, (A6, c6)), trivial, rfl, ?_⟩
    exact (ent_pr (p := (gl (stepF s)).length ≤ c6) hc).trans (ent_append_of_takes (by repeat constructor))
theorem sameall_does (A B : Option Addr) (n c e : Nat) (l : List Rc) : Does Tryd.prog 25 [.slice A n c, .slice B n e] [slAt RRec A n l, slAt RRec B n l] [] Unit (fun _ => True) (fun _ => .bool true) (fun _ => []) := by
  refine Does.of Tryd.call25 Tryd.func25 rfl rfl rfl (all_cons (pers_slAt _ _ _ _) (all_cons (pers_slAt _ _ _ _) all_nil)) rfl ?_
  refine SK.know (sl_len (ρ := RRec) (A := A) (n := n) (l := l) (by repeat constructor)) ?_
  rintro ⟨rfl, hlim, -⟩
  repeat' (first
    | (refine SO.pure rfl rfl rfl ?_)
    | (refine SO.nil ?_)
    | (refine SK.seq ?_)
    | (refine SK.region ?_)
    | fail)
  rw [decide_eq_true rfl]
  repeat' (first
    | (refine SO.pure rfl rfl rfl ?_)
    | (refine SO.nil ?_)
    | (refine SK.seq ?_)
    | (refine SK.region ?_)
    | (refine SK.condF rfl ?_)
    | (refine SK.skip ?_)
    | (refine SK.block ?_)
    | fail)
  refine SK.loop (X := {i : Nat // i ≤ l.length}) (fun i => [(5, .int .i64 (i.1 : Int)), (0, .slice A l.length c), (1, .slice B l.length e)]) (fun i => [slAt RRec A l.length l, slAt RRec B l.length l]) (fun i => l.length - i.1) ⟨0, Nat.zero_le _⟩ (by repeat constructor) (ent_append_of_takes (by repeat constructor)) ?_
  rintro ⟨i, hi⟩
  dsimp only
  have hwi := wrapn (show i ≤ lim by omega)
  rcases Nat.lt_or_ge i l.length with hil | hil
  · have hd1 : decide ((i : Int) < (l.length : Int)) = true := decide_eq_true (by omega)
    obtain ⟨u, hu⟩ : ∃ u, l[i]? = some u := ⟨_, List.getElem?_eq_getElem hil⟩
    have hss : ∀ h g : Pl, Does Tryd.prog 29 [RRec.val u h, RRec.val u g] [slAt RI h.1 u.dep.length u.dep, slAt RI g.1 u.dep.length u.dep] [] Unit (fun _ => True) (fun _ => .bool true) (fun _ => []) := fun h g => by
      have h0 := rsame_does u u h g
      rw [sameR_refl] at h0
      exact h0
    repeat' (first
    | (refine SO.pure rfl rfl rfl ?_)
    | (refine SO.nil ?_)
    | (refine SK.seq ?_)
    | (refine SK.region ?_)
    | (refine SK.skip ?_)
    | (refine SK.block ?_)
    | (refine SK.condTP rfl (by first | assumption | (simp only [decide_eq_true_eq, decide_eq_false_iff_not, Bool.not_eq_true', Bool.not_eq_false', Bool.not_true, Bool.not_false, Bool.not_not]; omega)) ?_)
    | (refine SK.regionX 6 (.item 0 0 (.item 0 1 (.item 0 5 (.item 0 6 (.item 0 2 (.item 0 7 (.item 0 3 (.item 0 8 (.item 1 4 (.item 2 9 (.item 0 10 .nil))))))))))) [] .nil (by repeat (first | exact .nil | apply PersSub.s | apply PersSub.t | apply PersSub.p | apply PersSub.r | apply PersSub.skip)) (by kernel_rfl) (by kernel_rfl) (fun _ _ _ h => h) ?_)
    | (refine SX.indexH rfl rfl (by repeat constructor) rfl rfl rfl rfl (by assumption) ?_)
    | (refine SX.pure rfl rfl rfl ?_)
    | (refine SX.eloadW rfl (by repeat constructor) (by assumption) rfl (by rfl) rfl (by rfl) rfl (fun hid => ?_))
    | (refine SX.step rfl rfl ?_)
    | fail)
    rw [hd1]
    repeat' (first
    | (refine SO.call (of_does u _) rfl rfl rfl (by repeat constructor) (by repeat constructor) rfl (fun x hx => ?_))
    | (refine SO.call (hss _ _) rfl rfl rfl (by repeat constructor) (by repeat constructor) rfl (fun x hx => ?_))
    | (refine SO.pure rfl rfl rfl ?_)
    | (refine SO.nil ?_)
    | (refine SK.region ?_)
    | (refine SK.condF rfl ?_)
    | (refine SK.skip ?_)
    | (refine SK.blk ?_)
    | (refine SX.tail (by rfl) (by repeat (first | exact .nil | apply DropP.s | apply DropP.t | apply DropP.p | apply DropP.r | apply DropP.keep)) ?_)
    | (refine SX.pure rfl rfl rfl ?_)
    | (refine SX.step rfl rfl ?_)
    | (refine SK.invY ?_)
    | (refine SY.shareGo (by repeat (first | exact .nil | apply PersSub.s | apply PersSub.t | apply PersSub.p | apply PersSub.r | apply PersSub.skip)) ?_)
    | fail)
    refine SK.inv ⟨⟨i + 1, by omega⟩, ?_, ?_, ?_⟩
    · show l.length - (i + 1) < l.length - i
      omega
    · rw [hwi]; repeat constructor
    · exact ent_append_of_takes (by repeat constructor)
  · have hd1 : decide ((i : Int) < (l.length : Int)) = false := decide_eq_false (by omega)
    repeat' (first
    | (refine SO.pure rfl rfl rfl ?_)
    | (refine SO.nil ?_)
    | (refine SK.seq ?_)
    | (refine SK.region ?_)
    | (refine SK.exit rfl ?_)
    | (refine SK.condFP rfl (by first | assumption | (simp only [decide_eq_true_eq, decide_eq_false_iff_not, Bool.not_eq_true', Bool.not_eq_false', Bool.not_true, Bool.not_false, Bool.not_not]; omega)) ?_)
    | fail)
    rw [hd1]
    skip
    exact SK.retX (.tmp rfl .nil) () trivial rfl (by repeat constructor)
end Go.Proofs
