/- A part of a proof: what functions of the program compute. -/
import Derived.Test.YtmbfcjffjgecjaaGreatDoorDoc1E
import Derived.Test.YtmbfcjffjgecjaaGreatDoorLib2
set_option linter.unusedVariables false
set_option linter.unusedSimpArgs false
set_option maxHeartbeats 0
set_option maxRecDepth 20000
namespace Go.Sl
theorem pr_in {p : Prop} {L L' : List HP} (h : Take (pr p) L L') : ∀ r o, seps L r o → p := fun r o hs => by
  obtain ⟨a, b, d, le, hA, _⟩ := h.ent r o hs
  exact hA
theorem share_pr {α : Type} {ρ : Rep α} {A : Option Addr} {n m : Nat} {l : List α} {L L' : List HP} (hh : Take (sqAt false ρ A n m l) L L') (F : HP) (w : World) (hst : St w (F :: L)) : St w (F :: slAt ρ A n l :: pr (n ≤ m) :: L') :=
  hst.ent (Ent.cons (hh.ent.trans (sl_of_sq.trans (Ent.cons fun r o h => by
    obtain ⟨a, b, d, le, hA, hL⟩ := h
    exact ent_pr hA.2.2.1 r o (seps_up (Ro.le_refl _) (Own.le_trans (Own.le_add_right d) le) hL)))))
end Go.Sl
namespace Go.Proofs
attribute [local irreducible] Go.Sl.SO Go.Sl.SQ Go.Sl.SR Go.Sl.SC Go.Sl.SX Go.Sl.SY Go.Sl.eadr Go.Sl.slAt Go.Sl.sqAt Go.Sl.pts Go.Sl.rod Go.Sl.ob Go.Sl.ex Go.Sl.big Go.Sl.pr Go.Sl.tabs Go.Sl.mpAt
open Go.Sl
theorem atI_get {l : List (Int × Rc × Int)} {p : Int} {i : Nat} {x : Int × Rc × Int} (hi : i ≤ atI l p) (hx : l[i]? = some x) : decide (x.1 < p) = decide (i < atI l p) := by
  apply decide_eq_decide.2
  constructor
  · intro h
    rcases Nat.lt_or_ge i (atI l p) with h1 | h1
    · exact h1
    · have : i = atI l p := by omega
      subst this
      exact absurd h (atI_ge hx)
  · intro h; exact atI_lt h hx
theorem dat_does (dd : DD) (pos : Int) : Does Tryz.prog 132 [.pointer (some ⟨dd.sb, 0, none⟩), .int .i64 pos] [] (ddS dd) Unit (fun _ => True) (fun _ => .tuple #[.int .i64 (atI dd.l pos : Int), .bool (hasD dd.l pos)]) (fun _ => ddS dd) := by
  refine Does.of Tryz.call132 Tryz.func132 rfl rfl rfl all_nil rfl ?_
  refine SK.know (sl_len (ρ := RDS) (A := dd.sp.1) (n := dd.l.length) (l := dd.l) (by repeat constructor)) ?_
  rintro ⟨-, hlim, -⟩
  have hle := atI_le dd.l pos
  repeat' (first
 | refine SO.pure rfl rfl rfl ?_
 | refine SO.nil ?_
 | refine SK.seq ?_
 | refine SK.region ?_
 | refine SK.block ?_
 | fail)
  refine SK.loop (X := {i : Nat // i ≤ atI dd.l pos}) (fun i => [(6, .int .i64 (i.1 : Int)), (1, .int .i64 pos), (0, .pointer (some ⟨dd.sb, 0, none⟩))]) (fun i => ddS dd) (fun i => atI dd.l pos - i.1) ⟨0, Nat.zero_le _⟩ (by repeat constructor) (ent_append_of_takes (by repeat constructor)) ?_
  rintro ⟨i, hi⟩
  dsimp only
  have hwi := wrapn (show i ≤ lim by omega)
  rcases Nat.lt_or_ge i dd.l.length with hil | hil
  · have hd1 : decide ((i : Int) < (dd.l.length : Int)) = true := decide_eq_true (by omega)
    obtain ⟨x, hx⟩ : ∃ x, dd.l[i]? = some x := ⟨_, List.getElem?_eq_getElem hil⟩
    have hag := atI_get hi hx
    obtain ⟨p, r, ln⟩ := x
    dsimp only at hag
    rcases Nat.lt_or_ge i (atI dd.l pos) with hia | hia
    · have hd2 : decide (p < pos) = true := by rw [hag]; exact decide_eq_true hia
      repeat' (first
 | refine SO.indexH rfl rfl (by repeat constructor) rfl rfl rfl rfl (by assumption) ?_
 | refine SO.pure rfl rfl rfl ?_
 | refine SO.nil ?_
 | refine SO.guardY rfl rfl ?_
 | refine SO.load rfl (by repeat constructor) rfl (by rfl) (by exact ⟨rfl, by first | exact fun _ => rfl | exact (fun h => by cases h)⟩) rfl ?_
 | refine SO.efield rfl rfl rfl rfl rfl ?_
 | refine SO.eload rfl (by repeat constructor) (by assumption) rfl (by rfl) (by exact fun _ => ⟨rfl, fun _ => rfl⟩) rfl (fun hid => ?_)
 | refine SK.seq ?_
 | refine SK.region ?_
 | refine SK.skip ?_
 | refine SK.block ?_
 | refine SK.blk ?_
 | refine SO.eload rfl (by repeat constructor) (by assumption) rfl (by rfl) (by exact fun _ => ⟨rfl, fun h => by cases h⟩) rfl (fun hid => ?_)
 | refine SO.guardYP rfl rfl (by first | assumption | (simp only [Go.Sl.bl]; omega)) ?_
 | refine SK.condTP rfl (by first | assumption | (simp only [Go.Sl.bl]; omega)) ?_
 | fail)
      refine SK.inv ⟨⟨i + 1, by omega⟩, ?_, ?_, ?_⟩
      · show atI dd.l pos - (i + 1) < atI dd.l pos - i
        omega
      · rw [hwi]; repeat constructor
      · exact ent_append_of_takes (by repeat constructor)
    · have hd2 : decide (p < pos) = false := by rw [hag]; exact decide_eq_false (by omega)
      obtain rfl : i = atI dd.l pos := by omega
      have hh : hasD dd.l pos = decide (p = pos) := by unfold hasD; rw [hx]
      repeat' (first
 | refine SO.indexH rfl rfl (by repeat constructor) rfl rfl rfl rfl (by assumption) ?_
 | refine SO.pure rfl rfl rfl ?_
 | refine SO.nil ?_
 | refine SO.guardY rfl rfl ?_
 | refine SO.load rfl (by repeat constructor) rfl (by rfl) (by exact ⟨rfl, by first | exact fun _ => rfl | exact (fun h => by cases h)⟩) rfl ?_
 | refine SO.efield rfl rfl rfl rfl rfl ?_
 | refine SO.eload rfl (by repeat constructor) (by assumption) rfl (by rfl) (by exact fun _ => ⟨rfl, fun _ => rfl⟩) rfl (fun hid => ?_)
 | refine SK.seq ?_
 | refine SK.region ?_
 | refine SK.exit rfl ?_
 | refine SO.eload rfl (by repeat constructor) (by assumption) rfl (by rfl) (by exact fun _ => ⟨rfl, fun h => by cases h⟩) rfl (fun hid => ?_)
 | refine SO.guardYP rfl rfl (by first | assumption | (simp only [Go.Sl.bl]; omega)) ?_
 | refine SK.condFP rfl (by first | assumption | (simp only [Go.Sl.bl]; omega)) ?_
 | refine SK.regionX 4 (.item 0 0 (.item 0 1 (.item 0 2 (.item 0 3 (.item 0 4 (.item 0 5 (.item 0 6 (.item 0 7 (.item 0 8 (.item 0 9 (.item 0 13 (.item 0 17 (.item 0 20 (.item 0 10 (.item 0 11 (.item 0 12 (.item 0 14 (.item 0 15 (.item 0 16 (.item 0 18 (.item 0 19 (.item 0 21 .nil)))))))))))))))))))))) [] .nil (by repeat (first | exact .nil | apply PersSub.s | apply PersSub.t | apply PersSub.p | apply PersSub.r | apply PersSub.skip)) (by kernel_rfl) (by kernel_rfl) (fun _ _ _ h => h) ?_
 | refine SX.tail (by rfl) (by repeat (first | exact .nil | apply DropP.s | apply DropP.t | apply DropP.p | apply DropP.r | apply DropP.keep)) ?_
 | refine SX.indexH rfl rfl (by repeat constructor) rfl rfl rfl rfl (by assumption) ?_
 | refine SX.pure rfl rfl rfl ?_
 | refine SX.guardY rfl rfl ?_
 | refine SX.load rfl (by repeat constructor) rfl (by rfl) (by exact ⟨rfl, by first | exact fun _ => rfl | exact (fun h => by cases h)⟩) rfl ?_
 | refine SX.efield rfl rfl rfl rfl rfl ?_
 | refine SX.eload rfl (by repeat constructor) (by assumption) rfl (by rfl) (by exact fun _ => ⟨rfl, fun _ => rfl⟩) rfl (fun hid => ?_)
 | refine SX.eload rfl (by repeat constructor) (by assumption) rfl (by rfl) (by exact fun _ => ⟨rfl, fun h => by cases h⟩) rfl (fun hid => ?_)
 | refine SX.guardYP rfl rfl (by first | assumption | (simp only [Go.Sl.bl]; omega)) ?_
 | fail)
      rw [hh]
      exact SK.retX (.tmp rfl (.tmp rfl .nil)) () trivial rfl (by repeat constructor)
  · have hd1 : decide ((i : Int) < (dd.l.length : Int)) = false := decide_eq_false (by omega)
    obtain rfl : i = atI dd.l pos := by omega
    have hh : hasD dd.l pos = false := by unfold hasD; rw [List.getElem?_eq_none hil]
    repeat' (first
 | refine SO.pure rfl rfl rfl ?_
 | refine SO.nil ?_
 | refine SO.guardN rfl rfl rfl ?_
 | refine SO.load rfl (by repeat constructor) rfl (by rfl) (by exact ⟨rfl, by first | exact fun _ => rfl | exact (fun h => by cases h)⟩) rfl ?_
 | refine SK.seq ?_
 | refine SK.region ?_
 | refine SK.condF rfl ?_
 | refine SK.exit rfl ?_
 | refine SO.guardNP rfl rfl rfl (by first | assumption | (simp only [Go.Sl.bl]; omega)) ?_
 | refine SK.regionX 4 (.item 0 0 (.item 0 1 (.item 0 2 (.item 0 3 (.item 0 4 (.item 0 5 (.item 0 6 (.item 0 7 (.item 0 8 (.item 0 9 (.item 0 13 (.item 0 17 (.item 0 20 (.item 0 10 (.item 0 11 (.item 0 12 (.item 0 14 (.item 0 15 (.item 0 16 (.item 0 18 (.item 0 19 (.item 0 21 .nil)))))))))))))))))))))) [] .nil (by repeat (first | exact .nil | apply PersSub.s | apply PersSub.t | apply PersSub.p | apply PersSub.r | apply PersSub.skip)) (by kernel_rfl) (by kernel_rfl) (fun _ _ _ h => h) ?_
 | refine SX.tail (by rfl) (by repeat (first | exact .nil | apply DropP.s | apply DropP.t | apply DropP.p | apply DropP.r | apply DropP.keep)) ?_
 | refine SX.pure rfl rfl rfl ?_
 | refine SX.guardN rfl rfl rfl ?_
 | refine SX.load rfl (by repeat constructor) rfl (by rfl) (by exact ⟨rfl, by first | exact fun _ => rfl | exact (fun h => by cases h)⟩) rfl ?_
 | refine SX.guardNP rfl rfl rfl (by first | assumption | (simp only [Go.Sl.bl]; omega)) ?_
 | fail)
    rw [hh]
    exact SK.retX (.tmp rfl (.tmp rfl .nil)) () trivial rfl (by repeat constructor)
theorem dlasts_does (dd : DD) (pos : Int) : Does Tryz.prog 110 [.pointer (some ⟨dd.sb, 0, none⟩), .int .i64 pos] [] (ddAt dd) Unit (fun _ => True) (fun _ => .bool (dd.lastsAt pos)) (fun _ => ddAt dd) := by
  refine Does.of Tryz.call110 Tryz.func110 rfl rfl rfl all_nil rfl ?_
  refine SK.know (sl_len (ρ := RDS) (A := dd.sp.1) (n := dd.l.length) (l := dd.l) (by repeat constructor)) ?_
  rintro ⟨-, hlim, -⟩
  have at1 := dat_does dd pos
  unfold DD.lastsAt
  unfold hasD at at1
  cases hx : dd.l[atI dd.l pos]? with
  | none =>
    rw [hx] at at1
    repeat' (first
 | refine SO.call (at1) rfl rfl rfl (by repeat constructor) (by repeat constructor) rfl (fun x hx => ?_)
 | refine SO.pure rfl rfl rfl ?_
 | refine SO.nil ?_
 | refine SK.seq ?_
 | refine SK.region ?_
 | refine SK.regionX 2 (.item 0 0 (.item 0 1 (.item 0 2 (.item 0 6 (.item 0 10 (.item 0 3 (.item 0 11 (.item 0 4 (.item 0 12 (.item 0 5 (.item 0 13 (.item 0 7 (.item 0 14 (.item 0 8 (.item 0 15 (.item 0 9 (.item 0 16 (.item 0 17 (.item 0 18 (.item 0 19 .nil)))))))))))))))))))) [] .nil (by repeat (first | exact .nil | apply PersSub.s | apply PersSub.t | apply PersSub.p | apply PersSub.r | apply PersSub.skip)) (by kernel_rfl) (by kernel_rfl) (fun _ _ _ h => h) ?_
 | refine SX.tail (by rfl) (by repeat (first | exact .nil | apply DropP.s | apply DropP.t | apply DropP.p | apply DropP.r | apply DropP.keep)) ?_
 | refine SX.pure rfl rfl rfl ?_
 | refine SX.guardN rfl rfl rfl ?_
 | fail)
    exact SK.retX (.tmp rfl .nil) () trivial rfl (by repeat constructor)
  | some x =>
    rw [hx] at at1
    obtain ⟨p, r, ln⟩ := x
    dsimp only at at1 ⊢
    have hil := (List.getElem?_eq_some_iff.1 hx).1
    cases hp : decide (p = pos) with
    | true =>
      rw [hp] at at1
      repeat' (first
 | refine SO.call (at1) rfl rfl rfl (by repeat constructor) (by repeat constructor) rfl (fun x hx => ?_)
 | refine SO.pure rfl rfl rfl ?_
 | refine SO.nil ?_
 | refine SK.seq ?_
 | refine SK.region ?_
 | refine SK.regionX 2 (.item 0 0 (.item 0 1 (.item 0 2 (.item 0 6 (.item 0 10 (.item 0 3 (.item 0 11 (.item 0 4 (.item 0 12 (.item 0 5 (.item 0 13 (.item 0 7 (.item 0 14 (.item 0 8 (.item 0 15 (.item 0 9 (.item 0 16 (.item 0 17 (.item 0 18 (.item 0 19 .nil)))))))))))))))))))) [] .nil (by repeat (first | exact .nil | apply PersSub.s | apply PersSub.t | apply PersSub.p | apply PersSub.r | apply PersSub.skip)) (by kernel_rfl) (by kernel_rfl) (fun _ _ _ h => h) ?_
 | refine SX.tail (by rfl) (by repeat (first | exact .nil | apply DropP.s | apply DropP.t | apply DropP.p | apply DropP.r | apply DropP.keep)) ?_
 | refine SX.indexH rfl rfl (by repeat constructor) rfl rfl rfl rfl (by assumption) ?_
 | refine SX.pure rfl rfl rfl ?_
 | refine SX.guardY rfl rfl ?_
 | refine SX.load rfl (by repeat constructor) rfl (by rfl) (by exact ⟨rfl, by first | exact fun _ => rfl | exact (fun h => by cases h)⟩) rfl ?_
 | refine SX.efield rfl rfl rfl rfl rfl ?_
 | refine SX.eload rfl (by repeat constructor) (by assumption) rfl (by rfl) (by exact fun _ => ⟨rfl, fun _ => rfl⟩) rfl (fun hid => ?_)
 | refine SX.eload rfl (by repeat constructor) (by assumption) rfl (by rfl) (by exact fun _ => ⟨rfl, fun h => by cases h⟩) rfl (fun hid => ?_)
 | fail)
      exact SK.retX (.tmp rfl .nil) () trivial rfl (by repeat constructor)
    | false =>
      rw [hp] at at1
      repeat' (first
 | refine SO.call (at1) rfl rfl rfl (by repeat constructor) (by repeat constructor) rfl (fun x hx => ?_)
 | refine SO.pure rfl rfl rfl ?_
 | refine SO.nil ?_
 | refine SK.seq ?_
 | refine SK.region ?_
 | refine SK.regionX 2 (.item 0 0 (.item 0 1 (.item 0 2 (.item 0 6 (.item 0 10 (.item 0 3 (.item 0 11 (.item 0 4 (.item 0 12 (.item 0 5 (.item 0 13 (.item 0 7 (.item 0 14 (.item 0 8 (.item 0 15 (.item 0 9 (.item 0 16 (.item 0 17 (.item 0 18 (.item 0 19 .nil)))))))))))))))))))) [] .nil (by repeat (first | exact .nil | apply PersSub.s | apply PersSub.t | apply PersSub.p | apply PersSub.r | apply PersSub.skip)) (by kernel_rfl) (by kernel_rfl) (fun _ _ _ h => h) ?_
 | refine SX.tail (by rfl) (by repeat (first | exact .nil | apply DropP.s | apply DropP.t | apply DropP.p | apply DropP.r | apply DropP.keep)) ?_
 | refine SX.pure rfl rfl rfl ?_
 | refine SX.guardN rfl rfl rfl ?_
 | fail)
      exact SK.retX (.tmp rfl .nil) () trivial rfl (by repeat constructor)
theorem dget_does (dd : DD) (pos : Int) (r : Rc) (ln : Int) (ht : dd.trimd ≤ pos) (hx : dd.l[atI dd.l pos]? = some (pos, r, ln)) : Does Tryz.prog 114 [.pointer (some ⟨dd.sb, 0, none⟩), .int .i64 pos] [] (ddS dd) Pl (fun _ => True) (fun y => .tuple #[RRec.val r y, .int .i64 0]) (fun y => RRec.atoms r y ++ ddS dd) := by
  refine Does.of Tryz.call114 Tryz.func114 rfl rfl rfl all_nil rfl ?_
  refine SK.know (sl_len (ρ := RDS) (A := dd.sp.1) (n := dd.l.length) (l := dd.l) (by repeat constructor)) ?_
  rintro ⟨-, hlim, -⟩
  have hil := (List.getElem?_eq_some_iff.1 hx).1
  have at1 := dat_does dd pos
  have hd1 : decide (pos < dd.trimd) = false := decide_eq_false (by omega)
  unfold hasD at at1
  rw [hx] at at1
  dsimp only at at1
  rw [decide_eq_true rfl] at at1
  repeat' (first
 | refine SO.call (at1) rfl rfl rfl (by repeat constructor) (by repeat constructor) rfl (fun x hx => ?_)
 | refine SO.indexH rfl rfl (by repeat constructor) rfl rfl rfl rfl (by assumption) ?_
 | refine SO.pure rfl rfl rfl ?_
 | refine SO.nil ?_
 | refine SO.load rfl (by repeat constructor) rfl (by rfl) (by exact ⟨rfl, by first | exact fun _ => rfl | exact (fun h => by cases h)⟩) rfl ?_
 | refine SO.efield rfl rfl rfl rfl rfl ?_
 | refine SO.eload rfl (by repeat constructor) (by assumption) rfl (by rfl) (by exact fun _ => ⟨rfl, fun _ => rfl⟩) rfl (fun hid => ?_)
 | refine SK.seq ?_
 | refine SK.region ?_
 | refine SK.condF rfl ?_
 | refine SK.skip ?_
 | refine SO.alloc rfl rfl rfl (fun b => ?_)
 | refine SO.storeW rfl rfl (by repeat constructor) rfl (by rfl) (by rfl) (by rfl) ?_
 | refine SO.eload rfl (by repeat constructor) (by assumption) rfl (by rfl) (by exact fun _ => ⟨rfl, fun h => by cases h⟩) rfl (fun hid => ?_)
 | refine SK.condFP rfl (by first | assumption | (simp only [Go.Sl.bl]; omega)) ?_
 | fail)
  exact SK.retX (.cell rfl (by repeat constructor) rfl rfl (by exact ⟨rfl, fun h => by cases h⟩) (.tmp rfl .nil)) hid trivial rfl (by repeat constructor)
theorem dsput_does (dd : DD) (pos ln : Int) (r : Rc) (h : Pl) (hp : ∀ x ∈ dd.l, x.1 < pos) (hl : dd.l.length < 1000000) : Does Tryz.prog 133 [.pointer (some ⟨dd.sb, 0, none⟩), .int .i64 pos, RRec.val r h, .int .i64 ln] (RRec.atoms r h) (ddS dd) Pl (fun _ => True) (fun _ => .tuple #[]) (fun y => ddS { dd with sp := y, l := dd.l ++ [(pos, r, ln)] }) := by
  refine Does.of Tryz.call133 Tryz.func133 rfl rfl rfl (RRec.pers _ _) rfl ?_
  have at1 := dat_does dd pos
  have ea := atI_all hp
  have eh : hasD dd.l pos = false := by unfold hasD; rw [ea, List.getElem?_eq_none (Nat.le_refl _)]
  rw [ea, eh] at at1
  refine SK.know (pr_in (p := dd.l.length ≤ dd.sp.2) (by repeat constructor)) (fun hsc => ?_)
  repeat' (first
 | refine SO.call (at1) rfl rfl rfl (by repeat constructor) (by repeat constructor) rfl (fun x hx => ?_)
 | refine SO.pure rfl rfl rfl ?_
 | refine SO.nil ?_
 | refine SK.seq ?_
 | refine SK.region ?_
 | refine SO.box rfl rfl rfl (fun b => ?_)
 | fail)
  refine SK.cutJ (X := Pl) (fun z => [(10, .slice z.1 (dd.l.length + 1) z.2), (8, .int .i64 (dd.l.length : Int)), (0, .pointer (some ⟨dd.sb, 0, none⟩))]) (fun z => sqAt false RDS z.1 (dd.l.length + 1) z.2 (dd.l ++ [(pos, r, ln)]) :: ddS dd) (fun _ _ _ h => h) ?_ ?_
  · repeat' (first
 | refine SO.buildSlice rfl rfl rfl rfl rfl rfl (fun b => SO.shift (toSqR (ρ := RDS) (b := b) (n := 0) (l := []) [] (by repeat constructor) rfl rfl rfl rfl .nil) ?_)
 | refine SO.append (ρ := RDS) (w := false) rfl rfl (by repeat constructor) (Src.sl (by repeat constructor)) rfl rfl rfl rfl rfl rfl rfl (by simp only [List.length_take, List.length_drop, List.drop_zero, Nat.sub_zero, lim]; omega) (fun A4 c4 => ?_)
 | refine SO.append (ρ := RDS) (w := false) (ys := [(pos, r, ln)]) rfl rfl (by repeat constructor) (Src.one (h := h) (by repeat constructor) (by rfl) (by repeat constructor)) rfl rfl rfl rfl rfl rfl rfl (by unfold lim; omega) (fun A5 c5 => ?_)
 | refine SX.slice (k1 := .i64) (k2 := .i64) rfl rfl rfl (by repeat constructor) rfl rfl (by rfl) rfl (by exact .inr ⟨rfl, rfl⟩) (by exact .inl rfl) (by omega) (by omega) (by assumption) (fun As cs hcs => SX.copy (M := [slAt RDS As _ _]) (all_cons (pers_slAt _ _ _ _) all_nil) ?_)
 | refine SO.nil ?_
 | refine SO.buildSlice rfl rfl rfl rfl rfl rfl (fun b => ?_)
 | refine SK.regionX 2 (.item 0 1 (.item 0 5 (.item 0 8 (.item 0 9 (.item 0 10 (.item 0 2 (.item 0 11 (.item 0 3 (.item 0 4 (.item 0 6 (.fork (.item 1 0 (.fork (.item 1 7 (.item 1 12 (.item 2 13 (.item 0 14 .nil)))) (.item 1 12 (.item 1 7 (.item 2 13 (.item 0 14 .nil)))))) (.item 1 12 (.item 1 0 (.item 1 7 (.item 2 13 (.item 0 14 .nil)))))))))))))))) [] .nil (by repeat (first | exact .nil | apply PersSub.s | apply PersSub.t | apply PersSub.p | apply PersSub.r | apply PersSub.skip)) (by kernel_rfl) (by kernel_rfl) (fun _ _ _ h => h) ?_
 | refine SX.tail (by rfl) (by repeat (first | exact .nil | apply DropP.s | apply DropP.t | apply DropP.p | apply DropP.r | apply DropP.keep)) ?_
 | refine SX.pure rfl rfl rfl ?_
 | refine SX.loadW rfl (by repeat constructor) rfl rfl rfl (by rfl) rfl ?_
 | refine SX.load rfl (by repeat constructor) rfl (by rfl) (by exact ⟨rfl, by first | exact fun _ => rfl | exact (fun h => by cases h)⟩) rfl ?_
 | refine SX.build rfl rfl rfl rfl ?_
 | refine SX.slice (k1 := .i64) (k2 := .i64) rfl rfl rfl (by repeat constructor) rfl rfl (by rfl) rfl (by exact .inr ⟨rfl, rfl⟩) (by exact .inl rfl) (by omega) (by omega) (by assumption) (fun As cs hcs => ?_)
 | refine SX.slice (k1 := .i64) (k2 := .i64) rfl rfl rfl (by repeat constructor) rfl rfl (by rfl) rfl (by first | exact .inl rfl | exact .inr ⟨rfl, rfl⟩) (by first | exact .inl rfl | exact .inr ⟨rfl, rfl⟩) (by first | assumption | omega | exact Nat.le_of_ble_eq_true rfl | (simp only [decide_eq_true_eq, decide_eq_false_iff_not] at *; omega)) (by first | assumption | omega | exact Nat.le_of_ble_eq_true rfl | (simp only [decide_eq_true_eq, decide_eq_false_iff_not] at *; omega)) (by assumption) (fun As cs hcs => ?_)
 | refine SX.fork ?_ ?_
 | refine SX.step rfl rfl ?_
 | refine SK.invY ?_
 | refine SY.go ?_
 | fail)
    all_goals (
      rw [show [] ++ (dd.l.drop 0).take (dd.l.length - 0) ++ [(pos, r, ln)] = dd.l ++ [(pos, r, ln)] by simp, show 0 + (dd.l.length - 0) + 1 = dd.l.length + 1 by omega]
      exact SK.inv ⟨(A5, c5), by repeat constructor, ent_append_of_takes (by repeat constructor)⟩)
  rintro ⟨A6, c6⟩ T' L' hT hL
  dsimp only at hT hL
  refine SK.weaken hT hL ?_
  repeat' (first
 | refine SO.append (ρ := RDS) (w := false) rfl rfl (by repeat constructor) (Src.sl (by repeat constructor)) rfl rfl rfl rfl rfl rfl rfl (by simp only [List.length_take, List.length_drop, List.drop_zero, Nat.sub_zero, lim]; omega) (fun A4 c4 => SO.shift (share_pr (ρ := RDS) (A := A4) (m := c4) (by repeat constructor)) ?_)
 | refine SO.pure rfl rfl rfl ?_
 | refine SO.nil ?_
 | refine SO.load rfl (by repeat constructor) rfl (by rfl) (by exact ⟨rfl, by first | exact fun _ => rfl | exact (fun h => by cases h)⟩) rfl ?_
 | refine SO.slice (k1 := .i64) (k2 := .i64) rfl rfl rfl (by repeat constructor) rfl rfl (by rfl) rfl (by exact .inr ⟨rfl, rfl⟩) (by exact .inl rfl) (by omega) (by omega) (by assumption) (fun As cs hcs => ?_)
 | refine SK.region ?_
 | refine SO.store rfl rfl (by repeat constructor) rfl (by rfl) rfl rfl (by rfl) (by rfl) ?_
 | refine SO.slice (k1 := .i64) (k2 := .i64) rfl rfl rfl (by repeat constructor) rfl rfl (by rfl) rfl (by first | exact .inl rfl | exact .inr ⟨rfl, rfl⟩) (by first | exact .inl rfl | exact .inr ⟨rfl, rfl⟩) (by first | assumption | omega | exact Nat.le_of_ble_eq_true rfl | (simp only [decide_eq_true_eq, decide_eq_false_iff_not] at *; omega)) (by first | assumption | omega | exact Nat.le_of_ble_eq_true rfl | (simp only [decide_eq_true_eq, decide_eq_false_iff_not] at *; omega)) (by assumption) (fun As cs hcs => ?_)
 | fail)
  have e1 : dd.l ++ [(pos, r, ln)] ++ (dd.l.drop dd.l.length).take (dd.l.length - dd.l.length) = dd.l ++ [(pos, r, ln)] := by simp
  have e2 : dd.l.length + 1 + (dd.l.length - dd.l.length) = dd.l.length + 1 := by omega
  rw [e1, e2]
  have el : (dd.l ++ [(pos, r, ln)]).length = dd.l.length + 1 := by simp
  exact SK.endX .nil (A4, c4) trivial rfl (by simp only [ddS, el]; repeat constructor)
theorem dput_does (dd : DD) (ep : Int) (p : Nat) (r : Rc) (h : Pl) (hck : checkR r 8 = 0) (hdp : r.dep = []) (h1 : p < 100000) (h2 : 1 ≤ ep ∧ ep ≤ 2147483647) (h3 : dd.sealed < ep) (h4 : dd.trimd ≤ p) (h5 : ∀ x ∈ dd.l, x.1 < (p : Int)) (h6 : dd.l.length < 1000000) (h7 : (usedL dd.lines : Int) + (lineP p r).length + 1 ≤ dd.room) (h8 : dd.room ≤ 1048576) :
    Does Tryz.prog 124 [.pointer (some ⟨dd.sb, 0, none⟩), .int .i64 ep, .int .i64 (p : Int), RRec.val r h] (RRec.atoms r h) (ddAt dd) (Pl × Pl) (fun _ => True) (fun _ => .int .i64 0) (fun y => ddAt { dd with sp := y.1, dp := y.2, lines := dd.lines ++ [txB (lineP p r)], l := dd.l ++ [((p : Int), r, (dd.lines.length : Int))] }) := by
  refine Does.of Tryz.call124 Tryz.func124 rfl rfl rfl (RRec.pers _ _) rfl ?_
  have ok := rok_of hck
  have k5 := ok.vlen
  have hln := usedL_len dd.lines
  have at1 := dat_does dd p
  have ea := atI_all h5
  have eh : hasD dd.l p = false := by unfold hasD; rw [ea, List.getElem?_eq_none (Nat.le_refl _)]
  rw [ea, eh] at at1
  have d1 : decide ((p : Int) < 0) = false := decide_eq_false (by omega)
  have d2 : decide (ep < 1) = false := decide_eq_false (by omega)
  have d3 : decide ((2147483647 : Int) < (p : Int)) = false := decide_eq_false (by omega)
  have d4 : decide ((2147483647 : Int) < ep) = false := decide_eq_false (by omega)
  have d5 : decide (ep ≤ dd.sealed) = false := decide_eq_false (by omega)
  have d6 : decide ((p : Int) < dd.trimd) = false := decide_eq_false (by omega)
  have ck := rcheck_does r h 8 (show r.val.size ≤ lim by unfold lim; omega)
  rw [hck] at ck
  have i1 := ddec_does p (by omega)
  have l1 := dec_len 4 p (by omega)
  have rt := drt_nil r h hck hdp
  have l2 := recX_le hck
  have wr := dwrite_doc dd (lineP p r) (lineP_nlR hck p) h7 h8
  have eline : (⟨#[112, 32]⟩ : ByteArray) ++ txB (Lib.decDigits p) ++ ⟨#[32]⟩ ++ txB (recX r) = txB (lineP p r) := by
    show txB [112, 32] ++ txB _ ++ txB [32] ++ txB _ = _
    simp only [txB_app]
    unfold lineP
    show txB _ = txB _
    congr 1
    simp
  rw [← eline] at wr
  generalize hux : txB (Lib.decDigits p) = uu at *
  have s1 : uu.size ≤ 5 := by rw [← hux, size_txB]; exact l1
  have s2 : (txB (recX r)).size ≤ 102 := by rw [size_txB]; exact l2
  have z1 : (⟨#[32]⟩ : ByteArray).size = 1 := rfl
  have z2 : (⟨#[112, 32]⟩ : ByteArray).size = 2 := rfl
  have t1 : ((⟨#[112, 32]⟩ : ByteArray) ++ uu).size ≤ 7 := by rw [ByteArray.size_append]; omega
  have t2 : ((⟨#[112, 32]⟩ : ByteArray) ++ uu ++ ⟨#[32]⟩).size ≤ 8 := by rw [ByteArray.size_append]; omega
  have t3 : ((⟨#[112, 32]⟩ : ByteArray) ++ uu ++ ⟨#[32]⟩ ++ txB (recX r)).size ≤ 110 := by rw [ByteArray.size_append]; omega
  simp only [List.cons_append, List.nil_append]
  repeat' (first
 | refine SO.call (at1) rfl rfl rfl (by repeat constructor) (by repeat constructor) rfl (fun x hx => ?_)
 | refine SO.call (ck) rfl rfl rfl (by repeat constructor) (by repeat constructor) rfl (fun x hx => ?_)
 | refine SO.call (i1) rfl rfl rfl (by repeat constructor) (by repeat constructor) rfl (fun x hx => ?_)
 | refine SO.call (rt) rfl rfl rfl (by repeat constructor) (by repeat constructor) rfl (fun x hx => ?_)
 | refine SO.call (wr) rfl rfl rfl (by repeat constructor) (by repeat constructor) rfl (fun x hx => ?_)
 | refine SO.pure rfl rfl rfl ?_
 | refine SO.nil ?_
 | refine SO.guardY rfl rfl ?_
 | refine SO.loadW rfl (by repeat constructor) rfl rfl rfl (by rfl) rfl ?_
 | refine SO.load rfl (by repeat constructor) rfl (by rfl) (by exact ⟨rfl, by first | exact fun _ => rfl | exact (fun h => by cases h)⟩) rfl ?_
 | refine SK.seq ?_
 | refine SK.region ?_
 | refine SK.condF rfl ?_
 | refine SK.skip ?_
 | refine SO.box rfl rfl rfl (fun b => ?_)
 | refine SO.guardYP rfl rfl (by first | assumption | (simp only [Go.Sl.bl]; omega)) ?_
 | refine SK.condFP rfl (by first | assumption | (simp only [Go.Sl.bl]; omega)) ?_
 | refine SK.regionX 13 (.item 0 0 (.item 0 4 (.item 0 8 (.item 0 1 (.item 0 2 (.item 0 3 (.item 1 5 (.item 0 6 (.item 0 7 (.item 1 9 (.item 0 10 (.item 2 11 (.item 0 12 .nil))))))))))))) (ddD dd) (by repeat constructor) (by repeat (first | exact .nil | apply PersSub.s | apply PersSub.t | apply PersSub.p | apply PersSub.r | apply PersSub.skip)) (by kernel_rfl) (by kernel_rfl) (fun _ _ _ h => h) ?_
 | refine SK.regionX 16 (.item 0 0 (.item 0 1 (.item 0 2 (.item 0 3 (.item 0 4 (.item 0 5 (.item 0 6 (.item 0 7 (.item 0 8 (.item 0 9 (.item 0 10 (.item 0 11 (.item 2 12 .nil))))))))))))) [] .nil (by repeat (first | exact .nil | apply PersSub.s | apply PersSub.t | apply PersSub.p | apply PersSub.r | apply PersSub.skip)) (by kernel_rfl) (by kernel_rfl) (fun _ _ _ h => h) ?_
 | refine SX.tail (by rfl) (by repeat (first | exact .nil | apply DropP.s | apply DropP.t | apply DropP.p | apply DropP.r | apply DropP.keep)) ?_
 | refine SX.pure rfl rfl rfl ?_
 | refine SX.loadW rfl (by repeat constructor) rfl rfl rfl (by rfl) rfl ?_
 | refine SX.load rfl (by repeat constructor) rfl (by rfl) (by exact ⟨rfl, by first | exact fun _ => rfl | exact (fun h => by cases h)⟩) rfl ?_
 | refine SX.scat rfl rfl rfl (by first | assumption | omega | exact Nat.le_of_ble_eq_true rfl | (simp only [decide_eq_true_eq, decide_eq_false_iff_not] at *; omega)) ?_
 | refine SX.step rfl rfl ?_
 | refine SK.invY ?_
 | refine SY.shareGo (by repeat (first | exact .nil | apply PersSub.s | apply PersSub.t | apply PersSub.p | apply PersSub.r | apply PersSub.skip)) ?_
 | fail)
  rename Pl => dp2
  rw [eline]
  have el : (dd.lines ++ [txB (lineP p r)]).length = dd.lines.length + 1 := by simp
  have hwl : IntKind.i64.wrap (((dd.lines ++ [txB (lineP p r)]).length : Int) - 1) = (dd.lines.length : Int) := by rw [el, wrap_id (by omega) (by omega)]; omega
  have sp := dsput_does dd (p : Int) (dd.lines.length : Int) r h h5 h6
  simp only [hwl]
  repeat' (first
 | refine SO.call (sp) rfl rfl rfl (by repeat constructor) (by repeat constructor) rfl (fun x hx => ?_)
 | refine SO.pure rfl rfl rfl ?_
 | refine SO.nil ?_
 | refine SK.seq ?_
 | refine SK.region ?_
 | fail)
  rename Pl => sp2
  exact SK.retX (.tmp rfl .nil) (sp2, dp2) trivial rfl (by repeat constructor)
end Go.Proofs
