/- A part of a proof: what functions of the program compute. -/
import Derived.Test.YtbaalaaoggplmaaH7
import Derived.Test.YtbaalaaoggplmaaSlTok
set_option linter.unusedVariables false
set_option linter.unusedSimpArgs false
set_option maxHeartbeats 0
namespace Go.Hist
open Go.Sl
def E1 : Ev := ⟨1, 0, true, false, bK, bV, false, rec0, []⟩
def E2 : Ev := ⟨1, 0, true, true, bK, bV, false, ⟨0, 2, [], bK, bV⟩, []⟩
def evs8 : List Ev := [E1, E2, gEv 1 bV true [1], gEv 2 bV true [3], gEv 2 bV true [2], gEv 1 bE false [2], gEv 2 bW true [3], gEv 3 bE false []]
def evs3 : List Ev := [E1, gEv 2 bE false [], E2]
def n0 : REv.V := (none, 0, none, 0)
def look8 : List Fl := [((2 : Int), (1 : Int)), (4, 2), (5, 3), (6, 3)]
theorem look8_eq : Go.Hist.look evs8 = look8 := by decide +kernel
def ofTok (v : Value) : HP := some1 (fun x : (Nat × Nat) × Option Addr => v = .func (.func 10) #[] #[.pointer (some ⟨x.1.1, 0, none⟩), .pointer (some ⟨x.1.2, 0, none⟩)]) (fun x => [rod x.1.1 0 [.slice x.2 3 3], rod x.1.2 0 [.int .i64 1], slAt REv x.2 3 evs3])
def evTok (v : Value) : HP := some1 (fun x : Option Addr × Nat × Option Addr × Nat => v = .tuple #[.slice x.1 2 x.2.1, .slice x.2.2.1 2 x.2.2.2, .bool true]) (fun x => [slAt RI x.1 2 [0, 2], slAt REv x.2.2.1 2 [E1, E2]])
def boTok (v : Value) : HP := some1 (fun _ : Unit => v = .bool true) (fun _ => [])
/-- A value that is an event. -/
def eIn (e : Ev) (v : Value) : HP := some1 (fun x : Option Addr × Nat => v = REv.val e (none, 0, x.1, x.2)) (fun x => [slAt RI x.1 e.at_.length e.at_])
theorem pers_eIn {e : Ev} {v : Value} : Pers (eIn e v) := pers_some1 fun x => all_cons (pers_slAt _ _ _ _) all_nil
end Go.Hist
namespace Go.Proofs
attribute [local irreducible] Go.Sl.SO Go.Sl.SQ Go.Sl.SC Go.Sl.eadr Go.Sl.slAt Go.Sl.sqAt Go.Sl.pts Go.Sl.rod Go.Sl.ob Go.Sl.ex Go.Sl.big Go.Sl.pr Go.Sl.some1
open Go.Sl Go.Hist

theorem known_does : Does Try.prog 4 [] [] [] Unit (fun _ => True) (fun _ => .bool true) (fun _ => []) := by
  refine Does.of Try.call4 Try.func4 rfl rfl rfl all_nil rfl ?_
  repeat' (first
    | (refine SO.pure rfl rfl rfl ?_)
    | (refine SO.pure2 rfl rfl rfl ?_)
    | (refine SO.nil ?_)
    | (refine SO.guardY rfl rfl ?_)
    | (refine SO.guardN rfl rfl rfl ?_)
    | (refine SO.loadW rfl (by repeat constructor) rfl rfl rfl (by rfl) rfl ?_)
    | (refine SO.load rfl (by repeat constructor) rfl (by rfl) (by exact ⟨rfl, by first | exact fun _ => rfl | exact (fun h => by cases h)⟩) rfl ?_)
    | (refine SO.loadR rfl (by repeat constructor) rfl (by rfl) (by exact ⟨rfl, by first | exact fun _ => rfl | exact (fun h => by cases h)⟩) rfl ?_)
    | (refine SO.field rfl rfl rfl rfl (by exact ⟨rfl, by first | exact fun _ => rfl | exact (fun h => by cases h)⟩) rfl ?_)
    | (refine SO.build rfl rfl rfl rfl ?_)
    | (refine SO.index rfl rfl (by repeat constructor) rfl rfl rfl rfl (by first | assumption | omega | exact Nat.le_of_ble_eq_true rfl) (fun v hv => ?_))
    | (refine SO.indexW rfl rfl (by repeat constructor) rfl rfl rfl rfl (by first | assumption | omega | exact Nat.le_of_ble_eq_true rfl) (fun v hv => ?_))
    | (refine SO.slice (k1 := .i64) (k2 := .i64) rfl rfl rfl (by repeat constructor) rfl rfl (by rfl) rfl (by exact .inr ⟨rfl, rfl⟩) (by exact .inl rfl) (by omega) (by omega) (by assumption) (fun As cs hcs => ?_))
    | (refine SO.efield rfl rfl rfl rfl rfl ?_)
    | (refine SO.eloadW rfl (by repeat constructor) (by assumption) rfl (by rfl) rfl (by rfl) rfl (fun hid => ?_))
    | (refine SO.eload rfl (by repeat constructor) (by assumption) rfl (by rfl) (by exact fun _ => ⟨rfl, fun _ => rfl⟩) rfl (fun hid => ?_))
    | (refine SK.seq ?_)
    | (refine SK.region ?_)
    | (refine SK.condT rfl ?_)
    | (refine SK.condF rfl ?_)
    | (refine SK.skip ?_)
    | (refine SK.block ?_)
    | (refine SK.blk ?_)
    | (refine SK.exit rfl ?_)
    | (refine SO.alloc rfl rfl rfl (fun b => ?_))
    | (refine SO.box rfl rfl rfl (fun b => ?_))
    | (refine SO.storeW rfl rfl (by repeat constructor) rfl (by rfl) (by rfl) (by rfl) ?_)
    | (refine SO.store rfl rfl (by repeat constructor) rfl (by rfl) rfl rfl (by rfl) (by rfl) ?_)
    | (refine SO.buildSlice rfl rfl rfl rfl rfl rfl (fun b => ?_))
    | (refine SO.guardYP rfl rfl (by first | assumption | (simp only [decide_eq_true_eq, decide_eq_false_iff_not, Bool.not_eq_true', Bool.not_eq_false', Bool.not_true, Bool.not_false, Bool.not_not]; omega)) ?_)
    | (refine SO.guardNP rfl rfl rfl (by first | assumption | (simp only [decide_eq_true_eq, decide_eq_false_iff_not, Bool.not_eq_true', Bool.not_eq_false', Bool.not_true, Bool.not_false, Bool.not_not]; omega)) ?_)
    | (refine SK.condTP rfl (by first | assumption | (simp only [decide_eq_true_eq, decide_eq_false_iff_not, Bool.not_eq_true', Bool.not_eq_false', Bool.not_true, Bool.not_false, Bool.not_not]; omega)) ?_)
    | (refine SK.condFP rfl (by first | assumption | (simp only [decide_eq_true_eq, decide_eq_false_iff_not, Bool.not_eq_true', Bool.not_eq_false', Bool.not_true, Bool.not_false, Bool.not_not]; omega)) ?_)
    | (refine SO.guard rfl rfl rfl (fun h => ?_) (fun h => ?_))
    | (refine SK.cond rfl (fun h => ?_) (fun h => ?_)))
  rename_i b1
  revert b
  intro b2
  refine SK.publishAs (b := b1) (vs' := REv.cells E1 n0) (by repeat constructor) (by kernel_rfl) ?_
  refine SK.publishAs (b := b2) (vs' := REv.cells E2 n0) (by repeat constructor) (by kernel_rfl) ?_
  refine SK.regionDag0 (Sh := [rod b1 0 (REv.cells E1 n0), rod b2 0 (REv.cells E2 n0)]) [{ need := [], own := [], see := [], tok := fun v => eIn E1 v },
      { need := [], own := [], see := [], tok := fun v => eIn E2 v },
      { need := [], own := [], see := [], tok := fun v => sIn RI 1 1 [1] v },
      { need := [2], own := [], see := [2], tok := fun v => eIn (gEv 1 bV true [1]) v },
      { need := [], own := [], see := [], tok := fun v => sIn RI 1 1 [3] v },
      { need := [4], own := [], see := [4], tok := fun v => eIn (gEv 2 bV true [3]) v },
      { need := [], own := [], see := [], tok := fun v => sIn RI 1 1 [2] v },
      { need := [6], own := [], see := [6], tok := fun v => eIn (gEv 2 bV true [2]) v },
      { need := [], own := [], see := [], tok := fun v => sIn RI 1 1 [2] v },
      { need := [8], own := [], see := [8], tok := fun v => eIn (gEv 1 bE false [2]) v },
      { need := [], own := [], see := [], tok := fun v => sIn RI 1 1 [3] v },
      { need := [10], own := [], see := [10], tok := fun v => eIn (gEv 2 bW true [3]) v },
      { need := [], own := [], see := [], tok := fun v => eIn (gEv 3 bE false []) v },
      { need := [0, 1, 3, 5, 7, 9, 11, 12], own := [], see := [0, 1, 3, 5, 7, 9, 11, 12], tok := fun v => sIn REv 8 8 evs8 v },
      { need := [13], own := [], see := [13], tok := fun v => sIn' RFl 4 look8 v },
      { need := [14], own := [], see := [14], tok := fun v => sIn' RFl 4 look8 v }]
    [(1, .pointer (some ⟨b1, 0, none⟩)), (2, .pointer (some ⟨b2, 0, none⟩))] [15] (by kernel_rfl) (by repeat constructor) (by repeat constructor) (allS_cons rfl (allS_cons rfl (allS_cons rfl (allS_cons rfl (allS_cons rfl (allS_cons rfl (allS_cons rfl (allS_cons rfl (allS_cons rfl (allS_cons rfl (allS_cons rfl (allS_cons rfl (allS_cons rfl (allS_cons rfl (allS_cons rfl (allS_cons rfl (allS_nil))))))))))))))))) ?_ (by kernel_rfl) ⟨fun ev => ?_, fun ev => ?_, fun ev => ?_, fun ev => ?_, fun ev => ?_, fun ev => ?_, fun ev => ?_, fun ev => ?_, fun ev => ?_, fun ev => ?_, fun ev => ?_, fun ev => ?_, fun ev => ?_, fun ev => ?_, fun ev => ?_, fun ev => ?_, trivial⟩ (fun ev => ?_)
  · intro j _ v
    refine tokAt_pers ?_ j v
    exact allS_cons (fun v => pers_eIn) (allS_cons (fun v => pers_eIn) (allS_cons (fun v => pers_sIn) (allS_cons (fun v => pers_eIn) (allS_cons (fun v => pers_sIn) (allS_cons (fun v => pers_eIn) (allS_cons (fun v => pers_sIn) (allS_cons (fun v => pers_eIn) (allS_cons (fun v => pers_sIn) (allS_cons (fun v => pers_eIn) (allS_cons (fun v => pers_sIn) (allS_cons (fun v => pers_eIn) (allS_cons (fun v => pers_eIn) (allS_cons (fun v => pers_sIn) (allS_cons (fun v => pers_sIn') (allS_cons (fun v => pers_sIn') (allS_nil))))))))))))))))
  · refine SO.loadR (vs := REv.cells E1 n0) rfl (by repeat constructor) rfl (by rfl) (by exact ⟨rfl, fun h => by cases h⟩) rfl ?_
    exact SO.nil (SK.inv ⟨_, rfl, Ent.trans (ent_triv (A := slAt RI none 0 [])) (ent_tok (x := (none, 0)) rfl (by repeat constructor))⟩)
  · refine SO.loadR (vs := REv.cells E2 n0) rfl (by repeat constructor) rfl (by rfl) (by exact ⟨rfl, fun h => by cases h⟩) rfl ?_
    exact SO.nil (SK.inv ⟨_, rfl, Ent.trans (ent_triv (A := slAt RI none 0 [])) (ent_tok (x := (none, 0)) rfl (by repeat constructor))⟩)
  · refine SO.buildSlice rfl rfl rfl rfl rfl rfl (fun b => ?_)
    refine SO.shift (toSl (ρ := RI) (n := 1) (l := [1]) [(1, ())] (by repeat constructor) rfl rfl rfl rfl (by repeat constructor)) ?_
    exact SO.nil (SK.inv ⟨_, rfl, ent_tok (x := some ⟨b, 0, none⟩) rfl (by repeat constructor)⟩)
  · refine SO.tok (p := fun x : Option Addr => ev 2 = .slice x 1 1) (M := fun x => [slAt RI x 1 [1]]) (by repeat constructor) (fun A hv => ?_)
    show SO _ _ _ _ _ ((14, ev 2) :: _) _ _ _
    rw [hv]
    refine SO.call (g_does 1 bV true A 1 [1]) rfl rfl rfl (by repeat constructor) (by repeat constructor) rfl (fun x hx => ?_)
    exact SO.nil (SK.inv ⟨_, rfl, ent_tok (x := (A, 1)) rfl (by repeat constructor)⟩)
  · refine SO.buildSlice rfl rfl rfl rfl rfl rfl (fun b => ?_)
    refine SO.shift (toSl (ρ := RI) (n := 1) (l := [3]) [(3, ())] (by repeat constructor) rfl rfl rfl rfl (by repeat constructor)) ?_
    exact SO.nil (SK.inv ⟨_, rfl, ent_tok (x := some ⟨b, 0, none⟩) rfl (by repeat constructor)⟩)
  · refine SO.tok (p := fun x : Option Addr => ev 4 = .slice x 1 1) (M := fun x => [slAt RI x 1 [3]]) (by repeat constructor) (fun A hv => ?_)
    show SO _ _ _ _ _ ((16, ev 4) :: _) _ _ _
    rw [hv]
    refine SO.call (g_does 2 bV true A 1 [3]) rfl rfl rfl (by repeat constructor) (by repeat constructor) rfl (fun x hx => ?_)
    exact SO.nil (SK.inv ⟨_, rfl, ent_tok (x := (A, 1)) rfl (by repeat constructor)⟩)
  · refine SO.buildSlice rfl rfl rfl rfl rfl rfl (fun b => ?_)
    refine SO.shift (toSl (ρ := RI) (n := 1) (l := [2]) [(2, ())] (by repeat constructor) rfl rfl rfl rfl (by repeat constructor)) ?_
    exact SO.nil (SK.inv ⟨_, rfl, ent_tok (x := some ⟨b, 0, none⟩) rfl (by repeat constructor)⟩)
  · refine SO.tok (p := fun x : Option Addr => ev 6 = .slice x 1 1) (M := fun x => [slAt RI x 1 [2]]) (by repeat constructor) (fun A hv => ?_)
    show SO _ _ _ _ _ ((18, ev 6) :: _) _ _ _
    rw [hv]
    refine SO.call (g_does 2 bV true A 1 [2]) rfl rfl rfl (by repeat constructor) (by repeat constructor) rfl (fun x hx => ?_)
    exact SO.nil (SK.inv ⟨_, rfl, ent_tok (x := (A, 1)) rfl (by repeat constructor)⟩)
  · refine SO.buildSlice rfl rfl rfl rfl rfl rfl (fun b => ?_)
    refine SO.shift (toSl (ρ := RI) (n := 1) (l := [2]) [(2, ())] (by repeat constructor) rfl rfl rfl rfl (by repeat constructor)) ?_
    exact SO.nil (SK.inv ⟨_, rfl, ent_tok (x := some ⟨b, 0, none⟩) rfl (by repeat constructor)⟩)
  · refine SO.tok (p := fun x : Option Addr => ev 8 = .slice x 1 1) (M := fun x => [slAt RI x 1 [2]]) (by repeat constructor) (fun A hv => ?_)
    show SO _ _ _ _ _ ((20, ev 8) :: _) _ _ _
    rw [hv]
    refine SO.call (g_does 1 bE false A 1 [2]) rfl rfl rfl (by repeat constructor) (by repeat constructor) rfl (fun x hx => ?_)
    exact SO.nil (SK.inv ⟨_, rfl, ent_tok (x := (A, 1)) rfl (by repeat constructor)⟩)
  · refine SO.buildSlice rfl rfl rfl rfl rfl rfl (fun b => ?_)
    refine SO.shift (toSl (ρ := RI) (n := 1) (l := [3]) [(3, ())] (by repeat constructor) rfl rfl rfl rfl (by repeat constructor)) ?_
    exact SO.nil (SK.inv ⟨_, rfl, ent_tok (x := some ⟨b, 0, none⟩) rfl (by repeat constructor)⟩)
  · refine SO.tok (p := fun x : Option Addr => ev 10 = .slice x 1 1) (M := fun x => [slAt RI x 1 [3]]) (by repeat constructor) (fun A hv => ?_)
    show SO _ _ _ _ _ ((22, ev 10) :: _) _ _ _
    rw [hv]
    refine SO.call (g_does 2 bW true A 1 [3]) rfl rfl rfl (by repeat constructor) (by repeat constructor) rfl (fun x hx => ?_)
    exact SO.nil (SK.inv ⟨_, rfl, ent_tok (x := (A, 1)) rfl (by repeat constructor)⟩)
  · refine SO.call (g_does 3 bE false none 0 []) rfl rfl rfl (show HasAll [slAt RI none 0 []] _ from .cons .triv .nil) (by repeat constructor) rfl (fun x hx => ?_)
    exact SO.nil (SK.inv ⟨_, rfl, Ent.trans (ent_triv (A := slAt RI none 0 [])) (ent_tok (x := (none, 0)) rfl (by repeat constructor))⟩)
  · refine SO.tok (p := fun x : Option Addr × Nat => ev 0 = REv.val E1 (none, 0, x.1, x.2)) (M := fun x => [slAt RI x.1 E1.at_.length E1.at_]) (by repeat constructor) (fun x0 h0 => ?_)
    refine SO.tok (p := fun x : Option Addr × Nat => ev 1 = REv.val E2 (none, 0, x.1, x.2)) (M := fun x => [slAt RI x.1 E2.at_.length E2.at_]) (by repeat constructor) (fun x1 h1 => ?_)
    refine SO.tok (p := fun x : Option Addr × Nat => ev 3 = REv.val (gEv 1 bV true [1]) (none, 0, x.1, x.2)) (M := fun x => [slAt RI x.1 (gEv 1 bV true [1]).at_.length (gEv 1 bV true [1]).at_]) (by repeat constructor) (fun x2 h2 => ?_)
    refine SO.tok (p := fun x : Option Addr × Nat => ev 5 = REv.val (gEv 2 bV true [3]) (none, 0, x.1, x.2)) (M := fun x => [slAt RI x.1 (gEv 2 bV true [3]).at_.length (gEv 2 bV true [3]).at_]) (by repeat constructor) (fun x3 h3 => ?_)
    refine SO.tok (p := fun x : Option Addr × Nat => ev 7 = REv.val (gEv 2 bV true [2]) (none, 0, x.1, x.2)) (M := fun x => [slAt RI x.1 (gEv 2 bV true [2]).at_.length (gEv 2 bV true [2]).at_]) (by repeat constructor) (fun x4 h4 => ?_)
    refine SO.tok (p := fun x : Option Addr × Nat => ev 9 = REv.val (gEv 1 bE false [2]) (none, 0, x.1, x.2)) (M := fun x => [slAt RI x.1 (gEv 1 bE false [2]).at_.length (gEv 1 bE false [2]).at_]) (by repeat constructor) (fun x5 h5 => ?_)
    refine SO.tok (p := fun x : Option Addr × Nat => ev 11 = REv.val (gEv 2 bW true [3]) (none, 0, x.1, x.2)) (M := fun x => [slAt RI x.1 (gEv 2 bW true [3]).at_.length (gEv 2 bW true [3]).at_]) (by repeat constructor) (fun x6 h6 => ?_)
    refine SO.tok (p := fun x : Option Addr × Nat => ev 12 = REv.val (gEv 3 bE false []) (none, 0, x.1, x.2)) (M := fun x => [slAt RI x.1 (gEv 3 bE false []).at_.length (gEv 3 bE false []).at_]) (by repeat constructor) (fun x7 h7 => ?_)
    show SO _ _ _ _ _ ((12, ev 0) :: (13, ev 1) :: (15, ev 3) :: (17, ev 5) :: (19, ev 7) :: (21, ev 9) :: (23, ev 11) :: (24, ev 12) :: _) _ _ _
    rw [h0, h1, h2, h3, h4, h5, h6, h7]
    refine SO.buildSlice rfl rfl rfl rfl (by rfl) rfl (fun b => ?_)
    refine SO.shift (toSl (ρ := REv) (n := 8) (l := evs8) [(E1, (none, 0, x0.1, x0.2)), (E2, (none, 0, x1.1, x1.2)), ((gEv 1 bV true [1]), (none, 0, x2.1, x2.2)), ((gEv 2 bV true [3]), (none, 0, x3.1, x3.2)), ((gEv 2 bV true [2]), (none, 0, x4.1, x4.2)), ((gEv 1 bE false [2]), (none, 0, x5.1, x5.2)), ((gEv 2 bW true [3]), (none, 0, x6.1, x6.2)), ((gEv 3 bE false []), (none, 0, x7.1, x7.2))] .here rfl (by kernel_rfl) rfl rfl ?_) ?_
    · show HasAll [slAt RI none 0 [], slAt RI x0.1 E1.at_.length E1.at_, slAt RI none 0 [], slAt RI x1.1 E2.at_.length E2.at_, slAt RI none 0 [], slAt RI x2.1 (gEv 1 bV true [1]).at_.length (gEv 1 bV true [1]).at_, slAt RI none 0 [], slAt RI x3.1 (gEv 2 bV true [3]).at_.length (gEv 2 bV true [3]).at_, slAt RI none 0 [], slAt RI x4.1 (gEv 2 bV true [2]).at_.length (gEv 2 bV true [2]).at_, slAt RI none 0 [], slAt RI x5.1 (gEv 1 bE false [2]).at_.length (gEv 1 bE false [2]).at_, slAt RI none 0 [], slAt RI x6.1 (gEv 2 bW true [3]).at_.length (gEv 2 bW true [3]).at_, slAt RI none 0 [], slAt RI x7.1 (gEv 3 bE false []).at_.length (gEv 3 bE false []).at_] _
      repeat constructor
    exact SO.nil (SK.inv ⟨_, rfl, ent_tok (x := some ⟨b, 0, none⟩) rfl (by repeat constructor)⟩)
  · refine SO.tok (p := fun x : Option Addr => ev 13 = .slice x 8 8) (M := fun x => [slAt REv x 8 evs8]) (by repeat constructor) (fun A hv => ?_)
    show SO _ _ _ _ _ ((25, ev 13) :: _) _ _ _
    rw [hv]
    have hlk := look_does A 8 8 evs8 (by omega)
    rw [look8_eq] at hlk
    refine SO.call hlk rfl rfl rfl (by repeat constructor) (by repeat constructor) rfl (fun x hx => ?_)
    exact SO.nil (SK.inv ⟨_, rfl, ent_tok (x := x) rfl (by repeat constructor)⟩)
  · refine SO.tok (p := fun x : Option Addr × Nat => ev 14 = .slice x.1 4 x.2) (M := fun x => [slAt RFl x.1 4 look8]) (by repeat constructor) (fun x hv => ?_)
    show SO _ _ _ _ _ ((26, ev 14) :: _) _ _ _
    rw [hv]
    refine SO.pure rfl rfl rfl ?_
    exact SO.nil (SK.inv ⟨_, rfl, ent_tok (x := x) rfl (by repeat constructor)⟩)
  repeat refine SK.seq ?_
  refine SK.tok (p := fun x : Option Addr × Nat => ev 15 = .slice x.1 4 x.2) (M := fun x => [slAt RFl x.1 4 look8]) .here (fun x3 h3 => ?_)
  show SK _ _ _ _ ((3, ev 15) :: _) _ _
  rw [h3]
  repeat refine SK.seq ?_
  refine SK.regionDag0 (Sh := [rod b1 0 (REv.cells E1 n0), rod b2 0 (REv.cells E2 n0)]) [{ need := [], own := [], see := [], tok := fun v => eIn E1 v },
      { need := [], own := [], see := [], tok := fun v => eIn (gEv 2 bE false []) v },
      { need := [], own := [], see := [], tok := fun v => eIn E2 v },
      { need := [0, 1, 2], own := [], see := [0, 1, 2], tok := fun v => sIn REv 3 3 evs3 v },
      { need := [3], own := [], see := [3], tok := fun v => ofTok v },
      { need := [4], own := [], see := [4], tok := fun v => evTok v },
      { need := [5], own := [], see := [5], tok := fun v => evTok v },
      { need := [6], own := [], see := [6], tok := fun v => sIn' RI 2 [0, 2] v },
      { need := [6], own := [], see := [6], tok := fun v => sIn' REv 2 [E1, E2] v },
      { need := [6], own := [], see := [6], tok := fun v => boTok v },
      { need := [7], own := [], see := [7], tok := fun v => sIn' RI 2 [0, 2] v },
      { need := [8], own := [], see := [8], tok := fun v => sIn' REv 2 [E1, E2] v },
      { need := [9], own := [], see := [9], tok := fun v => boTok v }]
    [(1, .pointer (some ⟨b1, 0, none⟩)), (2, .pointer (some ⟨b2, 0, none⟩)), (3, .slice x3.1 4 x3.2)] [10, 11, 12] (by kernel_rfl) (by repeat constructor) (by repeat constructor) (allS_cons rfl (allS_cons rfl (allS_cons rfl (allS_cons rfl (allS_cons rfl (allS_cons rfl (allS_cons rfl (allS_cons rfl (allS_cons rfl (allS_cons rfl (allS_cons rfl (allS_cons rfl (allS_cons rfl (allS_nil)))))))))))))) ?_ (by kernel_rfl) ⟨fun ev => ?_, fun ev => ?_, fun ev => ?_, fun ev => ?_, fun ev => ?_, fun ev => ?_, fun ev => ?_, fun ev => ?_, fun ev => ?_, fun ev => ?_, fun ev => ?_, fun ev => ?_, fun ev => ?_, trivial⟩ (fun ev => ?_)
  · intro j _ v
    refine tokAt_pers ?_ j v
    exact allS_cons (fun v => pers_eIn) (allS_cons (fun v => pers_eIn) (allS_cons (fun v => pers_eIn) (allS_cons (fun v => pers_sIn) (allS_cons (fun v => pers_some1 fun x => all_cons (pers_rod _ _ _) (all_cons (pers_rod _ _ _) (all_cons (pers_slAt _ _ _ _) all_nil))) (allS_cons (fun v => pers_some1 fun x => all_cons (pers_slAt _ _ _ _) (all_cons (pers_slAt _ _ _ _) all_nil)) (allS_cons (fun v => pers_some1 fun x => all_cons (pers_slAt _ _ _ _) (all_cons (pers_slAt _ _ _ _) all_nil)) (allS_cons (fun v => pers_sIn') (allS_cons (fun v => pers_sIn') (allS_cons (fun v => pers_some1 fun x => all_nil) (allS_cons (fun v => pers_sIn') (allS_cons (fun v => pers_sIn') (allS_cons (fun v => pers_some1 fun x => all_nil) (allS_nil)))))))))))))
  · refine SO.loadR (vs := REv.cells E1 n0) rfl (by repeat constructor) rfl (by rfl) (by exact ⟨rfl, fun h => by cases h⟩) rfl ?_
    exact SO.nil (SK.inv ⟨_, rfl, Ent.trans (ent_triv (A := slAt RI none 0 [])) (ent_tok (x := (none, 0)) rfl (by repeat constructor))⟩)
  · refine SO.call (g_does 2 bE false none 0 []) rfl rfl rfl (show HasAll [slAt RI none 0 []] _ from .cons .triv .nil) (by repeat constructor) rfl (fun x hx => ?_)
    exact SO.nil (SK.inv ⟨_, rfl, Ent.trans (ent_triv (A := slAt RI none 0 [])) (ent_tok (x := (none, 0)) rfl (by repeat constructor))⟩)
  · refine SO.loadR (vs := REv.cells E2 n0) rfl (by repeat constructor) rfl (by rfl) (by exact ⟨rfl, fun h => by cases h⟩) rfl ?_
    exact SO.nil (SK.inv ⟨_, rfl, Ent.trans (ent_triv (A := slAt RI none 0 [])) (ent_tok (x := (none, 0)) rfl (by repeat constructor))⟩)
  · refine SO.tok (p := fun x : Option Addr × Nat => ev 0 = REv.val E1 (none, 0, x.1, x.2)) (M := fun x => [slAt RI x.1 E1.at_.length E1.at_]) (by repeat constructor) (fun x0 h0 => ?_)
    refine SO.tok (p := fun x : Option Addr × Nat => ev 1 = REv.val (gEv 2 bE false []) (none, 0, x.1, x.2)) (M := fun x => [slAt RI x.1 (gEv 2 bE false []).at_.length (gEv 2 bE false []).at_]) (by repeat constructor) (fun x1 h1 => ?_)
    refine SO.tok (p := fun x : Option Addr × Nat => ev 2 = REv.val E2 (none, 0, x.1, x.2)) (M := fun x => [slAt RI x.1 E2.at_.length E2.at_]) (by repeat constructor) (fun x2 h2 => ?_)
    show SO _ _ _ _ _ ((28, ev 0) :: (29, ev 1) :: (30, ev 2) :: _) _ _ _
    rw [h0, h1, h2]
    refine SO.buildSlice rfl rfl rfl rfl (by rfl) rfl (fun b => ?_)
    refine SO.shift (toSl (ρ := REv) (n := 3) (l := evs3) [(E1, (none, 0, x0.1, x0.2)), ((gEv 2 bE false []), (none, 0, x1.1, x1.2)), (E2, (none, 0, x2.1, x2.2))] .here rfl (by kernel_rfl) rfl rfl ?_) ?_
    · show HasAll [slAt RI none 0 [], slAt RI x0.1 E1.at_.length E1.at_, slAt RI none 0 [], slAt RI x1.1 (gEv 2 bE false []).at_.length (gEv 2 bE false []).at_, slAt RI none 0 [], slAt RI x2.1 E2.at_.length E2.at_] _
      repeat constructor
    exact SO.nil (SK.inv ⟨_, rfl, ent_tok (x := some ⟨b, 0, none⟩) rfl (by repeat constructor)⟩)
  · refine SO.tok (p := fun x : Option Addr => ev 3 = .slice x 3 3) (M := fun x => [slAt REv x 3 evs3]) (by repeat constructor) (fun A hv => ?_)
    show SO _ _ _ _ _ ((31, ev 3) :: _) _ _ _
    rw [hv]
    refine SO.call (of_does A 3 3 1) rfl rfl rfl (by repeat constructor) (by repeat constructor) rfl (fun x hx => ?_)
    exact SO.nil (SK.inv ⟨_, rfl, ent_tok (x := (x, A)) rfl (by repeat constructor)⟩)
  · refine SO.tok (p := fun x : (Nat × Nat) × Option Addr => ev 4 = .func (.func 10) #[] #[.pointer (some ⟨x.1.1, 0, none⟩), .pointer (some ⟨x.1.2, 0, none⟩)]) (M := fun x => [rod x.1.1 0 [.slice x.2 3 3], rod x.1.2 0 [.int .i64 1], slAt REv x.2 3 evs3]) (by repeat constructor) (fun c hv => ?_)
    show SO _ _ _ _ _ ((32, ev 4) :: _) _ _ _
    rw [hv]
    have hev := events_does 10 [.pointer (some ⟨c.1.1, 0, none⟩), .pointer (some ⟨c.1.2, 0, none⟩)] (ofF 1 0 evs3) 9 _ (all_cons (pers_rod _ _ _) (all_cons (pers_rod _ _ _) (all_cons (pers_slAt _ _ _ _) all_nil))) (by decide +kernel) (ofiter c.1.1 c.1.2 c.2 3 3 1 evs3)
    refine SO.call hev rfl rfl rfl (by repeat constructor) (by repeat constructor) rfl (fun x hx => ?_)
    exact SO.nil (SK.inv ⟨_, rfl, ent_tok (x := x) rfl (by repeat constructor)⟩)
  · refine SO.tok (p := fun x : Option Addr × Nat × Option Addr × Nat => ev 5 = .tuple #[.slice x.1 2 x.2.1, .slice x.2.2.1 2 x.2.2.2, .bool true]) (M := fun x => [slAt RI x.1 2 [0, 2], slAt REv x.2.2.1 2 [E1, E2]]) (by repeat constructor) (fun x hv => ?_)
    show SO _ _ _ _ _ ((33, ev 5) :: _) _ _ _
    rw [hv]
    refine SO.pure rfl rfl rfl ?_
    exact SO.nil (SK.inv ⟨_, rfl, ent_tok (x := x) rfl (by repeat constructor)⟩)
  · refine SO.tok (p := fun x : Option Addr × Nat × Option Addr × Nat => ev 6 = .tuple #[.slice x.1 2 x.2.1, .slice x.2.2.1 2 x.2.2.2, .bool true]) (M := fun x => [slAt RI x.1 2 [0, 2], slAt REv x.2.2.1 2 [E1, E2]]) (by repeat constructor) (fun x hv => ?_)
    show SO _ _ _ _ _ ((27, ev 6) :: _) _ _ _
    rw [hv]
    refine SO.pure rfl rfl rfl ?_
    exact SO.nil (SK.inv ⟨_, rfl, ent_tok (x := (x.1, x.2.1)) rfl (by repeat constructor)⟩)
  · refine SO.tok (p := fun x : Option Addr × Nat × Option Addr × Nat => ev 6 = .tuple #[.slice x.1 2 x.2.1, .slice x.2.2.1 2 x.2.2.2, .bool true]) (M := fun x => [slAt RI x.1 2 [0, 2], slAt REv x.2.2.1 2 [E1, E2]]) (by repeat constructor) (fun x hv => ?_)
    show SO _ _ _ _ _ ((27, ev 6) :: _) _ _ _
    rw [hv]
    refine SO.pure rfl rfl rfl ?_
    exact SO.nil (SK.inv ⟨_, rfl, ent_tok (x := (x.2.2.1, x.2.2.2)) rfl (by repeat constructor)⟩)
  · refine SO.tok (p := fun x : Option Addr × Nat × Option Addr × Nat => ev 6 = .tuple #[.slice x.1 2 x.2.1, .slice x.2.2.1 2 x.2.2.2, .bool true]) (M := fun x => [slAt RI x.1 2 [0, 2], slAt REv x.2.2.1 2 [E1, E2]]) (by repeat constructor) (fun x hv => ?_)
    show SO _ _ _ _ _ ((27, ev 6) :: _) _ _ _
    rw [hv]
    refine SO.pure rfl rfl rfl ?_
    exact SO.nil (SK.inv ⟨_, rfl, ent_tok (x := ()) rfl (by repeat constructor)⟩)
  · refine SO.tok (p := fun x : Option Addr × Nat => ev 7 = .slice x.1 2 x.2) (M := fun x => [slAt RI x.1 2 [0, 2]]) (by repeat constructor) (fun x hv => ?_)
    show SO _ _ _ _ _ ((34, ev 7) :: _) _ _ _
    rw [hv]
    refine SO.pure rfl rfl rfl ?_
    exact SO.nil (SK.inv ⟨_, rfl, ent_tok (x := x) rfl (by repeat constructor)⟩)
  · refine SO.tok (p := fun x : Option Addr × Nat => ev 8 = .slice x.1 2 x.2) (M := fun x => [slAt REv x.1 2 [E1, E2]]) (by repeat constructor) (fun x hv => ?_)
    show SO _ _ _ _ _ ((35, ev 8) :: _) _ _ _
    rw [hv]
    refine SO.pure rfl rfl rfl ?_
    exact SO.nil (SK.inv ⟨_, rfl, ent_tok (x := x) rfl (by repeat constructor)⟩)
  · refine SO.tok (p := fun x : Unit => ev 9 = .bool true) (M := fun x => []) (by repeat constructor) (fun x hv => ?_)
    show SO _ _ _ _ _ ((36, ev 9) :: _) _ _ _
    rw [hv]
    refine SO.pure rfl rfl rfl ?_
    exact SO.nil (SK.inv ⟨_, rfl, ent_tok (x := ()) rfl (by repeat constructor)⟩)
  refine SK.tok (p := fun x : Unit => ev 12 = .bool true) (M := fun x => []) .here (fun x6 h6 => ?_)
  refine SK.tok (p := fun x : Option Addr × Nat => ev 11 = .slice x.1 2 x.2) (M := fun x => [slAt REv x.1 2 [E1, E2]]) .here (fun x5 h5 => ?_)
  refine SK.tok (p := fun x : Option Addr × Nat => ev 10 = .slice x.1 2 x.2) (M := fun x => [slAt RI x.1 2 [0, 2]]) (.there .here) (fun x4 h4 => ?_)
  show SK _ _ _ _ ((4, ev 10) :: (5, ev 11) :: (6, ev 12) :: _) _ _
  rw [h4, h5, h6]
  repeat' (first
    | (refine SO.pure rfl rfl rfl ?_)
    | (refine SO.pure2 rfl rfl rfl ?_)
    | (refine SO.nil ?_)
    | (refine SO.guardY rfl rfl ?_)
    | (refine SO.guardN rfl rfl rfl ?_)
    | (refine SO.loadW rfl (by repeat constructor) rfl rfl rfl (by rfl) rfl ?_)
    | (refine SO.load rfl (by repeat constructor) rfl (by rfl) (by exact ⟨rfl, by first | exact fun _ => rfl | exact (fun h => by cases h)⟩) rfl ?_)
    | (refine SO.loadR rfl (by repeat constructor) rfl (by rfl) (by exact ⟨rfl, by first | exact fun _ => rfl | exact (fun h => by cases h)⟩) rfl ?_)
    | (refine SO.field rfl rfl rfl rfl (by exact ⟨rfl, by first | exact fun _ => rfl | exact (fun h => by cases h)⟩) rfl ?_)
    | (refine SO.build rfl rfl rfl rfl ?_)
    | (refine SO.index rfl rfl (by repeat constructor) rfl rfl rfl rfl (by first | assumption | omega | exact Nat.le_of_ble_eq_true rfl) (fun v hv => ?_) <;> (have hv2 := hv; cases hv))
    | (refine SO.indexW rfl rfl (by repeat constructor) rfl rfl rfl rfl (by first | assumption | omega | exact Nat.le_of_ble_eq_true rfl) (fun v hv => ?_) <;> (have hv2 := hv; cases hv))
    | (refine SO.slice (k1 := .i64) (k2 := .i64) rfl rfl rfl (by repeat constructor) rfl rfl (by rfl) rfl (by exact .inr ⟨rfl, rfl⟩) (by exact .inl rfl) (by omega) (by omega) (by assumption) (fun As cs hcs => ?_))
    | (refine SO.efield rfl rfl rfl rfl rfl ?_)
    | (refine SO.eloadW rfl (by repeat constructor) (by assumption) rfl (by rfl) rfl (by rfl) rfl (fun hid => ?_))
    | (refine SO.eload rfl (by repeat constructor) (by assumption) rfl (by rfl) (by exact fun _ => ⟨rfl, fun _ => rfl⟩) rfl (fun hid => ?_))
    | (refine SK.seq ?_)
    | (refine SK.region ?_)
    | (refine SK.condT rfl ?_)
    | (refine SK.condF rfl ?_)
    | (refine SK.skip ?_)
    | (refine SK.block ?_)
    | (refine SK.blk ?_)
    | (refine SK.exit rfl ?_)
    | (refine SO.alloc rfl rfl rfl (fun b => ?_))
    | (refine SO.box rfl rfl rfl (fun b => ?_))
    | (refine SO.storeW rfl rfl (by repeat constructor) rfl (by rfl) (by rfl) (by rfl) ?_)
    | (refine SO.store rfl rfl (by repeat constructor) rfl (by rfl) rfl rfl (by rfl) (by rfl) ?_)
    | (refine SO.buildSlice rfl rfl rfl rfl rfl rfl (fun b => ?_))
    | (refine SO.guardYP rfl rfl (by first | assumption | (simp only [decide_eq_true_eq, decide_eq_false_iff_not, Bool.not_eq_true', Bool.not_eq_false', Bool.not_true, Bool.not_false, Bool.not_not]; omega)) ?_)
    | (refine SO.guardNP rfl rfl rfl (by first | assumption | (simp only [decide_eq_true_eq, decide_eq_false_iff_not, Bool.not_eq_true', Bool.not_eq_false', Bool.not_true, Bool.not_false, Bool.not_not]; omega)) ?_)
    | (refine SK.condTP rfl (by first | assumption | (simp only [decide_eq_true_eq, decide_eq_false_iff_not, Bool.not_eq_true', Bool.not_eq_false', Bool.not_true, Bool.not_false, Bool.not_not]; omega)) ?_)
    | (refine SK.condFP rfl (by first | assumption | (simp only [decide_eq_true_eq, decide_eq_false_iff_not, Bool.not_eq_true', Bool.not_eq_false', Bool.not_true, Bool.not_false, Bool.not_not]; omega)) ?_))
  refine SK.retX (.tmp rfl .nil) () trivial ?_ (by exact .nil)
  rfl
end Go.Proofs
