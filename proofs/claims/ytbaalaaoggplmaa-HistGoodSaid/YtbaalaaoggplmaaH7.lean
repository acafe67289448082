/- A part of a proof: what functions of the program compute. -/
import Derived.Test.YtbaalaaoggplmaaH6
import Derived.Test.YtbaalaaoggplmaaSlMore
import Derived.KernelRfl
set_option linter.unusedVariables false
set_option linter.unusedSimpArgs false
set_option maxHeartbeats 0
namespace Go.Hist
open Go.Sl
def bK : ByteArray := ⟨#[107]⟩
def bV : ByteArray := ⟨#[118]⟩
def bW : ByteArray := ⟨#[119]⟩
def bE : ByteArray := ⟨#[]⟩
def rec0 : Rec := ⟨0, 0, [], bE, bE⟩
def gEv (s : Int) (v : ByteArray) (b : Bool) (l : List Int) : Ev := ⟨s, 0, false, false, bK, v, b, rec0, l⟩
/-- What Events has gathered. -/
def evJ (b7 b8 : Nat) (xs : List (Nat × Ev)) (m i : Nat) : HP := ex fun x : {x : Option Addr × Nat × Option Addr × Nat // i ≤ m} => big [pts b7 0 [.slice x.1.1 (xs.take i).length x.1.2.1], sqAt false RI x.1.1 (xs.take i).length x.1.2.1 ((xs.take i).map fun x => (x.1 : Int)),
      pts b8 0 [.slice x.1.2.2.1 (xs.take i).length x.1.2.2.2], sqAt false REv x.1.2.2.1 (xs.take i).length x.1.2.2.2 ((xs.take i).map (·.2))]
end Go.Hist
namespace Go.Proofs
attribute [local irreducible] Go.Sl.SO Go.Sl.SQ Go.Sl.SC Go.Sl.eadr Go.Sl.slAt Go.Sl.sqAt Go.Sl.pts Go.Sl.rod Go.Sl.ob Go.Sl.ex Go.Sl.big Go.Sl.pr
open Go.Sl Go.Hist

theorem g_does (s : Int) (v : ByteArray) (b : Bool) (A : Option Addr) (c : Nat) (l : List Int) : Does Try.prog 6 [.int .i64 s, .string v, .bool b, .slice A l.length c] [slAt RI A l.length l] []
    Unit (fun _ => True) (fun _ => REv.val (gEv s v b l) (none, 0, A, c)) (fun _ => []) := by
  refine Does.of Try.call6 Try.func6 rfl rfl rfl (all_cons (pers_slAt _ _ _ _) all_nil) rfl ?_
  repeat' (first
    | (refine SO.pure rfl rfl rfl ?_)
    | (refine SO.pure2 rfl rfl rfl ?_)
    | (refine SO.nil ?_)
    | (refine SO.guardY rfl rfl ?_)
    | (refine SO.guardN rfl rfl rfl ?_)
    | (refine SO.loadW rfl (by repeat constructor) rfl rfl rfl (by rfl) rfl ?_)
    | (refine SO.load rfl (by repeat constructor) rfl (by rfl) (by exact ⟨rfl, by first | exact fun _ => rfl | exact (fun h => by cases h)⟩) rfl ?_)
    | (refine SO.loadR rfl (by repeat constructor) rfl (by rfl) (by exact ⟨rfl, by first | exact fun _ => rfl | exact (fun h => by cases h)⟩) rfl ?_)
    | (refine SO.field rfl rfl rfl rfl (by exact ⟨rfl, by first | exact fun _ => rfl | exact (fun h => by cases h)⟩) rfl ?_)
    | (refine SO.build rfl rfl rfl rfl ?_)
    | (refine SO.index rfl rfl (by repeat constructor) rfl rfl rfl rfl (by first | assumption | omega | exact Nat.le_of_ble_eq_true rfl) (fun v hv => ?_))
    | (refine SO.indexW rfl rfl (by repeat constructor) rfl rfl rfl rfl (by first | assumption | omega | exact Nat.le_of_ble_eq_true rfl) (fun v hv => ?_))
    | (refine SO.slice (k1 := .i64) (k2 := .i64) rfl rfl rfl (by repeat constructor) rfl rfl (by rfl) rfl (by exact .inr ⟨rfl, rfl⟩) (by exact .inl rfl) (by omega) (by omega) (by assumption) (fun As cs hcs => ?_))
    | (refine SO.efield rfl rfl rfl rfl rfl ?_)
    | (refine SO.eloadW rfl (by repeat constructor) (by assumption) rfl (by rfl) rfl (by rfl) rfl (fun hid => ?_))
    | (refine SO.eload rfl (by repeat constructor) (by assumption) rfl (by rfl) (by exact fun _ => ⟨rfl, fun _ => rfl⟩) rfl (fun hid => ?_))
    | (refine SK.seq ?_)
    | (refine SK.region ?_)
    | (refine SK.condT rfl ?_)
    | (refine SK.condF rfl ?_)
    | (refine SK.skip ?_)
    | (refine SK.block ?_)
    | (refine SK.blk ?_)
    | (refine SK.exit rfl ?_)
    | (refine SO.alloc rfl rfl rfl (fun b => ?_))
    | (refine SO.box rfl rfl rfl (fun b => ?_))
    | (refine SO.storeW rfl rfl (by repeat constructor) rfl (by rfl) (by rfl) (by rfl) ?_)
    | (refine SO.store rfl rfl (by repeat constructor) rfl (by rfl) rfl rfl (by rfl) (by rfl) ?_)
    | (refine SO.buildSlice rfl rfl rfl rfl rfl rfl (fun b => ?_))
    | (refine SO.guardYP rfl rfl (by first | assumption | (simp only [decide_eq_true_eq, decide_eq_false_iff_not, Bool.not_eq_true', Bool.not_eq_false', Bool.not_true, Bool.not_false, Bool.not_not]; omega)) ?_)
    | (refine SO.guardNP rfl rfl rfl (by first | assumption | (simp only [decide_eq_true_eq, decide_eq_false_iff_not, Bool.not_eq_true', Bool.not_eq_false', Bool.not_true, Bool.not_false, Bool.not_not]; omega)) ?_)
    | (refine SK.condTP rfl (by first | assumption | (simp only [decide_eq_true_eq, decide_eq_false_iff_not, Bool.not_eq_true', Bool.not_eq_false', Bool.not_true, Bool.not_false, Bool.not_not]; omega)) ?_)
    | (refine SK.condFP rfl (by first | assumption | (simp only [decide_eq_true_eq, decide_eq_false_iff_not, Bool.not_eq_true', Bool.not_eq_false', Bool.not_true, Bool.not_false, Bool.not_not]; omega)) ?_)
    | (refine SO.guard rfl rfl rfl (fun h => ?_) (fun h => ?_))
    | (refine SK.cond rfl (fun h => ?_) (fun h => ?_)))
  exact SK.retX (.cell rfl (by repeat constructor) rfl rfl (by exact ⟨rfl, fun h => by cases h⟩) .nil) () trivial rfl (by repeat constructor)

theorem events_does (f : FuncId) (caps : List Value) (xs : List (Nat × Ev)) (m : Int) (pers : List HP) (hp : ∀ A ∈ pers, Pers A) (hx : xs.length ≤ lim) (it : Iter Try.prog f caps EOf xs pers [] (fun _ => []) []) :
    Does Try.prog 7 [.func (.func f) #[] caps.toArray, .int .i64 m] pers [] ((Option Addr × Nat × Option Addr × Nat)) (fun _ => True)
      (fun x => .tuple #[.slice x.1 (xs.take m.toNat).length x.2.1, .slice x.2.2.1 (xs.take m.toNat).length x.2.2.2, .bool (decide (xs.length ≤ m.toNat))])
      (fun x => [slAt RI x.1 (xs.take m.toNat).length ((xs.take m.toNat).map fun x => (x.1 : Int)), slAt REv x.2.2.1 (xs.take m.toNat).length ((xs.take m.toNat).map (·.2))]) := by
  refine Does.of Try.call7 Try.func7 rfl rfl rfl hp rfl ?_
  repeat' (first
    | (refine SO.pure rfl rfl rfl ?_)
    | (refine SO.pure2 rfl rfl rfl ?_)
    | (refine SO.nil ?_)
    | (refine SO.guardY rfl rfl ?_)
    | (refine SO.guardN rfl rfl rfl ?_)
    | (refine SO.loadW rfl (by repeat constructor) rfl rfl rfl (by rfl) rfl ?_)
    | (refine SO.load rfl (by repeat constructor) rfl (by rfl) (by exact ⟨rfl, by first | exact fun _ => rfl | exact (fun h => by cases h)⟩) rfl ?_)
    | (refine SO.loadR rfl (by repeat constructor) rfl (by rfl) (by exact ⟨rfl, by first | exact fun _ => rfl | exact (fun h => by cases h)⟩) rfl ?_)
    | (refine SO.field rfl rfl rfl rfl (by exact ⟨rfl, by first | exact fun _ => rfl | exact (fun h => by cases h)⟩) rfl ?_)
    | (refine SO.build rfl rfl rfl rfl ?_)
    | (refine SO.index rfl rfl (by repeat constructor) rfl rfl rfl rfl (by first | assumption | omega | exact Nat.le_of_ble_eq_true rfl) (fun v hv => ?_))
    | (refine SO.indexW rfl rfl (by repeat constructor) rfl rfl rfl rfl (by first | assumption | omega | exact Nat.le_of_ble_eq_true rfl) (fun v hv => ?_))
    | (refine SO.slice (k1 := .i64) (k2 := .i64) rfl rfl rfl (by repeat constructor) rfl rfl (by rfl) rfl (by exact .inr ⟨rfl, rfl⟩) (by exact .inl rfl) (by omega) (by omega) (by assumption) (fun As cs hcs => ?_))
    | (refine SO.efield rfl rfl rfl rfl rfl ?_)
    | (refine SO.eloadW rfl (by repeat constructor) (by assumption) rfl (by rfl) rfl (by rfl) rfl (fun hid => ?_))
    | (refine SO.eload rfl (by repeat constructor) (by assumption) rfl (by rfl) (by exact fun _ => ⟨rfl, fun _ => rfl⟩) rfl (fun hid => ?_))
    | (refine SK.seq ?_)
    | (refine SK.region ?_)
    | (refine SK.condT rfl ?_)
    | (refine SK.condF rfl ?_)
    | (refine SK.skip ?_)
    | (refine SK.block ?_)
    | (refine SK.blk ?_)
    | (refine SK.exit rfl ?_)
    | (refine SO.alloc rfl rfl rfl (fun b => ?_))
    | (refine SO.box rfl rfl rfl (fun b => ?_))
    | (refine SO.storeW rfl rfl (by repeat constructor) rfl (by rfl) (by rfl) (by rfl) ?_)
    | (refine SO.store rfl rfl (by repeat constructor) rfl (by rfl) rfl rfl (by rfl) (by rfl) ?_)
    | (refine SO.buildSlice rfl rfl rfl rfl rfl rfl (fun b => ?_))
    | (refine SO.guardYP rfl rfl (by first | assumption | (simp only [decide_eq_true_eq, decide_eq_false_iff_not, Bool.not_eq_true', Bool.not_eq_false', Bool.not_true, Bool.not_false, Bool.not_not]; omega)) ?_)
    | (refine SO.guardNP rfl rfl rfl (by first | assumption | (simp only [decide_eq_true_eq, decide_eq_false_iff_not, Bool.not_eq_true', Bool.not_eq_false', Bool.not_true, Bool.not_false, Bool.not_not]; omega)) ?_)
    | (refine SK.condTP rfl (by first | assumption | (simp only [decide_eq_true_eq, decide_eq_false_iff_not, Bool.not_eq_true', Bool.not_eq_false', Bool.not_true, Bool.not_false, Bool.not_not]; omega)) ?_)
    | (refine SK.condFP rfl (by first | assumption | (simp only [decide_eq_true_eq, decide_eq_false_iff_not, Bool.not_eq_true', Bool.not_eq_false', Bool.not_true, Bool.not_false, Bool.not_not]; omega)) ?_)
    | (refine SO.guard rfl rfl rfl (fun h => ?_) (fun h => ?_))
    | (refine SK.cond rfl (fun h => ?_) (fun h => ?_)))
  rename_i b3 b4 b5 b6 b7
  revert b
  intro b8
  have start : ∀ (K : List HP), Ent (pts b8 0 Try.ti24.zero.cells.toList :: pts b7 0 Try.ti25.zero.cells.toList :: pts b6 0 Try.ti4.zero.cells.toList :: pts b5 0 Try.ti24.zero.cells.toList :: pts b4 0 Try.ti25.zero.cells.toList :: pts b3 0 (Value.int .i64 m).cells.toList :: K) (evJ b7 b8 xs m.toNat 0 :: ([pts b3 0 [.int .i64 m], pts b4 0 [.slice none 0 0], pts b5 0 [.slice none 0 0], pts b6 0 [.bool false]] ++ K)) := fun K =>
    (ent_triv (A := sqAt false RI none 0 0 [])).trans ((ent_triv (A := sqAt false REv none 0 0 [])).trans (ent_closeR (x := (⟨(none, 0, none, 0), Nat.zero_le _⟩ : {x : Option Addr × Nat × Option Addr × Nat // 0 ≤ m.toNat})) rfl (by repeat constructor)))
  refine SK.shift (fun F w hst => hst.ent (Ent.cons (start _))) ?_
  refine SK.range it {x : Option Addr × Nat × Option Addr × Nat // m.toNat < xs.length}
    (fun i => [evJ b7 b8 xs m.toNat i, pts b3 0 [.int .i64 m], pts b4 0 [.slice none 0 0], pts b5 0 [.slice none 0 0], pts b6 0 [.bool false]])
    (fun y => [sqAt false RI y.1.1 (xs.take m.toNat).length y.1.2.1 ((xs.take m.toNat).map fun x => (x.1 : Int)), sqAt false REv y.1.2.2.1 (xs.take m.toNat).length y.1.2.2.2 ((xs.take m.toNat).map (·.2)),
      pts b4 0 [.slice y.1.1 (xs.take m.toNat).length y.1.2.1], pts b5 0 [.slice y.1.2.2.1 (xs.take m.toNat).length y.1.2.2.2], pts b6 0 [.bool false]])
    (fun _ => .ret) (L1 := pers ++ []) rfl (by repeat (first | exact hasAll_app | refine hasAll_there ?_)) (by repeat constructor) rfl (fun _ _ => rfl) ?_ ?_ ?_
  · rintro i ⟨j, ev⟩ hid q R hev
    have hil : i < xs.length := (List.getElem?_eq_some_iff.1 hev).1
    unfold evJ
    refine SK.openEx (.there (.there .here)) ?_
    rintro ⟨⟨A1, c1, A2, c2⟩, hi⟩
    refine SK.openBig .here ?_
    dsimp only
    repeat' (first
    | (refine SO.pure rfl rfl rfl ?_)
    | (refine SO.pure2 rfl rfl rfl ?_)
    | (refine SO.nil ?_)
    | (refine SO.guardY rfl rfl ?_)
    | (refine SO.guardN rfl rfl rfl ?_)
    | (refine SO.loadW rfl (by repeat constructor) rfl rfl rfl (by rfl) rfl ?_)
    | (refine SO.load rfl (by repeat constructor) rfl (by rfl) (by exact ⟨rfl, by first | exact fun _ => rfl | exact (fun h => by cases h)⟩) rfl ?_)
    | (refine SO.loadR rfl (by repeat constructor) rfl (by rfl) (by exact ⟨rfl, by first | exact fun _ => rfl | exact (fun h => by cases h)⟩) rfl ?_)
    | (refine SO.field rfl rfl rfl rfl (by exact ⟨rfl, by first | exact fun _ => rfl | exact (fun h => by cases h)⟩) rfl ?_)
    | (refine SO.build rfl rfl rfl rfl ?_)
    | (refine SO.index rfl rfl (by repeat constructor) rfl rfl rfl rfl (by first | assumption | omega | exact Nat.le_of_ble_eq_true rfl) (fun v hv => ?_))
    | (refine SO.indexW rfl rfl (by repeat constructor) rfl rfl rfl rfl (by first | assumption | omega | exact Nat.le_of_ble_eq_true rfl) (fun v hv => ?_))
    | (refine SO.slice (k1 := .i64) (k2 := .i64) rfl rfl rfl (by repeat constructor) rfl rfl (by rfl) rfl (by exact .inr ⟨rfl, rfl⟩) (by exact .inl rfl) (by omega) (by omega) (by assumption) (fun As cs hcs => ?_))
    | (refine SO.efield rfl rfl rfl rfl rfl ?_)
    | (refine SO.eloadW rfl (by repeat constructor) (by assumption) rfl (by rfl) rfl (by rfl) rfl (fun hid => ?_))
    | (refine SO.eload rfl (by repeat constructor) (by assumption) rfl (by rfl) (by exact fun _ => ⟨rfl, fun _ => rfl⟩) rfl (fun hid => ?_))
    | (refine SK.seq ?_)
    | (refine SK.region ?_)
    | (refine SK.condT rfl ?_)
    | (refine SK.condF rfl ?_)
    | (refine SK.skip ?_)
    | (refine SK.block ?_)
    | (refine SK.blk ?_)
    | (refine SK.exit rfl ?_)
    | (refine SO.alloc rfl rfl rfl (fun b => ?_))
    | (refine SO.box rfl rfl rfl (fun b => ?_))
    | (refine SO.storeW rfl rfl (by repeat constructor) rfl (by rfl) (by rfl) (by rfl) ?_)
    | (refine SO.store rfl rfl (by repeat constructor) rfl (by rfl) rfl rfl (by rfl) (by rfl) ?_)
    | (refine SO.buildSlice rfl rfl rfl rfl rfl rfl (fun b => ?_))
    | (refine SO.guardYP rfl rfl (by first | assumption | (simp only [decide_eq_true_eq, decide_eq_false_iff_not, Bool.not_eq_true', Bool.not_eq_false', Bool.not_true, Bool.not_false, Bool.not_not]; omega)) ?_)
    | (refine SO.guardNP rfl rfl rfl (by first | assumption | (simp only [decide_eq_true_eq, decide_eq_false_iff_not, Bool.not_eq_true', Bool.not_eq_false', Bool.not_true, Bool.not_false, Bool.not_not]; omega)) ?_)
    | (refine SK.condTP rfl (by first | assumption | (simp only [decide_eq_true_eq, decide_eq_false_iff_not, Bool.not_eq_true', Bool.not_eq_false', Bool.not_true, Bool.not_false, Bool.not_not]; omega)) ?_)
    | (refine SK.condFP rfl (by first | assumption | (simp only [decide_eq_true_eq, decide_eq_false_iff_not, Bool.not_eq_true', Bool.not_eq_false', Bool.not_true, Bool.not_false, Bool.not_not]; omega)) ?_)
    | (refine SO.guard rfl rfl rfl (fun h => ?_) (fun h => ?_))
    | (refine SK.cond rfl (fun h => ?_) (fun h => ?_)))
    refine SK.inv ?_
    repeat' (first
    | (refine SO.pure rfl rfl rfl ?_)
    | (refine SO.pure2 rfl rfl rfl ?_)
    | (refine SO.nil ?_)
    | (refine SO.guardY rfl rfl ?_)
    | (refine SO.guardN rfl rfl rfl ?_)
    | (refine SO.loadW rfl (by repeat constructor) rfl rfl rfl (by rfl) rfl ?_)
    | (refine SO.load rfl (by repeat constructor) rfl (by rfl) (by exact ⟨rfl, by first | exact fun _ => rfl | exact (fun h => by cases h)⟩) rfl ?_)
    | (refine SO.loadR rfl (by repeat constructor) rfl (by rfl) (by exact ⟨rfl, by first | exact fun _ => rfl | exact (fun h => by cases h)⟩) rfl ?_)
    | (refine SO.field rfl rfl rfl rfl (by exact ⟨rfl, by first | exact fun _ => rfl | exact (fun h => by cases h)⟩) rfl ?_)
    | (refine SO.build rfl rfl rfl rfl ?_)
    | (refine SO.index rfl rfl (by repeat constructor) rfl rfl rfl rfl (by first | assumption | omega | exact Nat.le_of_ble_eq_true rfl) (fun v hv => ?_))
    | (refine SO.indexW rfl rfl (by repeat constructor) rfl rfl rfl rfl (by first | assumption | omega | exact Nat.le_of_ble_eq_true rfl) (fun v hv => ?_))
    | (refine SO.slice (k1 := .i64) (k2 := .i64) rfl rfl rfl (by repeat constructor) rfl rfl (by rfl) rfl (by exact .inr ⟨rfl, rfl⟩) (by exact .inl rfl) (by omega) (by omega) (by assumption) (fun As cs hcs => ?_))
    | (refine SO.efield rfl rfl rfl rfl rfl ?_)
    | (refine SO.eloadW rfl (by repeat constructor) (by assumption) rfl (by rfl) rfl (by rfl) rfl (fun hid => ?_))
    | (refine SO.eload rfl (by repeat constructor) (by assumption) rfl (by rfl) (by exact fun _ => ⟨rfl, fun _ => rfl⟩) rfl (fun hid => ?_))
    | (refine SK.seq ?_)
    | (refine SK.region ?_)
    | (refine SK.condT rfl ?_)
    | (refine SK.condF rfl ?_)
    | (refine SK.skip ?_)
    | (refine SK.block ?_)
    | (refine SK.blk ?_)
    | (refine SK.exit rfl ?_)
    | (refine SO.alloc rfl rfl rfl (fun b => ?_))
    | (refine SO.box rfl rfl rfl (fun b => ?_))
    | (refine SO.storeW rfl rfl (by repeat constructor) rfl (by rfl) (by rfl) (by rfl) ?_)
    | (refine SO.store rfl rfl (by repeat constructor) rfl (by rfl) rfl rfl (by rfl) (by rfl) ?_)
    | (refine SO.buildSlice rfl rfl rfl rfl rfl rfl (fun b => ?_))
    | (refine SO.guardYP rfl rfl (by first | assumption | (simp only [decide_eq_true_eq, decide_eq_false_iff_not, Bool.not_eq_true', Bool.not_eq_false', Bool.not_true, Bool.not_false, Bool.not_not]; omega)) ?_)
    | (refine SO.guardNP rfl rfl rfl (by first | assumption | (simp only [decide_eq_true_eq, decide_eq_false_iff_not, Bool.not_eq_true', Bool.not_eq_false', Bool.not_true, Bool.not_false, Bool.not_not]; omega)) ?_)
    | (refine SK.condTP rfl (by first | assumption | (simp only [decide_eq_true_eq, decide_eq_false_iff_not, Bool.not_eq_true', Bool.not_eq_false', Bool.not_true, Bool.not_false, Bool.not_not]; omega)) ?_)
    | (refine SK.condFP rfl (by first | assumption | (simp only [decide_eq_true_eq, decide_eq_false_iff_not, Bool.not_eq_true', Bool.not_eq_false', Bool.not_true, Bool.not_false, Bool.not_not]; omega)) ?_)
    | (refine SO.guard rfl rfl rfl (fun h => ?_) (fun h => ?_))
    | (refine SK.cond rfl (fun h => ?_) (fun h => ?_)))
    · have hmi : m.toNat = i := by
        simp only [decide_eq_true_eq, List.length_take] at h
        omega
      subst hmi
      refine SK.regionDag (Sh := []) [⟨[], [], fun v => pr (v = (.slice A1 (xs.take m.toNat).length c1)), pts b7 0 [(.slice A1 (xs.take m.toNat).length c1)], []⟩, ⟨[], [], fun v => pr (v = (.slice A2 (xs.take m.toNat).length c2)), pts b8 0 [(.slice A2 (xs.take m.toNat).length c2)], []⟩, ⟨[0], [0], fun _ => pts b4 0 [(.slice A1 (xs.take m.toNat).length c1)], pts b4 0 [.slice none 0 0], []⟩, ⟨[1], [1], fun _ => pts b5 0 [(.slice A2 (xs.take m.toNat).length c2)], pts b5 0 [.slice none 0 0], []⟩, ⟨[], [], fun _ => pts b6 0 [.bool false], pts b6 0 [.bool false], []⟩]
        [(7, .pointer (some ⟨b7, 0, none⟩)), (8, .pointer (some ⟨b8, 0, none⟩)), (4, .pointer (some ⟨b4, 0, none⟩)), (5, .pointer (some ⟨b5, 0, none⟩)), (6, .pointer (some ⟨b6, 0, none⟩))] [] (by kernel_rfl) (by repeat constructor) (by repeat constructor) (by intro j hj; cases hj) (by rfl) ⟨fun ev => ?_, fun ev => ?_, fun ev => ?_, fun ev => ?_, fun ev => ?_, trivial⟩ (fun ev => ?_)
      · refine SO.load rfl (by repeat constructor) rfl (by rfl) (by exact ⟨rfl, fun _ => rfl⟩) rfl ?_
        exact SO.nil (SK.inv ⟨_, rfl, ent_prs rfl ent_nil⟩)
      · refine SO.load rfl (by repeat constructor) rfl (by rfl) (by exact ⟨rfl, fun _ => rfl⟩) rfl ?_
        exact SO.nil (SK.inv ⟨_, rfl, ent_prs rfl ent_nil⟩)
      · refine SO.know (has_pr (p := ev 0 = (.slice A1 (xs.take m.toNat).length c1)) (by repeat constructor)) (fun hv => ?_)
        show SO _ _ _ _ _ ((20, ev 0) :: _) _ _ _
        rw [hv]
        refine SO.storeW rfl rfl (by repeat constructor) rfl (by rfl) (by rfl) (by rfl) ?_
        exact SO.nil (SK.inv ⟨_, rfl, ent_append_of_takes (by repeat constructor)⟩)
      · refine SO.know (has_pr (p := ev 1 = (.slice A2 (xs.take m.toNat).length c2)) (by repeat constructor)) (fun hv => ?_)
        show SO _ _ _ _ _ ((21, ev 1) :: _) _ _ _
        rw [hv]
        refine SO.storeW rfl rfl (by repeat constructor) rfl (by rfl) (by rfl) (by rfl) ?_
        exact SO.nil (SK.inv ⟨_, rfl, ent_append_of_takes (by repeat constructor)⟩)
      · refine SO.storeW rfl rfl (by repeat constructor) rfl (by rfl) (by rfl) (by rfl) ?_
        exact SO.nil (SK.inv ⟨_, rfl, ent_append_of_takes (by repeat constructor)⟩)
      refine SK.ret ⟨⟨(A1, c1, A2, c2), hil⟩, rfl, ent_append_of_takes (by repeat constructor)⟩
    · have e1 : xs.take (i + 1) = xs.take i ++ [(j, ev)] := by rw [List.take_add_one, hev]; rfl
      have hlen : (xs.take i).length = i := by rw [List.length_take]; omega
      have hi1 : i + 1 ≤ m.toNat := by
        simp only [decide_eq_false_iff_not, hlen] at h
        omega
      refine SO.append (ρ := RI) (w := false) (ys := [(j : Int)]) rfl rfl (by repeat constructor) (Src.one (h := ()) (by repeat constructor) (by rfl) (by repeat constructor)) rfl rfl rfl rfl rfl rfl rfl (by omega) (fun A3 c3 => ?_)
      repeat' (first
    | (refine SO.pure rfl rfl rfl ?_)
    | (refine SO.pure2 rfl rfl rfl ?_)
    | (refine SO.nil ?_)
    | (refine SO.guardY rfl rfl ?_)
    | (refine SO.guardN rfl rfl rfl ?_)
    | (refine SO.loadW rfl (by repeat constructor) rfl rfl rfl (by rfl) rfl ?_)
    | (refine SO.load rfl (by repeat constructor) rfl (by rfl) (by exact ⟨rfl, by first | exact fun _ => rfl | exact (fun h => by cases h)⟩) rfl ?_)
    | (refine SO.loadR rfl (by repeat constructor) rfl (by rfl) (by exact ⟨rfl, by first | exact fun _ => rfl | exact (fun h => by cases h)⟩) rfl ?_)
    | (refine SO.field rfl rfl rfl rfl (by exact ⟨rfl, by first | exact fun _ => rfl | exact (fun h => by cases h)⟩) rfl ?_)
    | (refine SO.build rfl rfl rfl rfl ?_)
    | (refine SO.index rfl rfl (by repeat constructor) rfl rfl rfl rfl (by first | assumption | omega | exact Nat.le_of_ble_eq_true rfl) (fun v hv => ?_))
    | (refine SO.indexW rfl rfl (by repeat constructor) rfl rfl rfl rfl (by first | assumption | omega | exact Nat.le_of_ble_eq_true rfl) (fun v hv => ?_))
    | (refine SO.slice (k1 := .i64) (k2 := .i64) rfl rfl rfl (by repeat constructor) rfl rfl (by rfl) rfl (by exact .inr ⟨rfl, rfl⟩) (by exact .inl rfl) (by omega) (by omega) (by assumption) (fun As cs hcs => ?_))
    | (refine SO.efield rfl rfl rfl rfl rfl ?_)
    | (refine SO.eloadW rfl (by repeat constructor) (by assumption) rfl (by rfl) rfl (by rfl) rfl (fun hid => ?_))
    | (refine SO.eload rfl (by repeat constructor) (by assumption) rfl (by rfl) (by exact fun _ => ⟨rfl, fun _ => rfl⟩) rfl (fun hid => ?_))
    | (refine SK.seq ?_)
    | (refine SK.region ?_)
    | (refine SK.condT rfl ?_)
    | (refine SK.condF rfl ?_)
    | (refine SK.skip ?_)
    | (refine SK.block ?_)
    | (refine SK.blk ?_)
    | (refine SK.exit rfl ?_)
    | (refine SO.alloc rfl rfl rfl (fun b => ?_))
    | (refine SO.box rfl rfl rfl (fun b => ?_))
    | (refine SO.storeW rfl rfl (by repeat constructor) rfl (by rfl) (by rfl) (by rfl) ?_)
    | (refine SO.store rfl rfl (by repeat constructor) rfl (by rfl) rfl rfl (by rfl) (by rfl) ?_)
    | (refine SO.buildSlice rfl rfl rfl rfl rfl rfl (fun b => ?_))
    | (refine SO.guardYP rfl rfl (by first | assumption | (simp only [decide_eq_true_eq, decide_eq_false_iff_not, Bool.not_eq_true', Bool.not_eq_false', Bool.not_true, Bool.not_false, Bool.not_not]; omega)) ?_)
    | (refine SO.guardNP rfl rfl rfl (by first | assumption | (simp only [decide_eq_true_eq, decide_eq_false_iff_not, Bool.not_eq_true', Bool.not_eq_false', Bool.not_true, Bool.not_false, Bool.not_not]; omega)) ?_)
    | (refine SK.condTP rfl (by first | assumption | (simp only [decide_eq_true_eq, decide_eq_false_iff_not, Bool.not_eq_true', Bool.not_eq_false', Bool.not_true, Bool.not_false, Bool.not_not]; omega)) ?_)
    | (refine SK.condFP rfl (by first | assumption | (simp only [decide_eq_true_eq, decide_eq_false_iff_not, Bool.not_eq_true', Bool.not_eq_false', Bool.not_true, Bool.not_false, Bool.not_not]; omega)) ?_)
    | (refine SO.guard rfl rfl rfl (fun h => ?_) (fun h => ?_))
    | (refine SK.cond rfl (fun h => ?_) (fun h => ?_)))
      refine SO.append (ρ := REv) (w := false) (ys := [ev]) rfl rfl (by repeat constructor) (Src.one (h := hid) (by repeat constructor) (by rfl) (by repeat constructor)) rfl rfl rfl rfl rfl rfl rfl (by omega) (fun A4 c4 => ?_)
      repeat' (first
    | (refine SO.pure rfl rfl rfl ?_)
    | (refine SO.pure2 rfl rfl rfl ?_)
    | (refine SO.nil ?_)
    | (refine SO.guardY rfl rfl ?_)
    | (refine SO.guardN rfl rfl rfl ?_)
    | (refine SO.loadW rfl (by repeat constructor) rfl rfl rfl (by rfl) rfl ?_)
    | (refine SO.load rfl (by repeat constructor) rfl (by rfl) (by exact ⟨rfl, by first | exact fun _ => rfl | exact (fun h => by cases h)⟩) rfl ?_)
    | (refine SO.loadR rfl (by repeat constructor) rfl (by rfl) (by exact ⟨rfl, by first | exact fun _ => rfl | exact (fun h => by cases h)⟩) rfl ?_)
    | (refine SO.field rfl rfl rfl rfl (by exact ⟨rfl, by first | exact fun _ => rfl | exact (fun h => by cases h)⟩) rfl ?_)
    | (refine SO.build rfl rfl rfl rfl ?_)
    | (refine SO.index rfl rfl (by repeat constructor) rfl rfl rfl rfl (by first | assumption | omega | exact Nat.le_of_ble_eq_true rfl) (fun v hv => ?_))
    | (refine SO.indexW rfl rfl (by repeat constructor) rfl rfl rfl rfl (by first | assumption | omega | exact Nat.le_of_ble_eq_true rfl) (fun v hv => ?_))
    | (refine SO.slice (k1 := .i64) (k2 := .i64) rfl rfl rfl (by repeat constructor) rfl rfl (by rfl) rfl (by exact .inr ⟨rfl, rfl⟩) (by exact .inl rfl) (by omega) (by omega) (by assumption) (fun As cs hcs => ?_))
    | (refine SO.efield rfl rfl rfl rfl rfl ?_)
    | (refine SO.eloadW rfl (by repeat constructor) (by assumption) rfl (by rfl) rfl (by rfl) rfl (fun hid => ?_))
    | (refine SO.eload rfl (by repeat constructor) (by assumption) rfl (by rfl) (by exact fun _ => ⟨rfl, fun _ => rfl⟩) rfl (fun hid => ?_))
    | (refine SK.seq ?_)
    | (refine SK.region ?_)
    | (refine SK.condT rfl ?_)
    | (refine SK.condF rfl ?_)
    | (refine SK.skip ?_)
    | (refine SK.block ?_)
    | (refine SK.blk ?_)
    | (refine SK.exit rfl ?_)
    | (refine SO.alloc rfl rfl rfl (fun b => ?_))
    | (refine SO.box rfl rfl rfl (fun b => ?_))
    | (refine SO.storeW rfl rfl (by repeat constructor) rfl (by rfl) (by rfl) (by rfl) ?_)
    | (refine SO.store rfl rfl (by repeat constructor) rfl (by rfl) rfl rfl (by rfl) (by rfl) ?_)
    | (refine SO.buildSlice rfl rfl rfl rfl rfl rfl (fun b => ?_))
    | (refine SO.guardYP rfl rfl (by first | assumption | (simp only [decide_eq_true_eq, decide_eq_false_iff_not, Bool.not_eq_true', Bool.not_eq_false', Bool.not_true, Bool.not_false, Bool.not_not]; omega)) ?_)
    | (refine SO.guardNP rfl rfl rfl (by first | assumption | (simp only [decide_eq_true_eq, decide_eq_false_iff_not, Bool.not_eq_true', Bool.not_eq_false', Bool.not_true, Bool.not_false, Bool.not_not]; omega)) ?_)
    | (refine SK.condTP rfl (by first | assumption | (simp only [decide_eq_true_eq, decide_eq_false_iff_not, Bool.not_eq_true', Bool.not_eq_false', Bool.not_true, Bool.not_false, Bool.not_not]; omega)) ?_)
    | (refine SK.condFP rfl (by first | assumption | (simp only [decide_eq_true_eq, decide_eq_false_iff_not, Bool.not_eq_true', Bool.not_eq_false', Bool.not_true, Bool.not_false, Bool.not_not]; omega)) ?_)
    | (refine SO.guard rfl rfl rfl (fun h => ?_) (fun h => ?_))
    | (refine SK.cond rfl (fun h => ?_) (fun h => ?_)))
      refine SK.nil ?_
      show Ent _ (busyA q R :: evJ b7 b8 xs m.toNat (i + 1) :: _)
      unfold evJ
      simp only [e1, List.map_append, List.length_append, List.map_cons, List.map_nil, List.length_cons, List.length_nil, Nat.zero_add]
      refine Ent.trans ?_ Ent.swap
      exact ent_close (x := ⟨(A3, c3, A4, c4), hi1⟩) rfl (by repeat constructor)
  · unfold evJ
    refine SK.blk ?_
    refine SK.openEx .here ?_
    rintro ⟨⟨A1, c1, A2, c2⟩, hi⟩
    refine SK.openBig .here ?_
    dsimp only
    have hle : xs.length ≤ m.toNat := hi
    rw [List.take_length]
    rw [List.take_of_length_le hle]
    refine SK.seq ?_
    refine SK.regionDag (Sh := []) [⟨[], [], fun v => pr (v = (.slice A1 (xs).length c1)), pts b7 0 [(.slice A1 (xs).length c1)], []⟩, ⟨[], [], fun v => pr (v = (.slice A2 (xs).length c2)), pts b8 0 [(.slice A2 (xs).length c2)], []⟩, ⟨[0], [0], fun _ => pts b4 0 [(.slice A1 (xs).length c1)], pts b4 0 [.slice none 0 0], []⟩, ⟨[1], [1], fun _ => pts b5 0 [(.slice A2 (xs).length c2)], pts b5 0 [.slice none 0 0], []⟩, ⟨[], [], fun _ => pts b6 0 [.bool true], pts b6 0 [.bool false], []⟩]
      [(7, .pointer (some ⟨b7, 0, none⟩)), (8, .pointer (some ⟨b8, 0, none⟩)), (4, .pointer (some ⟨b4, 0, none⟩)), (5, .pointer (some ⟨b5, 0, none⟩)), (6, .pointer (some ⟨b6, 0, none⟩))] [] (by kernel_rfl) (by repeat constructor) (by repeat constructor) (by intro j hj; cases hj) (by rfl) ⟨fun ev => ?_, fun ev => ?_, fun ev => ?_, fun ev => ?_, fun ev => ?_, trivial⟩ (fun ev => ?_)
    · refine SO.load rfl (by repeat constructor) rfl (by rfl) (by exact ⟨rfl, fun _ => rfl⟩) rfl ?_
      exact SO.nil (SK.inv ⟨_, rfl, ent_prs rfl ent_nil⟩)
    · refine SO.load rfl (by repeat constructor) rfl (by rfl) (by exact ⟨rfl, fun _ => rfl⟩) rfl ?_
      exact SO.nil (SK.inv ⟨_, rfl, ent_prs rfl ent_nil⟩)
    · refine SO.know (has_pr (p := ev 0 = (.slice A1 (xs).length c1)) (by repeat constructor)) (fun hv => ?_)
      show SO _ _ _ _ _ ((30, ev 0) :: _) _ _ _
      rw [hv]
      refine SO.storeW rfl rfl (by repeat constructor) rfl (by rfl) (by rfl) (by rfl) ?_
      exact SO.nil (SK.inv ⟨_, rfl, ent_append_of_takes (by repeat constructor)⟩)
    · refine SO.know (has_pr (p := ev 1 = (.slice A2 (xs).length c2)) (by repeat constructor)) (fun hv => ?_)
      show SO _ _ _ _ _ ((31, ev 1) :: _) _ _ _
      rw [hv]
      refine SO.storeW rfl rfl (by repeat constructor) rfl (by rfl) (by rfl) (by rfl) ?_
      exact SO.nil (SK.inv ⟨_, rfl, ent_append_of_takes (by repeat constructor)⟩)
    · refine SO.storeW rfl rfl (by repeat constructor) rfl (by rfl) (by rfl) (by rfl) ?_
      exact SO.nil (SK.inv ⟨_, rfl, ent_append_of_takes (by repeat constructor)⟩)
    refine SK.readable (.there (.there (.there .here))) ?_
    refine SK.readable (.there (.there (.there (.there (.there .here))))) ?_
    refine SK.retX (.cell rfl (by repeat constructor) rfl rfl (by exact ⟨rfl, fun _ => rfl⟩) (.cell rfl (by repeat constructor) rfl rfl (by exact ⟨rfl, fun _ => rfl⟩) (.cell rfl (by repeat constructor) rfl rfl (by exact ⟨rfl, fun _ => rfl⟩) .nil))) (A1, c1, A2, c2) trivial ?_ (by repeat constructor)
    have : decide (xs.length ≤ m.toNat) = true := decide_eq_true hle
    rw [this]; rfl
  · rintro ⟨⟨A1, c1, A2, c2⟩, hy⟩ i _
    refine SK.readable .here ?_
    refine SK.readable (.there (.there .here)) ?_
    refine SK.retX (.cell rfl (by repeat constructor) rfl rfl (by exact ⟨rfl, fun _ => rfl⟩) (.cell rfl (by repeat constructor) rfl rfl (by exact ⟨rfl, fun _ => rfl⟩) (.cell rfl (by repeat constructor) rfl rfl (by exact ⟨rfl, fun _ => rfl⟩) .nil))) (A1, c1, A2, c2) trivial ?_ (by repeat constructor)
    have : decide (xs.length ≤ m.toNat) = false := decide_eq_false (by have := hy; omega)
    rw [this]; rfl
end Go.Proofs
