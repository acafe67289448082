/- A part of a proof: what functions of the program compute. -/
import Derived.Test.YtbaalaaoggplmaaH5
set_option linter.unusedVariables false
set_option linter.unusedSimpArgs false
set_option maxHeartbeats 0
namespace Go.Hist
open Go.Sl
theorem lookF_app (l : List Ev) : ∀ (a b : List Ev) (i : Nat), lookF l i (a ++ b) = lookF l i a ++ lookF l (i + a.length) b
  | [], b, i => by simp [lookF]
  | x :: a, b, i => by
    simp only [List.cons_append, lookF, lookF_app l a b (i + 1), List.length_cons]
    rw [show i + 1 + a.length = i + (a.length + 1) by omega]
    split
    · rfl
    · split <;> rfl
def lkA (l : List Ev) (i : Nat) : List Fl := lookF l 0 (l.take i)
theorem lkA_step {l : List Ev} {i : Nat} {x : Ev} (h : l[i]? = some x) : lkA l (i + 1) = lkA l i ++ lookF l i [x] := by
  have hl : i < l.length := (List.getElem?_eq_some_iff.1 h).1
  have : l.take (i + 1) = l.take i ++ [x] := by rw [List.take_add_one, h]; rfl
  unfold lkA
  rw [this, lookF_app, List.length_take, Nat.min_eq_left (by omega), Nat.zero_add]
theorem lookF_len (l : List Ev) : ∀ (a : List Ev) (i : Nat), (lookF l i a).length ≤ a.length
  | [], i => by simp [lookF]
  | x :: a, i => by
    have := lookF_len l a (i + 1)
    simp only [lookF]
    split
    · simp; omega
    · split
      · simp; omega
      · simp; omega
theorem lkA_len (l : List Ev) (i : Nat) : (lkA l i).length ≤ i := by
  have := lookF_len l (l.take i) 0
  unfold lkA; simp at this ⊢; omega
end Go.Hist
namespace Go.Proofs
attribute [local irreducible] Go.Sl.SO Go.Sl.SQ Go.Sl.SC Go.Sl.eadr Go.Sl.slAt Go.Sl.sqAt Go.Sl.pts Go.Sl.rod Go.Sl.ob Go.Sl.ex Go.Sl.big Go.Sl.pr
open Go.Sl Go.Hist

theorem look_does (A : Option Addr) (n c : Nat) (l : List Ev) (hc : n ≤ c) : Does Try.prog 5 [.slice A n c] [slAt REv A n l] []
    (Option Addr × Nat) (fun _ => True) (fun x => .slice x.1 (Go.Hist.look l).length x.2) (fun x => [slAt RFl x.1 (Go.Hist.look l).length (Go.Hist.look l)]) := by
  refine Does.of Try.call5 Try.func5 rfl rfl rfl (all_cons (pers_slAt _ _ _ _) all_nil) rfl ?_
  refine SK.know (sl_len (ρ := REv) (A := A) (n := n) (l := l) (by repeat constructor)) ?_
  rintro ⟨rfl, hla, -⟩
  repeat' (first
    | (refine SO.pure rfl rfl rfl ?_)
    | (refine SO.pure2 rfl rfl rfl ?_)
    | (refine SO.nil ?_)
    | (refine SO.guardY rfl rfl ?_)
    | (refine SO.guardN rfl rfl rfl ?_)
    | (refine SO.loadW rfl (by repeat constructor) rfl rfl rfl (by rfl) rfl ?_)
    | (refine SO.load rfl (by repeat constructor) rfl (by rfl) (by exact ⟨rfl, by first | exact fun _ => rfl | exact (fun h => by cases h)⟩) rfl ?_)
    | (refine SO.loadR rfl (by repeat constructor) rfl (by rfl) (by exact ⟨rfl, by first | exact fun _ => rfl | exact (fun h => by cases h)⟩) rfl ?_)
    | (refine SO.field rfl rfl rfl rfl (by exact ⟨rfl, by first | exact fun _ => rfl | exact (fun h => by cases h)⟩) rfl ?_)
    | (refine SO.build rfl rfl rfl rfl ?_)
    | (refine SO.index rfl rfl (by repeat constructor) rfl rfl rfl rfl (by first | assumption | omega | exact Nat.le_of_ble_eq_true rfl) (fun v hv => ?_))
    | (refine SO.indexW rfl rfl (by repeat constructor) rfl rfl rfl rfl (by first | assumption | omega | exact Nat.le_of_ble_eq_true rfl) (fun v hv => ?_))
    | (refine SO.slice (k1 := .i64) (k2 := .i64) rfl rfl rfl (by repeat constructor) rfl rfl (by rfl) rfl (by exact .inr ⟨rfl, rfl⟩) (by exact .inl rfl) (by omega) (by omega) (by assumption) (fun As cs hcs => ?_))
    | (refine SO.efield rfl rfl rfl rfl rfl ?_)
    | (refine SO.eloadW rfl (by repeat constructor) (by assumption) rfl (by rfl) rfl (by rfl) rfl (fun hid => ?_))
    | (refine SO.eload rfl (by repeat constructor) (by assumption) rfl (by rfl) (by exact fun _ => ⟨rfl, fun _ => rfl⟩) rfl (fun hid => ?_))
    | (refine SK.seq ?_)
    | (refine SK.region ?_)
    | (refine SK.condT rfl ?_)
    | (refine SK.condF rfl ?_)
    | (refine SK.skip ?_)
    | (refine SK.block ?_)
    | (refine SK.blk ?_)
    | (refine SK.exit rfl ?_)
    | (refine SO.alloc rfl rfl rfl (fun b => ?_))
    | (refine SO.box rfl rfl rfl (fun b => ?_))
    | (refine SO.storeW rfl rfl (by repeat constructor) rfl (by rfl) (by rfl) (by rfl) ?_)
    | (refine SO.store rfl rfl (by repeat constructor) rfl (by rfl) rfl rfl (by rfl) (by rfl) ?_)
    | (refine SO.buildSlice rfl rfl rfl rfl rfl rfl (fun b => ?_))
    | (refine SO.guardYP rfl rfl (by first | assumption | (simp only [decide_eq_true_eq, decide_eq_false_iff_not, Bool.not_eq_true', Bool.not_eq_false', Bool.not_true, Bool.not_false, Bool.not_not]; omega)) ?_)
    | (refine SO.guardNP rfl rfl rfl (by first | assumption | (simp only [decide_eq_true_eq, decide_eq_false_iff_not, Bool.not_eq_true', Bool.not_eq_false', Bool.not_true, Bool.not_false, Bool.not_not]; omega)) ?_)
    | (refine SK.condTP rfl (by first | assumption | (simp only [decide_eq_true_eq, decide_eq_false_iff_not, Bool.not_eq_true', Bool.not_eq_false', Bool.not_true, Bool.not_false, Bool.not_not]; omega)) ?_)
    | (refine SK.condFP rfl (by first | assumption | (simp only [decide_eq_true_eq, decide_eq_false_iff_not, Bool.not_eq_true', Bool.not_eq_false', Bool.not_true, Bool.not_false, Bool.not_not]; omega)) ?_)
    | (refine SO.guard rfl rfl rfl (fun h => ?_) (fun h => ?_))
    | (refine SK.cond rfl (fun h => ?_) (fun h => ?_)))
  refine SK.loop (X := {x : Nat × Option Addr × Nat // x.1 ≤ l.length}) (fun x => [(9, .int .i64 (x.1.1 : Int)), (8, .int .i64 (l.length : Int)), (7, .slice A l.length c), (0, .slice A l.length c), (3, .slice x.1.2.1 (lkA l x.1.1).length x.1.2.2)]) (fun x => [sqAt false RFl x.1.2.1 (lkA l x.1.1).length x.1.2.2 (lkA l x.1.1), slAt REv A l.length l]) (fun x => l.length - x.1.1) ⟨(0, none, 0), by omega⟩ (by repeat constructor) (ent_triv (A := sqAt false RFl none 0 0 [])) ?_
  rintro ⟨⟨i, A1, c1⟩, hi⟩
  have hi : i ≤ l.length := hi
  dsimp only
  repeat' (first
    | (refine SO.pure rfl rfl rfl ?_)
    | (refine SO.pure2 rfl rfl rfl ?_)
    | (refine SO.nil ?_)
    | (refine SO.guardY rfl rfl ?_)
    | (refine SO.guardN rfl rfl rfl ?_)
    | (refine SO.loadW rfl (by repeat constructor) rfl rfl rfl (by rfl) rfl ?_)
    | (refine SO.load rfl (by repeat constructor) rfl (by rfl) (by exact ⟨rfl, by first | exact fun _ => rfl | exact (fun h => by cases h)⟩) rfl ?_)
    | (refine SO.loadR rfl (by repeat constructor) rfl (by rfl) (by exact ⟨rfl, by first | exact fun _ => rfl | exact (fun h => by cases h)⟩) rfl ?_)
    | (refine SO.field rfl rfl rfl rfl (by exact ⟨rfl, by first | exact fun _ => rfl | exact (fun h => by cases h)⟩) rfl ?_)
    | (refine SO.build rfl rfl rfl rfl ?_)
    | (refine SO.index rfl rfl (by repeat constructor) rfl rfl rfl rfl (by first | assumption | omega | exact Nat.le_of_ble_eq_true rfl) (fun v hv => ?_))
    | (refine SO.indexW rfl rfl (by repeat constructor) rfl rfl rfl rfl (by first | assumption | omega | exact Nat.le_of_ble_eq_true rfl) (fun v hv => ?_))
    | (refine SO.slice (k1 := .i64) (k2 := .i64) rfl rfl rfl (by repeat constructor) rfl rfl (by rfl) rfl (by exact .inr ⟨rfl, rfl⟩) (by exact .inl rfl) (by omega) (by omega) (by assumption) (fun As cs hcs => ?_))
    | (refine SO.efield rfl rfl rfl rfl rfl ?_)
    | (refine SO.eloadW rfl (by repeat constructor) (by assumption) rfl (by rfl) rfl (by rfl) rfl (fun hid => ?_))
    | (refine SO.eload rfl (by repeat constructor) (by assumption) rfl (by rfl) (by exact fun _ => ⟨rfl, fun _ => rfl⟩) rfl (fun hid => ?_))
    | (refine SK.seq ?_)
    | (refine SK.region ?_)
    | (refine SK.condT rfl ?_)
    | (refine SK.condF rfl ?_)
    | (refine SK.skip ?_)
    | (refine SK.block ?_)
    | (refine SK.blk ?_)
    | (refine SK.exit rfl ?_)
    | (refine SO.alloc rfl rfl rfl (fun b => ?_))
    | (refine SO.box rfl rfl rfl (fun b => ?_))
    | (refine SO.storeW rfl rfl (by repeat constructor) rfl (by rfl) (by rfl) (by rfl) ?_)
    | (refine SO.store rfl rfl (by repeat constructor) rfl (by rfl) rfl rfl (by rfl) (by rfl) ?_)
    | (refine SO.buildSlice rfl rfl rfl rfl rfl rfl (fun b => ?_))
    | (refine SO.guardYP rfl rfl (by first | assumption | (simp only [decide_eq_true_eq, decide_eq_false_iff_not, Bool.not_eq_true', Bool.not_eq_false', Bool.not_true, Bool.not_false, Bool.not_not]; omega)) ?_)
    | (refine SO.guardNP rfl rfl rfl (by first | assumption | (simp only [decide_eq_true_eq, decide_eq_false_iff_not, Bool.not_eq_true', Bool.not_eq_false', Bool.not_true, Bool.not_false, Bool.not_not]; omega)) ?_)
    | (refine SK.condTP rfl (by first | assumption | (simp only [decide_eq_true_eq, decide_eq_false_iff_not, Bool.not_eq_true', Bool.not_eq_false', Bool.not_true, Bool.not_false, Bool.not_not]; omega)) ?_)
    | (refine SK.condFP rfl (by first | assumption | (simp only [decide_eq_true_eq, decide_eq_false_iff_not, Bool.not_eq_true', Bool.not_eq_false', Bool.not_true, Bool.not_false, Bool.not_not]; omega)) ?_)
    | (refine SO.guard rfl rfl rfl (fun h => ?_) (fun h => ?_))
    | (refine SK.cond rfl (fun h => ?_) (fun h => ?_)))
  · simp only [decide_eq_true_eq] at h
    have hil : i < l.length := by omega
    have hw := wrap_nat (show i < lim by omega)
    repeat' (first
    | (refine SO.call (kind_does As _ cs _ v hid) rfl rfl rfl (by repeat constructor) (by repeat constructor) rfl (fun x hx => ?_))
    | (refine SQ.call (kind_does As _ cs _ v hid) rfl rfl rfl (fun _ _ => rfl) (by repeat constructor) rfl ?_)
    | (refine SO.pure rfl rfl rfl ?_)
    | (refine SO.pure2 rfl rfl rfl ?_)
    | (refine SO.nil ?_)
    | (refine SO.guardY rfl rfl ?_)
    | (refine SO.guardN rfl rfl rfl ?_)
    | (refine SO.loadW rfl (by repeat constructor) rfl rfl rfl (by rfl) rfl ?_)
    | (refine SO.load rfl (by repeat constructor) rfl (by rfl) (by exact ⟨rfl, by first | exact fun _ => rfl | exact (fun h => by cases h)⟩) rfl ?_)
    | (refine SO.loadR rfl (by repeat constructor) rfl (by rfl) (by exact ⟨rfl, by first | exact fun _ => rfl | exact (fun h => by cases h)⟩) rfl ?_)
    | (refine SO.field rfl rfl rfl rfl (by exact ⟨rfl, by first | exact fun _ => rfl | exact (fun h => by cases h)⟩) rfl ?_)
    | (refine SO.build rfl rfl rfl rfl ?_)
    | (refine SO.index rfl rfl (by repeat constructor) rfl rfl rfl rfl (by first | assumption | omega | exact Nat.le_of_ble_eq_true rfl) (fun v hv => ?_))
    | (refine SO.indexW rfl rfl (by repeat constructor) rfl rfl rfl rfl (by first | assumption | omega | exact Nat.le_of_ble_eq_true rfl) (fun v hv => ?_))
    | (refine SO.slice (k1 := .i64) (k2 := .i64) rfl rfl rfl (by repeat constructor) rfl rfl (by rfl) rfl (by exact .inr ⟨rfl, rfl⟩) (by exact .inl rfl) (by omega) (by omega) (by assumption) (fun As cs hcs => ?_))
    | (refine SO.efield rfl rfl rfl rfl rfl ?_)
    | (refine SO.eloadW rfl (by repeat constructor) (by assumption) rfl (by rfl) rfl (by rfl) rfl (fun hid => ?_))
    | (refine SO.eload rfl (by repeat constructor) (by assumption) rfl (by rfl) (by exact fun _ => ⟨rfl, fun _ => rfl⟩) rfl (fun hid => ?_))
    | (refine SK.seq ?_)
    | (refine SK.region ?_)
    | (refine SK.condT rfl ?_)
    | (refine SK.condF rfl ?_)
    | (refine SK.skip ?_)
    | (refine SK.block ?_)
    | (refine SK.blk ?_)
    | (refine SK.exit rfl ?_)
    | (refine SO.alloc rfl rfl rfl (fun b => ?_))
    | (refine SO.box rfl rfl rfl (fun b => ?_))
    | (refine SO.storeW rfl rfl (by repeat constructor) rfl (by rfl) (by rfl) (by rfl) ?_)
    | (refine SO.store rfl rfl (by repeat constructor) rfl (by rfl) rfl rfl (by rfl) (by rfl) ?_)
    | (refine SO.buildSlice rfl rfl rfl rfl rfl rfl (fun b => ?_))
    | (refine SQ.pure rfl rfl rfl ?_)
    | (refine SQ.pure2 rfl rfl rfl ?_)
    | (refine SQ.nil ?_)
    | (refine SQ.guardY rfl rfl ?_)
    | (refine SQ.guardN rfl rfl rfl ?_)
    | (refine SQ.loadW rfl (by repeat constructor) rfl rfl rfl (by rfl) rfl ?_)
    | (refine SQ.load rfl (by repeat constructor) rfl (by rfl) (by exact ⟨rfl, by first | exact fun _ => rfl | exact (fun h => by cases h)⟩) rfl ?_)
    | (refine SQ.loadR rfl (by repeat constructor) rfl (by rfl) (by exact ⟨rfl, by first | exact fun _ => rfl | exact (fun h => by cases h)⟩) rfl ?_)
    | (refine SQ.field rfl rfl rfl rfl (by exact ⟨rfl, by first | exact fun _ => rfl | exact (fun h => by cases h)⟩) rfl ?_)
    | (refine SQ.build rfl rfl rfl rfl ?_)
    | (refine SQ.index rfl rfl (by repeat constructor) rfl rfl rfl rfl (by first | assumption | omega | exact Nat.le_of_ble_eq_true rfl) (fun v hv => ?_))
    | (refine SQ.indexW rfl rfl (by repeat constructor) rfl rfl rfl rfl (by first | assumption | omega | exact Nat.le_of_ble_eq_true rfl) (fun v hv => ?_))
    | (refine SQ.slice (k1 := .i64) (k2 := .i64) rfl rfl rfl (by repeat constructor) rfl rfl (by rfl) rfl (by exact .inr ⟨rfl, rfl⟩) (by exact .inl rfl) (by omega) (by omega) (by assumption) (fun As cs hcs => ?_))
    | (refine SQ.efield rfl rfl rfl rfl rfl ?_)
    | (refine SQ.eloadW rfl (by repeat constructor) (by assumption) rfl (by rfl) rfl (by rfl) rfl (fun hid => ?_))
    | (refine SQ.eload rfl (by repeat constructor) (by assumption) rfl (by rfl) (by exact fun _ => ⟨rfl, fun _ => rfl⟩) rfl (fun hid => ?_))
    | (refine SK.regionQ (by kernel_rfl) (by kernel_rfl) rfl ?_)
    | (refine SO.guardYP rfl rfl (by first | assumption | (simp only [decide_eq_true_eq, decide_eq_false_iff_not, Bool.not_eq_true', Bool.not_eq_false', Bool.not_true, Bool.not_false, Bool.not_not]; omega)) ?_)
    | (refine SO.guardNP rfl rfl rfl (by first | assumption | (simp only [decide_eq_true_eq, decide_eq_false_iff_not, Bool.not_eq_true', Bool.not_eq_false', Bool.not_true, Bool.not_false, Bool.not_not]; omega)) ?_)
    | (refine SK.condTP rfl (by first | assumption | (simp only [decide_eq_true_eq, decide_eq_false_iff_not, Bool.not_eq_true', Bool.not_eq_false', Bool.not_true, Bool.not_false, Bool.not_not]; omega)) ?_)
    | (refine SK.condFP rfl (by first | assumption | (simp only [decide_eq_true_eq, decide_eq_false_iff_not, Bool.not_eq_true', Bool.not_eq_false', Bool.not_true, Bool.not_false, Bool.not_not]; omega)) ?_)
    | (refine SQ.guardYP rfl rfl (by first | assumption | (simp only [decide_eq_true_eq, decide_eq_false_iff_not, Bool.not_eq_true', Bool.not_eq_false', Bool.not_true, Bool.not_false, Bool.not_not]; omega)) ?_)
    | (refine SQ.guardNP rfl rfl rfl (by first | assumption | (simp only [decide_eq_true_eq, decide_eq_false_iff_not, Bool.not_eq_true', Bool.not_eq_false', Bool.not_true, Bool.not_false, Bool.not_not]; omega)) ?_)
    | (refine SO.guard rfl rfl rfl (fun h => ?_) (fun h => ?_))
    | (refine SK.cond rfl (fun h => ?_) (fun h => ?_))
    | (refine SQ.guard rfl rfl rfl (fun h => ?_) (fun h => ?_)))
    · refine SK.inv ⟨⟨(i + 1, A1, c1), by omega⟩, ?_, ⟨?_, ?_⟩, ?_⟩
      · show l.length - (i + 1) < l.length - i
        omega
      · simp only [TT.get_cons, putD]
        simp [hw]
      · have e : lkA l (i + 1) = lkA l i := by rw [lkA_step hv]; simp [lookF, h]
        dsimp only
        rw [e]
        repeat constructor
      · have e : lkA l (i + 1) = lkA l i := by rw [lkA_step hv]; simp [lookF, h]
        show Ent _ [sqAt false RFl A1 (lkA l (i + 1)).length c1 (lkA l (i + 1)), slAt REv A l.length l]
        rw [e]
        exact ent_append_of_takes (by repeat constructor)
    · have hkd : kind ((l.drop 0).take (i - 0)) v = kind (l.take i) v := by simp
      have hle := lkA_len l i
      refine SO.append (ρ := RFl) (w := false) (ys := [((i : Int), kind (l.take i) v)]) rfl rfl (by repeat constructor) (Src.one (h := ()) (by repeat constructor) (by rw [← hkd]; rfl) (by repeat constructor)) rfl rfl rfl rfl rfl rfl rfl (by omega) (fun A2 c2 => ?_)
      have hne : ¬ kind (l.take i) v = 0 := by rw [← hkd]; simpa using h
      have hv2 : v.put = false := by assumption
      have e : lkA l (i + 1) = lkA l i ++ [((i : Int), kind (l.take i) v)] := by rw [lkA_step hv]; simp [lookF, hv2, hne]
      have e2 : (lkA l (i + 1)).length = (lkA l i).length + 1 := by rw [e]; simp
      repeat' (first
    | (refine SO.pure rfl rfl rfl ?_)
    | (refine SO.pure2 rfl rfl rfl ?_)
    | (refine SO.nil ?_)
    | (refine SO.guardY rfl rfl ?_)
    | (refine SO.guardN rfl rfl rfl ?_)
    | (refine SO.loadW rfl (by repeat constructor) rfl rfl rfl (by rfl) rfl ?_)
    | (refine SO.load rfl (by repeat constructor) rfl (by rfl) (by exact ⟨rfl, by first | exact fun _ => rfl | exact (fun h => by cases h)⟩) rfl ?_)
    | (refine SO.loadR rfl (by repeat constructor) rfl (by rfl) (by exact ⟨rfl, by first | exact fun _ => rfl | exact (fun h => by cases h)⟩) rfl ?_)
    | (refine SO.field rfl rfl rfl rfl (by exact ⟨rfl, by first | exact fun _ => rfl | exact (fun h => by cases h)⟩) rfl ?_)
    | (refine SO.build rfl rfl rfl rfl ?_)
    | (refine SO.index rfl rfl (by repeat constructor) rfl rfl rfl rfl (by first | assumption | omega | exact Nat.le_of_ble_eq_true rfl) (fun v hv => ?_))
    | (refine SO.indexW rfl rfl (by repeat constructor) rfl rfl rfl rfl (by first | assumption | omega | exact Nat.le_of_ble_eq_true rfl) (fun v hv => ?_))
    | (refine SO.slice (k1 := .i64) (k2 := .i64) rfl rfl rfl (by repeat constructor) rfl rfl (by rfl) rfl (by exact .inr ⟨rfl, rfl⟩) (by exact .inl rfl) (by omega) (by omega) (by assumption) (fun As cs hcs => ?_))
    | (refine SO.efield rfl rfl rfl rfl rfl ?_)
    | (refine SO.eloadW rfl (by repeat constructor) (by assumption) rfl (by rfl) rfl (by rfl) rfl (fun hid => ?_))
    | (refine SO.eload rfl (by repeat constructor) (by assumption) rfl (by rfl) (by exact fun _ => ⟨rfl, fun _ => rfl⟩) rfl (fun hid => ?_))
    | (refine SK.seq ?_)
    | (refine SK.region ?_)
    | (refine SK.condT rfl ?_)
    | (refine SK.condF rfl ?_)
    | (refine SK.skip ?_)
    | (refine SK.block ?_)
    | (refine SK.blk ?_)
    | (refine SK.exit rfl ?_)
    | (refine SO.alloc rfl rfl rfl (fun b => ?_))
    | (refine SO.box rfl rfl rfl (fun b => ?_))
    | (refine SO.storeW rfl rfl (by repeat constructor) rfl (by rfl) (by rfl) (by rfl) ?_)
    | (refine SO.store rfl rfl (by repeat constructor) rfl (by rfl) rfl rfl (by rfl) (by rfl) ?_)
    | (refine SO.buildSlice rfl rfl rfl rfl rfl rfl (fun b => ?_))
    | (refine SO.guardYP rfl rfl (by first | assumption | (simp only [decide_eq_true_eq, decide_eq_false_iff_not, Bool.not_eq_true', Bool.not_eq_false', Bool.not_true, Bool.not_false, Bool.not_not]; omega)) ?_)
    | (refine SO.guardNP rfl rfl rfl (by first | assumption | (simp only [decide_eq_true_eq, decide_eq_false_iff_not, Bool.not_eq_true', Bool.not_eq_false', Bool.not_true, Bool.not_false, Bool.not_not]; omega)) ?_)
    | (refine SK.condTP rfl (by first | assumption | (simp only [decide_eq_true_eq, decide_eq_false_iff_not, Bool.not_eq_true', Bool.not_eq_false', Bool.not_true, Bool.not_false, Bool.not_not]; omega)) ?_)
    | (refine SK.condFP rfl (by first | assumption | (simp only [decide_eq_true_eq, decide_eq_false_iff_not, Bool.not_eq_true', Bool.not_eq_false', Bool.not_true, Bool.not_false, Bool.not_not]; omega)) ?_)
    | (refine SO.guard rfl rfl rfl (fun h => ?_) (fun h => ?_))
    | (refine SK.cond rfl (fun h => ?_) (fun h => ?_)))
      refine SK.inv ⟨⟨(i + 1, A2, c2), by omega⟩, ?_, ⟨?_, ?_⟩, ?_⟩
      · show l.length - (i + 1) < l.length - i
        omega
      · simp only [TT.get_cons, putD]
        simp [hw]
      · dsimp only
        rw [e2]
        repeat constructor
      · show Ent _ [sqAt false RFl A2 (lkA l (i + 1)).length c2 (lkA l (i + 1)), slAt REv A l.length l]
        rw [e2, e]
        exact ent_append_of_takes (by repeat constructor)
    · have hkd : kind ((l.drop 0).take (i - 0)) v = kind (l.take i) v := by simp
      have he : kind (l.take i) v = 0 := by rw [← hkd]; simpa using h
      have hv2 : v.put = false := by assumption
      have e : lkA l (i + 1) = lkA l i := by rw [lkA_step hv]; simp [lookF, hv2, he]
      refine SK.inv ⟨⟨(i + 1, A1, c1), by omega⟩, ?_, ⟨?_, ?_⟩, ?_⟩
      · show l.length - (i + 1) < l.length - i
        omega
      · simp only [TT.get_cons, putD]
        simp [hw]
      · dsimp only
        rw [e]
        repeat constructor
      · show Ent _ [sqAt false RFl A1 (lkA l (i + 1)).length c1 (lkA l (i + 1)), slAt REv A l.length l]
        rw [e]
        exact ent_append_of_takes (by repeat constructor)
  · simp only [decide_eq_false_iff_not] at h
    obtain rfl : i = l.length := by omega
    have e : lkA l l.length = Go.Hist.look l := by unfold lkA Go.Hist.look; rw [List.take_length]
    rw [e]
    refine SK.readable .here ?_
    exact SK.retX (.tmp rfl .nil) (A1, c1) trivial rfl (by repeat constructor)
end Go.Proofs
