/- A part of a proof: what functions of the program compute. -/
import Derived.Test.YtbaalaaoggplmaaDoorFilter2D
import Derived.Test.YtbaalaaoggplmaaDoorLib1
set_option linter.unusedVariables false
set_option linter.unusedSimpArgs false
set_option maxHeartbeats 0
namespace Go.Sl
/-- What has been taken so far. -/
def tkJ (b7 : Nat) (xs : List Rc) (i : Nat) : HP := ex fun x : Pl => big [pts b7 0 [.slice x.1 (xs.take i).length x.2], sqAt false RRec x.1 (xs.take i).length x.2 (xs.take i)]
end Go.Sl
namespace Go.Proofs
attribute [local irreducible] Go.Sl.SO Go.Sl.SQ Go.Sl.SR Go.Sl.SC Go.Sl.eadr Go.Sl.slAt Go.Sl.sqAt Go.Sl.pts Go.Sl.rod Go.Sl.ob Go.Sl.ex Go.Sl.big Go.Sl.pr Go.Sl.tabs Go.Sl.mpAt
open Go.Sl

theorem taken_does (bf mb : Nat) (s : FS) (m : Int) (hn : 0 ≤ s.next ∧ s.next < 4611686018427387904) (hl : s.held.length < lim) : Does Tryd.prog 15 [.pointer (some ⟨bf, 0, none⟩), .int .i64 m] [] (fAt bf mb s) Pl (fun x => ((readyF s).take m.toNat).length ≤ x.2) (fun x => .tuple #[.slice x.1 ((readyF s).take m.toNat).length x.2, .bool true])
    (fun x => slAt RRec x.1 ((readyF s).take m.toNat).length ((readyF s).take m.toNat) :: fAt bf mb (afterF s ((readyF s).take m.toNat).length)) := by
  refine Does.of Tryd.call15 Tryd.func15 rfl rfl rfl all_nil rfl ?_
  have hlen := ready_len s
  have hit := fun bx => riter bx bf mb s hn (by omega)
  revert hit
  generalize readyF s = xs at *
  intro hit
  repeat' (first
    | (refine SO.call (ready_does _) rfl rfl rfl (by repeat constructor) (by repeat constructor) rfl (fun x hx => ?_))
    | (refine SO.pure rfl rfl rfl ?_)
    | (refine SO.pure2 rfl rfl rfl ?_)
    | (refine SO.nil ?_)
    | (refine SO.load rfl (by repeat constructor) rfl (by rfl) (by exact ⟨rfl, by first | exact fun _ => rfl | exact (fun h => by cases h)⟩) rfl ?_)
    | (refine SK.seq ?_)
    | (refine SK.region ?_)
    | (refine SK.condF rfl ?_)
    | (refine SK.skip ?_)
    | (refine SK.block ?_)
    | (refine SO.alloc rfl rfl rfl (fun b => ?_))
    | (refine SO.box rfl rfl rfl (fun b => ?_))
    | (refine SO.storeW rfl rfl (by repeat constructor) rfl (by rfl) (by rfl) (by rfl) ?_)
    | (refine SK.cond rfl (fun h => ?_) (fun h => ?_))
    | fail)
  · have h0 : m.toNat = 0 := by have := of_decide_eq_true h; omega
    rw [h0, List.take_zero]
    refine SK.ret ⟨_, .cell rfl (by repeat constructor) rfl rfl (by exact ⟨rfl, fun _ => rfl⟩) (.cell rfl (by repeat constructor) rfl rfl (by exact ⟨rfl, fun _ => rfl⟩) .nil), (none, 0), Nat.le_refl 0, rfl, ?_⟩
    exact (ent_triv (A := slAt RRec none 0 [])).trans (ent_append_of_takes (by unfold fAt; repeat constructor))
  · rename_i b3 b4 b5
    have hm : 0 < m := by have := of_decide_eq_false h; omega
    refine SK.shift (fun F w hst => hst.ent (Ent.cons ((ent_triv (A := sqAt false RRec none 0 0 [])).trans (ent_closeR (R := []) (A := fun x : Pl => big [pts b 0 [.slice x.1 (xs.take 0).length x.2], sqAt false RRec x.1 (xs.take 0).length x.2 (xs.take 0)]) (x := ((none, 0) : Pl)) rfl (by repeat constructor))))) ?_
    refine SK.shift (fun F w hst => hst.ent (Ent.cons (ent_pr (p := ((0 : Nat) : Int) < m) hm))) ?_
    refine SK.rangeI (hit x) Pl (fun i => [pr ((i : Int) < m), tkJ b xs i, pts b3 0 [.int .i64 m], pts b4 0 [.slice none 0 0], pts b5 0 [.bool false]])
      (fun i y => [pr (m = (i : Int) + 1), sqAt false RRec y.1 (i + 1) y.2 (xs.take (i + 1)), pts b4 0 [.slice y.1 (i + 1) y.2], pts b5 0 [.bool true]]) (fun _ => .ret) rfl (by repeat constructor) (by unfold fAt; repeat constructor) rfl (fun _ _ => rfl) ?_ ?_ ?_
    · rintro i r hid q R hr
      have hil : i < xs.length := (List.getElem?_eq_some_iff.1 hr).1
      have hti : (xs.take i).length = i := by rw [List.length_take]; omega
      have e1 : xs.take (i + 1) = xs.take i ++ [r] := by rw [List.take_add_one, hr]; rfl
      refine SK.openPr (.there (.there .here)) (fun him => ?_)
      unfold tkJ
      refine SK.openEx (.there (.there .here)) (fun x2 => ?_)
      refine SK.openBig .here ?_
      rw [hti]
      repeat' (first
    | (refine SO.nil ?_)
    | (refine SK.region ?_)
    | (refine SO.alloc rfl rfl rfl (fun b => ?_))
    | (refine SO.storeW rfl rfl (by repeat constructor) rfl (by rfl) (by rfl) (by rfl) ?_)
    | fail)
      refine SK.inv ?_
      repeat' (first
    | (refine SO.loadW rfl (by repeat constructor) rfl rfl rfl (by rfl) rfl ?_)
    | (refine SO.load rfl (by repeat constructor) rfl (by rfl) (by exact ⟨rfl, by first | exact fun _ => rfl | exact (fun h => by cases h)⟩) rfl ?_)
    | (refine SK.seq ?_)
    | (refine SK.region ?_)
    | (refine SK.block ?_)
    | (refine SO.buildSlice rfl rfl rfl rfl rfl rfl (fun b => ?_))
    | fail)
      refine SO.append (ρ := RRec) (w := false) (ys := [r]) rfl rfl (by repeat constructor) (Src.one (h := hid) (by repeat constructor) (by rfl) (by repeat constructor)) rfl rfl rfl rfl rfl rfl rfl (by omega) (fun A3 c3 => ?_)
      repeat' (first
    | (refine SO.pure rfl rfl rfl ?_)
    | (refine SO.nil ?_)
    | (refine SO.load rfl (by repeat constructor) rfl (by rfl) (by exact ⟨rfl, by first | exact fun _ => rfl | exact (fun h => by cases h)⟩) rfl ?_)
    | (refine SK.seq ?_)
    | (refine SK.region ?_)
    | (refine SK.skip ?_)
    | (refine SK.blk ?_)
    | (refine SO.storeW rfl rfl (by repeat constructor) rfl (by rfl) (by rfl) (by rfl) ?_)
    | (refine SK.cond rfl (fun h => ?_) (fun h => ?_))
    | fail)
      · have hmi : m = (i : Int) + 1 := by have := of_decide_eq_true h; omega
        refine SK.ret ⟨(A3, c3), rfl, ?_⟩
        rw [e1]
        exact (ent_pr (p := m = (i : Int) + 1) hmi).trans (ent_append_of_takes (by repeat constructor))
      · have hmi : ((i + 1 : Nat) : Int) < m := by have := of_decide_eq_false h; omega
        refine SK.nil ?_
        have hti1 : (xs.take (i + 1)).length = i + 1 := by rw [List.length_take]; omega
        rw [hti1, e1]
        show Ent _ (busyA q R :: _)
        refine (ent_pr (p := ((i + 1 : Nat) : Int) < m) hmi).trans ?_
        refine Ent.trans ?_ (Ent.trans Ent.swap (Ent.cons Ent.swap))
        exact ent_close (x := ((A3, c3) : Pl)) rfl (by repeat constructor)
    · refine SK.blk ?_
      unfold tkJ
      refine SK.openPr .here (fun him => ?_)
      refine SK.openEx .here (fun x2 => ?_)
      refine SK.openBig .here ?_
      rw [List.take_length]
      have ht : xs.take m.toNat = xs := List.take_of_length_le (by omega)
      rw [ht]
      repeat' (first
    | (refine SO.nil ?_)
    | (refine SO.load rfl (by repeat constructor) rfl (by rfl) (by exact ⟨rfl, by first | exact fun _ => rfl | exact (fun h => by cases h)⟩) rfl ?_)
    | (refine SK.seq ?_)
    | (refine SK.region ?_)
    | (refine SO.storeW rfl rfl (by repeat constructor) rfl (by rfl) (by rfl) (by rfl) ?_)
    | fail)
      refine SK.know (sq_len (w := false) (ρ := RRec) (A := x2.1) (n := xs.length) (c := x2.2) (l := xs) (by repeat constructor)) ?_
      rintro ⟨-, -, hc, -⟩
      refine SK.readable (ρ := RRec) (A := x2.1) (n := xs.length) (m := x2.2) (l := xs) (by repeat constructor) ?_
      exact SK.retX (.cell rfl (by repeat constructor) rfl rfl (by exact ⟨rfl, fun _ => rfl⟩) (.cell rfl (by repeat constructor) rfl rfl (by exact ⟨rfl, fun _ => rfl⟩) .nil)) x2 hc rfl (by unfold fAt; repeat constructor)
    · rintro y i hi
      refine SK.openPr .here (fun hmi => ?_)
      have ht : m.toNat = i + 1 := by omega
      rw [ht]
      have hti1 : (xs.take (i + 1)).length = i + 1 := by rw [List.length_take]; omega
      rw [hti1]
      refine SK.know (sq_len (w := false) (ρ := RRec) (A := y.1) (n := i + 1) (c := y.2) (l := xs.take (i + 1)) (by repeat constructor)) ?_
      rintro ⟨-, -, hc, -⟩
      refine SK.readable (ρ := RRec) (A := y.1) (n := i + 1) (m := y.2) (l := xs.take (i + 1)) (by repeat constructor) ?_
      exact SK.retX (.cell rfl (by repeat constructor) rfl rfl (by exact ⟨rfl, fun _ => rfl⟩) (.cell rfl (by repeat constructor) rfl rfl (by exact ⟨rfl, fun _ => rfl⟩) .nil)) y hc rfl (by unfold fAt; repeat constructor)
end Go.Proofs
