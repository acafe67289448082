/- A part of a proof: what functions of the program compute. -/
import Derived.Test.YtmbfcjffjgecjaaGreatDoorLib1
import Derived.Test.YtmbfcjffjgecjaaGreatDoorTabE
set_option linter.unusedVariables false
set_option linter.unusedSimpArgs false
set_option maxHeartbeats 0
namespace Go.Proofs
attribute [local irreducible] Go.Sl.SO Go.Sl.SQ Go.Sl.SR Go.Sl.SC Go.Sl.eadr Go.Sl.slAt Go.Sl.sqAt Go.Sl.pts Go.Sl.rod Go.Sl.ob Go.Sl.ex Go.Sl.big Go.Sl.pr
open Go.Sl
theorem get_does (A : Option Addr) (n c : Nat) (l : List Int) (i : Int) : Does Tryz.prog 75 [.slice A n c, .int .i64 i] [slAt RI A n l] [] Unit (fun _ => True) (fun _ => .int .i64 (getI l i)) (fun _ => []) := by
  refine Does.of Tryz.call75 Tryz.func75 rfl rfl rfl (all_cons (pers_slAt _ _ _ _) all_nil) rfl ?_
  refine SK.know (sl_len (ρ := RI) (A := A) (n := n) (l := l) (by repeat constructor)) ?_
  rintro ⟨rfl, hlim, -⟩
  by_cases h1 : i < 0
  · repeat' (first
 | refine SO.pure rfl rfl rfl ?_
 | refine SO.nil ?_
 | refine SO.guardN rfl rfl rfl ?_
 | refine SK.seq ?_
 | refine SK.region ?_
 | refine SK.condT rfl ?_
 | refine SO.guardNP rfl rfl rfl (by first | assumption | (simp only [Go.Sl.bl]; omega)) ?_
 | fail)
    refine SK.retX (.tmp rfl .nil) () trivial ?_ (by repeat constructor)
    simp [tupV, getI, h1]
  · obtain ⟨j, rfl⟩ := Int.eq_ofNat_of_zero_le (Int.not_lt.1 h1)
    by_cases hj : j < l.length
    · repeat' (first
 | refine SO.pure rfl rfl rfl ?_
 | refine SO.nil ?_
 | refine SO.guardY rfl rfl ?_
 | refine SO.index rfl rfl (by repeat constructor) rfl rfl rfl rfl (by first | assumption | omega | exact Nat.le_of_ble_eq_true rfl | (simp only [decide_eq_true_eq, decide_eq_false_iff_not] at *; omega)) (fun v hv => ?_)
 | refine SO.eloadW rfl (by repeat constructor) (by assumption) rfl (by rfl) rfl (by rfl) rfl (fun hid => ?_)
 | refine SK.seq ?_
 | refine SK.region ?_
 | refine SK.skip ?_
 | refine SK.condFP rfl (by first | assumption | (simp only [Go.Sl.bl]; omega)) ?_
 | fail)
      refine SK.retX (.tmp rfl .nil) () trivial ?_ (by repeat constructor)
      show Value.int .i64 v = _
      rw [getI, if_neg (by omega)]
      simp [List.getD, hv]
    · repeat' (first
 | refine SO.pure rfl rfl rfl ?_
 | refine SO.nil ?_
 | refine SO.guardY rfl rfl ?_
 | refine SK.seq ?_
 | refine SK.region ?_
 | refine SK.condTP rfl (by first | assumption | (simp only [Go.Sl.bl]; omega)) ?_
 | fail)
      refine SK.retX (.tmp rfl .nil) () trivial ?_ (by repeat constructor)
      simp [tupV, getI, List.getD, List.getElem?_eq_none (Nat.le_of_not_lt hj)]
theorem nziter (b1 : Nat) (A : Option Addr) (n c : Nat) (l : List Int) :
    Iter Tryz.prog 168 [.pointer (some ⟨b1, 0, none⟩)] ENz (nzF 0 l) [slAt RI A n l] [pts b1 0 [.slice A n c]] (fun _ => []) [] := by
  intro q J Jx hy
  refine Does.of Tryz.call168 Tryz.func168 rfl rfl rfl (all_cons (pers_slAt _ _ _ _) all_nil) rfl ?_
  refine SK.know (sl_len (ρ := RI) (A := A) (n := n) (l := l) (by repeat constructor)) ?_
  rintro ⟨rfl, hla, -⟩
  repeat' (first
 | refine SO.pure rfl rfl rfl ?_
 | refine SO.nil ?_
 | refine SO.load rfl (by repeat constructor) rfl (by rfl) (by exact ⟨rfl, by first | exact fun _ => rfl | exact (fun h => by cases h)⟩) rfl ?_
 | refine SK.seq ?_
 | refine SK.region ?_
 | refine SK.block ?_
 | fail)
  refine SK.loop (X := {i : Nat // i ≤ l.length}) (fun i => [(7, .int .i64 (i.1 : Int)), (6, .int .i64 (l.length : Int)), (5, .slice A l.length c), (0, yv q)]) (fun i => [J (nzF 0 (l.take i.1)).length, slAt RI A l.length l]) (fun i => l.length - i.1) ⟨0, by omega⟩ (by repeat constructor) (ent_append_of_takes (by repeat constructor)) ?_
  rintro ⟨i, hi⟩
  repeat' (first
 | refine SO.pure rfl rfl rfl ?_
 | refine SO.nil ?_
 | refine SK.seq ?_
 | refine SK.region ?_
 | refine SK.skip ?_
 | refine SK.block ?_
 | refine SK.exit rfl ?_
 | refine SK.cond rfl (fun h => ?_) (fun h => ?_)
 | fail)
  · simp only [decide_eq_true_eq] at h
    have hil : i < l.length := by omega
    repeat' (first
 | refine SO.pure rfl rfl rfl ?_
 | refine SO.nil ?_
 | refine SO.guardY rfl rfl ?_
 | refine SO.guardN rfl rfl rfl ?_
 | refine SO.index rfl rfl (by repeat constructor) rfl rfl rfl rfl (by first | assumption | omega | exact Nat.le_of_ble_eq_true rfl | (simp only [decide_eq_true_eq, decide_eq_false_iff_not] at *; omega)) (fun v hv => ?_)
 | refine SO.eloadW rfl (by repeat constructor) (by assumption) rfl (by rfl) rfl (by rfl) rfl (fun hid => ?_)
 | refine SK.seq ?_
 | refine SK.region ?_
 | refine SK.condF rfl ?_
 | refine SK.skip ?_
 | refine SK.blk ?_
 | refine SO.guard rfl rfl rfl (fun h => ?_) (fun h => ?_)
 | fail)
    · have hs : v ≠ 0 := by simpa using h
      have hY := hy (nzF 0 (l.take i)).length (i, v) hid (nzF_get hv hs)
      refine SO.callF (vs := ENz.args (i, v) hid) rfl rfl hY (by repeat constructor) (by repeat constructor) rfl (fun r hr => ?_)
      have hk : (nzF 0 (l.take (i + 1))).length = (nzF 0 (l.take i)).length + 1 := by
        rw [nzF_take (by exact hv)]; simp [nzF, hs]
      have hlt := (List.getElem?_eq_some_iff.1 (nzF_get hv hs)).1
      have hw := wrap_nat (show i < lim by omega)
      cases r
      · repeat' (first
 | refine SO.pure rfl rfl rfl ?_
 | refine SO.nil ?_
 | refine SO.guardY rfl rfl ?_
 | refine SK.condT rfl ?_
 | fail)
        exact SK.retX .nil (some (nzF 0 (l.take i)).length) (fun i h => by cases h; exact hlt) rfl (by repeat constructor)
      · repeat' (first
 | refine SO.pure rfl rfl rfl ?_
 | refine SO.nil ?_
 | refine SO.guardY rfl rfl ?_
 | refine SK.region ?_
 | refine SK.condF rfl ?_
 | refine SK.skip ?_
 | refine SK.blk ?_
 | fail)
        refine SK.inv ⟨⟨i + 1, by omega⟩, ?_, ⟨?_, by repeat constructor⟩, ?_⟩
        · show l.length - (i + 1) < l.length - i
          omega
        · simp only [TT.get_cons, putD]
          simp [hw]
        · show Ent _ [J (nzF 0 (l.take (i + 1))).length, slAt RI A l.length l]
          rw [hk]
          exact ent_append_of_takes (by repeat constructor)
    · have hs : v = 0 := by simpa using h
      have hk : (nzF 0 (l.take (i + 1))).length = (nzF 0 (l.take i)).length := by
        rw [nzF_take (by exact hv)]; simp [nzF, hs]
      have hw := wrap_nat (show i < lim by omega)
      refine SK.inv ⟨⟨i + 1, by omega⟩, ?_, ⟨?_, by repeat constructor⟩, ?_⟩
      · show l.length - (i + 1) < l.length - i
        omega
      · simp only [TT.get_cons, putD]
        simp [hw]
      · show Ent _ [J (nzF 0 (l.take (i + 1))).length, slAt RI A l.length l]
        rw [hk]
        exact ent_append_of_takes (by repeat constructor)
  · simp only [decide_eq_false_iff_not] at h
    obtain rfl : i = l.length := by omega
    simp only [List.take_length]
    exact SK.endX .nil none (fun _ h => by cases h) rfl (by repeat constructor)
theorem all_does (A : Option Addr) (n c : Nat) : Does Tryz.prog 147 [.slice A n c] [] [] Nat (fun _ => True) (fun b => .func (.func 168) #[] #[.pointer (some ⟨b, 0, none⟩)]) (fun b => [pts b 0 [.slice A n c]]) := by
  refine Does.of Tryz.call147 Tryz.func147 rfl rfl rfl all_nil rfl ?_
  repeat' (first
 | refine SO.pure rfl rfl rfl ?_
 | refine SO.nil ?_
 | refine SK.seq ?_
 | refine SK.region ?_
 | refine SO.box rfl rfl rfl (fun b => ?_)
 | fail)
  exact SK.retX (.tmp rfl .nil) _ trivial rfl (by repeat constructor)
theorem vcheck_does (A : Option Addr) (n c : Nat) (l : List Int) (m : Int) : Does Tryz.prog 136 [.slice A n c, .int .i64 m] [slAt RI A n l] [] Unit (fun _ => True) (fun _ => .int .i64 (checkV l m)) (fun _ => []) := by
  refine Does.of Tryz.call136 Tryz.func136 rfl rfl rfl (all_cons (pers_slAt _ _ _ _) all_nil) rfl ?_
  refine SK.know (sl_len (ρ := RI) (A := A) (n := n) (l := l) (by repeat constructor)) ?_
  rintro ⟨rfl, hla, -⟩
  repeat' (first
 | refine SO.call (all_does _ _ _) rfl rfl rfl (by repeat constructor) (by repeat constructor) rfl (fun x hx => ?_)
 | refine SO.pure rfl rfl rfl ?_
 | refine SO.nil ?_
 | refine SO.guardY rfl rfl ?_
 | refine SO.guardN rfl rfl rfl ?_
 | refine SK.seq ?_
 | refine SK.region ?_
 | refine SK.condT rfl ?_
 | refine SK.skip ?_
 | refine SK.block ?_
 | refine SK.blk ?_
 | refine SO.alloc rfl rfl rfl (fun b => ?_)
 | refine SO.storeW rfl rfl (by repeat constructor) rfl (by rfl) (by rfl) (by rfl) ?_
 | refine SO.guard rfl rfl rfl (fun h => ?_) (fun h => ?_)
 | refine SK.cond rfl (fun h => ?_) (fun h => ?_)
 | fail)
  · refine SK.retX (.cell rfl (by repeat constructor) rfl rfl (by exact ⟨rfl, fun _ => rfl⟩) .nil) () trivial ?_ (by repeat constructor)
    have : checkV l m = 1 := by unfold checkV; rw [if_pos]; simp at h; omega
    rw [this]; rfl
  · refine SK.retX (.cell rfl (by repeat constructor) rfl rfl (by exact ⟨rfl, fun _ => rfl⟩) .nil) () trivial ?_ (by repeat constructor)
    rename_i h1 h2
    have : checkV l m = 4 := by
      simp at h h1 h2
      unfold checkV; rw [if_neg (by omega), if_pos (by omega)]
    rw [this]; rfl
  · rename_i h1 h2
    have hcv : checkV l m = vecBad l := by
      simp at h h1 h2
      unfold checkV; rw [if_neg (by omega), if_neg (by omega)]
    refine SK.shift (fun F w hst => hst.ent (Ent.cons (ent_pr (p := badNz ((nzF 0 l).take 0) = 0) (by simp [badNz])))) ?_
    refine SK.range (nziter x A l.length c l) {v : Int // vecBad l = v} (fun i => [pts b 0 [.int .i64 0], pr (badNz ((nzF 0 l).take i) = 0)]) (fun y => [pts b 0 [.int .i64 y.1]]) (fun _ => .ret) rfl (by repeat constructor) (by repeat constructor) rfl (fun _ _ => rfl) ?_ ?_ ?_
    · rintro i ⟨j, v⟩ hid q R hv
      refine SK.openPr (.there .here) (fun h0 => ?_)
      dsimp only
      repeat' (first
 | refine SO.pure rfl rfl rfl ?_
 | refine SO.nil ?_
 | refine SK.region ?_
 | fail)
      refine SK.inv ?_
      repeat' (first
 | refine SO.pure rfl rfl rfl ?_
 | refine SO.nil ?_
 | refine SK.seq ?_
 | refine SK.region ?_
 | refine SK.skip ?_
 | refine SK.block ?_
 | refine SK.blk ?_
 | refine SO.storeW rfl rfl (by repeat constructor) rfl (by rfl) (by rfl) (by rfl) ?_
 | refine SK.cond rfl (fun h => ?_) (fun h => ?_)
 | fail)
      · have hb : vecBad l = 1 := by
          rw [← bad_nz l 0, badNz_take _ i h0 _ hv, if_pos (of_decide_eq_true h)]
        exact SK.ret ⟨⟨1, hb⟩, rfl, ent_append_of_takes (by repeat constructor)⟩
      · rename_i h3
        have hb : vecBad l = 4 := by
          rw [← bad_nz l 0, badNz_take _ i h0 _ hv, if_neg (of_decide_eq_false h3), if_pos (of_decide_eq_true h)]
        exact SK.ret ⟨⟨4, hb⟩, rfl, ent_append_of_takes (by repeat constructor)⟩
      · rename_i h3
        have := badNz_step hv h0 (of_decide_eq_false h3) (of_decide_eq_false h)
        exact SK.nil ((ent_prs (p := badNz ((nzF 0 l).take (i + 1)) = 0) this (Ent.refl _)).trans (ent_append_of_takes (by repeat constructor)))
    · refine SK.blk ?_
      refine SK.openPr (.there .here) (fun h0 => ?_)
      rw [List.take_length, bad_nz] at h0
      repeat' (first
 | refine SO.nil ?_
 | refine SK.seq ?_
 | refine SK.region ?_
 | refine SO.storeW rfl rfl (by repeat constructor) rfl (by rfl) (by rfl) (by rfl) ?_
 | fail)
      refine SK.retX (.cell rfl (by repeat constructor) rfl rfl (by exact ⟨rfl, fun _ => rfl⟩) .nil) () trivial ?_ (by repeat constructor)
      rw [hcv, h0]; rfl
    · rintro ⟨y, hy⟩ i _
      refine SK.retX (.cell rfl (by repeat constructor) rfl rfl (by exact ⟨rfl, fun _ => rfl⟩) .nil) () trivial ?_ (by repeat constructor)
      show Value.int .i64 y = Value.int .i64 (checkV l m)
      rw [hcv, hy]
  · refine SK.retX (.cell rfl (by repeat constructor) rfl rfl (by exact ⟨rfl, fun _ => rfl⟩) .nil) () trivial ?_ (by repeat constructor)
    have : checkV l m = 1 := by unfold checkV; rw [if_pos]; simp at h; omega
    rw [this]; rfl
end Go.Proofs
