/- A part of a proof: what functions of the program compute. -/
import Derived.Test.YtbaalaaoggplmaaDoorBook5D
set_option linter.unusedVariables false
set_option linter.unusedSimpArgs false
set_option maxHeartbeats 0
namespace Go.Proofs
attribute [local irreducible] Go.Sl.SO Go.Sl.SQ Go.Sl.SR Go.Sl.SC Go.Sl.SX Go.Sl.SY Go.Sl.eadr Go.Sl.slAt Go.Sl.sqAt Go.Sl.pts Go.Sl.rod Go.Sl.ob Go.Sl.ex Go.Sl.big Go.Sl.pr Go.Sl.tabs Go.Sl.mpAt
open Go.Sl
theorem numbered_does (A : Option Addr) (n c : Nat) : Does Tryd.prog 41 [.slice A n c] [] [] Nat (fun _ => True) (fun x => .func (.func 60) #[] #[.pointer (some ⟨x, 0, none⟩)]) (fun x => [pts x 0 [.slice A n c]]) := by
  refine Does.of Tryd.call41 Tryd.func41 rfl rfl rfl all_nil rfl ?_
  repeat' (first
    | (refine SO.pure rfl rfl rfl ?_)
    | (refine SO.nil ?_)
    | (refine SK.seq ?_)
    | (refine SK.region ?_)
    | (refine SO.box rfl rfl rfl (fun b => ?_))
    | fail)
  exact SK.retX (.tmp rfl .nil) _ trivial rfl (by repeat constructor)
theorem ball_does (A : Option Addr) (n c : Nat) : Does Tryd.prog 49 [.slice A n c] [] [] Nat (fun _ => True) (fun x => .func (.func 66) #[] #[.pointer (some ⟨x, 0, none⟩)]) (fun x => [pts x 0 [.slice A n c]]) := by
  refine Does.of Tryd.call49 Tryd.func49 rfl rfl rfl all_nil rfl ?_
  repeat' (first
    | (refine SO.pure rfl rfl rfl ?_)
    | (refine SO.nil ?_)
    | (refine SK.seq ?_)
    | (refine SK.region ?_)
    | (refine SO.box rfl rfl rfl (fun b => ?_))
    | fail)
  exact SK.retX (.tmp rfl .nil) _ trivial rfl (by repeat constructor)
theorem numiter (bx : Nat) (A : Option Addr) (n c : Nat) (l : List Rc) : Iter Tryd.prog 60 [.pointer (some ⟨bx, 0, none⟩)] ENum l.zipIdx [slAt RRec A n l] [pts bx 0 [.slice A n c]] (fun _ => []) [] := by
  intro q J Jx hy
  refine Does.of Tryd.call60 Tryd.func60 rfl rfl rfl (all_cons (pers_slAt _ _ _ _) all_nil) rfl ?_
  refine SK.know (sl_len (ρ := RRec) (A := A) (n := n) (l := l) (by repeat constructor)) ?_
  rintro ⟨rfl, hlim, -⟩
  have hzl : l.zipIdx.length = l.length := by simp
  repeat' (first
    | (refine SO.pure rfl rfl rfl ?_)
    | (refine SO.nil ?_)
    | (refine SK.seq ?_)
    | (refine SK.region ?_)
    | (refine SK.block ?_)
    | fail)
  refine SK.loop (X := {i : Nat // i ≤ l.length}) (fun i => [(3, .int .i64 (i.1 : Int)), (1, .pointer (some ⟨bx, 0, none⟩)), (0, yv q)]) (fun i => [J i.1, pts bx 0 [.slice A l.length c], slAt RRec A l.length l]) (fun i => l.length - i.1) ⟨0, by omega⟩ (by repeat constructor) (ent_append_of_takes (by repeat constructor)) ?_
  rintro ⟨i, hi⟩
  dsimp only
  have hwi := wrapn (show i ≤ lim by omega)
  rcases Nat.lt_or_ge i l.length with hil | hil
  · have hd1 : decide ((i : Int) < (l.length : Int)) = true := decide_eq_true (by omega)
    obtain ⟨u, hu⟩ : ∃ u, l[i]? = some u := ⟨_, List.getElem?_eq_getElem hil⟩
    repeat' (first
    | (refine SO.indexH rfl rfl (by repeat constructor) rfl rfl rfl rfl (by assumption) ?_)
    | (refine SO.pure rfl rfl rfl ?_)
    | (refine SO.nil ?_)
    | (refine SO.load rfl (by repeat constructor) rfl (by rfl) (by exact ⟨rfl, by first | exact fun _ => rfl | exact (fun h => by cases h)⟩) rfl ?_)
    | (refine SO.eloadW rfl (by repeat constructor) (by assumption) rfl (by rfl) rfl (by rfl) rfl (fun hid => ?_))
    | (refine SK.seq ?_)
    | (refine SK.region ?_)
    | (refine SK.skip ?_)
    | (refine SK.block ?_)
    | (refine SK.condTP rfl (by first | assumption | (simp only [decide_eq_true_eq, decide_eq_false_iff_not, Bool.not_eq_true', Bool.not_eq_false', Bool.not_true, Bool.not_false, Bool.not_not]; omega)) ?_)
    | fail)
    rw [hd1]
    skip
    have hY := hy i (u, i) hid (num_get hu)
    refine SO.callF (vs := ENum.args (u, i) hid) rfl rfl hY (by repeat constructor) (by repeat constructor) rfl (fun rr hrr => ?_)
    cases rr
    · repeat' (first
    | (refine SO.pure rfl rfl rfl ?_)
    | (refine SO.nil ?_)
    | (refine SK.condT rfl ?_)
    | fail)
      exact SK.retX .nil (some i) (fun j h => by cases h; omega) rfl (by repeat constructor)
    · repeat' (first
    | (refine SO.pure rfl rfl rfl ?_)
    | (refine SO.nil ?_)
    | (refine SK.region ?_)
    | (refine SK.condF rfl ?_)
    | (refine SK.skip ?_)
    | (refine SK.blk ?_)
    | fail)
      refine SK.inv ⟨⟨i + 1, by omega⟩, ?_, ?_, ?_⟩
      · show l.length - (i + 1) < l.length - i
        omega
      · rw [hwi]; repeat constructor
      · exact ent_append_of_takes (by repeat constructor)
  · have hd1 : decide ((i : Int) < (l.length : Int)) = false := decide_eq_false (by omega)
    obtain rfl : i = l.length := by omega
    repeat' (first
    | (refine SO.pure rfl rfl rfl ?_)
    | (refine SO.nil ?_)
    | (refine SO.load rfl (by repeat constructor) rfl (by rfl) (by exact ⟨rfl, by first | exact fun _ => rfl | exact (fun h => by cases h)⟩) rfl ?_)
    | (refine SK.seq ?_)
    | (refine SK.region ?_)
    | (refine SK.exit rfl ?_)
    | (refine SK.condFP rfl (by first | assumption | (simp only [decide_eq_true_eq, decide_eq_false_iff_not, Bool.not_eq_true', Bool.not_eq_false', Bool.not_true, Bool.not_false, Bool.not_not]; omega)) ?_)
    | fail)
    rw [hd1]
    skip
    rw [← hzl]
    exact SK.endX .nil none (fun _ h => by cases h) rfl (by repeat constructor)
theorem alliter (bx : Nat) (A : Option Addr) (n c : Nat) (l : List Cl) : Iter Tryd.prog 66 [.pointer (some ⟨bx, 0, none⟩)] EKV l [slAt RCl A n l] [pts bx 0 [.slice A n c]] (fun _ => []) [] := by
  intro q J Jx hy
  refine Does.of Tryd.call66 Tryd.func66 rfl rfl rfl (all_cons (pers_slAt _ _ _ _) all_nil) rfl ?_
  refine SK.know (sl_len (ρ := RCl) (A := A) (n := n) (l := l) (by repeat constructor)) ?_
  rintro ⟨rfl, hlim, -⟩
  repeat' (first
    | (refine SO.pure rfl rfl rfl ?_)
    | (refine SO.nil ?_)
    | (refine SO.load rfl (by repeat constructor) rfl (by rfl) (by exact ⟨rfl, by first | exact fun _ => rfl | exact (fun h => by cases h)⟩) rfl ?_)
    | (refine SK.seq ?_)
    | (refine SK.region ?_)
    | (refine SK.block ?_)
    | fail)
  refine SK.loop (X := {i : Nat // i ≤ l.length}) (fun i => [(7, .int .i64 (i.1 : Int)), (6, .int .i64 (l.length : Int)), (5, .slice A l.length c), (1, .pointer (some ⟨bx, 0, none⟩)), (0, yv q)]) (fun i => [J i.1, pts bx 0 [.slice A l.length c], slAt RCl A l.length l]) (fun i => l.length - i.1) ⟨0, by omega⟩ (by repeat constructor) (ent_append_of_takes (by repeat constructor)) ?_
  rintro ⟨i, hi⟩
  dsimp only
  have hwi := wrapn (show i ≤ lim by omega)
  rcases Nat.lt_or_ge i l.length with hil | hil
  · have hd1 : decide ((i : Int) < (l.length : Int)) = true := decide_eq_true (by omega)
    obtain ⟨u, hu⟩ : ∃ u, l[i]? = some u := ⟨_, List.getElem?_eq_getElem hil⟩
    repeat' (first
    | (refine SO.indexH rfl rfl (by repeat constructor) rfl rfl rfl rfl (by assumption) ?_)
    | (refine SO.pure rfl rfl rfl ?_)
    | (refine SO.nil ?_)
    | (refine SO.load rfl (by repeat constructor) rfl (by rfl) (by exact ⟨rfl, by first | exact fun _ => rfl | exact (fun h => by cases h)⟩) rfl ?_)
    | (refine SO.eloadW rfl (by repeat constructor) (by assumption) rfl (by rfl) rfl (by rfl) rfl (fun hid => ?_))
    | (refine SK.seq ?_)
    | (refine SK.region ?_)
    | (refine SK.skip ?_)
    | (refine SK.block ?_)
    | (refine SO.alloc rfl rfl rfl (fun b => ?_))
    | (refine SO.storeW rfl rfl (by repeat constructor) rfl (by rfl) (by rfl) (by rfl) ?_)
    | (refine SK.condTP rfl (by first | assumption | (simp only [decide_eq_true_eq, decide_eq_false_iff_not, Bool.not_eq_true', Bool.not_eq_false', Bool.not_true, Bool.not_false, Bool.not_not]; omega)) ?_)
    | fail)
    rw [hd1]
    skip
    have hY := hy i u () hu
    refine SO.callF (vs := EKV.args u ()) rfl rfl hY (by repeat constructor) (by repeat constructor) rfl (fun rr hrr => ?_)
    cases rr
    · repeat' (first
    | (refine SO.pure rfl rfl rfl ?_)
    | (refine SO.nil ?_)
    | (refine SK.condT rfl ?_)
    | fail)
      exact SK.retX .nil (some i) (fun j h => by cases h; omega) rfl (by repeat constructor)
    · repeat' (first
    | (refine SO.pure rfl rfl rfl ?_)
    | (refine SO.nil ?_)
    | (refine SK.region ?_)
    | (refine SK.condF rfl ?_)
    | (refine SK.skip ?_)
    | (refine SK.blk ?_)
    | fail)
      refine SK.inv ⟨⟨i + 1, by omega⟩, ?_, ?_, ?_⟩
      · show l.length - (i + 1) < l.length - i
        omega
      · rw [hwi]; repeat constructor
      · exact ent_append_of_takes (by repeat constructor)
  · have hd1 : decide ((i : Int) < (l.length : Int)) = false := decide_eq_false (by omega)
    obtain rfl : i = l.length := by omega
    repeat' (first
    | (refine SO.pure rfl rfl rfl ?_)
    | (refine SO.nil ?_)
    | (refine SK.seq ?_)
    | (refine SK.region ?_)
    | (refine SK.exit rfl ?_)
    | (refine SK.condFP rfl (by first | assumption | (simp only [decide_eq_true_eq, decide_eq_false_iff_not, Bool.not_eq_true', Bool.not_eq_false', Bool.not_true, Bool.not_false, Bool.not_not]; omega)) ?_)
    | fail)
    rw [hd1]
    skip
    exact SK.endX .nil none (fun _ h => by cases h) rfl (by repeat constructor)
end Go.Proofs
