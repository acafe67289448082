/- A part of a proof: what functions of the program compute. -/
import Derived.Test.YtbaalaaoggplmaaDoorBook4D
import Derived.Test.YtbaalaaoggplmaaDoorLib2
import Derived.Test.YtbaalaaoggplmaaDoorLib1
set_option linter.unusedVariables false
set_option linter.unusedSimpArgs false
set_option maxHeartbeats 0
namespace Go.Proofs
attribute [local irreducible] Go.Sl.SO Go.Sl.SQ Go.Sl.SR Go.Sl.SC Go.Sl.SX Go.Sl.SY Go.Sl.eadr Go.Sl.slAt Go.Sl.sqAt Go.Sl.pts Go.Sl.rod Go.Sl.ob Go.Sl.ex Go.Sl.big Go.Sl.pr Go.Sl.tabs Go.Sl.mpAt
open Go.Sl
theorem bput_does (A : Option Addr) (n c : Nat) (l : List Cl) (r : Rc) (h : Pl) (hr : ris l) (hlim1 : l.length < lim) : Does Tryd.prog 31 [.slice A n c, RRec.val r h] [slAt RCl A n l] [] Pl (fun z => (putB l (clOf r)).length ≤ z.2) (fun z => .slice z.1 (putB l (clOf r)).length z.2) (fun z => [slAt RCl z.1 (putB l (clOf r)).length (putB l (clOf r))]) := by
  refine Does.of Tryd.call31 Tryd.func31 rfl rfl rfl (all_cons (pers_slAt _ _ _ _) all_nil) rfl ?_
  refine SK.know (sl_len (ρ := RCl) (A := A) (n := n) (l := l) (by repeat constructor)) ?_
  rintro ⟨rfl, hlim, -⟩
  have hpl := posB_le l r.key
  repeat' (first
    | (refine SO.call (find_does A l.length c l r.key hr) rfl rfl rfl (by repeat constructor) (by repeat constructor) rfl (fun x hx => ?_))
    | (refine SO.call (clone_does A l.length c l) rfl rfl rfl (by repeat constructor) (by repeat constructor) rfl (fun x hx => ?_))
    | (refine SO.pure rfl rfl rfl ?_)
    | (refine SO.nil ?_)
    | (refine SO.load rfl (by repeat constructor) rfl (by rfl) (by exact ⟨rfl, by first | exact fun _ => rfl | exact (fun h => by cases h)⟩) rfl ?_)
    | (refine SO.build rfl rfl rfl rfl ?_)
    | (refine SK.seq ?_)
    | (refine SK.region ?_)
    | (refine SO.alloc rfl rfl rfl (fun b => ?_))
    | (refine SO.box rfl rfl rfl (fun b => ?_))
    | (refine SO.storeW rfl rfl (by repeat constructor) rfl (by rfl) (by rfl) (by rfl) ?_)
    | fail)
  cases hh : hasB l r.key with
  | true =>
    have hpl2 : posB l r.key < l.length := by
      unfold hasB at hh
      rcases Nat.lt_or_ge (posB l r.key) l.length with h | h
      · exact h
      · rw [List.getElem?_eq_none h] at hh; cases hh
    rw [show putB l (clOf r) = l.set (posB l r.key) (clOf r) by unfold putB; rw [if_pos (show hasB l (clOf r).key = true from hh)]; rfl, List.length_set]
    repeat' (first
    | (refine SO.estoreW (ρ := RCl) (h := ()) (u := clOf r) rfl rfl (by repeat constructor) (by repeat constructor) rfl rfl rfl (by omega) ?_)
    | (refine SO.pure rfl rfl rfl ?_)
    | (refine SO.nil ?_)
    | (refine SO.loadW rfl (by repeat constructor) rfl rfl rfl (by rfl) rfl ?_)
    | (refine SO.indexW rfl rfl (by repeat constructor) rfl rfl rfl rfl (by first | assumption | omega | exact Nat.le_of_ble_eq_true rfl | (simp only [decide_eq_true_eq, decide_eq_false_iff_not] at *; omega)) (fun v hv => ?_))
    | (refine SK.seq ?_)
    | (refine SK.region ?_)
    | (refine SK.condT rfl ?_)
    | fail)
    refine SK.share (ρ := RCl) (by repeat constructor) ?_
    rename_i z hz
    exact SK.retX (.tmp rfl .nil) z hz rfl (by repeat constructor)
  | false =>
    have hle : (l.take (posB l r.key) ++ clOf r :: l.drop (posB l r.key)).length = l.length + 1 := by
      rw [List.length_append, List.length_cons, List.length_take, List.length_drop]; omega
    rw [show putB l (clOf r) = l.take (posB l r.key) ++ clOf r :: l.drop (posB l r.key) by unfold putB; rw [if_neg (show ¬ hasB l (clOf r).key = true by rw [show (clOf r).key = r.key from rfl, hh]; simp)]; rfl, hle]
    repeat' (first
    | (refine SO.buildSliceP rfl rfl rfl rfl rfl rfl (fun vb => ?_))
    | (refine SO.call (insert_does _ _ _ _ _ l (clOf r) hpl hlim1) rfl rfl rfl (by repeat constructor) (by repeat constructor) rfl (fun x hx => ?_))
    | (refine SO.pure rfl rfl rfl ?_)
    | (refine SO.nil ?_)
    | (refine SO.loadW rfl (by repeat constructor) rfl rfl rfl (by rfl) rfl ?_)
    | (refine SK.seq ?_)
    | (refine SK.region ?_)
    | (refine SK.condF rfl ?_)
    | (refine SK.skip ?_)
    | fail)
    refine SK.share (ρ := RCl) (by repeat constructor) ?_
    exact SK.retX (.tmp rfl .nil) x hx rfl (by repeat constructor)
end Go.Proofs
