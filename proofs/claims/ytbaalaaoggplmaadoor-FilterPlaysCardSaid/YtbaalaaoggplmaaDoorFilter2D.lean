/- A part of a proof: what functions of the program compute. -/
import Derived.Test.YtbaalaaoggplmaaDoorFilterD
set_option linter.unusedVariables false
set_option linter.unusedSimpArgs false
set_option maxHeartbeats 0
namespace Go.Proofs
attribute [local irreducible] Go.Sl.SO Go.Sl.SQ Go.Sl.SR Go.Sl.SC Go.Sl.eadr Go.Sl.slAt Go.Sl.sqAt Go.Sl.pts Go.Sl.rod Go.Sl.ob Go.Sl.ex Go.Sl.big Go.Sl.pr Go.Sl.tabs Go.Sl.mpAt
open Go.Sl

theorem r_does (n : Int) : Does Tryd.prog 14 [.int .i64 n] [] [] Unit (fun _ => True) (fun _ => RRec.val (rk n) (none, 0)) (fun _ => []) := by
  refine Does.of Tryd.call14 Tryd.func14 rfl rfl rfl all_nil rfl ?_
  repeat' (first
    | (refine SO.pure rfl rfl rfl ?_)
    | (refine SO.nil ?_)
    | (refine SO.build rfl rfl rfl rfl ?_)
    | (refine SK.seq ?_)
    | (refine SK.region ?_)
    | (refine SO.alloc rfl rfl rfl (fun b => ?_))
    | (refine SO.storeW rfl rfl (by repeat constructor) rfl (by rfl) (by rfl) (by rfl) ?_)
    | fail)
  exact SK.retX (.cell rfl (by repeat constructor) rfl rfl (by exact ⟨rfl, fun h => by cases h⟩) .nil) () trivial rfl (by repeat constructor)
theorem ready_does (b : Nat) : Does Tryd.prog 50 [.pointer (some ⟨b, 0, none⟩)] [] [] Nat (fun _ => True) (fun x => .func (.func 67) #[] #[.pointer (some ⟨x, 0, none⟩)]) (fun x => [pts x 0 [.pointer (some ⟨b, 0, none⟩)]]) := by
  refine Does.of Tryd.call50 Tryd.func50 rfl rfl rfl all_nil rfl ?_
  repeat' (first
    | (refine SO.pure rfl rfl rfl ?_)
    | (refine SO.nil ?_)
    | (refine SK.seq ?_)
    | (refine SK.region ?_)
    | (refine SO.box rfl rfl rfl (fun b => ?_))
    | fail)
  exact SK.retX (.tmp rfl .nil) _ trivial rfl (by repeat constructor)

theorem riter (bx b mb : Nat) (s : FS) (hn : 0 ≤ s.next ∧ s.next < 4611686018427387904) (hl : s.held.length ≤ lim) :
    Iter Tryd.prog 67 [.pointer (some ⟨bx, 0, none⟩)] ERec (readyF s) [] (pts bx 0 [.pointer (some ⟨b, 0, none⟩)] :: fAt b mb s) (fun i => fAt b mb (afterF s (i + 1))) (fAt b mb (afterF s (readyF s).length)) := by
  intro q J Jx hy
  refine Does.of Tryd.call67 Tryd.func67 rfl rfl rfl all_nil rfl ?_
  unfold fAt
  repeat' (first
    | (refine SK.block ?_)
    | fail)
  refine SK.loop (X := {i : Nat // i ≤ (readyF s).length}) (fun i => [(1, .pointer (some ⟨bx, 0, none⟩)), (0, yv q)]) (fun i => J i.1 :: pts bx 0 [.pointer (some ⟨b, 0, none⟩)] :: fAt b mb (afterF s i.1)) (fun i => (readyF s).length - i.1) ⟨0, by omega⟩ (by repeat constructor) (ent_append_of_takes (by unfold fAt; repeat constructor)) ?_
  rintro ⟨i, hi⟩
  dsimp only
  have hg := ready_get s i hi
  have hlen := ready_len s
  have hnx := after_next s i
  have hf := first_does b mb (afterF s i)
  cases hx : (readyF s)[i]? with
  | none =>
    have hil : i = (readyF s).length := by
      have := List.getElem?_eq_none_iff.1 hx; omega
    rw [hx] at hg
    have h2 : hasF (afterF s i) = false := by unfold hasF; rw [← hg]; rfl
    rw [h2] at hf
    repeat' (first
    | (refine SO.call (hf) rfl rfl rfl (by repeat constructor) (by repeat constructor) rfl (fun x hx => ?_))
    | (refine SO.pure rfl rfl rfl ?_)
    | (refine SO.nil ?_)
    | (refine SO.load rfl (by repeat constructor) rfl (by rfl) (by exact ⟨rfl, by first | exact fun _ => rfl | exact (fun h => by cases h)⟩) rfl ?_)
    | (refine SK.seq ?_)
    | (refine SK.region ?_)
    | (refine SK.condT rfl ?_)
    | (refine SK.block ?_)
    | (refine SO.alloc rfl rfl rfl (fun b => ?_))
    | (refine SO.storeW rfl rfl (by repeat constructor) rfl (by rfl) (by rfl) (by rfl) ?_)
    | fail)
    subst hil
    exact SK.retX .nil none (fun _ h => by cases h) rfl (by repeat constructor)
  | some r =>
    have hil : i < (readyF s).length := (List.getElem?_eq_some_iff.1 hx).1
    rw [hx] at hg
    have h1 : firstF (afterF s i) = r := by unfold firstF; rw [← hg]; rfl
    have h2 : hasF (afterF s i) = true := by unfold hasF; rw [← hg]; rfl
    rw [h1, h2] at hf
    have hw : IntKind.i64.wrap ((afterF s i).next + 1) = (afterF s i).next + 1 := by
      unfold lim at hl
      exact wrap_id (by omega) (by omega)
    repeat' (first
    | (refine SO.call (hf) rfl rfl rfl (by repeat constructor) (by repeat constructor) rfl (fun x hx => ?_))
    | (refine SO.pure rfl rfl rfl ?_)
    | (refine SO.nil ?_)
    | (refine SO.loadW rfl (by repeat constructor) rfl rfl rfl (by rfl) rfl ?_)
    | (refine SO.load rfl (by repeat constructor) rfl (by rfl) (by exact ⟨rfl, by first | exact fun _ => rfl | exact (fun h => by cases h)⟩) rfl ?_)
    | (refine SK.seq ?_)
    | (refine SK.region ?_)
    | (refine SK.condF rfl ?_)
    | (refine SK.skip ?_)
    | (refine SK.block ?_)
    | (refine SO.alloc rfl rfl rfl (fun b => ?_))
    | (refine SO.storeW rfl rfl (by repeat constructor) rfl (by rfl) (by rfl) (by rfl) ?_)
    | (refine SO.store rfl rfl (by repeat constructor) rfl (by rfl) rfl rfl (by rfl) (by rfl) ?_)
    | (refine SK.regionM0 2 [0, 1, 2, 3, 4, 5, 6, 7] [] [8] (by kernel_rfl) (by kernel_rfl) (fun _ _ _ h => h) ?_)
    | (refine SR.pure rfl rfl rfl ?_)
    | (refine SR.load rfl (by repeat constructor) rfl (by rfl) (by exact ⟨rfl, by first | exact fun _ => rfl | exact (fun h => by cases h)⟩) rfl ?_)
    | (refine SR.nil ?_)
    | (refine SO.delete rfl (by repeat constructor) (by rfl) rfl rfl rfl rfl ?_)
    | fail)
    have hY := hy i r x (by assumption)
    refine SO.callF (vs := ERec.args r x) rfl rfl hY (by repeat constructor) (by repeat constructor) rfl (fun rr hrr => ?_)
    rw [hw]
    cases rr
    · repeat' (first
    | (refine SO.pure rfl rfl rfl ?_)
    | (refine SO.nil ?_)
    | (refine SK.condT rfl ?_)
    | fail)
      exact SK.retX .nil (some i) (fun j h => by cases h; exact hil) rfl (by repeat constructor)
    · repeat' (first
    | (refine SO.pure rfl rfl rfl ?_)
    | (refine SO.nil ?_)
    | (refine SK.condF rfl ?_)
    | (refine SK.skip ?_)
    | (refine SK.blk ?_)
    | fail)
      refine SK.inv ⟨⟨i + 1, by omega⟩, ?_, by repeat constructor, ?_⟩
      · show (readyF s).length - (i + 1) < (readyF s).length - i
        omega
      · exact ent_append_of_takes (by repeat constructor)
end Go.Proofs
