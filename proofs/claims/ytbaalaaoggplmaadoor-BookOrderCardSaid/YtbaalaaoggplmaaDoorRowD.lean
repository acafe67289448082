/- A part of a proof: what functions of the program compute. -/
import Derived.Test.YtbaalaaoggplmaaDoorLib1
import Derived.Test.YtbaalaaoggplmaaDoorShD
import Derived.Test.YtbaalaaoggplmaaDoorTabD
import Derived.Test.YtbaalaaoggplmaaDoorRows
import Derived.Test.YtbaalaaoggplmaaDoorCards
import Derived.Test.YtbaalaaoggplmaaDoorTie
import Derived.Lib.LaidIn
import Derived.Lib.LaidU8T
import Derived.Deep.DeepHandedRow
import Derived.Deep.DeepWitnessRowRef
import Derived.ProofKit
import Derived.OpenShut
set_option linter.unusedVariables false
set_option maxHeartbeats 0
namespace Go.Proofs.YtbaalaaoggplmaaDoor
open Go.ChangeShapes Go.WideShapes Go.ChangeAt Go.RowKit Go.Sl

theorem own : ownKnob Tryd.prog.godebug = none := by kernel_rfl

/-- The witness: the settled world, the two variables holding what their initialisers lay. -/
noncomputable def laidWorld (os : Os) : World :=
  let w0 := World.holding Tryd.prog os ⟨#[], #[], []⟩
  let put (h : Array Obj) (g : Nat) (cs : Array Value) : Array Obj := h.modify g fun
    | .cells _ t frozen => .cells cs t frozen
    | o => o
  let h1 := put w0.heap 1 (Go.Lib.firstTab.map fun z => Value.int .u8 z).toArray
  let h2 := put h1 2 ((List.range 16).flatMap fun i => [Value.int .u8 (Go.Lib.accLo i), Value.int .u8 (Go.Lib.accHi i)]).toArray
  { w0 with heap := h2 }

def laid : List (String × DataW Unit) := [("unicode/utf8.acceptRanges", Rows.laid_unicode_utf8_acceptRanges), ("unicode/utf8.first", Rows.laid_unicode_utf8_first)]
theorem first_eq : Rows.laid_unicode_utf8_first = Go.Lib.firstData := by kernel_rfl
theorem accept_eq : (Rows.laid_unicode_utf8_acceptRanges : DataW Unit) = Go.Lib.acceptData := by kernel_rfl

theorem laid_met (os : Os) (args : Array Value) : laidMet Tryd.prog laid ((laidWorld os).forCall (fun _ _ => 0) ⟨#[], args, []⟩).memory := by
  unfold laid
  rw [first_eq, accept_eq]
  exact (LaidIn.of_run (l := [("unicode/utf8.acceptRanges", Go.Lib.acceptData), ("unicode/utf8.first", Go.Lib.firstData)]) [1, 2] 8 (by kernel_rfl) (by kernel_rfl) (by kernel_rfl) (by kernel_rfl)).met

theorem var_block {P : Program} {W : World} {n : String} {d : DataW Unit} {g : Nat} (h : Go.Lib.VarReads P W n d) (hg : P.globalNamed n = some g) : g < W.heap.size := by
  obtain ⟨g', t, cs, fuel, p, hg', hty, hvar, hd⟩ := h
  obtain rfl := Option.some.inj (hg.symm.trans hg')
  unfold World.var? at hvar
  rw [hg] at hvar
  simp only [Option.bind_some] at hvar
  cases hh : W.heap[g]? with
  | none => simp [hh] at hvar
  | some o => exact (Array.getElem?_eq_some_iff.1 hh).1

/-- What the row lays is what the walk reads. -/
theorem tabs_of {W : World} (hL : laidMet Tryd.prog laid W) : (tabs 1 2).h (ro0 W) own0 := by
  show Go.Lib.Utf8Tabs 1 2 W ∧ 1 < W.heap.size ∧ 2 < W.heap.size
  have h1 := Go.Lib.laidMet.reads hL (.tail _ (.head _))
  have h2 := Go.Lib.laidMet.reads hL (.head _)
  rw [first_eq] at h1
  rw [accept_eq] at h2
  have := utf8Tabs_of_readsT (U8Types.of260 Tryd.lays260) ⟨by kernel_rfl, by kernel_rfl, by kernel_rfl, by kernel_rfl, by kernel_rfl, by kernel_rfl, by kernel_rfl⟩ h1 h2
  exact ⟨this, var_block h1 (by kernel_rfl), var_block h2 (by kernel_rfl)⟩
end Go.Proofs.YtbaalaaoggplmaaDoor
