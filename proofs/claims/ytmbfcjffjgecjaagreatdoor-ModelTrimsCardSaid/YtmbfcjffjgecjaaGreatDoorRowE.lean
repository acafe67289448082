/- A part of a proof: what functions of the program compute. -/
import Derived.Test.YtmbfcjffjgecjaaGreatDoorLib1
import Derived.Test.YtmbfcjffjgecjaaGreatDoorLib0
import Derived.Test.YtmbfcjffjgecjaaGreatDoorTxtE
import Derived.Test.YtmbfcjffjgecjaaGreatDoorRows
import Derived.Test.YtmbfcjffjgecjaaGreatDoorCards
import Derived.Test.YtmbfcjffjgecjaaGreatDoorTie
import Derived.Lib.LaidIn
import Derived.Lib.LaidU8T
import Derived.Lib.LaidTab
import Derived.Deep.DeepHandedRow
import Derived.Deep.DeepWitnessRowRef
import Derived.ProofKit
import Derived.OpenShut
set_option linter.unusedVariables false
set_option maxHeartbeats 0
set_option maxRecDepth 100000
namespace Go.Proofs.YtmbfcjffjgecjaaGreatDoor
open Go.ChangeShapes Go.WideShapes Go.ChangeAt Go.RowKit Go.Sl
theorem own : ownKnob Tryz.prog.godebug = none := by kernel_rfl
def litsOf : DataW Unit → List Value
  | .agg l => l.map fun d => (match d with
    | .lit (.int k z) => Value.int k z
    | _ => Value.nilIface)
  | _ => []
def txSyntax : ByteArray := ⟨#[105, 110, 118, 97, 108, 105, 100, 32, 115, 121, 110, 116, 97, 120]⟩
def txRange : ByteArray := ⟨#[118, 97, 108, 117, 101, 32, 111, 117, 116, 32, 111, 102, 32, 114, 97, 110, 103, 101]⟩
noncomputable def laidWorld (os : Os) : World :=
  let N := (World.settled Tryz.prog os).heap.size
  let w0 := World.holding Tryz.prog os ⟨#[.cells #[.string txSyntax] 312, .cells #[.string txRange] 312], #[], []⟩
  let put (h : Array Obj) (g : Nat) (cs : Array Value) : Array Obj := h.modify g fun
    | .cells _ t frozen => .cells cs t frozen
    | o => o
  let h0 := put (put w0.heap 2 #[.iface 310 (.pointer (some ⟨N, 0, none⟩))]) 3 #[.iface 310 (.pointer (some ⟨N + 1, 0, none⟩))]
  let h1 := put h0 4 (Go.Lib.firstTab.map fun z => Value.int .u8 z).toArray
  let h2 := put h1 5 ((List.range 16).flatMap fun i => [Value.int .u8 (Go.Lib.accLo i), Value.int .u8 (Go.Lib.accHi i)]).toArray
  let h3 := put h2 1 (Go.Lib.pow10Tab.map fun z => Value.int .u64 z).toArray
  let h4 := put h3 6 (litsOf Rows.laid_math_bits_deBruijn32tab).toArray
  let h5 := put h4 7 (litsOf Rows.laid_math_bits_deBruijn64tab).toArray
  { w0 with heap := h5 }
noncomputable abbrev N0 : Nat := (World.settled Tryz.prog default).heap.size
def laid : List (String × DataW Unit) := [("math/bits.deBruijn32tab", Rows.laid_math_bits_deBruijn32tab), ("math/bits.deBruijn64tab", Rows.laid_math_bits_deBruijn64tab), ("internal/strconv.uint64pow10", Rows.laid_internal_strconv_uint64pow10), ("unicode/utf8.acceptRanges", Rows.laid_unicode_utf8_acceptRanges), ("strconv.ErrRange", Rows.laid_strconv_ErrRange), ("strconv.ErrSyntax", Rows.laid_strconv_ErrSyntax), ("unicode/utf8.first", Rows.laid_unicode_utf8_first)]
theorem first_eq : Rows.laid_unicode_utf8_first = Go.Lib.firstData := by kernel_rfl
theorem accept_eq : (Rows.laid_unicode_utf8_acceptRanges : DataW Unit) = Go.Lib.acceptData := by kernel_rfl
theorem pow_eq : (Rows.laid_internal_strconv_uint64pow10 : DataW Unit) = Go.Lib.tabData .u64 Go.Lib.pow10Tab := by kernel_rfl
theorem laid_met (os : Os) (args : Array Value) : laidMet Tryz.prog laid ((laidWorld os).forCall (fun _ _ => 0) ⟨#[], args, []⟩).memory :=
  (LaidIn.of_run (l := laid) [6, 7, 1, 5, 3, N0 + 1, 2, N0, 4] 8 (by kernel_rfl) (by kernel_rfl) (by kernel_rfl) (by kernel_rfl)).met
theorem var_block {P : Program} {W : World} {n : String} {d : DataW Unit} {g : Nat} (h : Go.Lib.VarReads P W n d) (hg : P.globalNamed n = some g) : g < W.heap.size := by
  obtain ⟨g', t, cs, fuel, p, hg', hty, hvar, hd⟩ := h
  obtain rfl := Option.some.inj (hg.symm.trans hg')
  unfold World.var? at hvar
  rw [hg] at hvar
  simp only [Option.bind_some] at hvar
  cases hh : W.heap[g]? with
  | none => simp [hh] at hvar
  | some o => exact (Array.getElem?_eq_some_iff.1 hh).1
theorem tabs_of {W : World} (hL : laidMet Tryz.prog laid W) : (tabs 4 5).h (ro0 W) own0 := by
  show Go.Lib.Utf8Tabs 4 5 W ∧ 4 < W.heap.size ∧ 5 < W.heap.size
  have h1 := Go.Lib.laidMet.reads hL (n := "unicode/utf8.first") (d := Rows.laid_unicode_utf8_first) (by unfold laid; simp)
  have h2 := Go.Lib.laidMet.reads hL (n := "unicode/utf8.acceptRanges") (d := Rows.laid_unicode_utf8_acceptRanges) (by unfold laid; simp)
  rw [first_eq] at h1
  rw [accept_eq] at h2
  have := utf8Tabs_of_readsT (U8Types.of260 Tryz.lays260) ⟨by kernel_rfl, by kernel_rfl, by kernel_rfl, by kernel_rfl, by kernel_rfl, by kernel_rfl, by kernel_rfl⟩ h1 h2
  exact ⟨this, var_block h1 (by kernel_rfl), var_block h2 (by kernel_rfl)⟩
theorem pow_of {W : World} (hL : laidMet Tryz.prog laid W) : Lib.TabIs Tryz.prog W "internal/strconv.uint64pow10" .u64 Lib.pow10Tab := by
  have h1 := Go.Lib.laidMet.reads hL (n := "internal/strconv.uint64pow10") (d := Rows.laid_internal_strconv_uint64pow10) (by unfold laid; simp)
  rw [pow_eq] at h1
  obtain ⟨g, t, cs, fuel, p, hg, hty, hvar, hd⟩ := h1
  obtain rfl : (1 : Nat) = g := Option.some.inj ((show Tryz.prog.globalNamed "internal/strconv.uint64pow10" = some 1 by kernel_rfl).symm.trans hg)
  obtain rfl : (283 : Nat) = t := Option.some.inj ((show (Tryz.prog.globals[1]?).map (·.type) = some 283 by kernel_rfl).symm.trans hty)
  unfold Go.Lib.TabIs
  rw [hvar, ← Go.Lib.cells_of_tab Tryz.underlying283 Tryz.underlying255 (by kernel_rfl) (by kernel_rfl) hd]
theorem lib_of {W : World} (hL : laidMet Tryz.prog laid W) (hs : W.ShapedOpen Tryz.prog) : libA.h (ro0 W) own0 := by
  have hm : ∃ m : Int, W.cell? ⟨0, 0, none⟩ = some (.int .i64 m) := Go.Proofs.cell_of_shapedOpen_int (P := Tryz.prog) (g := 0) (zero := #[.int .i64 0]) (t := 3) hs (of_decide_eq_true (by kernel_rfl)) (by kernel_rfl) rfl (by kernel_rfl) (by kernel_rfl) Tryz.underlying3
  refine ⟨hm, pow_of hL, ?_⟩
  obtain ⟨m, hm⟩ := hm
  obtain ⟨c1, e1, f1, hh, _⟩ := cell_block hm
  exact (Array.getElem?_eq_some_iff.1 hh).1
end Go.Proofs.YtmbfcjffjgecjaaGreatDoor
