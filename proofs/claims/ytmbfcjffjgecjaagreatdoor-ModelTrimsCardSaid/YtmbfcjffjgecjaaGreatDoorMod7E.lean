/- A part of a proof: what functions of the program compute. -/
import Derived.Test.YtmbfcjffjgecjaaGreatDoorMod6E
import Derived.Test.YtmbfcjffjgecjaaGreatDoorLib2
set_option linter.unusedVariables false
set_option linter.unusedSimpArgs false
set_option maxHeartbeats 0
set_option maxRecDepth 20000
namespace Go.Proofs
attribute [local irreducible] Go.Sl.SO Go.Sl.SQ Go.Sl.SR Go.Sl.SC Go.Sl.SX Go.Sl.SY Go.Sl.eadr Go.Sl.slAt Go.Sl.sqAt Go.Sl.pts Go.Sl.rod Go.Sl.ob Go.Sl.ex Go.Sl.big Go.Sl.pr Go.Sl.tabs Go.Sl.mpAt Go.Sl.mitAt Go.Sl.mitN
open Go.Sl
theorem lhead_down (lb : Nat) (g : Lg) (hd : g.down = true) : Does Tryz.prog 61 [.pointer (some ⟨lb, 0, none⟩)] [] (lgAt lb g) Unit (fun _ => True) (fun _ => .int .i64 0) (fun _ => lgAt lb g) := by
  refine Does.of Tryz.call61 Tryz.func61 rfl rfl rfl all_nil rfl ?_
  repeat' (first
 | refine SO.pure rfl rfl rfl ?_
 | refine SO.nil ?_
 | refine SO.load rfl (by repeat constructor) rfl (by rfl) (by exact ⟨rfl, by first | exact fun _ => rfl | exact (fun h => by cases h)⟩) rfl ?_
 | refine SK.seq ?_
 | refine SK.region ?_
 | refine SK.condTP rfl (by first | assumption | (simp only [Go.Sl.bl]; omega)) ?_
 | fail)
  exact SK.retX (.tmp rfl .nil) () trivial rfl (by repeat constructor)
theorem ltrimmed_down (lb : Nat) (g : Lg) (hd : g.down = true) : Does Tryz.prog 67 [.pointer (some ⟨lb, 0, none⟩)] [] (lgAt lb g) Unit (fun _ => True) (fun _ => .tuple #[.int .i64 0, .slice none 0 0]) (fun _ => lgAt lb g) := by
  refine Does.of Tryz.call67 Tryz.func67 rfl rfl rfl all_nil rfl ?_
  repeat' (first
 | refine SO.pure rfl rfl rfl ?_
 | refine SO.nil ?_
 | refine SO.load rfl (by repeat constructor) rfl (by rfl) (by exact ⟨rfl, by first | exact fun _ => rfl | exact (fun h => by cases h)⟩) rfl ?_
 | refine SK.seq ?_
 | refine SK.region ?_
 | refine SK.condTP rfl (by first | assumption | (simp only [Go.Sl.bl]; omega)) ?_
 | fail)
  exact SK.retX (.tmp rfl (.tmp rfl .nil)) () trivial rfl (by repeat constructor)
theorem lalliter_down (b1 b2 lb : Nat) (g : Lg) (hd : g.down = true) : Iter Tryz.prog 122 [.pointer (some ⟨b1, 0, none⟩), .pointer (some ⟨b2, 0, none⟩)] EPR ([] : List (Int × Rc)) [] (pts b1 0 [.pointer (some ⟨lb, 0, none⟩)] :: pts b2 0 [.int .i64 0] :: lgAt lb g) (fun _ => lgAt lb g) (lgAt lb g) := by
  intro q J Jx hy
  refine Does.of Tryz.call122 Tryz.func122 rfl rfl rfl all_nil rfl ?_
  have he := lhead_down lb g hd
  have hmx : (if (0 : Int) < (g.trim : Int) then (g.trim : Int) else 0) = (g.trim : Int) := by split <;> omega
  repeat' (first
 | refine SO.call (he) rfl rfl rfl (by repeat constructor) (by repeat constructor) rfl (fun x hx => ?_)
 | refine SO.pure rfl rfl rfl ?_
 | refine SO.nil ?_
 | refine SO.load rfl (by repeat constructor) rfl (by rfl) (by exact ⟨rfl, by first | exact fun _ => rfl | exact (fun h => by cases h)⟩) rfl ?_
 | refine SK.seq ?_
 | refine SK.region ?_
 | refine SK.block ?_
 | refine SK.regionX 1 (.item 0 0 (.item 0 1 (.item 0 2 (.item 0 3 (.item 0 4 (.item 0 5 (.item 0 6 .nil))))))) [] .nil (by repeat (first | exact .nil | apply PersSub.s | apply PersSub.t | apply PersSub.p | apply PersSub.r | apply PersSub.skip)) (by kernel_rfl) (by kernel_rfl) (fun _ _ _ h => h) ?_
 | refine SX.tail (by rfl) (by repeat (first | exact .nil | apply DropP.s | apply DropP.t | apply DropP.p | apply DropP.r | apply DropP.keep)) ?_
 | refine SX.pure rfl rfl rfl ?_
 | refine SX.pure2 rfl rfl rfl ?_
 | refine SX.load rfl (by repeat constructor) rfl (by rfl) (by exact ⟨rfl, by first | exact fun _ => rfl | exact (fun h => by cases h)⟩) rfl ?_
 | fail)
  rw [hmx]
  refine SK.loop (X := Unit) (fun _ => [(5, .int .i64 (g.trim : Int)), (4, .int .i64 0), (1, .pointer (some ⟨b1, 0, none⟩)), (0, yv q)]) (fun _ => [J 0, pts b1 0 [.pointer (some ⟨lb, 0, none⟩)]] ++ lgAt lb g) (fun _ => 0) () (by repeat constructor) (ent_append_of_takes (by repeat constructor)) ?_
  rintro ⟨⟩
  dsimp only
  have hd1 : decide ((g.trim : Int) < 0) = false := decide_eq_false (by omega)
  repeat' (first
 | refine SO.pure rfl rfl rfl ?_
 | refine SO.nil ?_
 | refine SK.seq ?_
 | refine SK.region ?_
 | refine SK.condF rfl ?_
 | refine SK.exit rfl ?_
 | fail)
  exact SK.endX .nil none (fun _ h => by cases h) rfl (by repeat constructor)
theorem mright_down (lb : Nat) (g : Lg) (hd : g.down = true) : Does Tryz.prog 20 [.pointer (some ⟨lb, 0, none⟩)] [] (lgAt lb g) Unit (fun _ => True) (fun _ => .bool true) (fun _ => lgAt lb g) := by
  refine Does.of Tryz.call20 Tryz.func20 rfl rfl rfl all_nil rfl ?_
  have tr := ltrimmed_down lb g hd
  have al := lall_does lb 0
  repeat' (first
 | refine SO.call (tr) rfl rfl rfl (by repeat constructor) (by repeat constructor) rfl (fun x hx => ?_)
 | refine SO.call (al) rfl rfl rfl (by repeat constructor) (by repeat constructor) rfl (fun x hx => ?_)
 | refine SO.pure rfl rfl rfl ?_
 | refine SO.nil ?_
 | refine SK.seq ?_
 | refine SK.region ?_
 | fail)
  rename Nat × Nat => z
  refine SO.shift (fun F w hst => hst.ent (Ent.cons (ent_bigOf (A := pts z.1 0 [.pointer (some ⟨lb, 0, none⟩)] :: pts z.2 0 [.int .i64 0] :: lgAt lb g) (by repeat constructor)))) ?_
  have ml := mlog_does 122 #[.pointer (some ⟨z.1, 0, none⟩), .pointer (some ⟨z.2, 0, none⟩)] none 0 0 [] [] _ _ _ (lalliter_down z.1 z.2 lb g hd) (by decide) ⟨by decide, fun i => by unfold getI; split <;> simp⟩ (fun x hx => by cases hx)
  rw [show flawsF [] [] = [] from rfl] at ml
  repeat' (first
 | refine SO.call (ml) rfl rfl rfl (by repeat constructor) (by repeat constructor) rfl (fun x hx => ?_)
 | refine SO.pure rfl rfl rfl ?_
 | refine SO.nil ?_
 | fail)
  refine SK.openBig (by repeat constructor) ?_
  exact SK.retX (.tmp rfl .nil) () trivial rfl (by repeat constructor)
end Go.Proofs
