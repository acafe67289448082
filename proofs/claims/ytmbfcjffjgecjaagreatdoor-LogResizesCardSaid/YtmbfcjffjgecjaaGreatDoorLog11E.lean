/- A part of a proof: what functions of the program compute. -/
import Derived.Test.YtmbfcjffjgecjaaGreatDoorLog6E
import Derived.Test.YtmbfcjffjgecjaaGreatDoorLib2
set_option linter.unusedVariables false
set_option linter.unusedSimpArgs false
set_option maxHeartbeats 0
set_option maxRecDepth 20000
namespace Go.Proofs
attribute [local irreducible] Go.Sl.SO Go.Sl.SQ Go.Sl.SR Go.Sl.SC Go.Sl.SX Go.Sl.SY Go.Sl.SZ Go.Sl.SW Go.Sl.eadr Go.Sl.slAt Go.Sl.sqAt Go.Sl.pts Go.Sl.rod Go.Sl.ob Go.Sl.ex Go.Sl.big Go.Sl.pr Go.Sl.tabs Go.Sl.mpAt Go.Sl.mitAt Go.Sl.mitN
open Go.Sl
theorem ltrim_low (lb : Nat) (g : Lg) (A : Option Addr) (n c : Nat) (pos : Int) (hd : g.down = false) (hp : pos < (g.trim : Int)) : Does Tryz.prog 52 [.pointer (some ⟨lb, 0, none⟩), .int .i64 pos, .slice A n c] [] (lgHd lb g) Unit (fun _ => True) (fun _ => .int .i64 1) (fun _ => lgHd lb g) := by
  refine Does.of Tryz.call52 Tryz.func52 rfl rfl rfl all_nil rfl ?_
  have h1 := decide_eq_true hp
  repeat' (first
 | refine SO.pure rfl rfl rfl ?_
 | refine SO.nil ?_
 | refine SO.load rfl (by repeat constructor) rfl (by rfl) (by exact ⟨rfl, by first | exact fun _ => rfl | exact (fun h => by cases h)⟩) rfl ?_
 | refine SK.seq ?_
 | refine SK.region ?_
 | refine SK.condT rfl ?_
 | refine SK.block ?_
 | refine SK.condFP rfl (by first | assumption | (simp only [Go.Sl.bl]; omega)) ?_
 | refine SK.regionX 3 (.item 0 0 (.item 0 1 (.item 0 2 (.item 0 3 (.item 0 4 (.item 0 5 (.item 0 6 (.item 0 7 (.item 0 8 (.item 1 9 (.item 0 10 (.item 0 11 (.item 0 12 (.item 0 13 (.item 0 14 (.item 0 15 (.item 0 19 (.item 0 23 (.item 0 16 (.item 0 20 (.item 0 17 (.item 0 21 (.item 0 18 (.item 0 22 (.item 1 24 (.item 2 25 (.item 0 26 (.item 0 27 (.item 0 28 .nil))))))))))))))))))))))))))))) [] .nil (by repeat (first | exact .nil | apply PersSub.s | apply PersSub.t | apply PersSub.p | apply PersSub.r | apply PersSub.skip)) (by kernel_rfl) (by kernel_rfl) (fun _ _ _ h => h) ?_
 | refine SK.regionX 5 (.item 0 0 (.item 0 4 (.item 0 8 (.item 0 1 (.item 0 2 (.item 0 3 (.item 1 5 (.item 0 6 (.item 0 7 (.item 1 9 (.item 0 10 (.item 2 11 (.item 0 12 .nil))))))))))))) [] .nil (by repeat (first | exact .nil | apply PersSub.s | apply PersSub.t | apply PersSub.p | apply PersSub.r | apply PersSub.skip)) (by kernel_rfl) (by kernel_rfl) (fun _ _ _ h => h) ?_
 | refine SX.tail (by rfl) (by repeat (first | exact .nil | apply DropP.s | apply DropP.t | apply DropP.p | apply DropP.r | apply DropP.keep)) ?_
 | refine SX.pure rfl rfl rfl ?_
 | refine SX.guardN rfl rfl rfl ?_
 | refine SX.load rfl (by repeat constructor) rfl (by rfl) (by exact ⟨rfl, by first | exact fun _ => rfl | exact (fun h => by cases h)⟩) rfl ?_
 | refine SX.guardNP rfl rfl rfl (by first | assumption | (simp only [Go.Sl.bl]; omega)) ?_
 | fail)
  exact SK.retX (.tmp rfl .nil) () trivial rfl (by repeat constructor)
theorem ltrim_high (lb : Nat) (g : Lg) (A : Option Addr) (n c : Nat) (pos : Int) (h : LgOk g) (hd : g.down = false) (hp : ¬ pos < (g.trim : Int)) (hq : (g.head : Int) < pos) : Does Tryz.prog 52 [.pointer (some ⟨lb, 0, none⟩), .int .i64 pos, .slice A n c] [] (lgAt lb g) Unit (fun _ => True) (fun _ => .int .i64 1) (fun _ => lgAt lb g) := by
  refine Does.of Tryz.call52 Tryz.func52 rfl rfl rfl all_nil rfl ?_
  have h1 := decide_eq_false hp
  have h2 := decide_eq_true hq
  have he := lhead_does lb g h
  repeat' (first
 | refine SO.pure rfl rfl rfl ?_
 | refine SO.nil ?_
 | refine SO.load rfl (by repeat constructor) rfl (by rfl) (by exact ⟨rfl, by first | exact fun _ => rfl | exact (fun h => by cases h)⟩) rfl ?_
 | refine SK.seq ?_
 | refine SK.region ?_
 | refine SK.block ?_
 | refine SK.condFP rfl (by first | assumption | (simp only [Go.Sl.bl]; omega)) ?_
 | fail)
  refine SK.regionZ 3 (.item 0 0 (.item 0 1 (.item 0 2 (.item 0 3 (.item 0 4 (.item 0 5 (.item 0 6 (.item 0 7 (.item 0 8 (.item 1 9 (.item 0 10 (.item 0 11 (.item 0 12 (.item 0 13 (.item 0 14 (.item 0 15 (.item 0 19 (.item 0 23 (.item 0 16 (.item 0 20 (.item 0 17 (.item 0 21 (.item 0 18 (.item 0 22 (.item 1 24 (.item 2 25 (.item 0 26 (.item 0 27 (.item 0 28 .nil))))))))))))))))))))))))))))) (lgAt lb g) (by repeat constructor) (by repeat (first | exact .nil | apply PersSub.s | apply PersSub.t | apply PersSub.p | apply PersSub.r | apply PersSub.skip)) (by kernel_rfl) (by kernel_rfl) (fun _ _ _ h => h) (lent_of .here) ?_
  repeat' (first
 | refine SZ.pure rfl rfl rfl ?_
 | refine SZ.pure2 rfl rfl rfl ?_
 | refine SZ.guardYP rfl rfl (by first | rfl | assumption) ?_
 | refine SZ.guardNP rfl rfl rfl (by first | rfl | assumption) ?_
 | refine SZ.load rfl (fun _ h => h) rfl (by rfl) (by exact ⟨rfl, by first | exact fun _ => rfl | exact (fun h => by cases h)⟩) rfl ?_
 | refine SZ.step rfl rfl ?_
 | refine SO.call he rfl rfl rfl (by repeat constructor) (by repeat constructor) rfl (fun x hx => ?_)
 | refine SO.nil ?_
 | refine SK.inv ?_
 | refine SW.go (lent_of (by repeat constructor)) ?_
 | (refine SZ.nil (by repeat (first | exact .nil | apply DropP.keep)) ?_))
  repeat' (first
 | refine SO.pure rfl rfl rfl ?_
 | refine SO.nil ?_
 | refine SK.seq ?_
 | refine SK.region ?_
 | refine SK.condT rfl ?_
 | fail)
  exact SK.retX (.tmp rfl .nil) () trivial rfl (by repeat constructor)
end Go.Proofs
