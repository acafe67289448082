/- A part of a proof: what functions of the program compute. -/
import Derived.Test.YtmbfcjffjgecjaaGreatDoorSeg3E
import Derived.Test.YtmbfcjffjgecjaaGreatDoorSeg4E
set_option linter.unusedVariables false
set_option linter.unusedSimpArgs false
set_option maxHeartbeats 0
namespace Go.Proofs
attribute [local irreducible] Go.Sl.SO Go.Sl.SQ Go.Sl.SR Go.Sl.SC Go.Sl.SX Go.Sl.SY Go.Sl.eadr Go.Sl.slAt Go.Sl.sqAt Go.Sl.pts Go.Sl.rod Go.Sl.ob Go.Sl.ex Go.Sl.big Go.Sl.pr Go.Sl.tabs Go.Sl.mpAt Go.Sl.mitAt Go.Sl.mitN
open Go.Sl
abbrev rowsL (b4 b5 b6 : Nat) : List HP := [pts b4 0 [.slice none 0 0], pts b5 0 [.slice none 0 0], pts b6 0 [.bool false]]
theorem sput0_does (sb db mb : Nat) (p : Pl) (s : Sg) (d : Dk) (ep pos a b2 : Int) (hd : d.Ok) (hr : checkR (rz a b2) 8 = 0) (ha : 0 ≤ a ∧ a < 100000) (hb : 0 ≤ b2 ∧ b2 < 100000) (hp : pos < 9223372036854775807) : Does Tryz.prog 40 [.pointer (some ⟨sb, 0, none⟩), .int .i64 ep, .int .i64 pos, RRec.val (rz a b2) (none, 0)] [libA, tabs 4 5] (sgAt sb db mb s ++ dkAt db p d) Pl (fun _ => True) (fun x => .int .i64 (s.put d ep pos (rz a b2)).1) (fun x => sgAt sb db mb (s.put d ep pos (rz a b2)).2.1 ++ dkAt db x (s.put d ep pos (rz a b2)).2.2) :=
  (sput_does sb db mb p (none, 0) s d ep pos a b2 hd hr ha hb hp).less (all_cons pers_lib (all_cons (pers_tabs _ _) all_nil)) (.cons .here (.cons (.there .here) (.cons (show Has (slAt RI none 0 []) _ from .triv) (.cons (show Has (pr (([] : List Int).length ≤ 0)) _ from .triv) .nil))))
theorem ply0 {room : Int} (h : 1 ≤ room ∧ room ≤ 1048576) : Ply ⟨[], 0, 0⟩ ⟨room, [], 0⟩ := ⟨⟨h, by show ((0 : Nat) : Int) ≤ room; omega, Nat.le_refl _⟩, rfl⟩
end Go.Proofs
