/- A part of a proof: what functions of the program compute. -/
import Derived.Test.YtmbfcjffjgecjaaGreatDoorSeg3E
import Derived.Test.YtmbfcjffjgecjaaGreatDoorSeg4E
set_option linter.unusedVariables false
set_option linter.unusedSimpArgs false
set_option maxHeartbeats 0
namespace Go.Proofs
attribute [local irreducible] Go.Sl.SO Go.Sl.SQ Go.Sl.SR Go.Sl.SC Go.Sl.SX Go.Sl.SY Go.Sl.eadr Go.Sl.slAt Go.Sl.sqAt Go.Sl.pts Go.Sl.rod Go.Sl.ob Go.Sl.ex Go.Sl.big Go.Sl.pr Go.Sl.tabs Go.Sl.mpAt Go.Sl.mitAt Go.Sl.mitN
open Go.Sl
abbrev rowsL (b4 b5 b6 : Nat) : List HP := [pts b4 0 [.slice none 0 0], pts b5 0 [.slice none 0 0], pts b6 0 [.bool false]]
theorem r_does (a b : Int) : Does Tryz.prog 41 [.int .i64 a, .int .i64 b] [] [] Unit (fun _ => True) (fun _ => RRec.val (rz a b) (none, 0)) (fun _ => []) := by
  refine Does.of Tryz.call41 Tryz.func41 rfl rfl rfl all_nil rfl ?_
  repeat' (first
 | refine SO.pure rfl rfl rfl ?_
 | refine SO.nil ?_
 | refine SO.build rfl rfl rfl rfl ?_
 | refine SK.seq ?_
 | refine SK.region ?_
 | refine SO.alloc rfl rfl rfl (fun b => ?_)
 | refine SO.storeW rfl rfl (by repeat constructor) rfl (by rfl) (by rfl) (by rfl) ?_
 | fail)
  exact SK.retX (.cell rfl (by repeat constructor) rfl rfl (by exact ⟨rfl, fun h => by cases h⟩) .nil) () trivial rfl (by repeat constructor)
theorem sput0_does (sb db mb : Nat) (p : Pl) (s : Sg) (d : Dk) (ep pos a b2 : Int) (hd : d.Ok) (hr : checkR (rz a b2) 8 = 0) (ha : 0 ≤ a ∧ a < 100000) (hb : 0 ≤ b2 ∧ b2 < 100000) (hp : pos < 9223372036854775807) : Does Tryz.prog 40 [.pointer (some ⟨sb, 0, none⟩), .int .i64 ep, .int .i64 pos, RRec.val (rz a b2) (none, 0)] [libA, tabs 4 5] (sgAt sb db mb s ++ dkAt db p d) Pl (fun _ => True) (fun x => .int .i64 (s.put d ep pos (rz a b2)).1) (fun x => sgAt sb db mb (s.put d ep pos (rz a b2)).2.1 ++ dkAt db x (s.put d ep pos (rz a b2)).2.2) :=
  (sput_does sb db mb p (none, 0) s d ep pos a b2 hd hr ha hb hp).less (all_cons pers_lib (all_cons (pers_tabs _ _) all_nil)) (.cons .here (.cons (.there .here) (.cons (show Has (slAt RI none 0 []) _ from .triv) (.cons (show Has (pr (([] : List Int).length ≤ 0)) _ from .triv) .nil))))
theorem ply0 {room : Int} (h : 1 ≤ room ∧ room ≤ 1048576) : Ply ⟨[], 0, 0⟩ ⟨room, [], 0⟩ := ⟨⟨h, by show ((0 : Nat) : Int) ≤ room; omega, Nat.le_refl _⟩, rfl⟩
theorem fresh_does : Does Tryz.prog 39 [] [libA, tabs 4 5] [] (Nat × Nat × Nat) (fun _ => True) (fun x => .tuple #[.pointer (some ⟨x.1, 0, none⟩), .pointer (some ⟨x.2.1, 0, none⟩)]) (fun x => sgAt x.2.1 x.1 x.2.2 ⟨[], 0, 0⟩ ++ dkAt x.1 (none, 0) ⟨100000, [], 0⟩) := by
  refine Does.of Tryz.call39 Tryz.func39 rfl rfl rfl (all_cons pers_lib (all_cons (pers_tabs _ _) all_nil)) rfl ?_
  have dn := dnew_does 100000 (by decide)
  repeat' (first
 | refine SO.call (dn) rfl rfl rfl (by repeat constructor) (by repeat constructor) rfl (fun x hx => ?_)
 | refine SO.pure rfl rfl rfl ?_
 | refine SO.pure2 rfl rfl rfl ?_
 | refine SO.nil ?_
 | refine SO.guardY rfl rfl ?_
 | refine SK.seq ?_
 | refine SK.region ?_
 | refine SK.condF rfl ?_
 | refine SK.skip ?_
 | fail)
  rename Nat => db
  have op := sopen_does db (none, 0) ⟨[], 0, 0⟩ ⟨100000, [], 0⟩ (ply0 (by decide))
  repeat' (first
 | refine SO.call (op) rfl rfl rfl (by repeat constructor) (by repeat constructor) rfl (fun x hx => ?_)
 | refine SO.pure rfl rfl rfl ?_
 | refine SO.nil ?_
 | refine SK.seq ?_
 | refine SK.region ?_
 | refine SK.condF rfl ?_
 | refine SK.skip ?_
 | fail)
  rename Nat × Nat => y
  exact SK.retX (.tmp rfl (.tmp rfl .nil)) (db, y.1, y.2) trivial rfl (by repeat constructor)
theorem rows_does (bx sb db mb : Nat) (s : Sg) (m : Int) (hl : s.m.length < 1048577) (hm : (s.all.length : Int) ≤ m) : Does Tryz.prog 42 [.func (.func 103) #[] #[.pointer (some ⟨bx, 0, none⟩)], .int .i64 m] [] (pts bx 0 [.pointer (some ⟨sb, 0, none⟩)] :: sgAt sb db mb s) (Pl × Pl) (fun x => s.all.length ≤ x.1.2 ∧ s.all.length ≤ x.2.2) (fun x => .tuple #[.slice x.1.1 s.all.length x.1.2, .slice x.2.1 s.all.length x.2.2, .bool true])
    (fun x => slAt RI x.1.1 s.all.length (s.all.map (·.1)) :: slAt RRec x.2.1 s.all.length (s.all.map (·.2)) :: sgAt sb db mb s) := by
  refine Does.of Tryz.call42 Tryz.func42 rfl rfl rfl all_nil rfl ?_
  have hal : s.all.length ≤ 1048576 := by
    unfold Sg.all Sg.keys
    rw [List.length_map, (sort_perm _).length_eq]
    unfold keysM
    rw [List.length_map]; omega
  have it := salliter bx sb db mb s (by unfold lim; omega)
  repeat' (first
 | refine SO.pure rfl rfl rfl ?_
 | refine SO.pure2 rfl rfl rfl ?_
 | refine SO.nil ?_
 | refine SK.seq ?_
 | refine SK.region ?_
 | refine SK.condF rfl ?_
 | refine SK.skip ?_
 | refine SK.block ?_
 | refine SO.alloc rfl rfl rfl (fun b => ?_)
 | refine SO.box rfl rfl rfl (fun b => ?_)
 | fail)
  rename_i b3 b4 b5 b6 b7
  refine SK.shift (fun F w hst => hst.ent (Ent.cons (((ent_triv (A := sqAt false RI none 0 0 [])).trans (ent_triv (A := sqAt false RRec none 0 0 []))).trans (ent_closeR (R := []) (A := fun y : Pl × Pl => big [pts b7 0 [.slice y.1.1 0 y.1.2], sqAt false RI y.1.1 0 y.1.2 [], pts b 0 [.slice y.2.1 0 y.2.2], sqAt false RRec y.2.1 0 y.2.2 []]) (x := (((none, 0), (none, 0)) : Pl × Pl)) rfl (by repeat constructor))))) ?_
  refine SK.range it Empty (fun i => [ex fun y : Pl × Pl => big [pts b7 0 [.slice y.1.1 i y.1.2], sqAt false RI y.1.1 i y.1.2 ((s.all.take i).map (·.1)), pts b 0 [.slice y.2.1 i y.2.2], sqAt false RRec y.2.1 i y.2.2 ((s.all.take i).map (·.2))], pts b3 0 [.int .i64 m]]) (fun _ => []) (fun y => y.elim) rfl .nil (by repeat constructor) rfl (fun _ _ => rfl) ?_ ?_ (fun y => y.elim)
  · rintro i ⟨k, rr⟩ hid q R hr
    have hil : i < s.all.length := (List.getElem?_eq_some_iff.1 hr).1
    have hlm : i + 1 ≤ lim := by unfold lim; omega
    have hnm : ¬ m ≤ (i : Int) := by omega
    have e1 : (s.all.take (i + 1)).map (·.1) = (s.all.take i).map (·.1) ++ [k] := by rw [List.take_add_one, hr]; simp
    have e2 : (s.all.take (i + 1)).map (·.2) = (s.all.take i).map (·.2) ++ [rr] := by rw [List.take_add_one, hr]; simp
    refine SK.openEx (.there (.there .here)) (fun y => ?_)
    refine SK.openBig .here ?_
    repeat' (first
 | refine SO.pure rfl rfl rfl ?_
 | refine SO.nil ?_
 | refine SK.seq ?_
 | refine SK.region ?_
 | refine SO.alloc rfl rfl rfl (fun b => ?_)
 | refine SO.storeW rfl rfl (by repeat constructor) rfl (by rfl) (by rfl) (by rfl) ?_
 | fail)
    refine SK.inv ?_
    repeat' (first
 | refine SO.append (ρ := RI) (w := false) (ys := [k]) rfl rfl (by repeat constructor) (Src.one (h := ()) (by repeat constructor) (by rfl) (by repeat constructor)) rfl rfl rfl rfl rfl rfl rfl (by omega) (fun A3 c3 => ?_)
 | refine SO.append (ρ := RRec) (w := false) (ys := [rr]) rfl rfl (by repeat constructor) (Src.one (h := hid) (by repeat constructor) (by rfl) (by repeat constructor)) rfl rfl rfl rfl rfl rfl rfl (by omega) (fun A4 c4 => ?_)
 | refine SO.pure rfl rfl rfl ?_
 | refine SO.nil ?_
 | refine SO.loadW rfl (by repeat constructor) rfl rfl rfl (by rfl) rfl ?_
 | refine SO.load rfl (by repeat constructor) rfl (by rfl) (by exact ⟨rfl, by first | exact fun _ => rfl | exact (fun h => by cases h)⟩) rfl ?_
 | refine SK.seq ?_
 | refine SK.region ?_
 | refine SK.skip ?_
 | refine SK.block ?_
 | refine SK.blk ?_
 | refine SO.storeW rfl rfl (by repeat constructor) rfl (by rfl) (by rfl) (by rfl) ?_
 | refine SO.buildSlice rfl rfl rfl rfl rfl rfl (fun b => ?_)
 | refine SK.condFP rfl (by first | assumption | (simp only [Go.Sl.bl]; omega)) ?_
 | fail)
    refine SK.nil ?_
    rw [e1, e2]
    show Ent _ (busyA q R :: _)
    refine Ent.trans ?_ Ent.swap
    exact ent_close (R := [busyA q R, pts b3 0 [.int .i64 m]]) (x := (((A3, c3), (A4, c4)) : Pl × Pl)) rfl (by repeat constructor)
  · refine SK.blk ?_
    refine SK.openEx .here (fun y => ?_)
    refine SK.openBig .here ?_
    rw [List.take_length]
    refine SK.know (sq_len (w := false) (ρ := RI) (A := y.1.1) (n := s.all.length) (c := y.1.2) (l := s.all.map (·.1)) (by repeat constructor)) ?_
    rintro ⟨-, -, hc1, -⟩
    refine SK.know (sq_len (w := false) (ρ := RRec) (A := y.2.1) (n := s.all.length) (c := y.2.2) (l := s.all.map (·.2)) (by repeat constructor)) ?_
    rintro ⟨-, -, hc2, -⟩
    repeat' (first
 | refine SO.nil ?_
 | refine SK.seq ?_
 | refine SO.storeW rfl rfl (by repeat constructor) rfl (by rfl) (by rfl) (by rfl) ?_
 | refine SK.regionX 9 (.item 0 0 (.item 0 1 (.item 1 2 (.item 2 3 (.item 2 4 .nil))))) [] .nil (by repeat (first | exact .nil | apply PersSub.s | apply PersSub.t | apply PersSub.p | apply PersSub.r | apply PersSub.skip)) (by kernel_rfl) (by kernel_rfl) (fun _ _ _ h => h) ?_
 | refine SK.regionX 12 (.item 0 0 (.item 0 1 (.item 1 2 (.item 2 3 (.item 2 4 .nil))))) (rowsL b4 b5 b6) (by repeat constructor) (by repeat (first | exact .nil | apply PersSub.s | apply PersSub.t | apply PersSub.p | apply PersSub.r | apply PersSub.skip)) (by kernel_rfl) (by kernel_rfl) (fun _ _ _ h => h) ?_
 | refine SX.tail (by rfl) (by repeat (first | exact .nil | apply DropP.s | apply DropP.t | apply DropP.p | apply DropP.r | apply DropP.keep)) ?_
 | refine SX.load rfl (by repeat constructor) rfl (by rfl) (by exact ⟨rfl, by first | exact fun _ => rfl | exact (fun h => by cases h)⟩) rfl ?_
 | refine SX.step rfl rfl ?_
 | refine SK.invY ?_
 | refine SY.go ?_
 | fail)
    refine SK.share (ρ := RI) (w' := false) (A := y.1.1) (n := s.all.length) (m := y.1.2) (l := s.all.map (·.1)) (by repeat constructor) ?_
    refine SK.share (ρ := RRec) (w' := false) (A := y.2.1) (n := s.all.length) (m := y.2.2) (l := s.all.map (·.2)) (by repeat constructor) ?_
    exact SK.retX (.cell rfl (by repeat constructor) rfl rfl (by exact ⟨rfl, fun _ => rfl⟩) (.cell rfl (by repeat constructor) rfl rfl (by exact ⟨rfl, fun _ => rfl⟩) (.cell rfl (by repeat constructor) rfl rfl (by exact ⟨rfl, fun _ => rfl⟩) .nil))) y ⟨hc1, hc2⟩ rfl (by repeat constructor)
end Go.Proofs
