/- A part of a proof: what functions of the program compute. -/
import Derived.Test.YtmbfcjffjgecjaaGreatDoorLog14E
import Derived.Test.YtmbfcjffjgecjaaGreatDoorRefE
import Derived.Test.YtmbfcjffjgecjaaGreatDoorLib2
set_option linter.unusedVariables false
set_option linter.unusedSimpArgs false
set_option maxHeartbeats 0
set_option maxRecDepth 20000
namespace Go.Proofs
attribute [local irreducible] Go.Sl.SO Go.Sl.SQ Go.Sl.SR Go.Sl.SC Go.Sl.SX Go.Sl.SY Go.Sl.eadr Go.Sl.slAt Go.Sl.sqAt Go.Sl.pts Go.Sl.rod Go.Sl.ob Go.Sl.ex Go.Sl.big Go.Sl.pr Go.Sl.tabs Go.Sl.mpAt Go.Sl.mitAt Go.Sl.mitN
open Go.Sl
theorem lknown_does : Does Tryz.prog 56 [] [libA, tabs 4 5] [] Unit (fun _ => True) (fun _ => .bool true) (fun _ => []) := by
  refine Does.of Tryz.call56 Tryz.func56 rfl rfl rfl (all_cons pers_lib (all_cons (pers_tabs _ _) all_nil)) rfl ?_
  have nw := lnew_does 2 1000 (by decide) (by decide)
  have r01 := rr_does 0 1
  have r02 := rr_does 0 2
  have r11 := rr_does 1 1
  have r12 := rr_does 1 2
  repeat' (first
 | refine SO.call (nw) rfl rfl rfl (by repeat constructor) (by repeat constructor) rfl (fun x hx => ?_)
 | refine SO.call (r01) rfl rfl rfl (by repeat constructor) (by repeat constructor) rfl (fun x hx => ?_)
 | refine SO.pure rfl rfl rfl ?_
 | refine SO.pure2 rfl rfl rfl ?_
 | refine SO.nil ?_
 | refine SO.guardY rfl rfl ?_
 | refine SK.seq ?_
 | refine SK.region ?_
 | refine SK.condF rfl ?_
 | refine SK.skip ?_
 | fail)
  rename Nat × Lg => z
  obtain ⟨lb, g0⟩ := z
  rename LNew 1000 2 (lb, g0).2 => h0
  dsimp only at h0 ⊢
  have l0 := h0.li (by decide) (by decide) kR
  have p1 := lputR lb l0 h0.down (a := 0) (b := 1) (by rw [h0.next]; rfl) (by decide) (by decide) (by decide)
  rw [h0.next, show ((0 : Nat) : Int) = 0 from rfl] at p1
  repeat' (first
 | refine SO.call (p1) rfl rfl rfl (by repeat constructor) (by repeat constructor) rfl (fun x hx => ?_)
 | refine SO.call (r02) rfl rfl rfl (by repeat constructor) (by repeat constructor) rfl (fun x hx => ?_)
 | refine SO.pure rfl rfl rfl ?_
 | refine SO.nil ?_
 | refine SK.seq ?_
 | refine SK.region ?_
 | fail)
  rename Lg => g1
  rename LPut g0 0 1 g1 => q1
  have r1 := q1.rows (rows_zero (room := 1000) (K := 2) (R := kR) h0 (by decide) (by decide)) (by decide) rfl (by decide) (by decide) (by decide)
  have p2 := lputR lb r1.li r1.down (a := 0) (b := 2) (by rw [r1.next]; rfl) (by decide) (by decide) (by decide)
  rw [r1.next, show ((1 : Nat) : Int) = 1 from rfl] at p2
  repeat' (first
 | refine SO.call (p2) rfl rfl rfl (by repeat constructor) (by repeat constructor) rfl (fun x hx => ?_)
 | refine SO.call (r11) rfl rfl rfl (by repeat constructor) (by repeat constructor) rfl (fun x hx => ?_)
 | refine SO.pure rfl rfl rfl ?_
 | refine SO.nil ?_
 | refine SK.seq ?_
 | refine SK.region ?_
 | fail)
  rename Lg => g2
  rename LPut g1 0 2 g2 => q2
  have r2 := q2.rows r1 (by decide) rfl (by decide) (by decide) (by decide)
  have p3 := lputR lb r2.li r2.down (a := 1) (b := 1) (by rw [r2.next]; rfl) (by decide) (by decide) (by decide)
  rw [r2.next, show ((2 : Nat) : Int) = 2 from rfl] at p3
  repeat' (first
 | refine SO.call (p3) rfl rfl rfl (by repeat constructor) (by repeat constructor) rfl (fun x hx => ?_)
 | refine SO.call (r12) rfl rfl rfl (by repeat constructor) (by repeat constructor) rfl (fun x hx => ?_)
 | refine SO.pure rfl rfl rfl ?_
 | refine SO.nil ?_
 | refine SK.seq ?_
 | refine SK.region ?_
 | fail)
  rename Lg => g3
  rename LPut g2 1 1 g3 => q3
  have r3 := kn3 h0 q1 q2 q3
  have pb := lput_bad lb g3 5 (rz 1 2) (none, 0) r3.down (by rw [r3.next]; decide)
  have he3 := lhead_does lb g3 r3.li.ok
  rw [kn_head3 r3, show ((0 : Nat) : Int) = 0 from rfl] at he3
  have s4 := lsyncR lb 0 r3.li.ok r3.down (by decide)
  rw [show ((0 : Nat) : Int) = 0 from rfl] at s4
  repeat' (first
 | refine SO.call (pb) rfl rfl rfl (by repeat constructor) (by repeat constructor) rfl (fun x hx => ?_)
 | refine SO.call (he3) rfl rfl rfl (by repeat constructor) (by repeat constructor) rfl (fun x hx => ?_)
 | refine SO.call (s4) rfl rfl rfl (by repeat constructor) (by repeat constructor) rfl (fun x hx => ?_)
 | refine SO.pure rfl rfl rfl ?_
 | refine SO.nil ?_
 | refine SK.seq ?_
 | refine SK.region ?_
 | fail)
  rename Bool × Lg => z4
  obtain ⟨bb, g4⟩ := z4
  rename LSync g3 0 (bb, g4).2 ∧ _ => hs4
  have q4 : LSync g3 0 g4 := hs4.1
  dsimp only
  obtain ⟨h4, hh4⟩ := kn4 r3 q4
  have he4 := lhead_does lb g4 h4.li.ok
  rw [hh4, show ((1 : Nat) : Int) = 1 from rfl] at he4
  have cr := lcrash_does lb g4 none 0 0 [] h4.li.ok (fun x hx => by cases hx)
  repeat' (first
 | refine SO.call (he4) rfl rfl rfl (by repeat constructor) (by repeat constructor) rfl (fun x hx => ?_)
 | refine SO.call (cr) rfl rfl rfl (by repeat constructor) (by repeat constructor) rfl (fun x hx => ?_)
 | refine SO.call (r02) rfl rfl rfl (by repeat constructor) (by repeat constructor) rfl (fun x hx => ?_)
 | refine SO.pure rfl rfl rfl ?_
 | refine SO.nil ?_
 | refine SK.seq ?_
 | refine SK.region ?_
 | fail)
  rename Pl × List SB => zc
  obtain ⟨pc, lc⟩ := zc
  rename SegCr [] g4.segs 8 (pc, lc).2 => hc
  dsimp only at hc ⊢
  have pd := lput_down lb (g4.fell pc lc) 1 (rz 0 2) (none, 0) rfl
  obtain ⟨ho4, hg4⟩ := kn_own4 h0 q1 q2 q3 q4
  have ow4 : OwnI g4 [] := own_zero ho4 (by decide)
  have rc := lrecR lb (keep := []) pc h4.li hc ow4 (by decide) (by decide) (fun nx _ _ y hy => by rw [kn_last h4.m y hy]; omega)
  repeat' (first
 | refine SO.call (pd) rfl rfl rfl (by repeat constructor) (by repeat constructor) rfl (fun x hx => ?_)
 | refine SO.call (rc) rfl rfl rfl (by repeat constructor) (by repeat constructor) rfl (fun x hx => ?_)
 | refine SO.pure rfl rfl rfl ?_
 | refine SO.nil ?_
 | refine SK.seq ?_
 | refine SK.region ?_
 | fail)
  rename Lg => g5
  rename LBack _ _ _ _ _ g5 => b5'
  have b5 : LBack 1000 4 kR g4 [] g5 := b5'
  obtain ⟨hn5, hm5, ht5, hg5, ho5⟩ := kn_back h4 hh4 b5 hg4 ho4
  have nx5 := lnext_does lb g5
  rw [b5.down, if_neg (by decide), hn5, show ((1 : Nat) : Int) = 1 from rfl] at nx5
  have p6 := lputR lb b5.li b5.down (a := 0) (b := 2) (by rw [hn5]; rfl) (by decide) (by decide) (by decide)
  rw [hn5, show ((1 : Nat) : Int) = 1 from rfl] at p6
  repeat' (first
 | refine SO.call (nx5) rfl rfl rfl (by repeat constructor) (by repeat constructor) rfl (fun x hx => ?_)
 | refine SO.call (p6) rfl rfl rfl (by repeat constructor) (by repeat constructor) rfl (fun x hx => ?_)
 | refine SO.call (r02) rfl rfl rfl (by repeat constructor) (by repeat constructor) rfl (fun x hx => ?_)
 | refine SO.pure rfl rfl rfl ?_
 | refine SO.nil ?_
 | refine SK.seq ?_
 | refine SK.region ?_
 | fail)
  rename Lg => g6
  rename LPut g5 0 2 g6 => q6
  obtain ⟨l6, hn6⟩ := q6.li b5.li (by rw [hn5]; rfl) (by decide) (by decide) (by decide)
  obtain ⟨w1, w2, w3, w4, w5⟩ := q6.rest
  have s7 := lsyncR lb 1 l6.ok (w5.trans b5.down) (by decide)
  rw [show ((1 : Nat) : Int) = 1 from rfl] at s7
  repeat' (first
 | refine SO.call (s7) rfl rfl rfl (by repeat constructor) (by repeat constructor) rfl (fun x hx => ?_)
 | refine SO.pure rfl rfl rfl ?_
 | refine SO.nil ?_
 | refine SK.seq ?_
 | refine SK.region ?_
 | fail)
  rename Bool × Lg => z7
  obtain ⟨bb7, g7⟩ := z7
  rename LSync g6 1 (bb7, g7).2 ∧ _ => hs7
  have q7 : LSync g6 1 g7 := hs7.1
  dsimp only
  obtain ⟨l7, sy7, hn7, ht7, hm7, hd7, hh7⟩ := kn7 b5.li b5.sy hm5 ht5 hn5 b5.down q6 q7
  obtain ⟨x1, x2, x3, x4, x5, x6⟩ := q7.rest
  have hg7 : g7.gone = [] := by rw [x4, w4, hg5]
  have ho7 : g7.own = ⟨1000, [], 0⟩ := by rw [x1, w1, ho5]
  have ow7 : OwnI g7 [] := own_zero ho7 (by decide)
  obtain ⟨v1, v2⟩ := kn_vec l7 hn7 ht7 hg7
  have ve := lvec_does lb g7 l7.ok hd7 (by rw [hg7]; decide) l7.sites
  rw [hh7, ht7, show (2 : Nat) - 0 = 2 from rfl, v2] at ve
  repeat' (first
 | refine SO.call (ve) rfl rfl rfl (by repeat constructor) (by repeat constructor) rfl (fun x hx => ?_)
 | refine SO.pure rfl rfl rfl ?_
 | refine SO.nil ?_
 | refine SK.seq ?_
 | refine SK.region ?_
 | refine SO.buildSlice rfl rfl rfl rfl rfl rfl (fun b => ?_)
 | fail)
  rename Pl => pv
  refine SO.shift (toSl (ρ := RI) (b := b) (l := [1]) [(1, ())] (by repeat constructor) rfl rfl rfl rfl (by repeat constructor)) ?_
  have t8 := ltrimR lb (A := some ⟨b, 0, none⟩) (m := 1) (c := 1) (pos := 1) (v := [1]) l7 hd7 (by rw [ht7, hh7]; decide) (by rw [hg7]; decide) (by rw [ht7, show (1 : Nat) - 0 = 1 from rfl, v1]; decide) (by decide) (by decide) (by decide) (by rw [ho7]; decide)
  rw [show ((1 : Nat) : Int) = 1 from rfl] at t8
  repeat' (first
 | refine SO.call (t8) rfl rfl rfl (by repeat constructor) (by repeat constructor) rfl (fun x hx => ?_)
 | refine SO.pure rfl rfl rfl ?_
 | refine SO.nil ?_
 | refine SK.seq ?_
 | refine SK.region ?_
 | fail)
  rename Lg => g8
  rename LTrim g7 1 [1] g8 => q8
  obtain ⟨l8, sy8, hn8, ht8, hm8, hd8, hg8, hh8, hu8, hr8⟩ := kn_end l7 sy7 hn7 ht7 hm7 hd7 ho7 ow7 q8
  have tr := ltrimmed_does lb g8 hd8
  rw [ht8, hg8, show ((1 : Nat) : Int) = 1 from rfl] at tr
  have sz := lsizeR lb (N := 3) l8 hd8 (by decide) hh8 (by rw [hm8]; decide) (by decide) (by decide) (by rw [hm8]; decide) (by rw [hr8, hm8]; simp only [List.length_cons, List.length_nil]; omega)
  repeat' (first
 | refine SO.call (tr) rfl rfl rfl (by repeat constructor) (by repeat constructor) rfl (fun x hx => ?_)
 | refine SO.call (sz) rfl rfl rfl (by repeat constructor) (by repeat constructor) rfl (fun x hx => ?_)
 | refine SO.pure rfl rfl rfl ?_
 | refine SO.nil ?_
 | refine SK.seq ?_
 | refine SK.region ?_
 | fail)
  rename Pl => pw
  rename Lg => g9
  rename LSize g8 3 g9 => q9
  obtain ⟨l9, hm9, hd9, hget⟩ := kn_size l8 hm8 hn8 ht8 hd8 q9
  rw [show ((0 : Nat) : Int) = 0 from rfl] at hget
  have gt := lget_does lb g9 0 l9.ok (by decide)
  rw [hget] at gt
  dsimp only at gt
  have st := lstripes_does lb g9 (2, 3) l9.ok (by rw [hm9]; rfl)
  have ep := lepoch_does lb g9
  rw [hm9, show ((([(0, 2), (2, 3)] : List (Int × Int)).length : Nat) : Int) = 2 from rfl] at ep
  have dn := ldown_does lb g9
  rw [hd9] at dn
  repeat' (first
 | refine SO.call (gt) rfl rfl rfl (by repeat constructor) (by repeat constructor) rfl (fun x hx => ?_)
 | refine SO.pure rfl rfl rfl ?_
 | refine SO.nil ?_
 | refine SO.guardY rfl rfl ?_
 | refine SK.seq ?_
 | refine SK.region ?_
 | refine SO.alloc rfl rfl rfl (fun b => ?_)
 | refine SO.storeW rfl rfl (by repeat constructor) rfl (by rfl) (by rfl) (by rfl) ?_
 | refine SO.buildSlice rfl rfl rfl rfl rfl rfl (fun b => ?_)
 | fail)
  refine SO.shift (toSl (ρ := RI) (b := b) (l := [2]) [(2, ())] (by repeat constructor) rfl rfl rfl rfl (by repeat constructor)) ?_
  have sv1 := rsamev_does pv.1 (some ⟨b, 0, none⟩) [(2 : Int)].length pv.2 1 1 [2] [2]
  rw [show sameV [2] [2] = true from rfl] at sv1
  repeat' (first
 | refine SO.call (sv1) rfl rfl rfl (by repeat constructor) (by repeat constructor) rfl (fun x hx => ?_)
 | refine SO.pure rfl rfl rfl ?_
 | refine SO.guardY rfl rfl ?_
 | refine SO.buildSlice rfl rfl rfl rfl rfl rfl (fun b => ?_)
 | fail)
  refine SO.shift (toSl (ρ := RI) (b := b) (l := [1]) [(1, ())] (by repeat constructor) rfl rfl rfl rfl (by repeat constructor)) ?_
  have sv2 := rsamev_does pw.1 (some ⟨b, 0, none⟩) [(1 : Int)].length pw.2 1 1 [1] [1]
  rw [show sameV [1] [1] = true from rfl] at sv2
  repeat' (first
 | refine SO.call (sv2) rfl rfl rfl (by repeat constructor) (by repeat constructor) rfl (fun x hx => ?_)
 | refine SO.call (st) rfl rfl rfl (by repeat constructor) (by repeat constructor) rfl (fun x hx => ?_)
 | refine SO.call (ep) rfl rfl rfl (by repeat constructor) (by repeat constructor) rfl (fun x hx => ?_)
 | refine SO.call (dn) rfl rfl rfl (by repeat constructor) (by repeat constructor) rfl (fun x hx => ?_)
 | refine SO.pure rfl rfl rfl ?_
 | refine SO.nil ?_
 | refine SO.guardY rfl rfl ?_
 | fail)
  exact SK.retX (.tmp rfl .nil) () trivial rfl (by repeat constructor)
end Go.Proofs
