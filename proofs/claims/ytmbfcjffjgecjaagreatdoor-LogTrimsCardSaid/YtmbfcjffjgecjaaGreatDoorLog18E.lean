/- A part of a proof: what functions of the program compute. -/
import Derived.Test.YtmbfcjffjgecjaaGreatDoorLog17E
import Derived.Test.YtmbfcjffjgecjaaGreatDoorLib2
set_option linter.unusedVariables false
set_option linter.unusedSimpArgs false
set_option maxHeartbeats 0
set_option maxRecDepth 20000
namespace Go.Proofs
attribute [local irreducible] Go.Sl.SO Go.Sl.SQ Go.Sl.SR Go.Sl.SC Go.Sl.SX Go.Sl.SY Go.Sl.eadr Go.Sl.slAt Go.Sl.sqAt Go.Sl.pts Go.Sl.rod Go.Sl.ob Go.Sl.ex Go.Sl.big Go.Sl.pr Go.Sl.tabs Go.Sl.mpAt Go.Sl.mitAt Go.Sl.mitN
open Go.Sl
theorem Fill.synced {K c : Nat} {g : Lg} (h : Fill K c g) : g.synced := by
  intro x hx
  obtain ⟨i, hi, rfl⟩ := List.mem_iff_getElem.1 hx
  exact (h.si.segs i _ (List.getElem?_eq_getElem hi)).1 rfl
theorem back_ok {room : Int} {n : Nat} {R : Nat → Rc} {g : Lg} {keep : List Int} {l : List SB} (h : LI room n R g) (hc : SegCr keep g.segs 8 l) : ∀ x ∈ l, x.d.Ok := by
  intro z hz
  obtain ⟨i, hi, rfl⟩ := List.mem_iff_getElem.1 hz
  have hlen : i < g.segs.length := by rw [← hc.len]; exact hi
  obtain ⟨z2, hz2, hd, hop⟩ := fallen_at h hc (List.getElem?_eq_getElem hlen)
  rw [List.getElem?_eq_getElem hi] at hz2
  obtain rfl := Option.some.inj hz2
  rw [hd]
  exact (h.ok.dk _ (List.getElem_mem hlen)).crash _
theorem ltrimsL_does (n0 t0 m0 : Nat) (hn : n0 < 256) (ht : t0 < 256) (hm : m0 < 256) : Does Tryz.prog 12 [.int .u8 (n0 : Int), .int .u8 (t0 : Int), .int .u8 (m0 : Int)] [libA, tabs 4 5] [] Unit (fun _ => True) (fun _ => .bool true) (fun _ => []) := by
  refine Does.of Tryz.call12 Tryz.func12 rfl rfl rfl (all_cons pers_lib (all_cons (pers_tabs _ _) all_nil)) rfl ?_
  have hCw : IntKind.i64.wrap ((n0 : Int).tmod 30) = ((n0 % 30 : Nat) : Int) := wrap_id (by show -9223372036854775808 ≤ ((n0 % 30 : Nat) : Int); omega) (by show ((n0 % 30 : Nat) : Int) < 9223372036854775808; omega)
  have hc30 : n0 % 30 < 30 := Nat.mod_lt _ (by omega)
  repeat' (first
 | refine SO.call (lknown_does) rfl rfl rfl (by repeat constructor) (by repeat constructor) rfl (fun x hx => ?_)
 | refine SO.pure rfl rfl rfl ?_
 | refine SO.pure2 rfl rfl rfl ?_
 | refine SO.nil ?_
 | refine SK.seq ?_
 | refine SK.region ?_
 | refine SK.condF rfl ?_
 | refine SK.skip ?_
 | fail)
  rw [hCw]
  generalize n0 % 30 = c at *
  have fl := lfilled_does 3 c (by omega) (by omega) (by omega)
  rw [show ((3 : Nat) : Int) = 3 from rfl] at fl
  have hc1 : IntKind.i64.wrap ((c : Int) + 1) = ((c + 1 : Nat) : Int) := by rw [wrap_id (by omega) (by omega)]; omega
  repeat' (first
 | refine SO.call (fl) rfl rfl rfl (by repeat constructor) (by repeat constructor) rfl (fun x hx => ?_)
 | refine SO.pure rfl rfl rfl ?_
 | refine SO.pure2 rfl rfl rfl ?_
 | refine SO.nil ?_
 | refine SK.seq ?_
 | refine SK.region ?_
 | refine SK.condF rfl ?_
 | refine SK.skip ?_
 | fail)
  rw [hc1]
  have hPw : (IntKind.i64.wrap (t0 : Int)).tmod ((c + 1 : Nat) : Int) = ((t0 % (c + 1) : Nat) : Int) := by rw [wrap_id (by omega) (by omega)]; rfl
  have hp : t0 % (c + 1) < c + 1 := Nat.mod_lt _ (by omega)
  repeat' (first
 | refine SO.div rfl rfl (rem_ne (by omega)) rfl ?_
 | refine SO.pure rfl rfl rfl ?_
 | refine SO.nil ?_
 | refine SO.div rfl rfl rfl rfl ?_
 | refine SK.seq ?_
 | refine SK.region ?_
 | refine SO.buildSlice rfl rfl rfl rfl rfl rfl (fun b => ?_)
 | fail)
  rw [hPw]
  generalize t0 % (c + 1) = p at *
  rename Nat × Lg => z
  obtain ⟨lb, g0⟩ := z
  rename Fill 3 c (lb, g0).2 => f0
  dsimp only at f0 ⊢
  have l0 := f0.si.li
  have sy0 := f0.synced
  have hd0 := f0.si.down
  have hh0 : g0.head = c := (l0.head hd0 sy0).trans f0.si.next
  have ht0 := f0.si.trim
  have hn0 := f0.si.next
  have tb1 := fun b => ltrim_high lb g0 (some ⟨b, 0, none⟩) 1 1 ((c + 1 : Nat) : Int) l0.ok hd0 (by rw [ht0]; omega) (by rw [hh0]; omega)
  have hpp : IntKind.i64.wrap ((p : Int) + 1) = ((p + 1 : Nat) : Int) := by rw [wrap_id (by omega) (by omega)]; omega
  have hw0 : ∀ k, k ≤ c → vecF g0 k 0 g0.gone = if k = 0 then [] else [((0 + k : Nat) : Int)] := fun k hk => by
    rw [f0.gone]
    exact vec_row k 0 [] (fun i h1 h2 => l0.rcd (by rw [ht0]; omega) (by rw [hn0]; omega)) (by decide)
  have ho0 := f0.own
  have ow0 : OwnI g0 [] := own_zero ho0 (by decide)
  skip
  rw [hc1]
  repeat' (first
 | refine SO.call (tb1 _) rfl rfl rfl (by repeat constructor) (by repeat constructor) rfl (fun x hx => ?_)
 | refine SO.pure rfl rfl rfl ?_
 | refine SO.guardY rfl rfl ?_
 | refine SO.buildSlice rfl rfl rfl rfl rfl rfl (fun b => ?_)
 | fail)
  rw [hpp]
  refine SO.shift (toSl (ρ := RI) (b := b) (l := [((p + 1 : Nat) : Int)]) [(((p + 1 : Nat) : Int), ())] (by repeat constructor) rfl rfl rfl rfl (by repeat constructor)) ?_
  have to := ltrim_other lb g0 (some ⟨b, 0, none⟩) 1 1 [((p + 1 : Nat) : Int)] p l0.ok hd0 (by rw [ht0, hh0]; omega) (by rw [f0.gone]; decide) (fun i h1 h2 => l0.sites i h1 (by rw [hn0]; omega)) (by rw [ht0, Nat.sub_zero, hw0 p (by omega)]; exact row_other p)
  repeat' (first
 | refine SO.call (to) rfl rfl rfl (by repeat constructor) (by repeat constructor) rfl (fun x hx => ?_)
 | refine SO.pure rfl rfl rfl ?_
 | refine SO.guardY rfl rfl ?_
 | refine SO.buildSlice rfl rfl rfl rfl rfl rfl (fun b => ?_)
 | fail)
  refine SO.shift (toSl (ρ := RI) (b := b) (l := [(p : Int)]) [((p : Int), ())] (by repeat constructor) rfl rfl rfl rfl (by repeat constructor)) ?_
  have t1 := ltrimR lb (A := some ⟨b, 0, none⟩) (m := 1) (c := 1) (pos := p) (v := [(p : Int)]) l0 hd0 (by rw [ht0, hh0]; omega) (by rw [f0.gone]; decide) (by rw [ht0, Nat.sub_zero, hw0 p (by omega)]; exact row_same p) (by intro x hx; simp at hx; subst hx; omega) (by simp) (by simp) (by rw [ho0]; simp only [usedL, List.length_cons, List.length_nil]; omega)
  repeat' (first
 | refine SO.call (t1) rfl rfl rfl (by repeat constructor) (by repeat constructor) rfl (fun x hx => ?_)
 | refine SO.pure rfl rfl rfl ?_
 | refine SO.nil ?_
 | refine SO.guardY rfl rfl ?_
 | refine SK.seq ?_
 | refine SK.region ?_
 | refine SK.condF rfl ?_
 | refine SK.skip ?_
 | fail)
  rename Lg => g1
  rename LTrim g0 p _ g1 => q1
  obtain ⟨l1, sy1⟩ := q1.li l0 (by rw [ht0, hn0]; omega) (by omega) (by omega)
  have sy1 := sy1 sy0
  obtain ⟨a1, a2, a3, a4, a5, a6⟩ := q1.rest
  obtain ⟨ow1, ou1, or1⟩ := q1.own ow0 (by omega) (by simp) (by intro x hx; simp at hx; subst hx; omega) (by rw [ho0]; simp only [usedL, List.length_cons, List.length_nil]; omega)
  rw [ho0] at ou1 or1
  have hd1 : g1.down = false := a5.trans hd0
  have hn1 : g1.next = c := a4.trans hn0
  have hh1 : g1.head = c := (l1.head hd1 sy1).trans hn1
  have hcp : IntKind.i64.wrap ((c : Int) - (p : Int)) = ((c - p : Nat) : Int) := by rw [wrap_id (by omega) (by omega)]; omega
  have hcp1 : IntKind.i64.wrap (((c - p : Nat) : Int) + 1) = ((c - p + 1 : Nat) : Int) := by rw [wrap_id (by omega) (by omega)]; omega
  have hMw : (IntKind.i64.wrap (m0 : Int)).tmod ((c - p + 1 : Nat) : Int) = ((m0 % (c - p + 1) : Nat) : Int) := by rw [wrap_id (by omega) (by omega)]; rfl
  have hmm : m0 % (c - p + 1) < c - p + 1 := Nat.mod_lt _ (by omega)
  have hqw : IntKind.i64.wrap ((p : Int) + ((m0 % (c - p + 1) : Nat) : Int)) = ((p + m0 % (c - p + 1) : Nat) : Int) := by rw [wrap_id (by omega) (by omega)]; omega
  skip
  rw [hcp, hcp1]
  repeat' (first
 | refine SO.div rfl rfl (rem_ne (by omega)) rfl ?_
 | refine SO.pure rfl rfl rfl ?_
 | refine SO.nil ?_
 | refine SO.div rfl rfl rfl rfl ?_
 | refine SK.seq ?_
 | refine SK.region ?_
 | refine SO.buildSlice rfl rfl rfl rfl rfl rfl (fun b => ?_)
 | fail)
  rw [hMw, hqw]
  obtain ⟨q, hqe, hq1, hq2⟩ : ∃ q, p + m0 % (c - p + 1) = q ∧ p ≤ q ∧ q ≤ c := ⟨_, rfl, by omega, by omega⟩
  rw [hqe]
  have hw1 : vecF g1 (q - p) p g1.gone = if q - p = 0 then [(p : Int)] else [((p + (q - p) : Nat) : Int)] := by
    rw [a3]
    exact vec_row (q - p) p _ (fun i h1 h2 => l1.rcd (by rw [a2]; omega) (by rw [hn1]; omega)) (by simp)
  skip
  refine SO.shift (toSl (ρ := RI) (b := b) (l := [(q : Int)]) [((q : Int), ())] (by repeat constructor) rfl rfl rfl rfl (by repeat constructor)) ?_
  have t2 := ltrimR lb (A := some ⟨b, 0, none⟩) (m := 1) (c := 1) (pos := q) (v := [(q : Int)]) l1 hd1 (by rw [a2, hh1]; omega) (by rw [a3]; simp) (by rw [a2, hw1]; exact row_same2 p q hq1) (by intro x hx; simp at hx; subst hx; omega) (by simp) (by simp) (by rw [or1]; simp only [List.length_cons, List.length_nil] at ou1 ⊢; simp only [usedL] at ou1; omega)
  have hq00 : (!decide ((0 : Int) = 0)) = false := by decide
  repeat' (first
 | refine SO.call (t2) rfl rfl rfl (by repeat constructor) (by repeat constructor) rfl (fun x hx => ?_)
 | refine SO.pure rfl rfl rfl ?_
 | refine SO.guardY rfl rfl ?_
 | fail)
  rename Lg => g2
  rename LTrim g1 q _ g2 => q2
  obtain ⟨l2, sy2⟩ := q2.li l1 (by rw [a2, hn1]; omega) (by omega) (by omega)
  have sy2 := sy2 sy1
  obtain ⟨b1, b2, b3, b4, b5, b6⟩ := q2.rest
  obtain ⟨ow2, ou2, or2⟩ := q2.own ow1 (by omega) (by simp) (by intro x hx; simp at hx; subst hx; omega) (by rw [or1]; simp only [List.length_cons, List.length_nil] at ou1 ⊢; simp only [usedL] at ou1; omega)
  have hd2 : g2.down = false := b5.trans hd1
  have hn2 : g2.next = c := b4.trans hn1
  have hm2 : g2.m = [(0, 3)] := b1.trans (a1.trans f0.si.m)
  have cr := lcrash_does lb g2 none 0 0 [] l2.ok (fun x hx => by cases hx)
  rcases Nat.eq_zero_or_pos q with hqz | hqz
  · have c0 : decide ((0 : Int) < (q : Int)) = false := decide_eq_false (by omega)
    repeat' (first
 | refine SO.call (cr) rfl rfl rfl (by repeat constructor) (by repeat constructor) rfl (fun x hx => ?_)
 | refine SO.pure rfl rfl rfl ?_
 | refine SO.nil ?_
 | refine SO.guardY rfl rfl ?_
 | refine SO.guardN rfl rfl rfl ?_
 | refine SK.seq ?_
 | refine SK.region ?_
 | refine SK.condF rfl ?_
 | refine SK.skip ?_
 | refine SO.guardNP rfl rfl rfl (by first | assumption | (simp only [Go.Sl.bl]; omega)) ?_
 | fail)
    rename Pl × List SB => zc
    obtain ⟨pc, lc⟩ := zc
    rename SegCr [] g2.segs 8 (pc, lc).2 => hc
    dsimp only at hc ⊢
    have gd := lget_does lb (g2.fell pc lc) 0 ⟨l2.m, by rw [show (g2.fell pc lc).segs.length = lc.length from rfl, hc.len]; exact l2.len, by show (g2.own.crash 0).Ok; rw [own_crash ow2]; exact l2.own, fun x hx => (back_ok l2 hc x hx), by show g2.trim ≤ g2.next ∧ g2.next ≤ 1000000; rw [b2, hn2]; omega⟩ (by decide)
    have eg : (g2.fell pc lc).get 0 = (rc0, 11) := rfl
    rw [eg] at gd
    dsimp only at gd
    have rcv := lrecR lb (keep := []) pc l2 hc ow2 (by omega) (by omega) (fun nx _ _ y hy => by rw [kn_last hm2 y hy]; omega)
    repeat' (first
 | refine SO.call (gd) rfl rfl rfl (by repeat constructor) (by repeat constructor) rfl (fun x hx => ?_)
 | refine SO.call (rcv) rfl rfl rfl (by repeat constructor) (by repeat constructor) rfl (fun x hx => ?_)
 | refine SO.pure rfl rfl rfl ?_
 | refine SO.nil ?_
 | refine SO.guardY rfl rfl ?_
 | refine SK.seq ?_
 | refine SK.region ?_
 | refine SK.condF rfl ?_
 | refine SK.skip ?_
 | refine SO.alloc rfl rfl rfl (fun b => ?_)
 | refine SO.storeW rfl rfl (by repeat constructor) rfl (by rfl) (by rfl) (by rfl) ?_
 | fail)
    rename Lg => g3
    rename LBack _ _ _ _ _ g3 => k3
    have l3 := k3.li
    have hn3 : g3.next = c := (k3.all l2 hd2 sy2).trans hn2
    have ht3 : g3.trim = q := k3.trim.trans b2
    have hh3 : g3.head = c := (l3.head k3.down k3.sy).trans hn3
    have hg3 : g3.gone.length ≤ 1 ∧ sameV g3.gone [(q : Int)] = true := by
      rcases k3.gone with e | e
      · rw [e, b3]; exact ⟨by simp, same_refl _⟩
      · rw [e, b3]; exact ⟨trim_len1 _, same_trim q⟩
    have tr := ltrimmed_does lb g3 k3.down
    rw [ht3] at tr
    repeat' (first
 | refine SO.call (tr) rfl rfl rfl (by repeat constructor) (by repeat constructor) rfl (fun x hx => ?_)
 | refine SO.pure rfl rfl rfl ?_
 | refine SO.nil ?_
 | refine SK.seq ?_
 | refine SK.region ?_
 | refine SK.block ?_
 | fail)
    rename Pl => pv
    have hc2 : IntKind.i64.wrap ((c : Int) + 2) = ((c + 2 : Nat) : Int) := by rw [wrap_id (by omega) (by omega)]; omega
    refine SK.loop (X := {i : Nat // i ≤ c + 2}) (fun i => [(15, .int .i64 (i.1 : Int)), (14, .slice pv.1 g3.gone.length pv.2), (13, .int .i64 (q : Int)), (10, .int .i64 (q : Int)), (8, .pointer (some ⟨lb, 0, none⟩)), (7, .int .i64 (c : Int))]) (fun i => slAt RI pv.1 g3.gone.length g3.gone :: lgAt lb g3) (fun i => c + 2 - i.1) ⟨0, Nat.zero_le _⟩ (by repeat constructor) (ent_append_of_takes (by repeat constructor)) ?_
    rintro ⟨i, hi⟩
    dsimp only
    have hwi : IntKind.i64.wrap ((i : Int) + 1) = ((i + 1 : Nat) : Int) := by rw [wrap_id (by omega) (by omega)]; omega
    rcases Nat.lt_or_ge i (c + 2) with hic | hic
    · have hl1 : decide ((i : Int) < ((c + 2 : Nat) : Int)) = true := decide_eq_true (by omega)
      have gt := lget_does lb g3 (i : Int) l3.ok (by omega)
      rw [l3.getG k3.down, ht3, hn3] at gt
      repeat' (first
 | refine SO.pure rfl rfl rfl ?_
 | refine SO.nil ?_
 | refine SK.seq ?_
 | refine SK.region ?_
 | refine SK.skip ?_
 | refine SK.block ?_
 | refine SK.condTP rfl (by first | assumption | (simp only [Go.Sl.bl]; omega)) ?_
 | fail)
      rw [hc2]
      rcases Nat.lt_or_ge i q with hiq | hiq
      · exact absurd hiq (by omega)
      · rw [if_neg (by omega)] at gt
        have c1 : decide ((i : Int) < (q : Int)) = false := decide_eq_false (by omega)
        have c2 : decide ((q : Int) ≤ (i : Int)) = true := decide_eq_true (by omega)
        rcases Nat.lt_or_ge i c with hi2 | hi2
        · rw [if_neg (by omega)] at gt
          dsimp only at gt
          have c3 : decide ((i : Int) < (c : Int)) = true := decide_eq_true (by omega)
          have c4 : decide ((c : Int) ≤ (i : Int)) = false := decide_eq_false (by omega)
          repeat' (first
 | refine SO.call (gt) rfl rfl rfl (by repeat constructor) (by repeat constructor) rfl (fun x hx => ?_)
 | refine SO.pure rfl rfl rfl ?_
 | refine SO.nil ?_
 | refine SO.guardY rfl rfl ?_
 | refine SO.guardN rfl rfl rfl ?_
 | refine SK.seq ?_
 | refine SK.region ?_
 | refine SK.condF rfl ?_
 | refine SK.skip ?_
 | refine SK.blk ?_
 | refine SO.alloc rfl rfl rfl (fun b => ?_)
 | refine SO.storeW rfl rfl (by repeat constructor) rfl (by rfl) (by rfl) (by rfl) ?_
 | refine SO.guardYP rfl rfl (by first | assumption | (simp only [Go.Sl.bl]; omega)) ?_
 | refine SO.guardNP rfl rfl rfl (by first | assumption | (simp only [Go.Sl.bl]; omega)) ?_
 | fail)
          refine SK.inv ⟨⟨i + 1, by omega⟩, ?_, ?_, ?_⟩
          · show c + 2 - (i + 1) < c + 2 - i
            omega
          · rw [hwi]; repeat constructor
          · exact ent_append_of_takes (by repeat constructor)
        · rw [if_pos hi2] at gt
          dsimp only at gt
          have c3 : decide ((i : Int) < (c : Int)) = false := decide_eq_false (by omega)
          have c4 : decide ((c : Int) ≤ (i : Int)) = true := decide_eq_true (by omega)
          repeat' (first
 | refine SO.call (gt) rfl rfl rfl (by repeat constructor) (by repeat constructor) rfl (fun x hx => ?_)
 | refine SO.pure rfl rfl rfl ?_
 | refine SO.nil ?_
 | refine SO.guardY rfl rfl ?_
 | refine SO.guardN rfl rfl rfl ?_
 | refine SK.seq ?_
 | refine SK.region ?_
 | refine SK.condF rfl ?_
 | refine SK.skip ?_
 | refine SK.blk ?_
 | refine SO.alloc rfl rfl rfl (fun b => ?_)
 | refine SO.storeW rfl rfl (by repeat constructor) rfl (by rfl) (by rfl) (by rfl) ?_
 | refine SO.guardYP rfl rfl (by first | assumption | (simp only [Go.Sl.bl]; omega)) ?_
 | refine SO.guardNP rfl rfl rfl (by first | assumption | (simp only [Go.Sl.bl]; omega)) ?_
 | fail)
          refine SK.inv ⟨⟨i + 1, by omega⟩, ?_, ?_, ?_⟩
          · show c + 2 - (i + 1) < c + 2 - i
            omega
          · rw [hwi]; repeat constructor
          · exact ent_append_of_takes (by repeat constructor)
    · have hl1 : decide ((i : Int) < ((c + 2 : Nat) : Int)) = false := decide_eq_false (by omega)
      repeat' (first
 | refine SO.pure rfl rfl rfl ?_
 | refine SO.nil ?_
 | refine SK.seq ?_
 | refine SK.region ?_
 | refine SK.exit rfl ?_
 | refine SK.condFP rfl (by first | assumption | (simp only [Go.Sl.bl]; omega)) ?_
 | fail)
      rw [hc2]
      have hqq : decide ((q : Int) = (q : Int)) = true := decide_eq_true rfl
      have hcc : decide ((c : Int) = (c : Int)) = true := decide_eq_true rfl
      repeat' (first
 | refine SO.pure rfl rfl rfl ?_
 | refine SO.guardY rfl rfl ?_
 | refine SO.buildSlice rfl rfl rfl rfl rfl rfl (fun b => ?_)
 | refine SO.guardYP rfl rfl (by first | assumption | (simp only [Go.Sl.bl]; omega)) ?_
 | fail)
      refine SO.shift (toSl (ρ := RI) (b := b) (l := [(q : Int)]) [((q : Int), ())] (by repeat constructor) rfl rfl rfl rfl (by repeat constructor)) ?_
      have sv1 := rsamev_does pv.1 (some ⟨b, 0, none⟩) g3.gone.length pv.2 1 1 g3.gone [(q : Int)]
      rw [hg3.2] at sv1
      have ve := lvec_does lb g3 l3.ok k3.down (by omega) l3.sites
      have hvv : sameV (vecF g3 (g3.head - g3.trim) g3.trim g3.gone) [(c : Int)] = true := by
        rw [hh3, ht3, vec_row (c - q) q _ (fun i h1 h2 => l3.rcd (by rw [ht3]; omega) (by rw [hn3]; omega)) hg3.1]
        by_cases hz : c - q = 0
        · rw [if_pos hz]
          have : c = q := by omega
          rw [this]; exact hg3.2
        · rw [if_neg hz, show q + (c - q) = c by omega]; exact same_refl _
      generalize vecF g3 (g3.head - g3.trim) g3.trim g3.gone = w at *
      repeat' (first
 | refine SO.call (sv1) rfl rfl rfl (by repeat constructor) (by repeat constructor) rfl (fun x hx => ?_)
 | refine SO.call (ve) rfl rfl rfl (by repeat constructor) (by repeat constructor) rfl (fun x hx => ?_)
 | refine SO.pure rfl rfl rfl ?_
 | refine SO.guardY rfl rfl ?_
 | refine SO.buildSlice rfl rfl rfl rfl rfl rfl (fun b => ?_)
 | fail)
      rename Pl => pw
      refine SO.shift (toSl (ρ := RI) (b := b) (l := [(c : Int)]) [((c : Int), ())] (by repeat constructor) rfl rfl rfl rfl (by repeat constructor)) ?_
      have sv2 := rsamev_does pw.1 (some ⟨b, 0, none⟩) w.length pw.2 1 1 w [(c : Int)]
      rw [hvv] at sv2
      have he3 := lhead_does lb g3 l3.ok
      rw [hh3] at he3
      repeat' (first
 | refine SO.call (sv2) rfl rfl rfl (by repeat constructor) (by repeat constructor) rfl (fun x hx => ?_)
 | refine SO.call (he3) rfl rfl rfl (by repeat constructor) (by repeat constructor) rfl (fun x hx => ?_)
 | refine SO.pure rfl rfl rfl ?_
 | refine SO.nil ?_
 | refine SO.guardY rfl rfl ?_
 | fail)
      exact SK.retX (.tmp rfl .nil) () trivial (by rw [hcc]; rfl) (by repeat constructor)
  · have c0 : decide ((0 : Int) < (q : Int)) = true := decide_eq_true (by omega)
    have hq1w : IntKind.i64.wrap ((q : Int) - 1) = ((q - 1 : Nat) : Int) := by rw [wrap_id (by omega) (by omega)]; omega
    have tl := fun b => ltrim_low lb g2 (some ⟨b, 0, none⟩) 1 1 ((q - 1 : Nat) : Int) hd2 (by rw [b2]; omega)
    repeat' (first
 | refine SO.pure rfl rfl rfl ?_
 | refine SO.guardY rfl rfl ?_
 | refine SO.buildSlice rfl rfl rfl rfl rfl rfl (fun b => ?_)
 | refine SO.guardYP rfl rfl (by first | assumption | (simp only [Go.Sl.bl]; omega)) ?_
 | fail)
    rw [hq1w]
    repeat' (first
 | refine SO.call (tl _) rfl rfl rfl (by repeat constructor) (by repeat constructor) rfl (fun x hx => ?_)
 | refine SO.pure rfl rfl rfl ?_
 | refine SO.nil ?_
 | refine SO.guardY rfl rfl ?_
 | refine SK.seq ?_
 | refine SK.region ?_
 | refine SK.condF rfl ?_
 | refine SK.skip ?_
 | fail)
    repeat' (first
 | refine SO.call (cr) rfl rfl rfl (by repeat constructor) (by repeat constructor) rfl (fun x hx => ?_)
 | refine SO.pure rfl rfl rfl ?_
 | refine SO.nil ?_
 | refine SK.seq ?_
 | refine SK.region ?_
 | fail)
    rename Pl × List SB => zc
    obtain ⟨pc, lc⟩ := zc
    rename SegCr [] g2.segs 8 (pc, lc).2 => hc
    dsimp only at hc ⊢
    have gd := lget_does lb (g2.fell pc lc) 0 ⟨l2.m, by rw [show (g2.fell pc lc).segs.length = lc.length from rfl, hc.len]; exact l2.len, by show (g2.own.crash 0).Ok; rw [own_crash ow2]; exact l2.own, fun x hx => (back_ok l2 hc x hx), by show g2.trim ≤ g2.next ∧ g2.next ≤ 1000000; rw [b2, hn2]; omega⟩ (by decide)
    have eg : (g2.fell pc lc).get 0 = (rc0, 11) := rfl
    rw [eg] at gd
    dsimp only at gd
    have rcv := lrecR lb (keep := []) pc l2 hc ow2 (by omega) (by omega) (fun nx _ _ y hy => by rw [kn_last hm2 y hy]; omega)
    repeat' (first
 | refine SO.call (gd) rfl rfl rfl (by repeat constructor) (by repeat constructor) rfl (fun x hx => ?_)
 | refine SO.call (rcv) rfl rfl rfl (by repeat constructor) (by repeat constructor) rfl (fun x hx => ?_)
 | refine SO.pure rfl rfl rfl ?_
 | refine SO.nil ?_
 | refine SO.guardY rfl rfl ?_
 | refine SK.seq ?_
 | refine SK.region ?_
 | refine SK.condF rfl ?_
 | refine SK.skip ?_
 | refine SO.alloc rfl rfl rfl (fun b => ?_)
 | refine SO.storeW rfl rfl (by repeat constructor) rfl (by rfl) (by rfl) (by rfl) ?_
 | fail)
    rename Lg => g3
    rename LBack _ _ _ _ _ g3 => k3
    have l3 := k3.li
    have hn3 : g3.next = c := (k3.all l2 hd2 sy2).trans hn2
    have ht3 : g3.trim = q := k3.trim.trans b2
    have hh3 : g3.head = c := (l3.head k3.down k3.sy).trans hn3
    have hg3 : g3.gone.length ≤ 1 ∧ sameV g3.gone [(q : Int)] = true := by
      rcases k3.gone with e | e
      · rw [e, b3]; exact ⟨by simp, same_refl _⟩
      · rw [e, b3]; exact ⟨trim_len1 _, same_trim q⟩
    have tr := ltrimmed_does lb g3 k3.down
    rw [ht3] at tr
    repeat' (first
 | refine SO.call (tr) rfl rfl rfl (by repeat constructor) (by repeat constructor) rfl (fun x hx => ?_)
 | refine SO.pure rfl rfl rfl ?_
 | refine SO.nil ?_
 | refine SK.seq ?_
 | refine SK.region ?_
 | refine SK.block ?_
 | fail)
    rename Pl => pv
    have hc2 : IntKind.i64.wrap ((c : Int) + 2) = ((c + 2 : Nat) : Int) := by rw [wrap_id (by omega) (by omega)]; omega
    refine SK.loop (X := {i : Nat // i ≤ c + 2}) (fun i => [(15, .int .i64 (i.1 : Int)), (14, .slice pv.1 g3.gone.length pv.2), (13, .int .i64 (q : Int)), (10, .int .i64 (q : Int)), (8, .pointer (some ⟨lb, 0, none⟩)), (7, .int .i64 (c : Int))]) (fun i => slAt RI pv.1 g3.gone.length g3.gone :: lgAt lb g3) (fun i => c + 2 - i.1) ⟨0, Nat.zero_le _⟩ (by repeat constructor) (ent_append_of_takes (by repeat constructor)) ?_
    rintro ⟨i, hi⟩
    dsimp only
    have hwi : IntKind.i64.wrap ((i : Int) + 1) = ((i + 1 : Nat) : Int) := by rw [wrap_id (by omega) (by omega)]; omega
    rcases Nat.lt_or_ge i (c + 2) with hic | hic
    · have hl1 : decide ((i : Int) < ((c + 2 : Nat) : Int)) = true := decide_eq_true (by omega)
      have gt := lget_does lb g3 (i : Int) l3.ok (by omega)
      rw [l3.getG k3.down, ht3, hn3] at gt
      repeat' (first
 | refine SO.pure rfl rfl rfl ?_
 | refine SO.nil ?_
 | refine SK.seq ?_
 | refine SK.region ?_
 | refine SK.skip ?_
 | refine SK.block ?_
 | refine SK.condTP rfl (by first | assumption | (simp only [Go.Sl.bl]; omega)) ?_
 | fail)
      rw [hc2]
      rcases Nat.lt_or_ge i q with hiq | hiq
      · rw [if_pos hiq] at gt
        dsimp only at gt
        have c1 : decide ((i : Int) < (q : Int)) = true := decide_eq_true (by omega)
        have c2 : decide ((q : Int) ≤ (i : Int)) = false := decide_eq_false (by omega)
        have c3 : decide ((c : Int) ≤ (i : Int)) = false := decide_eq_false (by omega)
        repeat' (first
 | refine SO.call (gt) rfl rfl rfl (by repeat constructor) (by repeat constructor) rfl (fun x hx => ?_)
 | refine SO.pure rfl rfl rfl ?_
 | refine SO.nil ?_
 | refine SO.guardY rfl rfl ?_
 | refine SO.guardN rfl rfl rfl ?_
 | refine SK.seq ?_
 | refine SK.region ?_
 | refine SK.condF rfl ?_
 | refine SK.skip ?_
 | refine SK.blk ?_
 | refine SO.alloc rfl rfl rfl (fun b => ?_)
 | refine SO.storeW rfl rfl (by repeat constructor) rfl (by rfl) (by rfl) (by rfl) ?_
 | refine SO.guardYP rfl rfl (by first | assumption | (simp only [Go.Sl.bl]; omega)) ?_
 | refine SO.guardNP rfl rfl rfl (by first | assumption | (simp only [Go.Sl.bl]; omega)) ?_
 | fail)
        refine SK.inv ⟨⟨i + 1, by omega⟩, ?_, ?_, ?_⟩
        · show c + 2 - (i + 1) < c + 2 - i
          omega
        · rw [hwi]; repeat constructor
        · exact ent_append_of_takes (by repeat constructor)
      · rw [if_neg (by omega)] at gt
        have c1 : decide ((i : Int) < (q : Int)) = false := decide_eq_false (by omega)
        have c2 : decide ((q : Int) ≤ (i : Int)) = true := decide_eq_true (by omega)
        rcases Nat.lt_or_ge i c with hi2 | hi2
        · rw [if_neg (by omega)] at gt
          dsimp only at gt
          have c3 : decide ((i : Int) < (c : Int)) = true := decide_eq_true (by omega)
          have c4 : decide ((c : Int) ≤ (i : Int)) = false := decide_eq_false (by omega)
          repeat' (first
 | refine SO.call (gt) rfl rfl rfl (by repeat constructor) (by repeat constructor) rfl (fun x hx => ?_)
 | refine SO.pure rfl rfl rfl ?_
 | refine SO.nil ?_
 | refine SO.guardY rfl rfl ?_
 | refine SO.guardN rfl rfl rfl ?_
 | refine SK.seq ?_
 | refine SK.region ?_
 | refine SK.condF rfl ?_
 | refine SK.skip ?_
 | refine SK.blk ?_
 | refine SO.alloc rfl rfl rfl (fun b => ?_)
 | refine SO.storeW rfl rfl (by repeat constructor) rfl (by rfl) (by rfl) (by rfl) ?_
 | refine SO.guardYP rfl rfl (by first | assumption | (simp only [Go.Sl.bl]; omega)) ?_
 | refine SO.guardNP rfl rfl rfl (by first | assumption | (simp only [Go.Sl.bl]; omega)) ?_
 | fail)
          refine SK.inv ⟨⟨i + 1, by omega⟩, ?_, ?_, ?_⟩
          · show c + 2 - (i + 1) < c + 2 - i
            omega
          · rw [hwi]; repeat constructor
          · exact ent_append_of_takes (by repeat constructor)
        · rw [if_pos hi2] at gt
          dsimp only at gt
          have c3 : decide ((i : Int) < (c : Int)) = false := decide_eq_false (by omega)
          have c4 : decide ((c : Int) ≤ (i : Int)) = true := decide_eq_true (by omega)
          repeat' (first
 | refine SO.call (gt) rfl rfl rfl (by repeat constructor) (by repeat constructor) rfl (fun x hx => ?_)
 | refine SO.pure rfl rfl rfl ?_
 | refine SO.nil ?_
 | refine SO.guardY rfl rfl ?_
 | refine SO.guardN rfl rfl rfl ?_
 | refine SK.seq ?_
 | refine SK.region ?_
 | refine SK.condF rfl ?_
 | refine SK.skip ?_
 | refine SK.blk ?_
 | refine SO.alloc rfl rfl rfl (fun b => ?_)
 | refine SO.storeW rfl rfl (by repeat constructor) rfl (by rfl) (by rfl) (by rfl) ?_
 | refine SO.guardYP rfl rfl (by first | assumption | (simp only [Go.Sl.bl]; omega)) ?_
 | refine SO.guardNP rfl rfl rfl (by first | assumption | (simp only [Go.Sl.bl]; omega)) ?_
 | fail)
          refine SK.inv ⟨⟨i + 1, by omega⟩, ?_, ?_, ?_⟩
          · show c + 2 - (i + 1) < c + 2 - i
            omega
          · rw [hwi]; repeat constructor
          · exact ent_append_of_takes (by repeat constructor)
    · have hl1 : decide ((i : Int) < ((c + 2 : Nat) : Int)) = false := decide_eq_false (by omega)
      repeat' (first
 | refine SO.pure rfl rfl rfl ?_
 | refine SO.nil ?_
 | refine SK.seq ?_
 | refine SK.region ?_
 | refine SK.exit rfl ?_
 | refine SK.condFP rfl (by first | assumption | (simp only [Go.Sl.bl]; omega)) ?_
 | fail)
      rw [hc2]
      have hqq : decide ((q : Int) = (q : Int)) = true := decide_eq_true rfl
      have hcc : decide ((c : Int) = (c : Int)) = true := decide_eq_true rfl
      repeat' (first
 | refine SO.pure rfl rfl rfl ?_
 | refine SO.guardY rfl rfl ?_
 | refine SO.buildSlice rfl rfl rfl rfl rfl rfl (fun b => ?_)
 | refine SO.guardYP rfl rfl (by first | assumption | (simp only [Go.Sl.bl]; omega)) ?_
 | fail)
      refine SO.shift (toSl (ρ := RI) (b := b) (l := [(q : Int)]) [((q : Int), ())] (by repeat constructor) rfl rfl rfl rfl (by repeat constructor)) ?_
      have sv1 := rsamev_does pv.1 (some ⟨b, 0, none⟩) g3.gone.length pv.2 1 1 g3.gone [(q : Int)]
      rw [hg3.2] at sv1
      have ve := lvec_does lb g3 l3.ok k3.down (by omega) l3.sites
      have hvv : sameV (vecF g3 (g3.head - g3.trim) g3.trim g3.gone) [(c : Int)] = true := by
        rw [hh3, ht3, vec_row (c - q) q _ (fun i h1 h2 => l3.rcd (by rw [ht3]; omega) (by rw [hn3]; omega)) hg3.1]
        by_cases hz : c - q = 0
        · rw [if_pos hz]
          have : c = q := by omega
          rw [this]; exact hg3.2
        · rw [if_neg hz, show q + (c - q) = c by omega]; exact same_refl _
      generalize vecF g3 (g3.head - g3.trim) g3.trim g3.gone = w at *
      repeat' (first
 | refine SO.call (sv1) rfl rfl rfl (by repeat constructor) (by repeat constructor) rfl (fun x hx => ?_)
 | refine SO.call (ve) rfl rfl rfl (by repeat constructor) (by repeat constructor) rfl (fun x hx => ?_)
 | refine SO.pure rfl rfl rfl ?_
 | refine SO.guardY rfl rfl ?_
 | refine SO.buildSlice rfl rfl rfl rfl rfl rfl (fun b => ?_)
 | fail)
      rename Pl => pw
      refine SO.shift (toSl (ρ := RI) (b := b) (l := [(c : Int)]) [((c : Int), ())] (by repeat constructor) rfl rfl rfl rfl (by repeat constructor)) ?_
      have sv2 := rsamev_does pw.1 (some ⟨b, 0, none⟩) w.length pw.2 1 1 w [(c : Int)]
      rw [hvv] at sv2
      have he3 := lhead_does lb g3 l3.ok
      rw [hh3] at he3
      repeat' (first
 | refine SO.call (sv2) rfl rfl rfl (by repeat constructor) (by repeat constructor) rfl (fun x hx => ?_)
 | refine SO.call (he3) rfl rfl rfl (by repeat constructor) (by repeat constructor) rfl (fun x hx => ?_)
 | refine SO.pure rfl rfl rfl ?_
 | refine SO.nil ?_
 | refine SO.guardY rfl rfl ?_
 | fail)
      exact SK.retX (.tmp rfl .nil) () trivial (by rw [hcc]; rfl) (by repeat constructor)
end Go.Proofs
