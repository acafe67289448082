/- A part of a proof: what functions of the program compute. -/
import Derived.Test.YtmbfcjffjgecjaaGreatDoorLog15E
import Derived.Test.YtmbfcjffjgecjaaGreatDoorRef2E
set_option linter.unusedVariables false
set_option linter.unusedSimpArgs false
set_option maxHeartbeats 0
set_option maxRecDepth 20000
namespace Go.Proofs
attribute [local irreducible] Go.Sl.SO Go.Sl.SQ Go.Sl.SR Go.Sl.SC Go.Sl.SX Go.Sl.SY Go.Sl.eadr Go.Sl.slAt Go.Sl.sqAt Go.Sl.pts Go.Sl.rod Go.Sl.ob Go.Sl.ex Go.Sl.big Go.Sl.pr Go.Sl.tabs Go.Sl.mpAt Go.Sl.mitAt Go.Sl.mitN
open Go.Sl
def lR (p : Nat) : Rc := rz ((p % 3 : Nat) : Int) ((1 + p / 3 : Nat) : Int)
structure LastI (K i : Nat) (g : Lg) : Prop where
  li : LI 20000 i lR g
  m : g.m = [(0, (K : Int))]
  trim : g.trim = 0
  next : g.next = i
  down : g.down = false
  own : g.own = ⟨20000, [], 0⟩
theorem lastI_zero {K : Nat} {g : Lg} (h : LNew 20000 (K : Int) g) (h1 : 1 ≤ K) (h2 : K ≤ 8) : LastI K 0 g := ⟨h.li (by omega) (by decide) lR, h.m, h.trim, h.next, h.down, h.own⟩
theorem LastI.put {K i : Nat} {g g' : Lg} (h : LastI K i g) (hi : i < 100) (q : LPut g ((i % 3 : Nat) : Int) ((1 + i / 3 : Nat) : Int) g') : LastI K (i + 1) g' := by
  have h3 : i % 3 < 3 := Nat.mod_lt _ (by decide)
  obtain ⟨l, e⟩ := q.li h.li (by rw [h.next]; rfl) ⟨by omega, by omega, by omega, by omega⟩ (by omega) (by omega)
  obtain ⟨a1, a2, a3, a4, a5⟩ := q.rest
  exact ⟨l, a2.trans h.m, a3.trans h.trim, by rw [e, h.next], a5.trans h.down, a1.trans h.own⟩
theorem LastI.sync {K i k : Nat} {g g' : Lg} (h : LastI K i g) (q : LSync g k g') : LastI K i g' := by
  obtain ⟨a1, a2, a3, a4, a5, a6⟩ := q.rest
  exact ⟨q.li h.li, a2.trans h.m, a3.trans h.trim, a6.trans h.next, a5.trans h.down, a1.trans h.own⟩
theorem of_does (r : Rc) (h : Pl) : Does Tryz.prog 65 [RRec.val r h] [] [] Unit (fun _ => True) (fun _ => RRec.val r h) (fun _ => []) := by
  refine Does.of Tryz.call65 Tryz.func65 rfl rfl rfl all_nil rfl ?_
  repeat' (first
 | refine SO.pure rfl rfl rfl ?_
 | refine SO.nil ?_
 | refine SO.load rfl (by repeat constructor) rfl (by rfl) (by exact ⟨rfl, by first | exact fun _ => rfl | exact (fun h => by cases h)⟩) rfl ?_
 | refine SO.build rfl rfl rfl rfl ?_
 | refine SK.seq ?_
 | refine SK.region ?_
 | refine SO.alloc rfl rfl rfl (fun b => ?_)
 | refine SO.box rfl rfl rfl (fun b => ?_)
 | refine SO.storeW rfl rfl (by repeat constructor) rfl (by rfl) (by rfl) (by rfl) ?_
 | fail)
  exact SK.retX (.cell rfl (by repeat constructor) rfl rfl (by exact ⟨rfl, fun h => by cases h⟩) .nil) () trivial rfl (by repeat constructor)
theorem llasts_long (s0 n0 : Int) (A B C : Option Addr) (n c m d o e : Nat) (h : ¬ (n ≤ 40 ∧ m ≤ 20 ∧ o ≤ 20)) : Does Tryz.prog 10 [.int .u8 s0, .int .u8 n0, .slice A n c, .slice B m d, .slice C o e] [libA, tabs 4 5] [] Unit (fun _ => True) (fun _ => .bool true) (fun _ => []) := by
  refine Does.of Tryz.call10 Tryz.func10 rfl rfl rfl (all_cons pers_lib (all_cons (pers_tabs _ _) all_nil)) rfl ?_
  rcases Nat.lt_or_ge 40 n with h1 | h1
  · have d1 : decide ((40 : Int) < (n : Int)) = true := decide_eq_true (by omega)
    repeat' (first
 | refine SO.call (lknown_does) rfl rfl rfl (by repeat constructor) (by repeat constructor) rfl (fun x hx => ?_)
 | refine SO.pure rfl rfl rfl ?_
 | refine SO.nil ?_
 | refine SO.guardN rfl rfl rfl ?_
 | refine SK.seq ?_
 | refine SK.region ?_
 | refine SK.condT rfl ?_
 | refine SK.condF rfl ?_
 | refine SK.skip ?_
 | refine SO.guardNP rfl rfl rfl (by first | assumption | (simp only [Go.Sl.bl]; omega)) ?_
 | fail)
    exact SK.retX (.tmp rfl .nil) () trivial rfl (by repeat constructor)
  · have d1 : decide ((40 : Int) < (n : Int)) = false := decide_eq_false (by omega)
    rcases Nat.lt_or_ge 20 m with h2 | h2
    · have d2 : decide ((20 : Int) < (m : Int)) = true := decide_eq_true (by omega)
      repeat' (first
 | refine SO.call (lknown_does) rfl rfl rfl (by repeat constructor) (by repeat constructor) rfl (fun x hx => ?_)
 | refine SO.pure rfl rfl rfl ?_
 | refine SO.nil ?_
 | refine SO.guardY rfl rfl ?_
 | refine SO.guardN rfl rfl rfl ?_
 | refine SK.seq ?_
 | refine SK.region ?_
 | refine SK.condT rfl ?_
 | refine SK.condF rfl ?_
 | refine SK.skip ?_
 | refine SO.guardYP rfl rfl (by first | assumption | (simp only [Go.Sl.bl]; omega)) ?_
 | refine SO.guardNP rfl rfl rfl (by first | assumption | (simp only [Go.Sl.bl]; omega)) ?_
 | fail)
      exact SK.retX (.tmp rfl .nil) () trivial rfl (by repeat constructor)
    · have d2 : decide ((20 : Int) < (m : Int)) = false := decide_eq_false (by omega)
      have d3 : decide ((20 : Int) < (o : Int)) = true := decide_eq_true (by omega)
      repeat' (first
 | refine SO.call (lknown_does) rfl rfl rfl (by repeat constructor) (by repeat constructor) rfl (fun x hx => ?_)
 | refine SO.pure rfl rfl rfl ?_
 | refine SO.nil ?_
 | refine SO.guardY rfl rfl ?_
 | refine SK.seq ?_
 | refine SK.region ?_
 | refine SK.condF rfl ?_
 | refine SK.skip ?_
 | refine SO.guardYP rfl rfl (by first | assumption | (simp only [Go.Sl.bl]; omega)) ?_
 | refine SK.condTP rfl (by first | assumption | (simp only [Go.Sl.bl]; omega)) ?_
 | fail)
      exact SK.retX (.tmp rfl .nil) () trivial rfl (by repeat constructor)
theorem llasts_does (s0 n0 : Nat) (hs : s0 < 256) (hn : n0 < 256) (A B C : Option Addr) (n c m d o e : Nat) (l : List Int) (keep again : List Int) (h1 : n ≤ 40) (h2 : m ≤ 20) (h3 : o ≤ 20) (hb : ∀ x ∈ l, 0 ≤ x ∧ x ≤ 255) (hk : ∀ x ∈ keep, x ≤ 9223372036854775807) (ha : ∀ x ∈ again, x ≤ 9223372036854775807) :
    Does Tryz.prog 10 [.int .u8 (s0 : Int), .int .u8 (n0 : Int), .slice A n c, .slice B m d, .slice C o e] [libA, tabs 4 5, slAt RU A n l, slAt RI B m keep, slAt RI C o again] [] Unit (fun _ => True) (fun _ => .bool true) (fun _ => []) := by
  refine Does.of Tryz.call10 Tryz.func10 rfl rfl rfl (all_cons pers_lib (all_cons (pers_tabs _ _) (all_cons (pers_slAt _ _ _ _) (all_cons (pers_slAt _ _ _ _) (all_cons (pers_slAt _ _ _ _) all_nil))))) rfl ?_
  refine SK.know (sl_len (ρ := RU) (A := A) (n := n) (l := l) (by repeat constructor)) ?_
  rintro ⟨rfl, -, -⟩
  have d1 : decide ((40 : Int) < (l.length : Int)) = false := decide_eq_false (by omega)
  have d2 : decide ((20 : Int) < (m : Int)) = false := decide_eq_false (by omega)
  have d3 : decide ((20 : Int) < (o : Int)) = false := decide_eq_false (by omega)
  have hk8 : s0 % 8 < 8 := Nat.mod_lt _ (by omega)
  obtain ⟨K, hKe, hK1, hK2⟩ : ∃ K, 1 + s0 % 8 = K ∧ 1 ≤ K ∧ K ≤ 8 := ⟨_, rfl, by omega, by omega⟩
  have hKw : IntKind.i64.wrap (1 + IntKind.i64.wrap ((s0 : Int).tmod 8)) = (K : Int) := by
    have e : IntKind.i64.wrap ((s0 : Int).tmod 8) = ((s0 % 8 : Nat) : Int) := wrap_id (by show -9223372036854775808 ≤ ((s0 % 8 : Nat) : Int); omega) (by show ((s0 % 8 : Nat) : Int) < 9223372036854775808; omega)
    rw [e, wrap_id (by omega) (by omega)]; omega
  have hCw : IntKind.i64.wrap ((n0 : Int).tmod 40) = ((n0 % 40 : Nat) : Int) := wrap_id (by show -9223372036854775808 ≤ ((n0 % 40 : Nat) : Int); omega) (by show ((n0 % 40 : Nat) : Int) < 9223372036854775808; omega)
  have hc40 : n0 % 40 < 40 := Nat.mod_lt _ (by omega)
  have nw := lnew_does (K : Int) 20000 (by omega) (by decide)
  repeat' (first
 | refine SO.call (lknown_does) rfl rfl rfl (by repeat constructor) (by repeat constructor) rfl (fun x hx => ?_)
 | refine SO.pure rfl rfl rfl ?_
 | refine SO.pure2 rfl rfl rfl ?_
 | refine SO.nil ?_
 | refine SO.guardY rfl rfl ?_
 | refine SK.seq ?_
 | refine SK.region ?_
 | refine SK.condF rfl ?_
 | refine SK.skip ?_
 | refine SO.guardYP rfl rfl (by first | assumption | (simp only [Go.Sl.bl]; omega)) ?_
 | refine SK.condFP rfl (by first | assumption | (simp only [Go.Sl.bl]; omega)) ?_
 | fail)
  rw [hKw]
  repeat' (first
 | refine SO.call (nw) rfl rfl rfl (by repeat constructor) (by repeat constructor) rfl (fun x hx => ?_)
 | refine SO.pure rfl rfl rfl ?_
 | refine SO.pure2 rfl rfl rfl ?_
 | refine SO.nil ?_
 | refine SO.guardY rfl rfl ?_
 | refine SK.seq ?_
 | refine SK.region ?_
 | refine SK.condF rfl ?_
 | refine SK.skip ?_
 | refine SK.block ?_
 | fail)
  rw [hCw]
  generalize n0 % 40 = c1 at *
  rename Nat × Lg => z
  obtain ⟨lb, g0⟩ := z
  rename LNew 20000 (K : Int) (lb, g0).2 => h0
  dsimp only at h0 ⊢
  refine SK.loop (X := {x : Nat × Lg // x.1 ≤ c1 ∧ LastI K x.1 x.2}) (fun x => [(15, .int .i64 (x.1.1 : Int)), (12, .pointer (some ⟨lb, 0, none⟩)), (14, .int .i64 (c1 : Int)), (2, .slice A l.length c), (3, .slice B m d), (4, .slice C o e)]) (fun x => [libA, tabs 4 5, slAt RU A l.length l, slAt RI B m keep, slAt RI C o again] ++ lgAt lb x.1.2) (fun x => c1 - x.1.1) ⟨(0, g0), Nat.zero_le _, lastI_zero h0 hK1 hK2⟩ (by repeat constructor) (ent_append_of_takes (by repeat constructor)) ?_
  rintro ⟨⟨i, g⟩, hi0, hr0⟩
  have hi : i ≤ c1 := hi0
  have hr : LastI K i g := hr0
  dsimp only
  have hwi : IntKind.i64.wrap ((i : Int) + 1) = ((i + 1 : Nat) : Int) := by rw [wrap_id (by omega) (by omega)]; omega
  rcases Nat.lt_or_ge i c1 with hic | hic
  · have hd1 : decide ((i : Int) < (c1 : Int)) = true := decide_eq_true (by omega)
    have hi3 : i % 3 < 3 := Nat.mod_lt _ (by decide)
    have e1 : (i : Int).tmod 3 = ((i % 3 : Nat) : Int) := rfl
    have e2 : IntKind.i64.wrap (1 + IntKind.i64.wrap ((i : Int).tdiv 3)) = ((1 + i / 3 : Nat) : Int) := by
      have e : IntKind.i64.wrap ((i : Int).tdiv 3) = ((i / 3 : Nat) : Int) := wrap_id (by show -9223372036854775808 ≤ ((i / 3 : Nat) : Int); omega) (by show ((i / 3 : Nat) : Int) < 9223372036854775808; omega)
      rw [e, wrap_id (by omega) (by omega)]; omega
    have pt := lputR lb hr.li hr.down (a := ((i % 3 : Nat) : Int)) (b := ((1 + i / 3 : Nat) : Int)) (by rw [hr.next]; rfl) ⟨by omega, by omega, by omega, by omega⟩ (by omega) (by omega)
    rw [hr.next] at pt
    have ri := rr_does ((i % 3 : Nat) : Int) ((1 + i / 3 : Nat) : Int)
    repeat' (first
 | refine SO.pure rfl rfl rfl ?_
 | refine SO.pure2 rfl rfl rfl ?_
 | refine SO.nil ?_
 | refine SK.seq ?_
 | refine SK.region ?_
 | refine SK.skip ?_
 | refine SK.block ?_
 | refine SK.condTP rfl (by first | assumption | (simp only [Go.Sl.bl]; omega)) ?_
 | fail)
    rw [e1, e2]
    repeat' (first
 | refine SO.call (ri) rfl rfl rfl (by repeat constructor) (by repeat constructor) rfl (fun x hx => ?_)
 | refine SO.call (pt) rfl rfl rfl (by repeat constructor) (by repeat constructor) rfl (fun x hx => ?_)
 | refine SO.pure rfl rfl rfl ?_
 | refine SO.nil ?_
 | refine SK.seq ?_
 | refine SK.region ?_
 | refine SK.condF rfl ?_
 | refine SK.skip ?_
 | fail)
    rename Lg => g1
    rename LPut _ _ _ _ => q1
    have hr1 : LastI K (i + 1) g1 := hr.put (by omega) q1
    rcases Nat.lt_or_ge i l.length with hil | hil
    · have hl1 : decide ((i : Int) < (l.length : Int)) = true := decide_eq_true (by omega)
      obtain ⟨x, hx⟩ : ∃ x, l[i]? = some x := ⟨_, List.getElem?_eq_getElem hil⟩
      obtain ⟨hx1, hx2⟩ := hb x (List.mem_of_getElem? hx)
      obtain ⟨x', rfl⟩ := Int.eq_ofNat_of_zero_le hx1
      have hx8 : x' % 8 < 8 := Nat.mod_lt _ (by decide)
      have e3 : (IntKind.i64.wrap (x' : Int)).tmod 8 = ((x' % 8 : Nat) : Int) := by rw [wrap_id (by omega) (by omega)]; rfl
      have sy := lsyncR lb (x' % 8) hr1.li.ok hr1.down hx8
      repeat' (first
 | refine SO.indexH rfl rfl (by repeat constructor) rfl rfl rfl rfl (by assumption) ?_
 | refine SO.pure rfl rfl rfl ?_
 | refine SO.pure2 rfl rfl rfl ?_
 | refine SO.eloadW rfl (by repeat constructor) (by assumption) rfl (by rfl) rfl (by rfl) rfl (fun hid => ?_)
 | refine SK.region ?_
 | refine SK.condTP rfl (by first | assumption | (simp only [Go.Sl.bl]; omega)) ?_
 | fail)
      rw [e3]
      repeat' (first
 | refine SO.call (sy) rfl rfl rfl (by repeat constructor) (by repeat constructor) rfl (fun x hx => ?_)
 | refine SO.pure rfl rfl rfl ?_
 | refine SO.nil ?_
 | refine SK.region ?_
 | refine SK.blk ?_
 | fail)
      rename Bool × Lg => z1
      obtain ⟨bb, g2⟩ := z1
      rename LSync g1 _ (bb, g2).2 ∧ _ => hq2
      dsimp only
      refine SK.inv ⟨⟨(i + 1, g2), by show i + 1 ≤ c1; omega, hr1.sync hq2.1⟩, ?_, ?_, ?_⟩
      · show c1 - (i + 1) < c1 - i
        omega
      · rw [hwi]; repeat constructor
      · exact ent_append_of_takes (by repeat constructor)
    · have hl1 : decide ((i : Int) < (l.length : Int)) = false := decide_eq_false (by omega)
      repeat' (first
 | refine SO.pure rfl rfl rfl ?_
 | refine SO.nil ?_
 | refine SK.region ?_
 | refine SK.skip ?_
 | refine SK.blk ?_
 | refine SK.condFP rfl (by first | assumption | (simp only [Go.Sl.bl]; omega)) ?_
 | fail)
      refine SK.inv ⟨⟨(i + 1, g1), by show i + 1 ≤ c1; omega, hr1⟩, ?_, ?_, ?_⟩
      · show c1 - (i + 1) < c1 - i
        omega
      · rw [hwi]; repeat constructor
      · exact ent_append_of_takes (by repeat constructor)
  · have hd1 : decide ((i : Int) < (c1 : Int)) = false := decide_eq_false (by omega)
    obtain rfl : i = c1 := by omega
    have he := lhead_does lb g hr.li.ok
    have cr := lcrash_does lb g B m d keep hr.li.ok hk
    have ow : OwnI g [] := own_zero hr.own (by decide)
    repeat' (first
 | refine SO.call (he) rfl rfl rfl (by repeat constructor) (by repeat constructor) rfl (fun x hx => ?_)
 | refine SO.call (cr) rfl rfl rfl (by repeat constructor) (by repeat constructor) rfl (fun x hx => ?_)
 | refine SO.pure rfl rfl rfl ?_
 | refine SO.nil ?_
 | refine SK.seq ?_
 | refine SK.region ?_
 | refine SK.exit rfl ?_
 | refine SK.condFP rfl (by first | assumption | (simp only [Go.Sl.bl]; omega)) ?_
 | fail)
    rename Pl × List SB => zc
    obtain ⟨pc, lc⟩ := zc
    rename SegCr keep g.segs 8 (pc, lc).2 => hc
    dsimp only at hc ⊢
    have rcv := lrecR lb (keep := keep) pc hr.li hc ow (by omega) (by omega) (fun nx _ _ y hy => by rw [kn_last hr.m y hy]; omega)
    repeat' (first
 | refine SO.call (rcv) rfl rfl rfl (by repeat constructor) (by repeat constructor) rfl (fun x hx => ?_)
 | refine SO.pure rfl rfl rfl ?_
 | refine SO.nil ?_
 | refine SK.seq ?_
 | refine SK.region ?_
 | refine SK.condF rfl ?_
 | refine SK.skip ?_
 | fail)
    rename Lg => g2
    rename LBack _ _ _ _ _ g2 => k2
    have l2 := k2.li
    have hhl := k2.head_le hr.down
    have hnl := k2.nx.2
    have hm2 : g2.m = [(0, (K : Int))] := k2.m.trans hr.m
    have ht2 : g2.trim = 0 := k2.trim.trans hr.trim
    have hh2 := l2.head k2.down k2.sy
    have ow2 : OwnI g2 [] := own_zero (k2.own.trans hr.own) (by decide)
    have he2 := lhead_does lb g2 l2.ok
    rw [hh2] at he2
    have nx2 := lnext_does lb g2
    rw [k2.down, if_neg (by decide)] at nx2
    rw [hr.next] at hnl
    obtain ⟨mm, hmm⟩ : ∃ mm, g2.next = mm := ⟨_, rfl⟩
    rw [hmm] at hh2 he2 nx2 hhl hnl
    have c1 : decide ((mm : Int) < (g.head : Int)) = false := decide_eq_false (by omega)
    have c2 : decide ((i : Int) < (mm : Int)) = false := decide_eq_false (by omega)
    have c3 : (!decide ((mm : Int) = (mm : Int))) = false := by simp
    repeat' (first
 | refine SO.call (he2) rfl rfl rfl (by repeat constructor) (by repeat constructor) rfl (fun x hx => ?_)
 | refine SO.call (nx2) rfl rfl rfl (by repeat constructor) (by repeat constructor) rfl (fun x hx => ?_)
 | refine SO.pure rfl rfl rfl ?_
 | refine SO.nil ?_
 | refine SO.guardY rfl rfl ?_
 | refine SK.seq ?_
 | refine SK.region ?_
 | refine SK.skip ?_
 | refine SK.block ?_
 | refine SO.guardYP rfl rfl (by first | assumption | (simp only [Go.Sl.bl]; omega)) ?_
 | refine SK.condFP rfl (by first | assumption | (simp only [Go.Sl.bl]; omega)) ?_
 | fail)
    refine SK.loop (X := {j : Nat // j ≤ mm}) (fun j => [(18, .int .i64 (j.1 : Int)), (17, .int .i64 (mm : Int)), (12, .pointer (some ⟨lb, 0, none⟩)), (4, .slice C o e)]) (fun j => [libA, tabs 4 5, slAt RI C o again] ++ lgAt lb g2) (fun j => mm - j.1) ⟨0, Nat.zero_le _⟩ (by repeat constructor) (ent_append_of_takes (by repeat constructor)) ?_
    rintro ⟨j, hj⟩
    dsimp only
    have hwj : IntKind.i64.wrap ((j : Int) + 1) = ((j + 1 : Nat) : Int) := by rw [wrap_id (by omega) (by omega)]; omega
    rcases Nat.lt_or_ge j mm with hjm | hjm
    · have hd2 : decide ((j : Int) < (mm : Int)) = true := decide_eq_true (by omega)
      have gt := lget_does lb g2 (j : Int) l2.ok (by omega)
      rw [l2.getG k2.down, if_neg (by omega), if_neg (by omega)] at gt
      dsimp only at gt
      have e1 : (j : Int).tmod 3 = ((j % 3 : Nat) : Int) := rfl
      have e2 : IntKind.i64.wrap (1 + IntKind.i64.wrap ((j : Int).tdiv 3)) = ((1 + j / 3 : Nat) : Int) := by
        have e : IntKind.i64.wrap ((j : Int).tdiv 3) = ((j / 3 : Nat) : Int) := wrap_id (by show -9223372036854775808 ≤ ((j / 3 : Nat) : Int); omega) (by show ((j / 3 : Nat) : Int) < 9223372036854775808; omega)
        rw [e, wrap_id (by omega) (by omega)]; omega
      have ri := rr_does ((j % 3 : Nat) : Int) ((1 + j / 3 : Nat) : Int)
      have o2 := of_does (rz ((j % 3 : Nat) : Int) ((1 + j / 3 : Nat) : Int)) (none, 0)
      have o1 := fun x => of_does (lR j) x
      have sm := fun x => rsame_does (lR j) (rz ((j % 3 : Nat) : Int) ((1 + j / 3 : Nat) : Int)) x (none, 0)
      rw [show sameR (lR j) (rz ((j % 3 : Nat) : Int) ((1 + j / 3 : Nat) : Int)) = true from sameR_refl _] at sm
      repeat' (first
 | refine SO.call (gt) rfl rfl rfl (by repeat constructor) (by repeat constructor) rfl (fun x hx => ?_)
 | refine SO.call (o1 _) rfl rfl rfl (by repeat constructor) (by repeat constructor) rfl (fun x hx => ?_)
 | refine SO.pure rfl rfl rfl ?_
 | refine SO.pure2 rfl rfl rfl ?_
 | refine SO.nil ?_
 | refine SO.guardY rfl rfl ?_
 | refine SO.loadW rfl (by repeat constructor) rfl rfl rfl (by rfl) rfl ?_
 | refine SK.seq ?_
 | refine SK.region ?_
 | refine SK.skip ?_
 | refine SK.block ?_
 | refine SO.alloc rfl rfl rfl (fun b => ?_)
 | refine SO.storeW rfl rfl (by repeat constructor) rfl (by rfl) (by rfl) (by rfl) ?_
 | refine SK.condTP rfl (by first | assumption | (simp only [Go.Sl.bl]; omega)) ?_
 | fail)
      rw [e1, e2]
      refine SO.shift (fun F w hst => hst.ent (Ent.cons (ent_triv (A := slAt RI none 0 [])))) ?_
      repeat' (first
 | refine SO.call (ri) rfl rfl rfl (by repeat constructor) (by repeat constructor) rfl (fun x hx => ?_)
 | refine SO.call (o2) rfl rfl rfl (by repeat constructor) (by repeat constructor) rfl (fun x hx => ?_)
 | refine SO.call (sm _) rfl rfl rfl (by repeat constructor) (by repeat constructor) rfl (fun x hx => ?_)
 | refine SO.pure rfl rfl rfl ?_
 | refine SO.nil ?_
 | refine SO.guardY rfl rfl ?_
 | refine SK.region ?_
 | refine SK.condF rfl ?_
 | refine SK.skip ?_
 | refine SK.blk ?_
 | fail)
      refine SK.inv ⟨⟨j + 1, by omega⟩, ?_, ?_, ?_⟩
      · show mm - (j + 1) < mm - j
        omega
      · rw [hwj]; repeat constructor
      · exact ent_append_of_takes (by repeat constructor)
    · have hd2 : decide ((j : Int) < (mm : Int)) = false := decide_eq_false (by omega)
      have cr2 := lcrash_does lb g2 C o e again l2.ok ha
      repeat' (first
 | refine SO.call (cr2) rfl rfl rfl (by repeat constructor) (by repeat constructor) rfl (fun x hx => ?_)
 | refine SO.pure rfl rfl rfl ?_
 | refine SO.nil ?_
 | refine SK.seq ?_
 | refine SK.region ?_
 | refine SK.exit rfl ?_
 | refine SK.condFP rfl (by first | assumption | (simp only [Go.Sl.bl]; omega)) ?_
 | fail)
      rename Pl × List SB => zd
      obtain ⟨pd, ld⟩ := zd
      rename SegCr again g2.segs 8 (pd, ld).2 => hc2
      dsimp only at hc2 ⊢
      have rc2 := lrecR lb (keep := again) pd l2 hc2 ow2 (by omega) (by omega) (fun nx _ _ y hy => by rw [kn_last hm2 y hy]; omega)
      repeat' (first
 | refine SO.call (rc2) rfl rfl rfl (by repeat constructor) (by repeat constructor) rfl (fun x hx => ?_)
 | refine SO.pure rfl rfl rfl ?_
 | refine SO.guardY rfl rfl ?_
 | fail)
      rename Lg => g3
      rename LBack _ _ _ _ _ g3 => k3
      have l3 := k3.li
      have hn3 : g3.next = mm := (k3.all l2 k2.down k2.sy).trans hmm
      have hh3 : g3.head = mm := (l3.head k3.down k3.sy).trans hn3
      have he3 := lhead_does lb g3 l3.ok
      rw [hh3] at he3
      have nx3 := lnext_does lb g3
      rw [k3.down, if_neg (by decide), hn3] at nx3
      have c4 : decide ((mm : Int) = (mm : Int)) = true := decide_eq_true rfl
      repeat' (first
 | refine SO.call (he3) rfl rfl rfl (by repeat constructor) (by repeat constructor) rfl (fun x hx => ?_)
 | refine SO.call (nx3) rfl rfl rfl (by repeat constructor) (by repeat constructor) rfl (fun x hx => ?_)
 | refine SO.pure rfl rfl rfl ?_
 | refine SO.nil ?_
 | refine SO.guardY rfl rfl ?_
 | refine SO.guardYP rfl rfl (by first | assumption | (simp only [Go.Sl.bl]; omega)) ?_
 | fail)
      exact SK.retX (.tmp rfl .nil) () trivial (by rw [c4]; rfl) (by repeat constructor)
end Go.Proofs
