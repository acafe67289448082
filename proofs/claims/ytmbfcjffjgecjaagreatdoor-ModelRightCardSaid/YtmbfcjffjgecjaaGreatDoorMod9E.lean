/- A part of a proof: what functions of the program compute. -/
import Derived.Test.YtmbfcjffjgecjaaGreatDoorMod6E
import Derived.Test.YtmbfcjffjgecjaaGreatDoorLib2
set_option linter.unusedVariables false
set_option linter.unusedSimpArgs false
set_option maxHeartbeats 0
set_option maxRecDepth 20000
namespace Go.Proofs
attribute [local irreducible] Go.Sl.SO Go.Sl.SQ Go.Sl.SR Go.Sl.SC Go.Sl.SX Go.Sl.SY Go.Sl.eadr Go.Sl.slAt Go.Sl.sqAt Go.Sl.pts Go.Sl.rod Go.Sl.ob Go.Sl.ex Go.Sl.big Go.Sl.pr Go.Sl.tabs Go.Sl.mpAt Go.Sl.mitAt Go.Sl.mitN
open Go.Sl
theorem atoms_RI : ∀ z : List (Int × RI.V), allAtoms RI z = []
  | [] => rfl
  | (x, h) :: z => by
    show RI.atoms x h ++ allAtoms RI z = []
    rw [atoms_RI z]; rfl
theorem src_sq {w' : Bool} {A : Option Addr} {n c : Nat} {l : List Int} {L L' : List HP} (h : Take (sqAt w' RI A n c l) L L') : Src RI L A n l := by
  intro F w hst
  have h1 : St w (sqAt w' RI A n c l :: F :: L') := (hst.ent (Ent.cons h.ent)).ent Ent.swap
  have h2 : St w (sqAt false RI A n c l :: F :: L') := by cases w' with
    | true => exact h1.shut
    | false => exact h1
  obtain ⟨k1, k2, k3⟩ := Src.sl (L := slAt RI A n l :: L') .here F w ((h2.ent (sl_of_sq.trans (Ent.cons Ent.drop))).ent Ent.swap)
  refine ⟨k1, k2, fun b hb => ?_⟩
  obtain ⟨q1, z, q2, q3, q4⟩ := k3 b hb
  exact ⟨q1, z, q2, q3, hst.ent (ent_memA (by rw [atoms_RI]; exact .nil))⟩
theorem mnumiterQ (b : Nat) (A : Option Addr) (n c c2 : Nat) (l : List Rc) (hnl0 : n = l.length) (hl : l.length ≤ 1048576) : Iter Tryz.prog 76 [.pointer (some ⟨b, 0, none⟩)] EPR (numL l) [] [pts b 0 [.slice A n c], sqAt true RRec A n c2 l] (fun _ => [sqAt true RRec A n c2 l]) [sqAt true RRec A n c2 l] := by
  intro q J Jx hy
  refine Does.of Tryz.call76 Tryz.func76 rfl rfl rfl all_nil rfl ?_
  subst hnl0
  have hnl := numL_len l
  repeat' (first
 | refine SO.pure rfl rfl rfl ?_
 | refine SO.nil ?_
 | refine SK.seq ?_
 | refine SK.region ?_
 | refine SK.block ?_
 | fail)
  refine SK.loop (X := {p : Nat // p ≤ l.length}) (fun p => [(3, .int .i64 (p.1 : Int)), (1, .pointer (some ⟨b, 0, none⟩)), (0, yv q)]) (fun p => [J p.1, pts b 0 [.slice A l.length c], sqAt true RRec A l.length c2 l]) (fun p => l.length - p.1) ⟨0, Nat.zero_le _⟩ (by repeat constructor) (ent_append_of_takes (by repeat constructor)) ?_
  rintro ⟨p, hp⟩
  dsimp only
  have hw : IntKind.i64.wrap ((p : Int) + 1) = ((p + 1 : Nat) : Int) := by rw [wrap_id (by omega) (by omega)]; omega
  rcases Nat.lt_or_ge p l.length with hlt | hge
  · have hd1 : decide ((p : Int) < (l.length : Int)) = true := decide_eq_true (by omega)
    obtain ⟨rr, hr⟩ : ∃ r, l[p]? = some r := ⟨_, List.getElem?_eq_getElem hlt⟩
    repeat' (first
 | refine SO.indexQ rfl rfl (by repeat constructor) rfl rfl rfl rfl (by assumption) ?_
 | refine SO.eloadQ rfl (by repeat constructor) (by assumption) rfl (by rfl) (by exact fun _ => ⟨rfl, fun h => by first | (cases h; done) | exact rfl⟩) rfl (fun hid => ?_)
 | refine SO.pure rfl rfl rfl ?_
 | refine SO.nil ?_
 | refine SO.load rfl (by repeat constructor) rfl (by rfl) (by exact ⟨rfl, by first | exact fun _ => rfl | exact (fun h => by cases h)⟩) rfl ?_
 | refine SK.seq ?_
 | refine SK.region ?_
 | refine SK.skip ?_
 | refine SK.block ?_
 | refine SK.condTP rfl (by first | assumption | (simp only [Go.Sl.bl]; omega)) ?_
 | fail)
    rename Pl => hid
    have hY := hy p ((p : Int), rr) hid (numL_at hr)
    refine SO.callF (vs := EPR.args ((p : Int), rr) hid) rfl rfl hY (by repeat constructor) (by repeat constructor) rfl (fun r0 hr0 => ?_)
    cases r0
    · repeat' (first
 | refine SO.pure rfl rfl rfl ?_
 | refine SO.nil ?_
 | refine SK.condT rfl ?_
 | fail)
      exact SK.retX .nil (some p) (fun j h => by cases h; rw [hnl]; omega) rfl (by repeat constructor)
    · repeat' (first
 | refine SO.pure rfl rfl rfl ?_
 | refine SO.nil ?_
 | refine SK.region ?_
 | refine SK.condF rfl ?_
 | refine SK.skip ?_
 | refine SK.blk ?_
 | fail)
      refine SK.inv ⟨⟨p + 1, by omega⟩, ?_, ?_, ?_⟩
      · show l.length - (p + 1) < l.length - p
        omega
      · rw [hw]; repeat constructor
      · exact ent_append_of_takes (by repeat constructor)
  · have hd1 : decide ((p : Int) < (l.length : Int)) = false := decide_eq_false (by omega)
    obtain rfl : p = l.length := by omega
    repeat' (first
 | refine SO.pure rfl rfl rfl ?_
 | refine SO.nil ?_
 | refine SO.load rfl (by repeat constructor) rfl (by rfl) (by exact ⟨rfl, by first | exact fun _ => rfl | exact (fun h => by cases h)⟩) rfl ?_
 | refine SK.seq ?_
 | refine SK.region ?_
 | refine SK.exit rfl ?_
 | refine SK.condFP rfl (by first | assumption | (simp only [Go.Sl.bl]; omega)) ?_
 | fail)
    rw [← hnl]
    exact SK.endX .nil none (fun _ h => by cases h) rfl (by repeat constructor)
theorem numL_snd (x : List Rc) : (numL x).map (·.2) = x := by
  apply List.ext_getElem?
  intro i
  rw [List.getElem?_map]
  cases h : x[i]? with
  | none => rw [List.getElem?_eq_none (by rw [numL_len]; exact List.getElem?_eq_none_iff.1 h)]; rfl
  | some r => rw [numL_at h]; rfl
theorem vbd0 : VBd [] := ⟨by decide, fun i => by unfold getI; split <;> simp⟩
abbrev swpL (ab : Addr) (n cx : Nat) (X : List Rc) (a b : Rc) (h1 h2 : Pl) : List HP := [sqAt true RRec (some ab) n cx X, slAt RI h1.1 a.dep.length a.dep, pr (a.dep.length ≤ h1.2), slAt RI h2.1 b.dep.length b.dep, pr (b.dep.length ≤ h2.2)]
theorem swp_dup {ab : Addr} {n cx : Nat} {X : List Rc} {a b : Rc} {h1 h2 : Pl} {P1 P2 P3 P4 : HP} : Ent (P1 :: P2 :: P3 :: P4 :: swpL ab n cx X a b h1 h2) (slAt RI h1.1 a.dep.length a.dep :: pr (a.dep.length ≤ h1.2) :: slAt RI h2.1 b.dep.length b.dep :: pr (b.dep.length ≤ h2.2) :: P1 :: P2 :: P3 :: P4 :: swpL ab n cx X a b h1 h2) :=
  (((Has.ent (pers_pr _) (by repeat constructor)).trans (Has.ent (pers_slAt _ _ _ _) (by repeat constructor))).trans (Has.ent (pers_pr _) (by repeat constructor))).trans (Has.ent (pers_slAt _ _ _ _) (by repeat constructor))
theorem swR_bd (l : List Nat) (k : Nat) (hl : l.length ≤ 1000) (hk : k + 1 < l.length) {r : Rc} (h : r ∈ swR l k l.length) : RBd r := by
  unfold swR at h
  rcases List.mem_or_eq_of_mem_set h with h | rfl
  · rcases List.mem_or_eq_of_mem_set h with h | rfl
    · obtain ⟨p, hp, rfl⟩ := List.mem_map.1 h
      have := List.mem_range.1 hp
      exact mr_bd l (by omega)
    · exact mr_bd l (by omega)
  · exact mr_bd l (by omega)
theorem mrightL_out (A : Option Addr) (n c : Nat) (k : Nat) (h : n < 2 ∨ 20 < n) : Does Tryz.prog 3 [.slice A n c, .int .u8 (k : Int)] [libA, tabs 4 5] [] Unit (fun _ => True) (fun _ => .bool true) (fun _ => []) := by
  refine Does.of Tryz.call3 Tryz.func3 rfl rfl rfl (all_cons pers_lib (all_cons (pers_tabs _ _) all_nil)) rfl ?_
  rcases h with h | h
  · have d1 : decide ((n : Int) < 2) = true := decide_eq_true (by omega)
    repeat' (first
 | refine SO.call (m24known_does) rfl rfl rfl (by repeat constructor) (by repeat constructor) rfl (fun x hx => ?_)
 | refine SO.pure rfl rfl rfl ?_
 | refine SO.nil ?_
 | refine SO.guardN rfl rfl rfl ?_
 | refine SK.seq ?_
 | refine SK.region ?_
 | refine SK.condT rfl ?_
 | refine SK.condF rfl ?_
 | refine SK.skip ?_
 | refine SO.guardNP rfl rfl rfl (by first | assumption | (simp only [Go.Sl.bl]; omega)) ?_
 | fail)
    exact SK.retX (.tmp rfl .nil) () trivial rfl (by repeat constructor)
  · have d1 : decide ((n : Int) < 2) = false := decide_eq_false (by omega)
    have d2 : decide ((20 : Int) < (n : Int)) = true := decide_eq_true (by omega)
    repeat' (first
 | refine SO.call (m24known_does) rfl rfl rfl (by repeat constructor) (by repeat constructor) rfl (fun x hx => ?_)
 | refine SO.pure rfl rfl rfl ?_
 | refine SO.nil ?_
 | refine SO.guardY rfl rfl ?_
 | refine SK.seq ?_
 | refine SK.region ?_
 | refine SK.condF rfl ?_
 | refine SK.skip ?_
 | refine SO.guardYP rfl rfl (by first | assumption | (simp only [Go.Sl.bl]; omega)) ?_
 | refine SK.condTP rfl (by first | assumption | (simp only [Go.Sl.bl]; omega)) ?_
 | fail)
    exact SK.retX (.tmp rfl .nil) () trivial rfl (by repeat constructor)
theorem mrightL_does (A : Option Addr) (n c : Nat) (k : Nat) (l : List Int) (hk : k < 256) (hn : 2 ≤ n ∧ n ≤ 20) (hb : ∀ x ∈ l, 0 ≤ x ∧ x ≤ 255) : Does Tryz.prog 3 [.slice A n c, .int .u8 (k : Int)] [libA, tabs 4 5, slAt RU A n l] [] Unit (fun _ => True) (fun _ => .bool true) (fun _ => []) := by
  refine Does.of Tryz.call3 Tryz.func3 rfl rfl rfl (all_cons pers_lib (all_cons (pers_tabs _ _) (all_cons (pers_slAt _ _ _ _) all_nil))) rfl ?_
  refine SK.know (sl_len (ρ := RU) (A := A) (n := n) (l := l) (by repeat constructor)) ?_
  rintro ⟨hnl, -, -⟩
  obtain ⟨l, rfl, hbl⟩ := natL l hb
  rw [List.length_map] at hnl
  subst hnl
  have d1 : decide ((l.length : Int) < 2) = false := decide_eq_false (by omega)
  have d2 : decide ((20 : Int) < (l.length : Int)) = false := decide_eq_false (by omega)
  repeat' (first
 | refine SO.buildSlice rfl rfl rfl rfl rfl rfl (fun vb => SO.shift (toSq (ρ := RI) (n := 4) (b := vb) (l := cnt4 l 0) [(0, ()), (0, ()), (0, ()), (0, ())] (by repeat constructor) rfl rfl rfl rfl (by repeat constructor)) ?_)
 | refine SO.call (m24known_does) rfl rfl rfl (by repeat constructor) (by repeat constructor) rfl (fun x hx => ?_)
 | refine SO.pure rfl rfl rfl ?_
 | refine SO.nil ?_
 | refine SO.guardY rfl rfl ?_
 | refine SK.seq ?_
 | refine SK.region ?_
 | refine SK.condF rfl ?_
 | refine SK.skip ?_
 | refine SK.block ?_
 | refine SO.buildSlice rfl rfl rfl rfl rfl rfl (fun b => ?_)
 | refine SO.guardYP rfl rfl (by first | assumption | (simp only [Go.Sl.bl]; omega)) ?_
 | refine SK.condFP rfl (by first | assumption | (simp only [Go.Sl.bl]; omega)) ?_
 | fail)
  refine SK.shift (fun F w hst => hst.ent (Ent.cons (ent_triv (A := sqAt true RRec none 0 0 [])))) ?_
  refine SK.loop (X := {x : Nat × Pl // x.1 ≤ l.length}) (fun x => [(7, .int .i64 (x.1.1 : Int)), (6, .slice (some ⟨vb, 0, none⟩) 4 4), (5, .slice x.1.2.1 x.1.1 x.1.2.2), (0, .slice A l.length c), (1, .int .u8 (k : Int))]) (fun x => [libA, tabs 4 5, slAt RU A l.length (l.map fun (x : Nat) => (x : Int)), sqAt true RI (some ⟨vb, 0, none⟩) 4 4 (cnt4 l x.1.1), sqAt true RRec x.1.2.1 x.1.1 x.1.2.2 ((List.range x.1.1).map (mrR l))]) (fun x => l.length - x.1.1) ⟨(0, (none, 0)), Nat.zero_le _⟩ (by repeat constructor) (ent_append_of_takes (by repeat constructor)) ?_
  rintro ⟨⟨i, Ax, cx⟩, hi0⟩
  have hi : i ≤ l.length := hi0
  dsimp only
  have hwi : IntKind.i64.wrap ((i : Int) + 1) = ((i + 1 : Nat) : Int) := by rw [wrap_id (by omega) (by omega)]; omega
  rcases Nat.lt_or_ge i l.length with hil | hil
  · have hd1 : decide ((i : Int) < (l.length : Int)) = true := decide_eq_true (by omega)
    obtain ⟨ax, hax⟩ : ∃ ax, l[i]? = some ax := ⟨_, List.getElem?_eq_getElem hil⟩
    have hxb := hbl ax (List.mem_of_getElem? hax)
    have hxm : (l.map fun (ax : Nat) => (ax : Int))[i]? = some (ax : Int) := by rw [List.getElem?_map, hax]; rfl
    have hgd : l.getD i 0 = ax := by rw [List.getD_eq_getElem?_getD, hax]; rfl
    have hsn : siteN l i = ax % 4 := by unfold siteN; rw [hgd]
    have hs4 := siteN_lt l i
    have hcn := cntS_le l (siteN l i) i
    have ew : IntKind.i64.wrap ((ax : Int).tmod 4) = (siteN l i : Int) := by
      rw [hsn]
      exact wrap_id (by show -9223372036854775808 ≤ ((ax % 4 : Nat) : Int); omega) (by show ((ax % 4 : Nat) : Int) < 9223372036854775808; omega)
    have hsq := cnt4_at l i (siteN l i) hs4
    have hsq2 := cnt4_at l (i + 1) (siteN l i) hs4
    have hset := cnt4_set l i
    have hsq3 : ((cnt4 l i).set (siteN l i) ((cntS l (siteN l i) i : Int) + 1))[siteN l i]? = some (cntS l (siteN l i) (i + 1) : Int) := by rw [hset]; exact hsq2
    have ew2 : IntKind.i64.wrap ((cntS l (siteN l i) i : Int) + 1) = (cntS l (siteN l i) i : Int) + 1 := wrap_id (by omega) (by omega)
    have ek : (IntKind.u8.wrap ((ax : Int).tdiv 4)).tmod 2 = ((ax / 4 % 2 : Nat) : Int) := by
      have h1 : (ax : Int).tdiv 4 = ((ax / 4 : Nat) : Int) := rfl
      have h2 : IntKind.u8.wrap ((ax / 4 : Nat) : Int) = ((ax / 4 : Nat) : Int) := by simp [IntKind.wrap, IntKind.signed, IntKind.bits]; omega
      rw [h1, h2]; rfl
    by_cases hdp : ax / 4 % 2 = 0
    · have e46 : decide ((IntKind.u8.wrap ((ax : Int).tdiv 4)).tmod 2 = 0) = true := by rw [ek, hdp]; rfl
      have er : mrR l i = ⟨(siteN l i : Int), (cntS l (siteN l i) (i + 1) : Int), [], ⟨#[107]⟩, bE⟩ := by unfold mrR mrD; rw [hgd, if_pos hdp]
      repeat' (first
 | refine SO.buildSlice rfl rfl rfl rfl rfl rfl (fun zb => SO.shift (toSqR (ρ := RI) (n := 0) (b := zb) (l := []) [] (by repeat constructor) rfl rfl rfl rfl (by repeat constructor)) ?_)
 | refine SO.append (ρ := RI) (w := false) (ys := cnt4 l i) rfl rfl (by repeat constructor) (src_sq (by repeat constructor)) rfl rfl rfl rfl rfl rfl rfl (by decide) (fun A3 c3 => ?_)
 | refine SO.indexH rfl rfl (by repeat constructor) rfl rfl rfl rfl (by assumption) ?_
 | refine SO.pure rfl rfl rfl ?_
 | refine SO.pure2 rfl rfl rfl ?_
 | refine SO.nil ?_
 | refine SO.eloadW rfl (by repeat constructor) (by assumption) rfl (by rfl) rfl (by rfl) rfl (fun hid => ?_)
 | refine SK.seq ?_
 | refine SK.region ?_
 | refine SK.skip ?_
 | refine SK.block ?_
 | refine SO.buildSlice rfl rfl rfl rfl rfl rfl (fun b => ?_)
 | refine SK.condTP rfl (by first | assumption | (simp only [Go.Sl.bl]; omega)) ?_
 | fail)
      rw [ew]
      repeat' (first
 | refine SO.indexQ rfl rfl (by repeat constructor) rfl rfl rfl rfl (by assumption) ?_
 | refine SO.eloadQ rfl (by repeat constructor) (by assumption) rfl (by rfl) (by exact fun _ => ⟨rfl, fun h => by first | (cases h; done) | exact rfl⟩) rfl (fun hid => ?_)
 | refine SO.pure rfl rfl rfl ?_
 | fail)
      rw [ew2]
      repeat' (first
 | refine SO.estoreW (ρ := RI) (h := ()) (u := (cntS l (siteN l i) i : Int) + 1) rfl rfl (by repeat constructor) (by repeat constructor) rfl rfl rfl (by omega) ?_
 | refine SO.indexQ rfl rfl (by repeat constructor) rfl rfl rfl rfl (by assumption) ?_
 | refine SO.eloadQ rfl (by repeat constructor) (by assumption) rfl (by rfl) (by exact fun _ => ⟨rfl, fun h => by first | (cases h; done) | exact rfl⟩) rfl (fun hid => ?_)
 | refine SO.pure rfl rfl rfl ?_
 | refine SO.nil ?_
 | refine SO.build rfl rfl rfl rfl ?_
 | refine SK.region ?_
 | refine SO.buildSlice rfl rfl rfl rfl rfl rfl (fun b => ?_)
 | fail)
      rw [hset]
      repeat' (first
 | refine SO.append (ρ := RRec) (w := true) (ys := [(⟨(siteN l i : Int), (cntS l (siteN l i) (i + 1) : Int), [], ⟨#[107]⟩, bE⟩ : Rc)]) rfl rfl (by repeat constructor) (Src.one (h := (none, 0)) (by repeat constructor) (by rfl) (show HasAll [slAt RI none 0 [], pr (([] : List Int).length ≤ 0)] _ from by repeat constructor)) rfl rfl rfl rfl rfl rfl rfl (by unfold lim; omega) (fun A5 c5 => ?_)
 | refine SO.pure rfl rfl rfl ?_
 | refine SO.nil ?_
 | refine SK.region ?_
 | refine SK.blk ?_
 | fail)
      refine SK.inv ⟨⟨(i + 1, (A5, c5)), by show i + 1 ≤ l.length; omega⟩, ?_, ?_, ?_⟩
      · show l.length - (i + 1) < l.length - i
        omega
      · rw [hwi]; repeat constructor
      · dsimp only
        rw [List.range_succ, List.map_append, List.map_cons, List.map_nil, er]
        exact ent_append_of_takes (by repeat constructor)
    · have e46 : decide ((IntKind.u8.wrap ((ax : Int).tdiv 4)).tmod 2 = 0) = false := by rw [ek]; exact decide_eq_false (by omega)
      have er : mrR l i = ⟨(siteN l i : Int), (cntS l (siteN l i) (i + 1) : Int), cnt4 l i, ⟨#[107]⟩, bE⟩ := by unfold mrR mrD; rw [hgd, if_neg hdp]
      repeat' (first
 | refine SO.buildSlice rfl rfl rfl rfl rfl rfl (fun zb => SO.shift (toSqR (ρ := RI) (n := 0) (b := zb) (l := []) [] (by repeat constructor) rfl rfl rfl rfl (by repeat constructor)) ?_)
 | refine SO.append (ρ := RI) (w := false) (ys := cnt4 l i) rfl rfl (by repeat constructor) (src_sq (by repeat constructor)) rfl rfl rfl rfl rfl rfl rfl (by decide) (fun A3 c3 => ?_)
 | refine SO.indexH rfl rfl (by repeat constructor) rfl rfl rfl rfl (by assumption) ?_
 | refine SO.pure rfl rfl rfl ?_
 | refine SO.pure2 rfl rfl rfl ?_
 | refine SO.nil ?_
 | refine SO.eloadW rfl (by repeat constructor) (by assumption) rfl (by rfl) rfl (by rfl) rfl (fun hid => ?_)
 | refine SK.seq ?_
 | refine SK.region ?_
 | refine SK.skip ?_
 | refine SK.block ?_
 | refine SO.buildSlice rfl rfl rfl rfl rfl rfl (fun b => ?_)
 | refine SK.condTP rfl (by first | assumption | (simp only [Go.Sl.bl]; omega)) ?_
 | refine SK.condFP rfl (by first | assumption | (simp only [Go.Sl.bl]; omega)) ?_
 | fail)
      refine SO.shift (share_pr (ρ := RI) (A := A3) (n := 0 + 4) (m := c3) (l := [] ++ cnt4 l i) (by repeat constructor)) ?_
      rw [ew]
      repeat' (first
 | refine SO.indexQ rfl rfl (by repeat constructor) rfl rfl rfl rfl (by assumption) ?_
 | refine SO.eloadQ rfl (by repeat constructor) (by assumption) rfl (by rfl) (by exact fun _ => ⟨rfl, fun h => by first | (cases h; done) | exact rfl⟩) rfl (fun hid => ?_)
 | refine SO.pure rfl rfl rfl ?_
 | fail)
      rw [ew2]
      repeat' (first
 | refine SO.estoreW (ρ := RI) (h := ()) (u := (cntS l (siteN l i) i : Int) + 1) rfl rfl (by repeat constructor) (by repeat constructor) rfl rfl rfl (by omega) ?_
 | refine SO.indexQ rfl rfl (by repeat constructor) rfl rfl rfl rfl (by assumption) ?_
 | refine SO.eloadQ rfl (by repeat constructor) (by assumption) rfl (by rfl) (by exact fun _ => ⟨rfl, fun h => by first | (cases h; done) | exact rfl⟩) rfl (fun hid => ?_)
 | refine SO.pure rfl rfl rfl ?_
 | refine SO.nil ?_
 | refine SO.build rfl rfl rfl rfl ?_
 | refine SK.region ?_
 | refine SO.buildSlice rfl rfl rfl rfl rfl rfl (fun b => ?_)
 | fail)
      rw [hset]
      repeat' (first
 | refine SO.append (ρ := RRec) (w := true) (ys := [(⟨(siteN l i : Int), (cntS l (siteN l i) (i + 1) : Int), cnt4 l i, ⟨#[107]⟩, bE⟩ : Rc)]) rfl rfl (by repeat constructor) (Src.one (h := (A3, c3)) (by repeat constructor) (by rfl) (show HasAll [slAt RI A3 4 (cnt4 l i), pr ((cnt4 l i).length ≤ c3)] _ from by repeat constructor)) rfl rfl rfl rfl rfl rfl rfl (by unfold lim; omega) (fun A5 c5 => ?_)
 | refine SO.pure rfl rfl rfl ?_
 | refine SO.nil ?_
 | refine SK.region ?_
 | refine SK.blk ?_
 | fail)
      refine SK.inv ⟨⟨(i + 1, (A5, c5)), by show i + 1 ≤ l.length; omega⟩, ?_, ?_, ?_⟩
      · show l.length - (i + 1) < l.length - i
        omega
      · rw [hwi]; repeat constructor
      · dsimp only
        rw [List.range_succ, List.map_append, List.map_cons, List.map_nil, er]
        exact ent_append_of_takes (by repeat constructor)
  · have hd1 : decide ((i : Int) < (l.length : Int)) = false := decide_eq_false (by omega)
    obtain rfl : i = l.length := by omega
    have hXl : ((List.range l.length).map (mrR l)).length = l.length := by simp
    refine SK.know (sq_len (ρ := RRec) (w := true) (A := Ax) (n := l.length) (c := cx) (l := (List.range l.length).map (mrR l)) (by repeat constructor)) ?_
    rintro ⟨-, -, -, hAn⟩
    obtain ⟨ab, rfl⟩ : ∃ ab, Ax = some ab := by
      cases Ax with
      | none => exact absurd (hAn rfl).1 (by intro h; have := congrArg List.length h; rw [hXl] at this; exact absurd (show l.length = 0 from this) (by omega))
      | some a => exact ⟨a, rfl⟩
    repeat' (first
 | refine SO.call (mnum_does _ _ _) rfl rfl rfl (by repeat constructor) (by repeat constructor) rfl (fun x hx => ?_)
 | refine SO.pure rfl rfl rfl ?_
 | refine SO.nil ?_
 | refine SK.seq ?_
 | refine SK.region ?_
 | refine SK.exit rfl ?_
 | refine SK.condFP rfl (by first | assumption | (simp only [Go.Sl.bl]; omega)) ?_
 | fail)
    rename Nat => nb
    refine SO.shift (fun F w hst => hst.ent (Ent.cons (ent_bigOf (A := [pts nb 0 [.slice (some ab) l.length cx], sqAt true RRec (some ab) l.length cx ((List.range l.length).map (mrR l))]) (by repeat constructor)))) ?_
    have hrb : ∀ x ∈ numL ((List.range l.length).map (mrR l)), RBd x.2 := by
      intro x hx
      have h1 : x.2 ∈ (numL ((List.range l.length).map (mrR l))).map (·.2) := List.mem_map.2 ⟨x, hx, rfl⟩
      rw [numL_snd] at h1
      obtain ⟨p, hp, he⟩ := List.mem_map.1 h1
      have := List.mem_range.1 hp
      rw [← he]; exact mr_bd l (by omega)
    have ml := mlog_does _ #[.pointer (some ⟨nb, 0, none⟩)] none 0 0 [] (numL ((List.range l.length).map (mrR l))) _ _ _ (mnumiterQ nb (some ab) l.length cx cx ((List.range l.length).map (mrR l)) hXl.symm (by rw [hXl]; omega)) (by rw [numL_len, hXl]; omega) vbd0 hrb
    rw [show flawsF [] (numL ((List.range l.length).map (mrR l))) = [] from (flaws_okR _ _).2 (by rw [numL_snd]; exact mr_order l l.length)] at ml
    obtain ⟨kk, hkk⟩ : ∃ kk, kk = k % (l.length - 1) := ⟨_, rfl⟩
    have hkl : kk + 1 < l.length := by
      have := Nat.mod_lt k (show l.length - 1 > 0 by omega)
      omega
    have hwl : IntKind.i64.wrap ((l.length : Int) - 1) = ((l.length - 1 : Nat) : Int) := by rw [wrap_id (by omega) (by omega)]; omega
    have em : (IntKind.i64.wrap (k : Int)).tmod (IntKind.i64.wrap ((l.length : Int) - 1)) = (kk : Int) := by
      rw [hwl, wrap_id (by omega) (by omega), hkk]
      rfl
    repeat' (first
 | refine SO.div rfl rfl (rem_ne (by omega)) rfl ?_
 | refine SO.call (ml) rfl rfl rfl (by repeat constructor) (by repeat constructor) rfl (fun x hx => ?_)
 | refine SO.pure rfl rfl rfl ?_
 | refine SO.nil ?_
 | refine SO.div rfl rfl rfl rfl ?_
 | refine SK.seq ?_
 | refine SK.region ?_
 | refine SK.condF rfl ?_
 | refine SK.skip ?_
 | fail)
    rw [em]
    refine SK.openBig (by repeat constructor) ?_
    have hx0 : ((List.range l.length).map (mrR l))[kk]? = some (mrR l kk) := by rw [List.getElem?_map, List.getElem?_range (by omega)]; rfl
    have hx1 : ((List.range l.length).map (mrR l))[kk + 1]? = some (mrR l (kk + 1)) := by rw [List.getElem?_map, List.getElem?_range hkl]; rfl
    have hk1 : Int.ofNat (kk + 1) = IntKind.i64.wrap ((kk : Int) + 1) := by rw [wrap_id (by omega) (by omega)]; rfl
    refine SK.cutJ (X := (Nat × Nat) × Pl × Pl) (fun z => [(11, .pointer (some ⟨z.1.1, 0, none⟩)), (12, .pointer (some ⟨z.1.2, 0, none⟩)), (10, .int .i64 (kk : Int)), (5, .slice (some ab) l.length cx)]) (fun z => pts z.1.1 0 (RRec.cells (mrR l kk) z.2.1) :: pts z.1.2 0 (RRec.cells (mrR l (kk + 1)) z.2.2) :: libA :: tabs 4 5 :: swpL ab l.length cx ((List.range l.length).map (mrR l)) (mrR l kk) (mrR l (kk + 1)) z.2.1 z.2.2) (fun _ _ _ h => h) ?_ ?_
    · repeat' (first
 | refine SX.indexQ (i := kk + 1) rfl rfl (by repeat constructor) rfl rfl hk1 rfl hx1 ?_
 | refine SO.nil ?_
 | refine SO.alloc rfl rfl rfl (fun b => ?_)
 | refine SO.storeW rfl rfl (by repeat constructor) rfl (by rfl) (by rfl) (by rfl) ?_
 | refine SK.regionX 19 (.item 0 0 (.item 0 1 (.item 0 4 (.item 0 5 (.item 0 2 (.item 0 6 (.item 0 3 (.item 0 7 (.item 0 8 (.fork (.item 1 9 (.item 1 10 (.item 1 11 (.item 2 12 .nil)))) (.item 1 10 (.item 1 9 (.item 1 11 (.item 2 12 .nil)))))))))))))) [] .nil (by repeat (first | exact .nil | apply PersSub.s | apply PersSub.t | apply PersSub.p | apply PersSub.r | apply PersSub.skip)) (by kernel_rfl) (by kernel_rfl) (fun _ _ _ h => h) ?_
 | refine SK.regionX 20 (.item 0 0 (.item 0 1 (.item 0 2 (.item 0 3 (.item 0 5 (.item 0 6 (.item 0 4 (.item 0 7 (.item 1 8 (.item 0 9 (.item 2 10 .nil))))))))))) [] .nil (by repeat (first | exact .nil | apply PersSub.s | apply PersSub.t | apply PersSub.p | apply PersSub.r | apply PersSub.skip)) (by kernel_rfl) (by kernel_rfl) (fun _ _ _ h => h) ?_
 | refine SK.regionX 21 (.item 0 0 (.item 0 2 (.item 0 1 (.item 0 3 (.item 0 4 (.item 0 5 (.item 0 6 (.item 0 8 (.item 0 11 (.item 0 7 (.item 0 9 (.item 0 12 (.item 1 10 (.item 0 13 (.item 0 14 (.item 0 15 .nil)))))))))))))))) [] .nil (by repeat (first | exact .nil | apply PersSub.s | apply PersSub.t | apply PersSub.p | apply PersSub.r | apply PersSub.skip)) (by kernel_rfl) (by kernel_rfl) (fun _ _ _ h => h) ?_
 | refine SX.tail (by rfl) (by repeat (first | exact .nil | apply DropP.s | apply DropP.t | apply DropP.p | apply DropP.r | apply DropP.keep)) ?_
 | refine SX.indexQ rfl rfl (by repeat constructor) rfl rfl rfl rfl (by assumption) ?_
 | refine SX.eloadQ rfl (by repeat constructor) (by assumption) rfl (by rfl) (by exact fun _ => ⟨rfl, fun h => by first | (cases h; done) | exact rfl⟩) rfl (fun hid => ?_)
 | refine SX.pure rfl rfl rfl ?_
 | refine SX.fork ?_ ?_
 | refine SX.step rfl rfl ?_
 | refine SK.invY ?_
 | refine SY.go ?_
 | fail)
      all_goals exact SK.inv ⟨((_, _), (_, _)), by repeat constructor, ent_append_of_takes (by repeat constructor)⟩
    rintro ⟨⟨b1, b2⟩, h1, h2⟩ T' L' hT hL
    dsimp only at hT hL
    refine SK.weaken hT (hL.trans swp_dup) ?_
    repeat' (first
 | refine SX.indexB (i := kk) rfl rfl rfl rfl rfl (by omega) rfl ?_
 | refine SX.indexB (i := kk + 1) rfl rfl rfl rfl hk1 (by omega) rfl ?_
 | refine SO.estoreW (ρ := RRec) (l := (List.range l.length).map (mrR l)) (u := mrR l (kk + 1)) (h := h2) rfl rfl (by repeat constructor) (by repeat constructor) rfl rfl rfl (by omega) ?_
 | refine SO.estoreW (ρ := RRec) (l := ((List.range l.length).map (mrR l)).set kk (mrR l (kk + 1))) (u := mrR l kk) (h := h1) rfl rfl (by repeat constructor) (by repeat constructor) rfl rfl rfl (by omega) ?_
 | refine SO.nil ?_
 | refine SK.seq ?_
 | refine SK.regionX 19 (.item 0 0 (.item 0 1 (.item 0 4 (.item 0 5 (.item 0 2 (.item 0 6 (.item 0 3 (.item 0 7 (.item 0 8 (.fork (.item 1 9 (.item 1 10 (.item 1 11 (.item 2 12 .nil)))) (.item 1 10 (.item 1 9 (.item 1 11 (.item 2 12 .nil)))))))))))))) [] .nil (by repeat (first | exact .nil | apply PersSub.s | apply PersSub.t | apply PersSub.p | apply PersSub.r | apply PersSub.skip)) (by kernel_rfl) (by kernel_rfl) (fun _ _ _ h => h) ?_
 | refine SK.regionX 20 (.item 0 0 (.item 0 1 (.item 0 2 (.item 0 3 (.item 0 5 (.item 0 6 (.item 0 4 (.item 0 7 (.item 1 8 (.item 0 9 (.item 2 10 .nil))))))))))) (swpL ab l.length cx ((List.range l.length).map (mrR l)) (mrR l kk) (mrR l (kk + 1)) h1 h2) (by repeat constructor) (by repeat (first | exact .nil | apply PersSub.s | apply PersSub.t | apply PersSub.p | apply PersSub.r | apply PersSub.skip)) (by kernel_rfl) (by kernel_rfl) (fun _ _ _ h => h) ?_
 | refine SX.tail (by rfl) (by repeat (first | exact .nil | apply DropP.s | apply DropP.t | apply DropP.p | apply DropP.r | apply DropP.keep)) ?_
 | refine SX.pure rfl rfl rfl ?_
 | refine SX.load rfl (by repeat constructor) rfl (by rfl) (by exact ⟨rfl, by first | exact fun _ => rfl | exact (fun h => by cases h)⟩) rfl ?_
 | refine SX.step rfl rfl ?_
 | refine SK.invY ?_
 | refine SY.go ?_
 | fail)
    have hrg := rget_does h2.1 (mrR l (kk + 1)).dep.length h2.2 (mrR l (kk + 1)).dep (mrR l kk).site
    refine SK.cutJ (X := Unit) (fun _ => [(13, .bool (hangsR (mrR l kk) (mrR l (kk + 1)))), (5, .slice (some ab) l.length cx)]) (fun _ => [libA, tabs 4 5, sqAt true RRec (some ab) l.length cx (swR l kk l.length)]) (fun _ _ _ h => h) ?_ ?_
    · by_cases hs : (mrR l kk).site = (mrR l (kk + 1)).site
      · have hs1 : decide ((mrR l kk).site = (mrR l (kk + 1)).site) = true := decide_eq_true hs
        have hh : hangsR (mrR l kk) (mrR l (kk + 1)) = true := by unfold hangsR; rw [hs1]; rfl
        rw [hh]
        repeat' (first
 | refine SO.nil ?_
 | refine SK.regionX 19 (.item 0 0 (.item 0 1 (.item 0 4 (.item 0 5 (.item 0 2 (.item 0 6 (.item 0 3 (.item 0 7 (.item 0 8 (.fork (.item 1 9 (.item 1 10 (.item 1 11 (.item 2 12 .nil)))) (.item 1 10 (.item 1 9 (.item 1 11 (.item 2 12 .nil)))))))))))))) [] .nil (by repeat (first | exact .nil | apply PersSub.s | apply PersSub.t | apply PersSub.p | apply PersSub.r | apply PersSub.skip)) (by kernel_rfl) (by kernel_rfl) (fun _ _ _ h => h) ?_
 | refine SK.regionX 20 (.item 0 0 (.item 0 1 (.item 0 2 (.item 0 3 (.item 0 5 (.item 0 6 (.item 0 4 (.item 0 7 (.item 1 8 (.item 0 9 (.item 2 10 .nil))))))))))) [] .nil (by repeat (first | exact .nil | apply PersSub.s | apply PersSub.t | apply PersSub.p | apply PersSub.r | apply PersSub.skip)) (by kernel_rfl) (by kernel_rfl) (fun _ _ _ h => h) ?_
 | refine SK.regionX 21 (.item 0 0 (.item 0 2 (.item 0 1 (.item 0 3 (.item 0 4 (.item 0 5 (.item 0 6 (.item 0 8 (.item 0 11 (.item 0 7 (.item 0 9 (.item 0 12 (.item 1 10 (.item 0 13 (.item 0 14 (.item 0 15 .nil)))))))))))))))) [] .nil (by repeat (first | exact .nil | apply PersSub.s | apply PersSub.t | apply PersSub.p | apply PersSub.r | apply PersSub.skip)) (by kernel_rfl) (by kernel_rfl) (fun _ _ _ h => h) ?_
 | refine SX.tail (by rfl) (by repeat (first | exact .nil | apply DropP.s | apply DropP.t | apply DropP.p | apply DropP.r | apply DropP.keep)) ?_
 | refine SX.pure rfl rfl rfl ?_
 | refine SX.guardN rfl rfl rfl ?_
 | refine SX.load rfl (by repeat constructor) rfl (by rfl) (by exact ⟨rfl, by first | exact fun _ => rfl | exact (fun h => by cases h)⟩) rfl ?_
 | refine SX.guardNP rfl rfl rfl (by first | assumption | (simp only [Go.Sl.bl]; omega)) ?_
 | fail)
        exact SK.inv ⟨(), by repeat constructor, ent_append_of_takes (by repeat constructor)⟩
      · have hs1 : decide ((mrR l kk).site = (mrR l (kk + 1)).site) = false := decide_eq_false hs
        have hh : hangsR (mrR l kk) (mrR l (kk + 1)) = decide ((mrR l kk).seq ≤ getI (mrR l (kk + 1)).dep (mrR l kk).site) := by unfold hangsR; rw [hs1]; rfl
        rw [hh]
        repeat' (first
 | refine SO.call (hrg) rfl rfl rfl (by repeat constructor) (by repeat constructor) rfl (fun x hx => ?_)
 | refine SO.nil ?_
 | refine SK.regionX 19 (.item 0 0 (.item 0 1 (.item 0 4 (.item 0 5 (.item 0 2 (.item 0 6 (.item 0 3 (.item 0 7 (.item 0 8 (.fork (.item 1 9 (.item 1 10 (.item 1 11 (.item 2 12 .nil)))) (.item 1 10 (.item 1 9 (.item 1 11 (.item 2 12 .nil)))))))))))))) [] .nil (by repeat (first | exact .nil | apply PersSub.s | apply PersSub.t | apply PersSub.p | apply PersSub.r | apply PersSub.skip)) (by kernel_rfl) (by kernel_rfl) (fun _ _ _ h => h) ?_
 | refine SK.regionX 20 (.item 0 0 (.item 0 1 (.item 0 2 (.item 0 3 (.item 0 5 (.item 0 6 (.item 0 4 (.item 0 7 (.item 1 8 (.item 0 9 (.item 2 10 .nil))))))))))) [] .nil (by repeat (first | exact .nil | apply PersSub.s | apply PersSub.t | apply PersSub.p | apply PersSub.r | apply PersSub.skip)) (by kernel_rfl) (by kernel_rfl) (fun _ _ _ h => h) ?_
 | refine SK.regionX 21 (.item 0 0 (.item 0 2 (.item 0 1 (.item 0 3 (.item 0 4 (.item 0 5 (.item 0 6 (.item 0 8 (.item 0 11 (.item 0 7 (.item 0 9 (.item 0 12 (.item 1 10 (.item 0 13 (.item 0 14 (.item 0 15 .nil)))))))))))))))) [] .nil (by repeat (first | exact .nil | apply PersSub.s | apply PersSub.t | apply PersSub.p | apply PersSub.r | apply PersSub.skip)) (by kernel_rfl) (by kernel_rfl) (fun _ _ _ h => h) ?_
 | refine SX.tail (by rfl) (by repeat (first | exact .nil | apply DropP.s | apply DropP.t | apply DropP.p | apply DropP.r | apply DropP.keep)) ?_
 | refine SX.pure rfl rfl rfl ?_
 | refine SX.guardY rfl rfl ?_
 | refine SX.load rfl (by repeat constructor) rfl (by rfl) (by exact ⟨rfl, by first | exact fun _ => rfl | exact (fun h => by cases h)⟩) rfl ?_
 | refine SX.guardYP rfl rfl (by first | assumption | (simp only [Go.Sl.bl]; omega)) ?_
 | refine SX.step rfl rfl ?_
 | refine SK.invY ?_
 | refine SY.shareGo (by repeat (first | exact .nil | apply PersSub.s | apply PersSub.t | apply PersSub.p | apply PersSub.r | apply PersSub.skip)) ?_
 | fail)
        exact SK.inv ⟨(), by repeat constructor, ent_append_of_takes (by repeat constructor)⟩
    rintro ⟨⟩ T2 L2 hT2 hL2
    refine SK.weaken hT2 hL2 ?_
    have hSl : (swR l kk l.length).length = l.length := by unfold swR; simp
    have hrb2 : ∀ x ∈ numL (swR l kk l.length), RBd x.2 := by
      intro x hx
      have h1 : x.2 ∈ (numL (swR l kk l.length)).map (·.2) := List.mem_map.2 ⟨x, hx, rfl⟩
      rw [numL_snd] at h1
      exact swR_bd l kk (by omega) hkl h1
    have key : decide ((0 : Int) < ((flawsF [] (numL (swR l kk l.length))).length : Int)) = hangsR (mrR l kk) (mrR l (kk + 1)) := by
      have hm : kk + (2 + (l.length - kk - 2)) = l.length := by omega
      have hk := mr_swap l kk (l.length - kk - 2)
      rw [hm] at hk
      have hf := flaws_okR (numL (swR l kk l.length)) []
      rw [numL_snd] at hf
      cases hh : hangsR (mrR l kk) (mrR l (kk + 1)) with
      | true =>
        have hne : flawsF [] (numL (swR l kk l.length)) ≠ [] := fun e => by
          have := hk.1 (hf.1 e)
          rw [hh] at this; cases this
        have := List.length_pos_iff.2 hne
        exact decide_eq_true (by omega)
      | false =>
        rw [hf.2 (hk.2 hh)]; rfl
    repeat' (first
 | refine SO.call (mnum_does _ _ _) rfl rfl rfl (by repeat constructor) (by repeat constructor) rfl (fun x hx => ?_)
 | refine SO.pure rfl rfl rfl ?_
 | refine SK.seq ?_
 | refine SK.region ?_
 | fail)
    rename Nat => nb2
    refine SO.shift (fun F w hst => hst.ent (Ent.cons (ent_bigOf (A := [pts nb2 0 [.slice (some ab) l.length cx], sqAt true RRec (some ab) l.length cx (swR l kk l.length)]) (by repeat constructor)))) ?_
    have ml2 := mlog_does _ #[.pointer (some ⟨nb2, 0, none⟩)] none 0 0 [] (numL (swR l kk l.length)) _ _ _ (mnumiterQ nb2 (some ab) l.length cx cx (swR l kk l.length) hSl.symm (by rw [hSl]; omega)) (by rw [numL_len, hSl]; omega) vbd0 hrb2
    generalize hangsR (mrR l kk) (mrR l (kk + 1)) = hg at *
    repeat' (first
 | refine SO.call (ml2) rfl rfl rfl (by repeat constructor) (by repeat constructor) rfl (fun x hx => ?_)
 | refine SO.pure rfl rfl rfl ?_
 | refine SO.pure2 rfl rfl rfl ?_
 | refine SO.nil ?_
 | fail)
    refine SK.retX (.tmp rfl .nil) () trivial ?_ (by repeat constructor)
    show Value.bool _ = _
    rw [key]
    simp
end Go.Proofs
