/- A part of a proof: what functions of the program compute. -/
import Derived.Test.YtmbfcjffjgecjaaGreatDoorDoc2E
import Derived.Test.YtmbfcjffjgecjaaGreatDoorLib2
set_option linter.unusedVariables false
set_option linter.unusedSimpArgs false
set_option maxHeartbeats 0
set_option maxRecDepth 20000
namespace Go.Proofs
attribute [local irreducible] Go.Sl.SO Go.Sl.SQ Go.Sl.SR Go.Sl.SC Go.Sl.SX Go.Sl.SY Go.Sl.eadr Go.Sl.slAt Go.Sl.sqAt Go.Sl.pts Go.Sl.rod Go.Sl.ob Go.Sl.ex Go.Sl.big Go.Sl.pr Go.Sl.tabs Go.Sl.mpAt
open Go.Sl
theorem dchk_does (A : Option Addr) (c K : Nat) (hK : 1 ≤ K ∧ K ≤ 8) : Does Tryz.prog 167 [.slice A 1 c] [slAt RSp A 1 [(0, (K : Int))]] [] Unit (fun _ => True) (fun _ => .int .i64 0) (fun _ => []) := by
  refine Does.of Tryz.call167 Tryz.func167 rfl rfl rfl (all_cons (pers_slAt _ _ _ _) all_nil) rfl ?_
  have h0 : decide (((1 : Nat) : Int) = 0) = false := by decide
  repeat' (first
 | refine SO.pure rfl rfl rfl ?_
 | refine SO.nil ?_
 | refine SK.seq ?_
 | refine SK.region ?_
 | refine SK.condF rfl ?_
 | refine SK.skip ?_
 | refine SK.block ?_
 | fail)
  refine SK.loop (X := {j : Nat // j ≤ 1}) (fun j => [(3, .int .i64 (j.1 : Int)), (0, .slice A 1 c)]) (fun j => [slAt RSp A 1 [(0, (K : Int))]]) (fun j => 1 - j.1) ⟨0, Nat.zero_le _⟩ (by repeat constructor) (ent_append_of_takes (by repeat constructor)) ?_
  rintro ⟨j, hj⟩
  dsimp only
  have hwj : IntKind.i64.wrap ((j : Int) + 1) = ((j + 1 : Nat) : Int) := by rw [wrap_id (by omega) (by omega)]; omega
  rcases Nat.lt_or_ge j 1 with hjl | hjl
  · have hd2 : decide ((j : Int) < ((1 : Nat) : Int)) = true := decide_eq_true (by omega)
    have hx : ([(0, (K : Int))] : List (Int × Int))[j]? = some (0, (K : Int)) := by
      obtain rfl : j = 0 := by omega
      rfl
    have hn1 : decide ((j : Int) = 0) = true := decide_eq_true (by omega)
    have hn2 : (!decide ((0 : Int) = 0)) = false := by decide
    have hn3 : decide ((0 : Int) < (j : Int)) = false := decide_eq_false (by omega)
    have hn4 : decide ((K : Int) < 1) = false := decide_eq_false (by omega)
    have hn5 : decide ((8 : Int) < (K : Int)) = false := decide_eq_false (by omega)
    repeat' (first
 | refine SO.pure rfl rfl rfl ?_
 | refine SO.nil ?_
 | refine SK.seq ?_
 | refine SK.region ?_
 | refine SK.skip ?_
 | refine SK.block ?_
 | refine SK.blk ?_
 | refine SK.condTP rfl (by first | assumption | (simp only [Go.Sl.bl]; omega)) ?_
 | refine SK.condFP rfl (by first | assumption | (simp only [Go.Sl.bl]; omega)) ?_
 | refine SK.regionX 6 (.item 0 0 (.item 0 1 (.item 0 2 (.item 0 3 (.item 0 4 (.item 0 5 (.item 0 6 (.item 0 7 (.item 0 8 (.item 0 9 (.item 0 10 (.item 0 11 (.item 0 12 (.item 0 13 (.item 0 14 (.item 0 15 (.item 0 19 (.item 0 20 (.item 0 16 (.item 0 21 (.item 0 17 (.item 0 22 (.item 0 18 (.item 0 23 (.item 0 24 (.item 0 25 (.item 0 26 (.item 0 27 (.item 0 28 (.item 0 29 (.item 0 30 (.item 0 31 (.item 0 32 (.item 0 33 (.item 0 34 (.item 0 35 (.item 0 36 (.item 0 37 (.item 0 38 (.item 0 39 (.item 0 40 (.item 0 41 (.item 0 42 (.item 0 43 .nil)))))))))))))))))))))))))))))))))))))))))))) [] .nil (by repeat (first | exact .nil | apply PersSub.s | apply PersSub.t | apply PersSub.p | apply PersSub.r | apply PersSub.skip)) (by kernel_rfl) (by kernel_rfl) (fun _ _ _ h => h) ?_
 | refine SX.tail (by rfl) (by repeat (first | exact .nil | apply DropP.s | apply DropP.t | apply DropP.p | apply DropP.r | apply DropP.keep)) ?_
 | refine SX.indexH rfl rfl (by repeat constructor) rfl rfl rfl rfl (by assumption) ?_
 | refine SX.pure rfl rfl rfl ?_
 | refine SX.guardY rfl rfl ?_
 | refine SX.guardN rfl rfl rfl ?_
 | refine SX.efield rfl rfl rfl rfl rfl ?_
 | refine SX.eload rfl (by repeat constructor) (by assumption) rfl (by rfl) (by exact fun _ => ⟨rfl, fun _ => rfl⟩) rfl (fun hid => ?_)
 | refine SX.eload rfl (by repeat constructor) (by assumption) rfl (by rfl) (by exact fun _ => ⟨rfl, fun h => by cases h⟩) rfl (fun hid => ?_)
 | refine SX.guardYP rfl rfl (by first | assumption | (simp only [Go.Sl.bl]; omega)) ?_
 | refine SX.guardNP rfl rfl rfl (by first | assumption | (simp only [Go.Sl.bl]; omega)) ?_
 | fail)
    refine SK.inv ⟨⟨j + 1, by omega⟩, ?_, ?_, ?_⟩
    · show 1 - (j + 1) < 1 - j
      omega
    · rw [hwj]; repeat constructor
    · exact ent_append_of_takes (by repeat constructor)
  · have hd2 : decide ((j : Int) < ((1 : Nat) : Int)) = false := decide_eq_false (by omega)
    repeat' (first
 | refine SO.pure rfl rfl rfl ?_
 | refine SO.nil ?_
 | refine SK.seq ?_
 | refine SK.region ?_
 | refine SK.exit rfl ?_
 | refine SK.condFP rfl (by first | assumption | (simp only [Go.Sl.bl]; omega)) ?_
 | fail)
    exact SK.retX (.tmp rfl .nil) () trivial rfl (by repeat constructor)
theorem dfindp_does (A : Option Addr) (c K p : Nat) (hK : 1 ≤ K ∧ K ≤ 8) (hp : p ≤ 1000000) : Does Tryz.prog 146 [.slice A 1 c, .int .i64 (p : Int)] [slAt RSp A 1 [(0, (K : Int))]] [] Unit (fun _ => True) (fun _ => .tuple #[.int .i64 1, .int .i64 ((p % K : Nat) : Int), .int .i64 0]) (fun _ => []) := by
  refine Does.of Tryz.call146 Tryz.func146 rfl rfl rfl (all_cons (pers_slAt _ _ _ _) all_nil) rfl ?_
  have h0 : decide ((p : Int) < 0) = false := decide_eq_false (by omega)
  have ck := dchk_does A c K hK
  repeat' (first
 | refine SO.call (ck) rfl rfl rfl (by repeat constructor) (by repeat constructor) rfl (fun x hx => ?_)
 | refine SO.pure rfl rfl rfl ?_
 | refine SO.nil ?_
 | refine SO.guardY rfl rfl ?_
 | refine SK.seq ?_
 | refine SK.region ?_
 | refine SK.condF rfl ?_
 | refine SK.skip ?_
 | refine SK.block ?_
 | fail)
  refine SK.loop (X := {j : Nat // j ≤ 1}) (fun j => [(8, .int .i64 (j.1 : Int)), (7, .int .i64 0), (0, .slice A 1 c), (1, .int .i64 (p : Int))]) (fun j => [slAt RSp A 1 [(0, (K : Int))]]) (fun j => 1 - j.1) ⟨0, Nat.zero_le _⟩ (by repeat constructor) (ent_append_of_takes (by repeat constructor)) ?_
  rintro ⟨j, hj⟩
  dsimp only
  have hwj : IntKind.i64.wrap ((j : Int) + 1) = ((j + 1 : Nat) : Int) := by rw [wrap_id (by omega) (by omega)]; omega
  rcases Nat.lt_or_ge j 1 with hjl | hjl
  · have hd2 : decide ((j : Int) < ((1 : Nat) : Int)) = true := decide_eq_true (by omega)
    obtain rfl : j = 0 := by omega
    have hx : ([(0, (K : Int))] : List (Int × Int))[0]? = some (0, (K : Int)) := rfl
    have hn1 : decide ((0 : Int) ≤ (p : Int)) = true := decide_eq_true (by omega)
    repeat' (first
 | refine SO.indexH rfl rfl (by repeat constructor) rfl rfl rfl rfl (by assumption) ?_
 | refine SO.pure rfl rfl rfl ?_
 | refine SO.nil ?_
 | refine SO.efield rfl rfl rfl rfl rfl ?_
 | refine SO.eload rfl (by repeat constructor) (by assumption) rfl (by rfl) (by exact fun _ => ⟨rfl, fun _ => rfl⟩) rfl (fun hid => ?_)
 | refine SK.seq ?_
 | refine SK.region ?_
 | refine SK.condT rfl ?_
 | refine SK.skip ?_
 | refine SK.block ?_
 | refine SK.blk ?_
 | refine SO.eload rfl (by repeat constructor) (by assumption) rfl (by rfl) (by exact fun _ => ⟨rfl, fun h => by cases h⟩) rfl (fun hid => ?_)
 | fail)
    refine SK.inv ⟨⟨1, Nat.le_refl _⟩, ?_, ?_, ?_⟩
    · show 1 - 1 < 1 - 0
      decide
    · rw [hwj]; repeat constructor
    · exact ent_append_of_takes (by repeat constructor)
  · have hd2 : decide ((j : Int) < ((1 : Nat) : Int)) = false := decide_eq_false (by omega)
    have hx : ([(0, (K : Int))] : List (Int × Int))[0]? = some (0, (K : Int)) := rfl
    have hwp : IntKind.i64.wrap ((p : Int) - 0) = (p : Int) := by rw [wrap_id (by omega) (by omega)]; omega
    repeat' (first
 | refine SX.div rfl rfl (rem_ne (by omega)) rfl ?_
 | refine SO.pure rfl rfl rfl ?_
 | refine SO.nil ?_
 | refine SK.seq ?_
 | refine SK.region ?_
 | refine SK.exit rfl ?_
 | refine SK.condFP rfl (by first | assumption | (simp only [Go.Sl.bl]; omega)) ?_
 | refine SK.regionX 9 (.item 0 0 (.item 0 2 (.item 0 3 (.item 0 4 (.item 0 9 (.item 0 10 (.item 0 1 (.item 0 5 (.item 0 11 (.item 0 6 (.item 0 12 (.item 0 15 (.item 0 7 (.item 0 13 (.item 0 8 (.item 0 14 (.item 0 16 (.item 0 17 .nil)))))))))))))))))) [] .nil (by repeat (first | exact .nil | apply PersSub.s | apply PersSub.t | apply PersSub.p | apply PersSub.r | apply PersSub.skip)) (by kernel_rfl) (by kernel_rfl) (fun _ _ _ h => h) ?_
 | refine SX.tail (by rfl) (by repeat (first | exact .nil | apply DropP.s | apply DropP.t | apply DropP.p | apply DropP.r | apply DropP.keep)) ?_
 | refine SX.indexH rfl rfl (by repeat constructor) rfl rfl rfl rfl (by assumption) ?_
 | refine SX.pure rfl rfl rfl ?_
 | refine SX.efield rfl rfl rfl rfl rfl ?_
 | refine SX.eload rfl (by repeat constructor) (by assumption) rfl (by rfl) (by exact fun _ => ⟨rfl, fun _ => rfl⟩) rfl (fun hid => ?_)
 | refine SX.div rfl rfl rfl rfl ?_
 | refine SX.eload rfl (by repeat constructor) (by assumption) rfl (by rfl) (by exact fun _ => ⟨rfl, fun h => by cases h⟩) rfl (fun hid => ?_)
 | fail)
    refine SK.retX (.tmp rfl (.tmp rfl (.tmp rfl .nil))) () trivial ?_ (by repeat constructor)
    show Value.tuple #[.int .i64 (IntKind.i64.wrap (0 + 1)), .int .i64 ((IntKind.i64.wrap ((p : Int) - 0)).tmod (K : Int)), .int .i64 0] = _
    rw [hwp]
    rfl
theorem dseg_does (lb : Nat) (d : DLg) (K p : Nat) (x : DD) (hK : 1 ≤ K ∧ K ≤ 8) (hm : d.m = [(0, (K : Int))]) (hp : p ≤ 1000000) (hx : d.segs[p % K]? = some x) : Does Tryz.prog 109 [.pointer (some ⟨lb, 0, none⟩), .int .i64 (p : Int)] [] (dlHd lb d) Unit (fun _ => True) (fun _ => .tuple #[.pointer (some ⟨x.sb, 0, none⟩), .int .i64 1]) (fun _ => dlHd lb d) := by
  refine Does.of Tryz.call109 Tryz.func109 rfl rfl rfl all_nil rfl ?_
  refine SK.know (sl_len (ρ := RPt) (A := d.sA.1) (n := d.segs.length) (l := d.segs.map (·.sb)) (by repeat constructor)) ?_
  rintro ⟨-, hlim, -⟩
  have hil := (List.getElem?_eq_some_iff.1 hx).1
  have hs : (d.segs.map (·.sb))[p % K]? = some x.sb := by rw [List.getElem?_map, hx]; rfl
  have fp := dfindp_does d.mA.1 d.mA.2 K p hK hp
  obtain ⟨ob, sA, segs, mA, m, next, trim, vA, v, down⟩ := d
  obtain rfl : m = [(0, (K : Int))] := hm
  dsimp only at hs fp hil ⊢
  repeat' (first
 | refine SO.call (fp) rfl rfl rfl (by repeat constructor) (by repeat constructor) rfl (fun x hx => ?_)
 | refine SO.indexH rfl rfl (by repeat constructor) rfl rfl rfl rfl (by assumption) ?_
 | refine SO.pure rfl rfl rfl ?_
 | refine SO.nil ?_
 | refine SO.load rfl (by repeat constructor) rfl (by rfl) (by exact ⟨rfl, by first | exact fun _ => rfl | exact (fun h => by cases h)⟩) rfl ?_
 | refine SO.eloadW rfl (by repeat constructor) (by assumption) rfl (by rfl) rfl (by rfl) rfl (fun hid => ?_)
 | refine SK.seq ?_
 | refine SK.region ?_
 | fail)
  exact SK.retX (.tmp rfl (.tmp rfl .nil)) () trivial rfl (by repeat constructor)
theorem dlput_does (lb : Nat) (d : DLg) (K c : Nat) (us : Nat → Nat) (R : Nat → Rc) (r : Rc) (h : Pl) (hK : 1 ≤ K ∧ K ≤ 8) (hd : DI 50000 K c us R d) (hc : c < 200) (hr : R c = r) (hck : checkR r 8 = 0) (hdp : r.dep = []) : Does Tryz.prog 80 [.pointer (some ⟨lb, 0, none⟩), .int .i64 (c : Int), RRec.val r h] (RRec.atoms r h) (dlAt lb d) DLg (fun d' => DI 50000 K (c + 1) us R d') (fun _ => .int .i64 0) (fun d' => dlAt lb d') := by
  refine Does.of Tryz.call80 Tryz.func80 rfl rfl rfl (RRec.pers _ _) rfl ?_
  obtain ⟨q, hxq⟩ := hd.at_ hK c
  have hil := (List.getElem?_eq_some_iff.1 hxq).1
  obtain ⟨e1, e2, e3, e4, e5, e6⟩ := hd.sg _ q hxq
  have hu := lines_used (R := R) (K := K) (j := c % K) (c := c) (fun p hp => (hd.rs p hp).1) (by omega)
  have hl := lineP_le (n := c) hck (by omega)
  have hcl := cnt_le (K := K) (j := c % K) c
  have sg := dseg_does lb d K c q hK hd.m (by omega) hxq
  have pt := dput_does q 1 c r h hck hdp (by omega) (by decide) (by rw [e4]; decide) (by rw [e5]; omega) (by rw [e1]; exact slots_lt) (by rw [e1, slots_len]; omega) (by rw [e2, e6]; omega) (by rw [e6]; decide)
  have hdn := hd.down
  have hnx := hd.next
  have hw : IntKind.i64.wrap ((c : Int) + 1) = ((c + 1 : Nat) : Int) := by rw [wrap_id (by omega) (by omega)]; omega
  have hne : (!decide ((c : Int) = (c : Int))) = false := by simp
  have hput := fun sp dp => hd.put (by omega) (by rw [hr]; exact ⟨hck, hdp⟩) hxq (sp := sp) (dp := dp) (d' := { d with next := c + 1, segs := d.segs.set (c % K) { q with sp := sp, dp := dp, lines := q.lines ++ [txB (lineP c (R c))], l := q.l ++ [((c : Int), R c, (q.lines.length : Int))] } }) rfl
  rw [hr] at hput
  have hsb : ∀ z : DD, z.sb = q.sb → (d.segs.set (c % K) z).map (·.sb) = d.segs.map (·.sb) := fun z hz => by
    rw [List.map_set, hz]
    obtain ⟨hk, e⟩ := List.getElem?_eq_some_iff.1 hxq
    have : q.sb = (d.segs.map (·.sb))[c % K]'(by rw [List.length_map]; exact hk) := by rw [List.getElem_map, e]
    rw [this, List.set_getElem_self]
  have hd1 : (0 : Int) = 0 := rfl
  obtain ⟨ob, sA, segs, mA, m, next, trim, vA, v, down⟩ := d
  obtain rfl : down = false := hdn
  obtain rfl : next = c := hnx
  dsimp only at hxq hil hput hsb ⊢
  refine SK.famOpen (k := next % K) (by repeat constructor) hxq ?_
  repeat' (first
 | refine SO.call (sg) rfl rfl rfl (by repeat constructor) (by repeat constructor) rfl (fun x hx => ?_)
 | refine SO.call (pt) rfl rfl rfl (by repeat constructor) (by repeat constructor) rfl (fun x hx => ?_)
 | refine SO.pure rfl rfl rfl ?_
 | refine SO.nil ?_
 | refine SO.loadW rfl (by repeat constructor) rfl rfl rfl (by rfl) rfl ?_
 | refine SO.load rfl (by repeat constructor) rfl (by rfl) (by exact ⟨rfl, by first | exact fun _ => rfl | exact (fun h => by cases h)⟩) rfl ?_
 | refine SK.seq ?_
 | refine SK.region ?_
 | refine SK.condT rfl ?_
 | refine SK.condF rfl ?_
 | refine SK.skip ?_
 | refine SO.box rfl rfl rfl (fun b => ?_)
 | refine SO.store rfl rfl (by repeat constructor) rfl (by rfl) rfl rfl (by rfl) (by rfl) ?_
 | refine SK.condFP rfl (by first | assumption | (simp only [Go.Sl.bl]; omega)) ?_
 | fail)
  rename Pl × Pl => y2
  refine SK.famShut (f := ddAt) (k := next % K) { q with sp := y2.1, dp := y2.2, lines := q.lines ++ [txB (lineP next r)], l := q.l ++ [((next : Int), r, (q.lines.length : Int))] } hil (by repeat constructor) ?_
  rw [hw]
  exact SK.retX (.tmp rfl .nil) _ (hput y2.1 y2.2) rfl (by simp only [dlAt, dlHd, List.length_set, hsb]; repeat constructor)
theorem dlsync_does (lb : Nat) (d : DLg) (K c k : Nat) (us : Nat → Nat) (R : Nat → Rc) (hd : DI 50000 K c us R d) (hk : k < 8) : Does Tryz.prog 81 [.pointer (some ⟨lb, 0, none⟩), .int .i64 (k : Int)] [] (dlAt lb d) (Bool × DLg) (fun y => DI 50000 K c (fun j => if j = k then c else us j) R y.2) (fun y => .bool y.1) (fun y => dlAt lb y.2) := by
  refine Does.of Tryz.call81 Tryz.func81 rfl rfl rfl all_nil rfl ?_
  refine SK.know (sl_len (ρ := RPt) (A := d.sA.1) (n := d.segs.length) (l := d.segs.map (·.sb)) (by repeat constructor)) ?_
  rintro ⟨-, hlim, -⟩
  obtain ⟨q, hxq⟩ : ∃ x, d.segs[k]? = some x := ⟨_, List.getElem?_eq_getElem (by rw [hd.len]; exact hk)⟩
  have hil := (List.getElem?_eq_some_iff.1 hxq).1
  have hs : (d.segs.map (·.sb))[k]? = some q.sb := by rw [List.getElem?_map, hxq]; rfl
  have hdn := hd.down
  have d1 : decide ((k : Int) < 0) = false := decide_eq_false (by omega)
  have d2 : decide ((8 : Int) ≤ (k : Int)) = false := decide_eq_false (by omega)
  have sy := dsync_doc q
  have hsy := hd.sync hxq (d' := { d with segs := d.segs.set k { q with lasts := (q.lines.length : Int) } }) rfl
  have hsb : ∀ z : DD, z.sb = q.sb → (d.segs.set k z).map (·.sb) = d.segs.map (·.sb) := fun z hz => by
    rw [List.map_set, hz]
    obtain ⟨hk, e⟩ := List.getElem?_eq_some_iff.1 hxq
    have : q.sb = (d.segs.map (·.sb))[k]'(by rw [List.length_map]; exact hk) := by rw [List.getElem_map, e]
    rw [this, List.set_getElem_self]
  obtain ⟨ob, sA, segs, mA, m, next, trim, vA, v, down⟩ := d
  obtain rfl : down = false := hdn
  dsimp only at hxq hil hsy hsb hs ⊢
  refine SK.famOpen (k := k) (by repeat constructor) hxq ?_
  repeat' (first
 | refine SO.call (sy) rfl rfl rfl (by repeat constructor) (by repeat constructor) rfl (fun x hx => ?_)
 | refine SO.indexH rfl rfl (by repeat constructor) rfl rfl rfl rfl (by assumption) ?_
 | refine SO.pure rfl rfl rfl ?_
 | refine SO.nil ?_
 | refine SO.guardY rfl rfl ?_
 | refine SO.load rfl (by repeat constructor) rfl (by rfl) (by exact ⟨rfl, by first | exact fun _ => rfl | exact (fun h => by cases h)⟩) rfl ?_
 | refine SO.eloadW rfl (by repeat constructor) (by assumption) rfl (by rfl) rfl (by rfl) rfl (fun hid => ?_)
 | refine SK.seq ?_
 | refine SK.region ?_
 | refine SK.skip ?_
 | refine SK.condFP rfl (by first | assumption | (simp only [Go.Sl.bl]; omega)) ?_
 | refine SK.regionX 4 (.item 0 0 (.item 0 5 (.item 0 1 (.item 0 6 (.item 0 2 (.item 0 7 (.item 0 3 (.item 0 8 (.item 0 4 (.item 0 9 (.item 0 10 .nil))))))))))) [] .nil (by repeat (first | exact .nil | apply PersSub.s | apply PersSub.t | apply PersSub.p | apply PersSub.r | apply PersSub.skip)) (by kernel_rfl) (by kernel_rfl) (fun _ _ _ h => h) ?_
 | refine SX.tail (by rfl) (by repeat (first | exact .nil | apply DropP.s | apply DropP.t | apply DropP.p | apply DropP.r | apply DropP.keep)) ?_
 | refine SX.pure rfl rfl rfl ?_
 | refine SX.load rfl (by repeat constructor) rfl (by rfl) (by exact ⟨rfl, by first | exact fun _ => rfl | exact (fun h => by cases h)⟩) rfl ?_
 | fail)
  refine SK.famShut (f := ddAt) (k := k) { q with lasts := (q.lines.length : Int) } hil (by repeat constructor) ?_
  exact SK.retX (.tmp rfl .nil) (_, _) hsy rfl (by simp only [dlAt, dlHd, List.length_set, hsb]; repeat constructor)
theorem dlhead_does (lb : Nat) (d : DLg) (K c u : Nat) (R : Nat → Rc) (hK : 1 ≤ K ∧ K ≤ 8) (hd : DI 50000 K c (fun _ => u) R d) (hu : u ≤ c) : Does Tryz.prog 51 [.pointer (some ⟨lb, 0, none⟩)] [] (dlAt lb d) Unit (fun _ => True) (fun _ => .int .i64 (u : Int)) (fun _ => dlAt lb d) := by
  refine Does.of Tryz.call51 Tryz.func51 rfl rfl rfl all_nil rfl ?_
  have hdn := hd.down
  have hnx := hd.next
  have htr := hd.trim
  have hcb := hd.cb
  have hat := hd.at_ hK
  have hla := fun p hp x hxq => hd.lasts (p := p) hp (x := x) hxq
  have hm := hd.m
  obtain ⟨ob, sA, segs, mA, m, next, trim, vA, v, down⟩ := d
  obtain rfl : down = false := hdn
  obtain rfl : next = c := hnx
  obtain rfl : trim = 0 := htr
  dsimp only at hat hla hm ⊢
  repeat' (first
 | refine SO.pure rfl rfl rfl ?_
 | refine SO.nil ?_
 | refine SO.load rfl (by repeat constructor) rfl (by rfl) (by exact ⟨rfl, by first | exact fun _ => rfl | exact (fun h => by cases h)⟩) rfl ?_
 | refine SK.seq ?_
 | refine SK.region ?_
 | refine SK.condF rfl ?_
 | refine SK.skip ?_
 | refine SK.block ?_
 | fail)
  refine SK.loop (X := {p : Nat // p ≤ u}) (fun p => [(3, .int .i64 (p.1 : Int)), (0, .pointer (some ⟨lb, 0, none⟩))]) (fun p => dlAt lb ⟨ob, sA, segs, mA, m, next, 0, vA, v, false⟩) (fun p => u - p.1) ⟨0, Nat.zero_le _⟩ (by repeat constructor) (ent_append_of_takes (by repeat constructor)) ?_
  rintro ⟨p, hp⟩
  dsimp only
  have hwp : IntKind.i64.wrap ((p : Int) + 1) = ((p + 1 : Nat) : Int) := by rw [wrap_id (by omega) (by omega)]; omega
  rcases Nat.lt_or_ge p next with hpn | hpn
  · have hd1 : decide ((p : Int) < (next : Int)) = true := decide_eq_true (by omega)
    obtain ⟨q, hxq⟩ := hat p
    have sg := dseg_does lb ⟨ob, sA, segs, mA, m, next, 0, vA, v, false⟩ K p q hK hm (by omega) hxq
    have la := dlasts_does q (p : Int)
    rw [hla p hpn q hxq] at la
    refine SK.famOpen (k := p % K) (by repeat constructor) hxq ?_
    rcases Nat.lt_or_ge p u with hpu | hpu
    · have hd2 : decide (p < u) = true := decide_eq_true hpu
      rw [hd2] at la
      repeat' (first
 | refine SO.call (sg) rfl rfl rfl (by repeat constructor) (by repeat constructor) rfl (fun x hx => ?_)
 | refine SO.call (la) rfl rfl rfl (by repeat constructor) (by repeat constructor) rfl (fun x hx => ?_)
 | refine SO.pure rfl rfl rfl ?_
 | refine SO.nil ?_
 | refine SO.load rfl (by repeat constructor) rfl (by rfl) (by exact ⟨rfl, by first | exact fun _ => rfl | exact (fun h => by cases h)⟩) rfl ?_
 | refine SK.seq ?_
 | refine SK.region ?_
 | refine SK.condF rfl ?_
 | refine SK.skip ?_
 | refine SK.block ?_
 | refine SK.blk ?_
 | refine SK.condTP rfl (by first | assumption | (simp only [Go.Sl.bl]; omega)) ?_
 | fail)
      refine SK.inv ⟨⟨p + 1, by omega⟩, ?_, ?_, ?_⟩
      · show u - (p + 1) < u - p
        omega
      · rw [hwp]; repeat constructor
      · exact ent_fam (f := ddAt) (A := dlHd lb ⟨ob, sA, segs, mA, m, next, 0, vA, v, false⟩) hxq (by repeat constructor)
    · have hd2 : decide (p < u) = false := decide_eq_false (by omega)
      rw [hd2] at la
      obtain rfl : p = u := by omega
      repeat' (first
 | refine SO.call (sg) rfl rfl rfl (by repeat constructor) (by repeat constructor) rfl (fun x hx => ?_)
 | refine SO.call (la) rfl rfl rfl (by repeat constructor) (by repeat constructor) rfl (fun x hx => ?_)
 | refine SO.pure rfl rfl rfl ?_
 | refine SO.nil ?_
 | refine SO.load rfl (by repeat constructor) rfl (by rfl) (by exact ⟨rfl, by first | exact fun _ => rfl | exact (fun h => by cases h)⟩) rfl ?_
 | refine SK.seq ?_
 | refine SK.region ?_
 | refine SK.condT rfl ?_
 | refine SK.skip ?_
 | refine SK.block ?_
 | refine SK.condTP rfl (by first | assumption | (simp only [Go.Sl.bl]; omega)) ?_
 | fail)
      refine SK.famBack (f := ddAt) (k := p % K) q hxq (by repeat constructor) ?_
      exact SK.retX (.tmp rfl .nil) () trivial rfl (by repeat constructor)
  · have hd1 : decide ((p : Int) < (next : Int)) = false := decide_eq_false (by omega)
    obtain rfl : p = u := by omega
    repeat' (first
 | refine SO.pure rfl rfl rfl ?_
 | refine SO.nil ?_
 | refine SO.load rfl (by repeat constructor) rfl (by rfl) (by exact ⟨rfl, by first | exact fun _ => rfl | exact (fun h => by cases h)⟩) rfl ?_
 | refine SK.seq ?_
 | refine SK.region ?_
 | refine SK.exit rfl ?_
 | refine SK.condFP rfl (by first | assumption | (simp only [Go.Sl.bl]; omega)) ?_
 | fail)
    exact SK.retX (.tmp rfl .nil) () trivial rfl (by repeat constructor)
end Go.Proofs
