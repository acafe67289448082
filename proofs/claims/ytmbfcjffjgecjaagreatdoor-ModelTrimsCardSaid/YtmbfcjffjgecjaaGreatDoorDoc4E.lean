/- A part of a proof: what functions of the program compute. -/
import Derived.Test.YtmbfcjffjgecjaaGreatDoorDoc3E
set_option linter.unusedVariables false
set_option linter.unusedSimpArgs false
set_option maxHeartbeats 0
set_option maxRecDepth 20000
namespace Go.Proofs
attribute [local irreducible] Go.Sl.SO Go.Sl.SQ Go.Sl.SR Go.Sl.SC Go.Sl.SX Go.Sl.SY Go.Sl.eadr Go.Sl.slAt Go.Sl.sqAt Go.Sl.pts Go.Sl.rod Go.Sl.ob Go.Sl.ex Go.Sl.big Go.Sl.pr Go.Sl.tabs Go.Sl.mpAt
open Go.Sl
theorem dwith_does (A : Option Addr) (n c : Nat) (l : List Int) (s : Nat) (q : Int) (hs : s ≤ 63) (hl : l.length ≤ 1000) : Does Tryz.prog 115 [.slice A n c, .int .i64 (s : Int), .int .i64 q] [slAt RI A n l] [] Pl (fun x => (withI l s q).length ≤ x.2) (fun x => .slice x.1 (withI l s q).length x.2) (fun x => [slAt RI x.1 (withI l s q).length (withI l s q)]) := by
  refine Does.of Tryz.call115 Tryz.func115 rfl rfl rfl (all_cons (pers_slAt _ _ _ _) all_nil) rfl ?_
  refine SK.know (sl_len (ρ := RI) (A := A) (n := n) (l := l) (by repeat constructor)) ?_
  rintro ⟨rfl, hlim, -⟩
  have h1 : decide ((s : Int) < 0) = false := decide_eq_false (by omega)
  have h2 : decide ((63 : Int) < (s : Int)) = false := decide_eq_false (by omega)
  repeat' (first
 | refine SO.pure rfl rfl rfl ?_
 | refine SO.nil ?_
 | refine SK.seq ?_
 | refine SK.region ?_
 | refine SO.buildSlice rfl rfl rfl rfl rfl rfl (fun b => ?_)
 | fail)
  refine SO.shift (toSq (ρ := RI) (l := []) [] (by repeat constructor) rfl rfl rfl rfl (by repeat constructor)) ?_
  repeat' (first
 | refine SO.append (ρ := RI) (w := true) rfl rfl (by repeat constructor) (Src.sl (by repeat constructor)) rfl rfl rfl rfl rfl rfl rfl (by first | (unfold lim; omega) | (simp [lim]; done)) (fun A4 c4 => ?_)
 | refine SO.pure rfl rfl rfl ?_
 | refine SO.nil ?_
 | refine SO.guardY rfl rfl ?_
 | refine SK.seq ?_
 | refine SK.region ?_
 | refine SK.skip ?_
 | refine SK.block ?_
 | refine SK.condFP rfl (by first | assumption | (simp only [Go.Sl.bl]; omega)) ?_
 | fail)
  simp only [Nat.zero_add, List.nil_append]
  refine SK.loop (X := {x : Nat × Pl // x.1 ≤ s + 1 - l.length}) (fun x => [(7, .slice x.1.2.1 (l.length + x.1.1) x.1.2.2), (1, .int .i64 (s : Int)), (2, .int .i64 q)]) (fun x => [sqAt true RI x.1.2.1 (l.length + x.1.1) x.1.2.2 (l ++ List.replicate x.1.1 0)]) (fun x => s + 1 - l.length - x.1.1) ⟨(0, A4, c4), Nat.zero_le _⟩ (by repeat constructor)
    (by show Ent _ [sqAt true RI A4 l.length c4 (l ++ [])]; simp only [List.append_nil]; exact ent_append_of_takes (by repeat constructor)) ?_
  rintro ⟨⟨j, A2, c2⟩, hj0⟩
  have hj : j ≤ s + 1 - l.length := hj0
  dsimp only
  by_cases hle : l.length + j ≤ s
  · have hd : decide (((l.length + j : Nat) : Int) ≤ (s : Int)) = true := decide_eq_true (by omega)
    repeat' (first
 | refine SO.append (ρ := RI) (w := true) (ys := [0]) rfl rfl (by repeat constructor) (Src.one (h := ()) (by repeat constructor) (by rfl) (by repeat constructor)) rfl rfl rfl rfl rfl rfl rfl (by unfold lim; omega) (fun A3 c3 => ?_)
 | refine SO.pure rfl rfl rfl ?_
 | refine SO.nil ?_
 | refine SK.seq ?_
 | refine SK.region ?_
 | refine SK.skip ?_
 | refine SK.block ?_
 | refine SK.blk ?_
 | refine SO.buildSlice rfl rfl rfl rfl rfl rfl (fun b => ?_)
 | refine SK.condTP rfl (by first | assumption | (simp only [Go.Sl.bl]; omega)) ?_
 | fail)
    have el : l ++ List.replicate (j + 1) (0 : Int) = (l ++ List.replicate j 0) ++ [0] := by rw [List.replicate_succ', List.append_assoc]
    refine SK.inv ⟨⟨(j + 1, A3, c3), by show j + 1 ≤ s + 1 - l.length; omega⟩, ?_, by repeat constructor, ?_⟩
    · show s + 1 - l.length - (j + 1) < s + 1 - l.length - j
      omega
    · dsimp only
      rw [el]
      exact ent_append_of_takes (by repeat constructor)
  · have hd : decide (((l.length + j : Nat) : Int) ≤ (s : Int)) = false := decide_eq_false (by omega)
    obtain rfl : j = s + 1 - l.length := by omega
    have hlen : l.length + (s + 1 - l.length) = (withI l s q).length := by rw [withI_len]; omega
    have hset : (l ++ List.replicate (s + 1 - l.length) (0 : Int)).set s q = withI l s q := rfl
    repeat' (first
 | refine SO.indexW rfl rfl (by repeat constructor) rfl rfl rfl rfl (by omega) (fun v hv => ?_)
 | refine SO.estoreW (ρ := RI) (h := ()) (u := q) rfl rfl (by repeat constructor) (by repeat constructor) rfl rfl rfl (by omega) ?_
 | refine SO.pure rfl rfl rfl ?_
 | refine SO.nil ?_
 | refine SO.indexW rfl rfl (by repeat constructor) rfl rfl rfl rfl (by first | assumption | omega | exact Nat.le_of_ble_eq_true rfl | (simp only [decide_eq_true_eq, decide_eq_false_iff_not] at *; omega)) (fun v hv => ?_)
 | refine SK.seq ?_
 | refine SK.region ?_
 | refine SK.exit rfl ?_
 | refine SK.condFP rfl (by first | assumption | (simp only [Go.Sl.bl]; omega)) ?_
 | fail)
    rw [hset, hlen]
    refine SK.know (sq_len (w := true) (ρ := RI) (A := A2) (n := (withI l s q).length) (c := c2) (l := withI l s q) (by repeat constructor)) ?_
    rintro ⟨-, -, hc, -⟩
    refine SK.share (ρ := RI) (w' := true) (A := A2) (n := (withI l s q).length) (m := c2) (l := withI l s q) (by repeat constructor) ?_
    exact SK.retX (.tmp rfl .nil) (A2, c2) hc rfl (by repeat constructor)
theorem dvecto_does (lb : Nat) (d : DLg) (K c t : Nat) (us : Nat → Nat) (R : Nat → Rc) (hK : 1 ≤ K ∧ K ≤ 8) (hd : DI 50000 K c us R d) (ht : t ≤ c) (hs : ∀ p, 0 ≤ (R p).site ∧ (R p).site ≤ 63) : Does Tryz.prog 53 [.pointer (some ⟨lb, 0, none⟩), .int .i64 (t : Int)] [] (dlAt lb d) Pl (fun y => (vecR R t 0 []).length ≤ y.2) (fun y => .slice y.1 (vecR R t 0 []).length y.2) (fun y => slAt RI y.1 (vecR R t 0 []).length (vecR R t 0 []) :: dlAt lb d) := by
  refine Does.of Tryz.call53 Tryz.func53 rfl rfl rfl all_nil rfl ?_
  have hv := hd.v
  have htr := hd.trim
  have hnx := hd.next
  have hcb := hd.cb
  have hm := hd.m
  have hat := hd.at_ hK
  have hsl := fun p hp x hx => hd.slot (p := p) hp (x := x) hx
  have hsg := hd.sg
  obtain ⟨ob, sA, segs, mA, m, next, trim, vA, v, down⟩ := d
  obtain rfl : v = [] := hv
  obtain rfl : next = c := hnx
  obtain rfl : trim = 0 := htr
  dsimp only at hat hsl hsg hm ⊢
  repeat' (first
 | refine SO.pure rfl rfl rfl ?_
 | refine SO.nil ?_
 | refine SO.load rfl (by repeat constructor) rfl (by rfl) (by exact ⟨rfl, by first | exact fun _ => rfl | exact (fun h => by cases h)⟩) rfl ?_
 | refine SK.seq ?_
 | refine SK.region ?_
 | refine SO.buildSlice rfl rfl rfl rfl rfl rfl (fun b => ?_)
 | fail)
  refine SO.shift (toSq (ρ := RI) (l := []) [] (by repeat constructor) rfl rfl rfl rfl (by repeat constructor)) ?_
  repeat' (first
 | refine SO.append (ρ := RI) (w := true) rfl rfl (by repeat constructor) (Src.sl (by repeat constructor)) rfl rfl rfl rfl rfl rfl rfl (by first | (unfold lim; omega) | (simp [lim]; done)) (fun A4 c4 => ?_)
 | refine SO.pure rfl rfl rfl ?_
 | refine SO.nil ?_
 | refine SO.load rfl (by repeat constructor) rfl (by rfl) (by exact ⟨rfl, by first | exact fun _ => rfl | exact (fun h => by cases h)⟩) rfl ?_
 | refine SK.seq ?_
 | refine SK.region ?_
 | refine SK.block ?_
 | fail)
  refine SK.share (ρ := RI) (w' := true) (by repeat constructor) ?_
  refine SK.loop (X := {y : Nat × Pl // y.1 ≤ t ∧ (vecR R y.1 0 []).length ≤ y.2.2}) (fun y => [(6, .int .i64 (y.1.1 : Int)), (5, .slice y.1.2.1 (vecR R y.1.1 0 []).length y.1.2.2), (1, .int .i64 (t : Int)), (0, .pointer (some ⟨lb, 0, none⟩))]) (fun y => slAt RI y.1.2.1 (vecR R y.1.1 0 []).length (vecR R y.1.1 0 []) :: dlAt lb ⟨ob, sA, segs, mA, m, next, 0, vA, [], down⟩) (fun y => t - y.1.1) ⟨(0, A4, c4), Nat.zero_le _, Nat.zero_le _⟩ (by repeat constructor) (ent_append_of_takes (by repeat constructor)) ?_
  rintro ⟨⟨p, B, cB⟩, hp0, hcB⟩
  have hp : p ≤ t := hp0
  dsimp only
  have hwp : IntKind.i64.wrap ((p : Int) + 1) = ((p + 1 : Nat) : Int) := by rw [wrap_id (by omega) (by omega)]; omega
  rcases Nat.lt_or_ge p t with hpt | hpt
  · have hd1 : decide ((p : Int) < (t : Int)) = true := decide_eq_true (by omega)
    obtain ⟨q, hxq⟩ := hat p
    obtain ⟨ln, hln⟩ := hsl p (by omega) q hxq
    obtain ⟨e1, e2, e3, e4, e5, e6⟩ := hsg _ q hxq
    have sg := dseg_does lb ⟨ob, sA, segs, mA, m, next, 0, vA, [], down⟩ K p q hK hm (by omega) hxq
    have gt := dget_does q (p : Int) (R p) ln (by rw [e5]; omega) hln
    have hvl := vecR_len R hs p 0 [] (by decide)
    have hsp := hs p
    have wt := dwith_does B (vecR R p 0 []).length cB (vecR R p 0 []) (R p).site.toNat (R p).seq (by omega) (by omega)
    have es : withI (vecR R p 0 []) (R p).site.toNat (R p).seq = vecR R (p + 1) 0 [] := by rw [vecR_snoc, Nat.zero_add]
    rw [es, show (((R p).site.toNat : Nat) : Int) = (R p).site by omega] at wt
    refine SK.famOpen (k := p % K) (by repeat constructor) hxq ?_
    repeat' (first
 | refine SO.call (sg) rfl rfl rfl (by repeat constructor) (by repeat constructor) rfl (fun x hx => ?_)
 | refine SO.call (gt) rfl rfl rfl (by repeat constructor) (by repeat constructor) rfl (fun x hx => ?_)
 | refine SO.call (wt) rfl rfl rfl (by repeat constructor) (by repeat constructor) rfl (fun x hx => ?_)
 | refine SO.pure rfl rfl rfl ?_
 | refine SO.nil ?_
 | refine SO.load rfl (by repeat constructor) rfl (by rfl) (by exact ⟨rfl, by first | exact fun _ => rfl | exact (fun h => by cases h)⟩) rfl ?_
 | refine SK.seq ?_
 | refine SK.region ?_
 | refine SK.skip ?_
 | refine SK.block ?_
 | refine SK.blk ?_
 | refine SO.alloc rfl rfl rfl (fun b => ?_)
 | refine SO.storeW rfl rfl (by repeat constructor) rfl (by rfl) (by rfl) (by rfl) ?_
 | refine SK.condTP rfl (by first | assumption | (simp only [Go.Sl.bl]; omega)) ?_
 | fail)
    rename Pl => y9
    rename (vecR R (p + 1) 0 []).length ≤ _ => hy9
    refine SK.inv ⟨⟨(p + 1, y9.1, y9.2), by show p + 1 ≤ t; omega, hy9⟩, ?_, ?_, ?_⟩
    · show t - (p + 1) < t - p
      omega
    · rw [hwp]; repeat constructor
    · exact ent_fam (f := ddAt) (A := slAt RI y9.1 (vecR R (p + 1) 0 []).length (vecR R (p + 1) 0 []) :: dlHd lb ⟨ob, sA, segs, mA, m, next, 0, vA, [], down⟩) hxq (by repeat constructor)
  · have hd1 : decide ((p : Int) < (t : Int)) = false := decide_eq_false (by omega)
    obtain rfl : p = t := by omega
    repeat' (first
 | refine SO.pure rfl rfl rfl ?_
 | refine SO.nil ?_
 | refine SK.seq ?_
 | refine SK.region ?_
 | refine SK.exit rfl ?_
 | refine SK.condFP rfl (by first | assumption | (simp only [Go.Sl.bl]; omega)) ?_
 | fail)
    exact SK.retX (.tmp rfl .nil) (B, cB) hcB rfl (by repeat constructor)
theorem dvec_does (lb : Nat) (d : DLg) (K c u : Nat) (R : Nat → Rc) (hK : 1 ≤ K ∧ K ≤ 8) (hd : DI 50000 K c (fun _ => u) R d) (hu : u ≤ c) (hs : ∀ p, 0 ≤ (R p).site ∧ (R p).site ≤ 63) : Does Tryz.prog 26 [.pointer (some ⟨lb, 0, none⟩)] [] (dlAt lb d) Pl (fun y => (vecR R u 0 []).length ≤ y.2) (fun y => .slice y.1 (vecR R u 0 []).length y.2) (fun y => slAt RI y.1 (vecR R u 0 []).length (vecR R u 0 []) :: dlAt lb d) := by
  refine Does.of Tryz.call26 Tryz.func26 rfl rfl rfl all_nil rfl ?_
  have he := dlhead_does lb d K c u R hK hd hu
  have vt := dvecto_does lb d K c u _ R hK hd hu hs
  have hdn := hd.down
  obtain ⟨ob, sA, segs, mA, m, next, trim, vA, v, down⟩ := d
  obtain rfl : down = false := hdn
  repeat' (first
 | refine SO.call (he) rfl rfl rfl (by repeat constructor) (by repeat constructor) rfl (fun x hx => ?_)
 | refine SO.call (vt) rfl rfl rfl (by repeat constructor) (by repeat constructor) rfl (fun x hx => ?_)
 | refine SO.pure rfl rfl rfl ?_
 | refine SO.nil ?_
 | refine SO.load rfl (by repeat constructor) rfl (by rfl) (by exact ⟨rfl, by first | exact fun _ => rfl | exact (fun h => by cases h)⟩) rfl ?_
 | refine SK.seq ?_
 | refine SK.region ?_
 | refine SK.condF rfl ?_
 | refine SK.skip ?_
 | fail)
  rename Pl => y9
  rename (vecR R u 0 []).length ≤ _ => hy9
  exact SK.retX (.tmp rfl .nil) y9 hy9 rfl (by repeat constructor)
end Go.Proofs
