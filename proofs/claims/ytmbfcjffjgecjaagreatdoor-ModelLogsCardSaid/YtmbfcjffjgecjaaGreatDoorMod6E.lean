/- A part of a proof: what functions of the program compute. -/
import Derived.Test.YtmbfcjffjgecjaaGreatDoorMod5E
import Derived.Test.YtmbfcjffjgecjaaGreatDoorLog4E
set_option linter.unusedVariables false
set_option linter.unusedSimpArgs false
set_option maxHeartbeats 0
set_option maxRecDepth 20000
namespace Go.Proofs
attribute [local irreducible] Go.Sl.SO Go.Sl.SQ Go.Sl.SR Go.Sl.SC Go.Sl.SX Go.Sl.SY Go.Sl.eadr Go.Sl.slAt Go.Sl.sqAt Go.Sl.pts Go.Sl.rod Go.Sl.ob Go.Sl.ex Go.Sl.big Go.Sl.pr Go.Sl.tabs Go.Sl.mpAt Go.Sl.mitAt Go.Sl.mitN
open Go.Sl
theorem natL (l : List Int) (h : ∀ x ∈ l, 0 ≤ x ∧ x ≤ 255) : ∃ k : List Nat, l = k.map (fun (x : Nat) => (x : Int)) ∧ ∀ x ∈ k, x < 256 := by
  refine ⟨l.map Int.toNat, ?_, fun x hx => ?_⟩
  · rw [List.map_map]
    conv => lhs; rw [← List.map_id l]
    refine List.map_congr_left fun x hx => ?_
    have := h x hx
    show x = ((x.toNat : Nat) : Int)
    omega
  · obtain ⟨y, hy, rfl⟩ := List.mem_map.1 hx
    have := h y hy
    omega
theorem kw13 (s : Nat) : IntKind.i64.wrap (1 + IntKind.i64.wrap ((s : Int).tmod 4)) = ((1 + s % 4 : Nat) : Int) := by
  have h1 : (s : Int).tmod 4 = ((s % 4 : Nat) : Int) := rfl
  have : s % 4 < 4 := Nat.mod_lt _ (by decide)
  rw [h1, show IntKind.i64.wrap ((s % 4 : Nat) : Int) = ((s % 4 : Nat) : Int) from wrap_id (by omega) (by omega), wrap_id (by omega) (by omega)]
  omega
theorem lvecI (lb : Nat) {K c u : Nat} {l : List Nat} {g : Lg} {d : DLg} (h : LogsI K l c u g d) : Does Tryz.prog 25 [.pointer (some ⟨lb, 0, none⟩)] [] (lgAt lb g) Pl (fun _ => True) (fun x => .slice x.1 (vecR (lgR l) u 0 []).length x.2) (fun x => slAt RI x.1 (vecR (lgR l) u 0 []).length (vecR (lgR l) u 0 []) :: lgAt lb g) := by
  have hub := h.ub
  have s := lvec_does lb g h.li.ok h.down (by rw [h.gone]; decide) (fun i h1 h2 => by rw [h.li.rcd h1 h2]; exact lgR_site l i)
  rw [logs_head h, h.trim, Nat.sub_zero, h.gone, vecF_R (R := lgR l) u 0 [] (fun i h1 h2 => h.li.rcd (by rw [h.trim]; omega) (by rw [h.next]; omega))] at s
  exact s
theorem qu4 (s : Nat) (hs : s < 256) : IntKind.u8.wrap ((s : Int).tdiv 4) = ((s / 4 : Nat) : Int) := by
  have h1 : (s : Int).tdiv 4 = ((s / 4 : Nat) : Int) := rfl
  rw [h1]
  simp [IntKind.wrap, IntKind.signed, IntKind.bits]; omega
theorem k14 (s : Nat) : 1 ≤ 1 + s % 4 ∧ 1 + s % 4 ≤ 4 := by
  have : s % 4 < 4 := Nat.mod_lt _ (by decide)
  omega
theorem mlogsL_long (A B : Option Addr) (n c m e : Nat) (y s : Nat) (hs : s < 256) (hn : 60 < n) (hm : 60 < m) : Does Tryz.prog 4 [.slice A n c, .slice B m e, .int .u8 (y : Int), .int .u8 (s : Int)] [libA, tabs 4 5] [] Unit (fun _ => True) (fun _ => .bool true) (fun _ => []) := by
  refine Does.of Tryz.call4 Tryz.func4 rfl rfl rfl (all_cons pers_lib (all_cons (pers_tabs _ _) all_nil)) rfl ?_
  have g1 := lg13_long s y A n c (1 + s % 4) (kw13 s) (k14 s) hn
  have g2 := lg13_long ((s / 4 : Nat) : Int) 99 B m e (1 + s / 4 % 4) (kw13 (s / 4)) (k14 _) hm
  have e4 := qu4 s hs
  repeat' (first
 | refine SO.call (m24known_does) rfl rfl rfl (by repeat constructor) (by repeat constructor) rfl (fun x hx => ?_)
 | refine SO.call (g1) rfl rfl rfl (by repeat constructor) (by repeat constructor) rfl (fun x hx => ?_)
 | refine SO.pure rfl rfl rfl ?_
 | refine SO.pure2 rfl rfl rfl ?_
 | refine SO.nil ?_
 | refine SK.seq ?_
 | refine SK.region ?_
 | refine SK.condF rfl ?_
 | refine SK.skip ?_
 | fail)
  rw [e4]
  repeat' (first
 | refine SO.call (g2) rfl rfl rfl (by repeat constructor) (by repeat constructor) rfl (fun x hx => ?_)
 | refine SO.pure rfl rfl rfl ?_
 | refine SO.nil ?_
 | refine SO.guardN rfl rfl rfl ?_
 | refine SK.seq ?_
 | refine SK.region ?_
 | refine SK.condT rfl ?_
 | fail)
  exact SK.retX (.tmp rfl .nil) () trivial rfl (by repeat constructor)
theorem mlogsL_a (A B : Option Addr) (n c m e : Nat) (y s : Nat) (l : List Int) (hs : s < 256) (hy : y < 256) (hn : n ≤ 60) (hb : ∀ x ∈ l, 0 ≤ x ∧ x ≤ 255) (hm : 60 < m) : Does Tryz.prog 4 [.slice A n c, .slice B m e, .int .u8 (y : Int), .int .u8 (s : Int)] [libA, tabs 4 5, slAt RU A n l] [] Unit (fun _ => True) (fun _ => .bool true) (fun _ => []) := by
  refine Does.of Tryz.call4 Tryz.func4 rfl rfl rfl (all_cons pers_lib (all_cons (pers_tabs _ _) (all_cons (pers_slAt _ _ _ _) all_nil))) rfl ?_
  refine SK.know (sl_len (ρ := RU) (A := A) (n := n) (l := l) (by repeat constructor)) ?_
  rintro ⟨hnl, -, -⟩
  obtain ⟨l, rfl, hbl⟩ := natL l hb
  rw [List.length_map] at hnl
  have g1 := lg13_does s y A n c (1 + s % 4) l (kw13 s) (k14 s) hy (by omega) hbl
  have g2 := lg13_long ((s / 4 : Nat) : Int) 99 B m e (1 + s / 4 % 4) (kw13 (s / 4)) (k14 _) hm
  have e4 := qu4 s hs
  repeat' (first
 | refine SO.call (m24known_does) rfl rfl rfl (by repeat constructor) (by repeat constructor) rfl (fun x hx => ?_)
 | refine SO.call (g1) rfl rfl rfl (by repeat constructor) (by repeat constructor) rfl (fun x hx => ?_)
 | refine SO.pure rfl rfl rfl ?_
 | refine SO.pure2 rfl rfl rfl ?_
 | refine SO.nil ?_
 | refine SK.seq ?_
 | refine SK.region ?_
 | refine SK.condF rfl ?_
 | refine SK.skip ?_
 | fail)
  rw [e4]
  repeat' (first
 | refine SO.call (g2) rfl rfl rfl (by repeat constructor) (by repeat constructor) rfl (fun x hx => ?_)
 | refine SO.pure rfl rfl rfl ?_
 | refine SO.nil ?_
 | refine SO.guardY rfl rfl ?_
 | refine SK.seq ?_
 | refine SK.region ?_
 | refine SK.condT rfl ?_
 | fail)
  exact SK.retX (.tmp rfl .nil) () trivial rfl (by repeat constructor)
theorem mlogsL_b (A B : Option Addr) (n c m e : Nat) (y s : Nat) (k : List Int) (hs : s < 256) (hn : 60 < n) (hm : m ≤ 60) (hk : ∀ x ∈ k, 0 ≤ x ∧ x ≤ 255) : Does Tryz.prog 4 [.slice A n c, .slice B m e, .int .u8 (y : Int), .int .u8 (s : Int)] [libA, tabs 4 5, slAt RU B m k] [] Unit (fun _ => True) (fun _ => .bool true) (fun _ => []) := by
  refine Does.of Tryz.call4 Tryz.func4 rfl rfl rfl (all_cons pers_lib (all_cons (pers_tabs _ _) (all_cons (pers_slAt _ _ _ _) all_nil))) rfl ?_
  refine SK.know (sl_len (ρ := RU) (A := B) (n := m) (l := k) (by repeat constructor)) ?_
  rintro ⟨hml, -, -⟩
  obtain ⟨k, rfl, hbk⟩ := natL k hk
  rw [List.length_map] at hml
  have g1 := lg13_long s y A n c (1 + s % 4) (kw13 s) (k14 s) hn
  have g2 := lg13_does (s / 4) 99 B m e (1 + s / 4 % 4) k (kw13 (s / 4)) (k14 _) (by decide) (by omega) hbk
  have e4 := qu4 s hs
  repeat' (first
 | refine SO.call (m24known_does) rfl rfl rfl (by repeat constructor) (by repeat constructor) rfl (fun x hx => ?_)
 | refine SO.call (g1) rfl rfl rfl (by repeat constructor) (by repeat constructor) rfl (fun x hx => ?_)
 | refine SO.pure rfl rfl rfl ?_
 | refine SO.pure2 rfl rfl rfl ?_
 | refine SO.nil ?_
 | refine SK.seq ?_
 | refine SK.region ?_
 | refine SK.condF rfl ?_
 | refine SK.skip ?_
 | fail)
  rw [e4]
  repeat' (first
 | refine SO.call (g2) rfl rfl rfl (by repeat constructor) (by repeat constructor) rfl (fun x hx => ?_)
 | refine SO.pure rfl rfl rfl ?_
 | refine SO.nil ?_
 | refine SO.guardN rfl rfl rfl ?_
 | refine SK.seq ?_
 | refine SK.region ?_
 | refine SK.condT rfl ?_
 | fail)
  exact SK.retX (.tmp rfl .nil) () trivial rfl (by repeat constructor)
theorem mlogsL_does (A B : Option Addr) (n c m e : Nat) (y s : Nat) (l k : List Int) (hs : s < 256) (hy : y < 256) (hn : n ≤ 60) (hb : ∀ x ∈ l, 0 ≤ x ∧ x ≤ 255) (hm : m ≤ 60) (hk : ∀ x ∈ k, 0 ≤ x ∧ x ≤ 255) : Does Tryz.prog 4 [.slice A n c, .slice B m e, .int .u8 (y : Int), .int .u8 (s : Int)] [libA, tabs 4 5, slAt RU A n l, slAt RU B m k] [] Unit (fun _ => True) (fun _ => .bool true) (fun _ => []) := by
  refine Does.of Tryz.call4 Tryz.func4 rfl rfl rfl (all_cons pers_lib (all_cons (pers_tabs _ _) (all_cons (pers_slAt _ _ _ _) (all_cons (pers_slAt _ _ _ _) all_nil)))) rfl ?_
  refine SK.know (sl_len (ρ := RU) (A := A) (n := n) (l := l) (by repeat constructor)) ?_
  rintro ⟨hnl, -, -⟩
  refine SK.know (sl_len (ρ := RU) (A := B) (n := m) (l := k) (by repeat constructor)) ?_
  rintro ⟨hml, -, -⟩
  obtain ⟨l, rfl, hbl⟩ := natL l hb
  obtain ⟨k, rfl, hbk⟩ := natL k hk
  rw [List.length_map] at hnl hml
  have g1 := lg13_does s y A n c (1 + s % 4) l (kw13 s) (k14 s) hy (by omega) hbl
  have g2 := lg13_does (s / 4) 99 B m e (1 + s / 4 % 4) k (kw13 (s / 4)) (k14 _) (by decide) (by omega) hbk
  have e4 := qu4 s hs
  have hK := k14 s
  have hM := k14 (s / 4)
  repeat' (first
 | refine SO.call (m24known_does) rfl rfl rfl (by repeat constructor) (by repeat constructor) rfl (fun x hx => ?_)
 | refine SO.call (g1) rfl rfl rfl (by repeat constructor) (by repeat constructor) rfl (fun x hx => ?_)
 | refine SO.pure rfl rfl rfl ?_
 | refine SO.pure2 rfl rfl rfl ?_
 | refine SO.nil ?_
 | refine SK.seq ?_
 | refine SK.region ?_
 | refine SK.condF rfl ?_
 | refine SK.skip ?_
 | fail)
  rename (Nat × Lg) × (Nat × DLg) => zl
  rename LogsI _ l _ _ _ _ => h1
  rw [e4]
  repeat' (first
 | refine SO.call (g2) rfl rfl rfl (by repeat constructor) (by repeat constructor) rfl (fun x hx => ?_)
 | refine SO.pure rfl rfl rfl ?_
 | refine SO.nil ?_
 | refine SO.guardY rfl rfl ?_
 | refine SK.seq ?_
 | refine SK.region ?_
 | refine SK.condF rfl ?_
 | refine SK.skip ?_
 | fail)
  rename (Nat × Lg) × (Nat × DLg) => zk
  rename LogsI _ k _ _ _ _ => h2
  have rg := lright zl.1.1 h1 (by omega)
  have dr := ldright zl.2.1 ⟨by omega, by omega⟩ h1 (by omega)
  have a1 := lagree zl.1.1 zk.1.1 h1 h2
  have d1 := ldagree zl.2.1 zk.2.1 ⟨by omega, by omega⟩ ⟨by omega, by omega⟩ h1 h2
  have a2 := lagree zk.1.1 zl.1.1 h2 h1
  have a0 := lagree1 zl.1.1 h1
  have v1 := lvecI zl.1.1 h1
  have v2 := dvec_does zl.2.1 zl.2.2 _ _ _ (lgR l) ⟨by omega, by omega⟩ h1.di h1.ub (lgR_site l)
  have vs := fun A B c e => rsamev_does A B (vecR (lgR l) (min l.length y) 0 []).length c (vecR (lgR l) (min l.length y) 0 []).length e (vecR (lgR l) (min l.length y) 0 []) (vecR (lgR l) (min l.length y) 0 [])
  rw [show sameV (vecR (lgR l) (min l.length y) 0 []) (vecR (lgR l) (min l.length y) 0 []) = true by unfold sameV; rw [covI_refl]; rfl] at vs
  rw [agr_symm] at a2
  generalize agreeF (lgRows l (min l.length y)) (lgRows k (min k.length 99)) = ag at a1 d1 a2
  cases ag with
  | true =>
    repeat' (first
 | refine SO.call (rg) rfl rfl rfl (by repeat constructor) (by repeat constructor) rfl (fun x hx => ?_)
 | refine SO.call (dr) rfl rfl rfl (by repeat constructor) (by repeat constructor) rfl (fun x hx => ?_)
 | refine SO.call (a1) rfl rfl rfl (by repeat constructor) (by repeat constructor) rfl (fun x hx => ?_)
 | refine SO.call (d1) rfl rfl rfl (by repeat constructor) (by repeat constructor) rfl (fun x hx => ?_)
 | refine SO.call (a2) rfl rfl rfl (by repeat constructor) (by repeat constructor) rfl (fun x hx => ?_)
 | refine SO.call (a0) rfl rfl rfl (by repeat constructor) (by repeat constructor) rfl (fun x hx => ?_)
 | refine SO.call (v1) rfl rfl rfl (by repeat constructor) (by repeat constructor) rfl (fun x hx => ?_)
 | refine SO.call (v2) rfl rfl rfl (by repeat constructor) (by repeat constructor) rfl (fun x hx => ?_)
 | refine SO.call (vs _ _ _ _) rfl rfl rfl (by repeat constructor) (by repeat constructor) rfl (fun x hx => ?_)
 | refine SO.pure rfl rfl rfl ?_
 | refine SO.pure2 rfl rfl rfl ?_
 | refine SO.nil ?_
 | refine SO.guardY rfl rfl ?_
 | fail)
    exact SK.retX (.tmp rfl .nil) () trivial rfl (by repeat constructor)
  | false =>
    repeat' (first
 | refine SO.call (rg) rfl rfl rfl (by repeat constructor) (by repeat constructor) rfl (fun x hx => ?_)
 | refine SO.call (dr) rfl rfl rfl (by repeat constructor) (by repeat constructor) rfl (fun x hx => ?_)
 | refine SO.call (a1) rfl rfl rfl (by repeat constructor) (by repeat constructor) rfl (fun x hx => ?_)
 | refine SO.call (d1) rfl rfl rfl (by repeat constructor) (by repeat constructor) rfl (fun x hx => ?_)
 | refine SO.call (a2) rfl rfl rfl (by repeat constructor) (by repeat constructor) rfl (fun x hx => ?_)
 | refine SO.call (a0) rfl rfl rfl (by repeat constructor) (by repeat constructor) rfl (fun x hx => ?_)
 | refine SO.call (v1) rfl rfl rfl (by repeat constructor) (by repeat constructor) rfl (fun x hx => ?_)
 | refine SO.call (v2) rfl rfl rfl (by repeat constructor) (by repeat constructor) rfl (fun x hx => ?_)
 | refine SO.call (vs _ _ _ _) rfl rfl rfl (by repeat constructor) (by repeat constructor) rfl (fun x hx => ?_)
 | refine SO.pure rfl rfl rfl ?_
 | refine SO.pure2 rfl rfl rfl ?_
 | refine SO.nil ?_
 | refine SO.guardY rfl rfl ?_
 | fail)
    exact SK.retX (.tmp rfl .nil) () trivial rfl (by repeat constructor)
end Go.Proofs
