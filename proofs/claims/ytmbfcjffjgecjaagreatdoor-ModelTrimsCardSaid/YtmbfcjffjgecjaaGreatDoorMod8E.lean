/- A part of a proof: what functions of the program compute. -/
import Derived.Test.YtmbfcjffjgecjaaGreatDoorMod7E
set_option linter.unusedVariables false
set_option linter.unusedSimpArgs false
set_option maxHeartbeats 0
set_option maxRecDepth 20000
namespace Go.Proofs
attribute [local irreducible] Go.Sl.SO Go.Sl.SQ Go.Sl.SR Go.Sl.SC Go.Sl.SX Go.Sl.SY Go.Sl.eadr Go.Sl.slAt Go.Sl.sqAt Go.Sl.pts Go.Sl.rod Go.Sl.ob Go.Sl.ex Go.Sl.big Go.Sl.pr Go.Sl.tabs Go.Sl.mpAt Go.Sl.mitAt Go.Sl.mitN
open Go.Sl
theorem lg13_nil : Does Tryz.prog 19 [.int .u8 1, .slice none 0 0, .int .u8 0] [libA, tabs 4 5] [] ((Nat × Lg) × (Nat × DLg)) (fun x => LogsI 2 [] 0 0 x.1.2 x.2.2) (fun x => .tuple #[.pointer (some ⟨x.1.1, 0, none⟩), .pointer (some ⟨x.2.1, 0, none⟩), .bool true]) (fun x => lgAt x.1.1 x.1.2 ++ dlAt x.2.1 x.2.2) := by
  refine (lg13_does 1 0 none 0 0 2 [] (by decide) (by decide) (by decide) (by decide) (fun x hx => by cases hx)).less (all_cons pers_lib (all_cons (pers_tabs _ _) all_nil)) (.cons .here (.cons (.there .here) (.cons ?_ .nil)))
  show Has (slAt RU none 0 []) _
  exact .triv
theorem lrightT (lb : Nat) {l : List Nat} {c n t : Nat} {g : Lg} (h : LogsT l c n t g) : Does Tryz.prog 20 [.pointer (some ⟨lb, 0, none⟩)] [] (lgAt lb g) Unit (fun _ => True) (fun _ => .bool true) (fun _ => lgAt lb g) := by
  have htc := h.tc
  have hcb := h.cb
  have s := mright_does lb g h.li.ok h.down (by rw [h.head, h.trim]; exact htc) (cnt_VBd (by omega) h.gl h.gone) h.rb
  rw [h.flaws] at s
  exact s
theorem lvecT (lb : Nat) {l : List Nat} {c n t : Nat} {g : Lg} (h : LogsT l c n t g) : Does Tryz.prog 25 [.pointer (some ⟨lb, 0, none⟩)] [] (lgAt lb g) Pl (fun _ => True) (fun x => .slice x.1 (vecF g (g.head - g.trim) g.trim g.gone).length x.2) (fun x => slAt RI x.1 (vecF g (g.head - g.trim) g.trim g.gone).length (vecF g (g.head - g.trim) g.trim g.gone) :: lgAt lb g) :=
  lvec_does lb g h.li.ok h.down h.gl fun i h1 h2 => by rw [h.li.rcd h1 h2]; exact lgR_site l i
theorem lagreeN (la lb : Nat) {l : List Nat} {c n t K : Nat} {g h : Lg} {f : DLg} (hg : LogsT l c n t g) (hh : LogsI K [] 0 0 h f) : Does Tryz.prog 22 [.pointer (some ⟨la, 0, none⟩), .pointer (some ⟨lb, 0, none⟩)] [] (lgAt la g ++ lgAt lb h) Unit (fun _ => True) (fun _ => .bool true) (fun _ => lgAt la g ++ lgAt lb h) := by
  have htc := hg.tc
  have s := magree_does la lb g h hg.li.ok (by rw [hg.head, hg.trim]; exact htc) hh.li.ok (by rw [hh.trim]; omega)
  rw [logs_rows hh] at s
  exact s
theorem lagreeM (la lb : Nat) {l : List Nat} {c n t K : Nat} {g h : Lg} {f : DLg} (hg : LogsT l c n t g) (hh : LogsI K [] 0 0 h f) : Does Tryz.prog 22 [.pointer (some ⟨lb, 0, none⟩), .pointer (some ⟨la, 0, none⟩)] [] (lgAt lb h ++ lgAt la g) Unit (fun _ => True) (fun _ => .bool true) (fun _ => lgAt lb h ++ lgAt la g) := by
  have htc := hg.tc
  have s := magree_does lb la h g hh.li.ok (by rw [hh.trim]; omega) hg.li.ok (by rw [hg.head, hg.trim]; exact htc)
  rw [logs_rows hh, show agreeF (lgRows [] 0) g.rows = true from List.all_eq_true.2 fun x _ => rfl] at s
  exact s
theorem mtrimsL_long (A : Option Addr) (n c : Nat) (k : Nat) (hn : 60 < n) : Does Tryz.prog 9 [.slice A n c, .int .u8 (k : Int)] [libA, tabs 4 5] [] Unit (fun _ => True) (fun _ => .bool true) (fun _ => []) := by
  refine Does.of Tryz.call9 Tryz.func9 rfl rfl rfl (all_cons pers_lib (all_cons (pers_tabs _ _) all_nil)) rfl ?_
  have g1 := lg13_long 2 99 A n c 3 (by decide) (by decide) hn
  repeat' (first
 | refine SO.call (m24known_does) rfl rfl rfl (by repeat constructor) (by repeat constructor) rfl (fun x hx => ?_)
 | refine SO.call (g1) rfl rfl rfl (by repeat constructor) (by repeat constructor) rfl (fun x hx => ?_)
 | refine SO.call (lg13_nil) rfl rfl rfl (by repeat constructor) (by repeat constructor) rfl (fun x hx => ?_)
 | refine SO.pure rfl rfl rfl ?_
 | refine SO.nil ?_
 | refine SO.guardN rfl rfl rfl ?_
 | refine SK.seq ?_
 | refine SK.region ?_
 | refine SK.condT rfl ?_
 | refine SK.condF rfl ?_
 | refine SK.skip ?_
 | fail)
  exact SK.retX (.tmp rfl .nil) () trivial rfl (by repeat constructor)
theorem mtrimsL_does (A : Option Addr) (n c : Nat) (k : Nat) (l : List Int) (hk : k < 256) (hn : n ≤ 60) (hb : ∀ x ∈ l, 0 ≤ x ∧ x ≤ 255) : Does Tryz.prog 9 [.slice A n c, .int .u8 (k : Int)] [libA, tabs 4 5, slAt RU A n l] [] Unit (fun _ => True) (fun _ => .bool true) (fun _ => []) := by
  refine Does.of Tryz.call9 Tryz.func9 rfl rfl rfl (all_cons pers_lib (all_cons (pers_tabs _ _) (all_cons (pers_slAt _ _ _ _) all_nil))) rfl ?_
  refine SK.know (sl_len (ρ := RU) (A := A) (n := n) (l := l) (by repeat constructor)) ?_
  rintro ⟨hnl, -, -⟩
  obtain ⟨l, rfl, hbl⟩ := natL l hb
  rw [List.length_map] at hnl
  have g1 := lg13_does 2 99 A n c 3 l (by decide) (by decide) (by decide) (by omega) hbl
  repeat' (first
 | refine SO.call (m24known_does) rfl rfl rfl (by repeat constructor) (by repeat constructor) rfl (fun x hx => ?_)
 | refine SO.call (g1) rfl rfl rfl (by repeat constructor) (by repeat constructor) rfl (fun x hx => ?_)
 | refine SO.pure rfl rfl rfl ?_
 | refine SO.nil ?_
 | refine SK.seq ?_
 | refine SK.region ?_
 | refine SK.condF rfl ?_
 | refine SK.skip ?_
 | fail)
  rename (Nat × Lg) × (Nat × DLg) => zl
  rename LogsI _ l _ _ _ _ => h10
  repeat' (first
 | refine SO.call (lg13_nil) rfl rfl rfl (by repeat constructor) (by repeat constructor) rfl (fun x hx => ?_)
 | refine SO.pure rfl rfl rfl ?_
 | refine SO.nil ?_
 | refine SO.guardY rfl rfl ?_
 | refine SK.seq ?_
 | refine SK.region ?_
 | refine SK.condF rfl ?_
 | refine SK.skip ?_
 | fail)
  rename (Nat × Lg) × (Nat × DLg) => ze
  rename LogsI _ [] _ _ _ _ => h2
  rw [Nat.min_eq_left (by omega : l.length ≤ 99)] at h10
  have h1 : LogsI 3 l l.length l.length zl.1.2 zl.2.2 := h10
  have hd := dlhead_does zl.2.1 zl.2.2 3 l.length l.length (lgR l) ⟨by omega, by omega⟩ h1.di (Nat.le_refl _)
  obtain ⟨tt, htt⟩ : ∃ tt, tt = k % (l.length + 1) := ⟨_, rfl⟩
  have ht : tt ≤ l.length := by
    have := Nat.mod_lt k (show l.length + 1 > 0 by omega)
    omega
  have hwl : IntKind.i64.wrap ((l.length : Int) + 1) = ((l.length + 1 : Nat) : Int) := by rw [wrap_id (by omega) (by omega)]; omega
  have em : (IntKind.i64.wrap (k : Int)).tmod (IntKind.i64.wrap ((l.length : Int) + 1)) = (tt : Int) := by
    rw [hwl, wrap_id (by omega) (by omega), htt]
    rfl
  repeat' (first
 | refine SO.div rfl rfl (rem_ne (by omega)) rfl ?_
 | refine SO.call (hd) rfl rfl rfl (by repeat constructor) (by repeat constructor) rfl (fun x hx => ?_)
 | refine SO.pure rfl rfl rfl ?_
 | refine SO.nil ?_
 | refine SO.div rfl rfl rfl rfl ?_
 | refine SK.seq ?_
 | refine SK.region ?_
 | fail)
  rw [em]
  have hcv := vecR_cnt l 0 (cnt_nil l) tt
  rw [Nat.zero_add] at hcv
  have hv4 := vecR_len4 l tt 0 [] (by decide)
  have hvb := cnt_bd hcv
  have rg := lright zl.1.1 h1 (by omega)
  have dv := dvecto_does zl.2.1 zl.2.2 3 l.length tt _ (lgR l) ⟨by omega, by omega⟩ h1.di ht (lgR_site l)
  generalize vecR (lgR l) tt 0 [] = v at *
  repeat' (first
 | refine SO.call (rg) rfl rfl rfl (by repeat constructor) (by repeat constructor) rfl (fun x hx => ?_)
 | refine SO.call (dv) rfl rfl rfl (by repeat constructor) (by repeat constructor) rfl (fun x hx => ?_)
 | refine SO.pure rfl rfl rfl ?_
 | refine SO.guardY rfl rfl ?_
 | fail)
  rename Pl => y
  rename _ ≤ _ => hy
  have hvF : vecF zl.1.2 (tt - zl.1.2.trim) zl.1.2.trim zl.1.2.gone = vecR (lgR l) tt 0 [] := by
    rw [h1.trim, h1.gone, Nat.sub_zero]
    exact vecF_R (R := lgR l) tt 0 [] fun i h3 h4 => h1.li.rcd (by rw [h1.trim]; omega) (by rw [h1.next]; omega)
  have tr := ltrimR zl.1.1 (A := y.1) (m := v.length) (c := y.2) (pos := tt) (v := v) h1.li h1.down ⟨by rw [h1.trim]; omega, by rw [logs_head h1]; exact ht⟩ (by rw [h1.gone]; decide) (cover_of fun i => by rw [hvF, hcv i, vecR_cnt l 0 (cnt_nil l) tt, Nat.zero_add]) (fun x hx => by have := hvb x hx; omega) (by omega) hy (by rw [h1.own]; show (0 : Int) + 10 + 8 * v.length + 1 ≤ 50000; omega)
  repeat' (first
 | refine SO.call (tr) rfl rfl rfl (by repeat constructor) (by repeat constructor) rfl (fun x hx => ?_)
 | refine SO.pure rfl rfl rfl ?_
 | refine SO.guardY rfl rfl ?_
 | fail)
  rename Lg => g2
  rename LTrim _ _ _ _ => q2
  have hT := h1.trimT (by omega) ht q2 hcv (by omega)
  have hO := (q2.own (own_zero h1.own (by decide)) (by omega) (by omega) (fun x hx => by have := hvb x hx; omega) (by rw [h1.own]; show (0 : Int) + 10 + 8 * v.length + 1 ≤ 50000; omega)).1
  have rg2 := lrightT zl.1.1 hT
  have a1 := lagreeN zl.1.1 ze.1.1 hT h2
  have a2 := lagreeM zl.1.1 ze.1.1 hT h2
  have cr := lcrash_does zl.1.1 g2 none 0 0 [] hT.li.ok (fun x hx => by cases hx)
  repeat' (first
 | refine SO.call (rg2) rfl rfl rfl (by repeat constructor) (by repeat constructor) rfl (fun x hx => ?_)
 | refine SO.call (a1) rfl rfl rfl (by repeat constructor) (by repeat constructor) rfl (fun x hx => ?_)
 | refine SO.call (a2) rfl rfl rfl (by repeat constructor) (by repeat constructor) rfl (fun x hx => ?_)
 | refine SO.call (cr) rfl rfl rfl (by repeat constructor) (by repeat constructor) rfl (fun x hx => ?_)
 | refine SO.pure rfl rfl rfl ?_
 | refine SO.nil ?_
 | refine SO.guardY rfl rfl ?_
 | refine SK.seq ?_
 | refine SK.region ?_
 | refine SK.condF rfl ?_
 | refine SK.skip ?_
 | fail)
  rename Pl × List SB => z3
  rename SegCr _ _ _ _ => hc3
  have rg3 := mright_down zl.1.1 (g2.fell z3.1 z3.2) rfl
  have rc := lrecR zl.1.1 z3.1 hT.li hc3 hO (by omega) (by omega) (fun nx _ _ w hw => by
    rw [(q2.rest).1, h1.m] at hw
    simp at hw
    subst hw
    show (0 : Int) ≤ (nx : Int)
    omega)
  repeat' (first
 | refine SO.call (rg3) rfl rfl rfl (by repeat constructor) (by repeat constructor) rfl (fun x hx => ?_)
 | refine SO.call (rc) rfl rfl rfl (by repeat constructor) (by repeat constructor) rfl (fun x hx => ?_)
 | refine SO.pure rfl rfl rfl ?_
 | refine SO.guardY rfl rfl ?_
 | fail)
  rename Lg => g4
  rename LBack _ _ _ _ _ _ => q4
  have hT4 := hT.back q4
  have rg4 := lrightT zl.1.1 hT4
  have v1 := lvecT zl.1.1 hT4
  have v2 := dvec_does zl.2.1 zl.2.2 _ _ _ (lgR l) ⟨by omega, by omega⟩ h1.di h1.ub (lgR_site l)
  have hc4 := hT4.vec
  have hc5 := vecR_cnt l 0 (cnt_nil l) l.length
  rw [Nat.zero_add] at hc5
  generalize vecF g4 (g4.head - g4.trim) g4.trim g4.gone = va at *
  generalize vecR (lgR l) l.length 0 [] = vb at *
  have vs := fun A B c e => rsamev_does A B va.length c vb.length e va vb
  rw [sameV_of fun i => by rw [hc4 i, hc5 i]] at vs
  repeat' (first
 | refine SO.call (rg4) rfl rfl rfl (by repeat constructor) (by repeat constructor) rfl (fun x hx => ?_)
 | refine SO.call (v1) rfl rfl rfl (by repeat constructor) (by repeat constructor) rfl (fun x hx => ?_)
 | refine SO.call (v2) rfl rfl rfl (by repeat constructor) (by repeat constructor) rfl (fun x hx => ?_)
 | refine SO.call (vs _ _ _ _) rfl rfl rfl (by repeat constructor) (by repeat constructor) rfl (fun x hx => ?_)
 | refine SO.pure rfl rfl rfl ?_
 | refine SO.nil ?_
 | refine SO.guardY rfl rfl ?_
 | fail)
  exact SK.retX (.tmp rfl .nil) () trivial rfl (by repeat constructor)
end Go.Proofs
