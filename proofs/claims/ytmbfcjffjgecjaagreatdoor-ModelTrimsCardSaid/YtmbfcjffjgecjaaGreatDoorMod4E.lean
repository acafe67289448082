/- A part of a proof: what functions of the program compute. -/
import Derived.Test.YtmbfcjffjgecjaaGreatDoorDoc5E
import Derived.Test.YtmbfcjffjgecjaaGreatDoorMod2E
import Derived.Test.YtmbfcjffjgecjaaGreatDoorLib2
set_option linter.unusedVariables false
set_option linter.unusedSimpArgs false
set_option maxHeartbeats 0
set_option maxRecDepth 20000
namespace Go.Proofs
open Go.Sl
theorem cov_eq (a b : List Int) : coversB a b = covI a b := by
  unfold coversB covI
  congr 1
  funext i
  rw [← decide_not]
  exact decide_eq_decide.2 Int.not_lt
theorem same_eq (r s : Rc) : sameP r s = sameR r s := by
  unfold sameP sameR sameV
  rw [cov_eq, cov_eq]
theorem mapF_get (a : List Nat) : ∀ u, (∀ p, p < u → mget (mapF (lgRows a u)) ((lgR a p).site, (lgR a p).seq) = some (lgR a p)) ∧ ∀ k : Int × Int, (∀ p, p < u → k ≠ ((lgR a p).site, (lgR a p).seq)) → mget (mapF (lgRows a u)) k = none
  | 0 => ⟨fun p hp => absurd hp (Nat.not_lt_zero p), fun k _ => rfl⟩
  | u + 1 => by
    obtain ⟨h1, h2⟩ := mapF_get a u
    have e : mapF (lgRows a (u + 1)) = mput (mapF (lgRows a u)) ((lgR a u).site, (lgR a u).seq) (lgR a u) := by
      unfold mapF
      rw [lgRows_snoc, List.foldl_append]
      rfl
    rw [e]
    refine ⟨fun p hp => ?_, fun k hk => ?_⟩
    · rw [mget_mput]
      by_cases hpu : p = u
      · subst hpu; rw [if_pos rfl]
      · rw [if_neg fun he => hpu (lg_name (congrArg Prod.fst he) (congrArg Prod.snd he))]
        exact h1 p (by omega)
    · rw [mget_mput, if_neg (hk u (by omega))]
      exact h2 k fun p hp => hk p (by omega)
def Agr (a b : List Nat) (u w : Nat) : Prop := ∀ p q, p < u → q < w → (lgR a p).site = (lgR b q).site → (lgR a p).seq = (lgR b q).seq → sameR (lgR a p) (lgR b q) = true
theorem agrF_iff (a b : List Nat) (u w : Nat) : agreeF (lgRows a u) (lgRows b w) = true ↔ Agr a b u w := by
  obtain ⟨h1, h2⟩ := mapF_get a u
  unfold agreeF
  rw [List.all_eq_true]
  constructor
  · intro h p q hp hq e1 e2
    have := h (((q : Nat) : Int), lgR b q) (List.mem_map.2 ⟨q, List.mem_range.2 hq, rfl⟩)
    unfold okF at this
    simp only [← e1, ← e2] at this
    rw [h1 p hp] at this
    rw [← same_eq]; exact this
  · intro h x hx
    obtain ⟨q, hq, rfl⟩ := List.mem_map.1 hx
    have hq := List.mem_range.1 hq
    unfold okF
    by_cases he : ∃ p, p < u ∧ ((lgR b q).site, (lgR b q).seq) = ((lgR a p).site, (lgR a p).seq)
    · obtain ⟨p, hp, e⟩ := he
      have e1 := congrArg Prod.fst e
      have e2 := congrArg Prod.snd e
      simp only at e1 e2
      simp only [e1, e2]
      rw [h1 p hp]
      simp only
      rw [same_eq]
      exact h p q hp hq e1.symm e2.symm
    · have : mget (mapF (lgRows a u)) ((lgR b q).site, (lgR b q).seq) = none := h2 _ fun p hp e => he ⟨p, hp, e⟩
      simp only [this]
theorem agr_self (a : List Nat) (u : Nat) : agreeF (lgRows a u) (lgRows a u) = true := by
  rw [agrF_iff]
  intro p q _ _ e1 e2
  obtain rfl := lg_name e1 e2
  exact sameR_refl _
theorem logs_head {K c u : Nat} {l : List Nat} {g : Lg} {d : DLg} (h : LogsI K l c u g d) : g.head = u := by
  refine head_eq h.down (by rw [h.trim]; omega) (by rw [h.next]; exact h.ub) (fun p _ hp => by rw [h.la p (by have := h.ub; omega)]; exact decide_eq_true hp) ?_
  rcases Nat.lt_or_ge u c with h1 | h1
  · exact .inr (by rw [h.la u h1]; exact decide_eq_false (Nat.lt_irrefl _))
  · exact .inl (by rw [h.next]; have := h.ub; omega)
theorem logs_rows {K c u : Nat} {l : List Nat} {g : Lg} {d : DLg} (h : LogsI K l c u g d) : g.rows = lgRows l u := by
  have hh := (logs_head h)
  have hub := h.ub
  apply List.ext_getElem?
  intro i
  rcases Nat.lt_or_ge i u with hi | hi
  · have := rows_at (g := g) (i := i) (by rw [hh, h.trim]; omega)
    rw [this, h.trim, Nat.zero_add, h.li.rcd (by rw [h.trim]; omega) (by rw [h.next]; omega)]
    unfold lgRows
    rw [List.getElem?_map, List.getElem?_range hi]
    rfl
  · rw [List.getElem?_eq_none (by rw [rows_len, hh, h.trim]; omega), List.getElem?_eq_none (by unfold lgRows; simp; omega)]
theorem lgRows_rb (l : List Nat) {u : Nat} (hu : u ≤ 1000) : ∀ x ∈ lgRows l u, RBd x.2 := by
  intro x hx
  obtain ⟨p, hp, rfl⟩ := List.mem_map.1 hx
  have hp := List.mem_range.1 hp
  have h1 := siteN_lt l p
  have h2 := cntS_le l (siteN l p) (p + 1)
  exact ⟨lgR_site l p, by show (0 : Int) ≤ (cntS l (siteN l p) (p + 1) : Int); omega, by show (cntS l (siteN l p) (p + 1) : Int) ≤ 1000000000; omega⟩
theorem lright (lb : Nat) {K c u : Nat} {l : List Nat} {g : Lg} {d : DLg} (h : LogsI K l c u g d) (hc : c ≤ 1000) : Does Tryz.prog 20 [.pointer (some ⟨lb, 0, none⟩)] [] (lgAt lb g) Unit (fun _ => True) (fun _ => .bool true) (fun _ => lgAt lb g) := by
  have hub := h.ub
  have s := mright_does lb g h.li.ok h.down (by rw [h.trim]; omega) (by rw [h.gone]; exact ⟨by decide, fun i => by unfold getI; split <;> simp⟩) (by rw [logs_rows h]; exact lgRows_rb l (by omega))
  rw [h.gone, logs_rows h, (lg_flaws l u).1] at s
  exact s
theorem lagree (la lb : Nat) {K c u M e w : Nat} {l k : List Nat} {g h : Lg} {d f : DLg} (hg : LogsI K l c u g d) (hh : LogsI M k e w h f) : Does Tryz.prog 22 [.pointer (some ⟨la, 0, none⟩), .pointer (some ⟨lb, 0, none⟩)] [] (lgAt la g ++ lgAt lb h) Unit (fun _ => True) (fun _ => .bool (agreeF (lgRows l u) (lgRows k w))) (fun _ => lgAt la g ++ lgAt lb h) := by
  have s := magree_does la lb g h hg.li.ok (by rw [hg.trim]; omega) hh.li.ok (by rw [hh.trim]; omega)
  rw [logs_rows hg, logs_rows hh] at s
  exact s
theorem lagree1 (la : Nat) {K c u : Nat} {l : List Nat} {g : Lg} {d : DLg} (hg : LogsI K l c u g d) : Does Tryz.prog 22 [.pointer (some ⟨la, 0, none⟩), .pointer (some ⟨la, 0, none⟩)] [] (lgAt la g) Unit (fun _ => True) (fun _ => .bool true) (fun _ => lgAt la g) := by
  have s := magree1_does la g hg.li.ok (by rw [hg.trim]; omega)
  rw [logs_rows hg, agr_self] at s
  exact s
end Go.Proofs
