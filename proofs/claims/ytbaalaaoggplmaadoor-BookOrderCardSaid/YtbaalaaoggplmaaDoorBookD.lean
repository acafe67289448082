/- A part of a proof: what functions of the program compute. -/
import Derived.Test.YtbaalaaoggplmaaDoorFRefD
import Derived.Test.YtbaalaaoggplmaaDoorShD
import Derived.Test.YtbaalaaoggplmaaDoorLib1
import Derived.Test.YtbaalaaoggplmaaDoorLib2
set_option linter.unusedVariables false
set_option linter.unusedSimpArgs false
set_option maxHeartbeats 0
namespace Go.Proofs
attribute [local irreducible] Go.Sl.SO Go.Sl.SQ Go.Sl.SR Go.Sl.SC Go.Sl.SX Go.Sl.SY Go.Sl.eadr Go.Sl.slAt Go.Sl.sqAt Go.Sl.pts Go.Sl.rod Go.Sl.ob Go.Sl.ex Go.Sl.big Go.Sl.pr Go.Sl.tabs Go.Sl.mpAt
open Go.Sl

theorem scmp_does (a b : ByteArray) : Does Tryd.prog 72 [.string a, .string b] [] [] Unit (fun _ => True) (fun _ => .int .i64 (cmpB a b)) (fun _ => []) :=
  Does.ofCalls Tryd.call72 all_nil fun F w hst => (Tryd.strings_Compare a b w).mono fun e w' ⟨h1, h2⟩ => ⟨h1, by rw [h2]; exact Go.RowKit.Below.refl _ _⟩
theorem cmp_does (c : Cl) (k : ByteArray) : Does Tryd.prog 71 [RCl.val c (), .string k] [] [] Unit (fun _ => True) (fun _ => .int .i64 (cmpB c.key k)) (fun _ => []) := by
  refine Does.of Tryd.call71 Tryd.func71 rfl rfl rfl all_nil rfl ?_
  repeat' (first
    | (refine SO.call (scmp_does c.key k) rfl rfl rfl (by repeat constructor) (by repeat constructor) rfl (fun x hx => ?_))
    | (refine SO.pure rfl rfl rfl ?_)
    | (refine SO.nil ?_)
    | (refine SO.load rfl (by repeat constructor) rfl (by rfl) (by exact ⟨rfl, by first | exact fun _ => rfl | exact (fun h => by cases h)⟩) rfl ?_)
    | (refine SK.seq ?_)
    | (refine SK.region ?_)
    | (refine SO.box rfl rfl rfl (fun b => ?_))
    | fail)
  exact SK.retX (.tmp rfl .nil) () trivial rfl (by repeat constructor)
theorem half (i j : Nat) (h : i + j < 4294967296) : Value.int .i64 (IntKind.i64.wrap (Int.fdiv (IntKind.u64.wrap (IntKind.i64.wrap ((i : Int) + (j : Int)))) (2 ^ (1 : Int).toNat))) = .int .i64 (((i + j) / 2 : Nat) : Int) := by
  have h1 : IntKind.i64.wrap ((i : Int) + (j : Int)) = ((i + j : Nat) : Int) := by rw [wrap_id (by omega) (by omega)]; omega
  have h2 : IntKind.u64.wrap ((i + j : Nat) : Int) = ((i + j : Nat) : Int) := by
    simp only [IntKind.wrap, IntKind.bits, IntKind.signed]; simp; omega
  have h3 : Int.fdiv ((i + j : Nat) : Int) (2 ^ (1 : Int).toNat) = (((i + j) / 2 : Nat) : Int) := by
    have : (2 : Int) ^ (1 : Int).toNat = 2 := rfl
    rw [this, Int.fdiv_eq_ediv_of_nonneg _ (by omega)]; omega
  rw [h1, h2, h3, wrap_id (by omega) (by omega)]
theorem search_does (A : Option Addr) (n c : Nat) (l : List Cl) (k : ByteArray) (hr : ris l) : Does Tryd.prog 70 [.slice A n c, .string k, .func (.func 71) #[] #[]] [slAt RCl A n l] [] Unit (fun _ => True) (fun _ => .tuple #[.int .i64 (posB l k : Int), .bool (hasB l k)]) (fun _ => []) := by
  refine Does.of Tryd.call70 Tryd.func70 rfl rfl rfl (all_cons (pers_slAt _ _ _ _) all_nil) rfl ?_
  refine SK.know (sl_len (ρ := RCl) (A := A) (n := n) (l := l) (by repeat constructor)) ?_
  rintro ⟨rfl, hlim, -⟩
  have hpl := posB_le l k
  repeat' (first
    | (refine SO.pure rfl rfl rfl ?_)
    | (refine SO.nil ?_)
    | (refine SK.seq ?_)
    | (refine SK.region ?_)
    | (refine SK.block ?_)
    | fail)
  refine SK.loop (X := {z : Nat × Nat // z.1 ≤ posB l k ∧ posB l k ≤ z.2 ∧ z.2 ≤ l.length}) (fun z => [(0, .slice A l.length c), (1, .string k), (2, .func (.func 71) #[] #[]), (8, .int .i64 (l.length : Int)), (9, .int .i64 (z.1.1 : Int)), (10, .int .i64 (z.1.2 : Int))]) (fun z => [slAt RCl A l.length l]) (fun z => z.1.2 - z.1.1) ⟨(0, l.length), Nat.zero_le _, hpl, Nat.le_refl _⟩ (by repeat constructor) (ent_append_of_takes (by repeat constructor)) ?_
  rintro ⟨⟨i, j⟩, hi, hj, hjl⟩
  dsimp only at hi hj hjl ⊢
  repeat' (first
    | (refine SO.pure rfl rfl rfl ?_)
    | (refine SO.nil ?_)
    | (refine SK.seq ?_)
    | (refine SK.region ?_)
    | fail)
  by_cases hij : i < j
  · rw [decide_eq_true (show (i : Int) < (j : Int) by omega)]
    repeat' (first
    | (refine SO.pure rfl rfl rfl ?_)
    | (refine SO.nil ?_)
    | (refine SK.seq ?_)
    | (refine SK.region ?_)
    | (refine SK.condT rfl ?_)
    | (refine SK.skip ?_)
    | (refine SK.block ?_)
    | (refine SO.shr rfl rfl rfl rfl rfl ?_)
    | fail)
    rw [half i j (by unfold lim at hlim; omega)]
    obtain ⟨u, hu⟩ : ∃ u, l[(i + j) / 2]? = some u := ⟨_, List.getElem?_eq_getElem (by omega)⟩
    repeat' (first
    | (refine SO.call (cmp_does u k) rfl rfl rfl (by repeat constructor) (by repeat constructor) rfl (fun x hx => ?_))
    | (refine SO.indexH rfl rfl (by repeat constructor) rfl rfl rfl rfl (by assumption) ?_)
    | (refine SO.pure rfl rfl rfl ?_)
    | (refine SO.nil ?_)
    | (refine SO.eloadW rfl (by repeat constructor) (by assumption) rfl (by rfl) rfl (by rfl) rfl (fun hid => ?_))
    | fail)
    by_cases hlt : cmpB u.key k < 0
    · have hp : (i + j) / 2 < posB l k := by
        rcases Nat.lt_or_ge ((i + j) / 2) (posB l k) with h | h
        · exact h
        · exact absurd hlt (posB_ge hr h hu)
      rw [decide_eq_true hlt]
      repeat' (first
    | (refine SO.pure rfl rfl rfl ?_)
    | (refine SO.nil ?_)
    | (refine SK.region ?_)
    | (refine SK.condT rfl ?_)
    | (refine SK.blk ?_)
    | fail)
      refine SK.inv ⟨⟨((i + j) / 2 + 1, j), by show (i + j) / 2 + 1 ≤ _; omega, hj, hjl⟩, ?_, ?_, ?_⟩
      · show j - ((i + j) / 2 + 1) < j - i
        omega
      · rw [wrapn (show (i + j) / 2 ≤ lim by unfold lim at hlim ⊢; omega)]; repeat constructor
      · exact ent_append_of_takes (by repeat constructor)
    · have hp : posB l k ≤ (i + j) / 2 := by
        rcases Nat.lt_or_ge ((i + j) / 2) (posB l k) with h | h
        · exact absurd (posB_lt h hu) hlt
        · exact h
      rw [decide_eq_false hlt]
      repeat' (first
    | (refine SO.pure rfl rfl rfl ?_)
    | (refine SO.nil ?_)
    | (refine SK.region ?_)
    | (refine SK.condF rfl ?_)
    | (refine SK.blk ?_)
    | fail)
      refine SK.inv ⟨⟨(i, (i + j) / 2), hi, hp, by show (i + j) / 2 ≤ _; omega⟩, ?_, ?_, ?_⟩
      · show (i + j) / 2 - i < j - i
        omega
      · repeat constructor
      · exact ent_append_of_takes (by repeat constructor)
  · rw [decide_eq_false (show ¬ (i : Int) < (j : Int) by omega)]
    obtain rfl : i = posB l k := by omega
    repeat' (first
    | (refine SO.pure rfl rfl rfl ?_)
    | (refine SK.seq ?_)
    | (refine SK.region ?_)
    | (refine SK.condF rfl ?_)
    | (refine SK.exit rfl ?_)
    | fail)
    by_cases hil : posB l k < l.length
    · obtain ⟨u, hu⟩ : ∃ u, l[posB l k]? = some u := ⟨_, List.getElem?_eq_getElem hil⟩
      have hh : hasB l k = decide (cmpB u.key k = 0) := by unfold hasB; rw [hu]; rfl
      rw [decide_eq_true (show ((posB l k : Nat) : Int) < (l.length : Int) by omega)]
      repeat' (first
    | (refine SO.call (cmp_does u k) rfl rfl rfl (by repeat constructor) (by repeat constructor) rfl (fun x hx => ?_))
    | (refine SO.indexH rfl rfl (by repeat constructor) rfl rfl rfl rfl (by assumption) ?_)
    | (refine SO.pure rfl rfl rfl ?_)
    | (refine SO.nil ?_)
    | (refine SO.guardY rfl rfl ?_)
    | (refine SO.eloadW rfl (by repeat constructor) (by assumption) rfl (by rfl) rfl (by rfl) rfl (fun hid => ?_))
    | fail)
      refine SK.retX (.tmp rfl (.tmp rfl .nil)) () trivial ?_ (by repeat constructor)
      rw [hh]; rfl
    · have hh : hasB l k = false := by unfold hasB; rw [List.getElem?_eq_none (by omega)]; rfl
      rw [decide_eq_false (show ¬ ((posB l k : Nat) : Int) < (l.length : Int) by omega)]
      repeat' (first
    | (refine SO.pure rfl rfl rfl ?_)
    | (refine SO.nil ?_)
    | (refine SO.guardN rfl rfl rfl ?_)
    | fail)
      refine SK.retX (.tmp rfl (.tmp rfl .nil)) () trivial ?_ (by repeat constructor)
      rw [hh]; rfl
theorem find_does (A : Option Addr) (n c : Nat) (l : List Cl) (k : ByteArray) (hr : ris l) : Does Tryd.prog 54 [.slice A n c, .string k] [slAt RCl A n l] [] Unit (fun _ => True) (fun _ => .tuple #[.int .i64 (posB l k : Int), .bool (hasB l k)]) (fun _ => []) := by
  refine Does.of Tryd.call54 Tryd.func54 rfl rfl rfl (all_cons (pers_slAt _ _ _ _) all_nil) rfl ?_
  repeat' (first
    | (refine SO.call (search_does A n c l k hr) rfl rfl rfl (by repeat constructor) (by repeat constructor) rfl (fun x hx => ?_))
    | (refine SO.pure rfl rfl rfl ?_)
    | (refine SO.nil ?_)
    | (refine SK.seq ?_)
    | (refine SK.region ?_)
    | fail)
  exact SK.retX (.tmp rfl (.tmp rfl .nil)) () trivial rfl (by repeat constructor)
end Go.Proofs
