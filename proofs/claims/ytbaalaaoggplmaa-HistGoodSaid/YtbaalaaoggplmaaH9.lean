/- A part of a proof: what functions of the program compute. -/
import Derived.Test.YtbaalaaoggplmaaH8
set_option linter.unusedVariables false
set_option linter.unusedSimpArgs false
set_option maxHeartbeats 0
namespace Go.Hist
open Go.Sl
/-- What one bool appends, n puts being done. -/
def hStep (n : Int) : Bool → List Ev
  | true => [⟨3, 0, true, false, bK, bV, false, rec0, []⟩, ⟨3, 0, true, true, bK, bV, false, ⟨0, n + 1, [], bK, bV⟩, []⟩]
  | false => [⟨3, 0, false, false, bK, if 0 < n then bV else bE, decide (0 < n), rec0, [n]⟩]
def hNext (n : Int) (b : Bool) : Int := if b then n + 1 else n
def hRun : Int → List Bool → List Ev
  | _, [] => []
  | n, b :: bs => hStep n b ++ hRun (hNext n b) bs
def hCount : Int → List Bool → Int
  | n, [] => n
  | n, b :: bs => hCount (hNext n b) bs
def RB : Rep Bool where
  V := Unit
  sz := 1
  agg := false
  cells := fun x _ => [.bool x]
  atoms := fun _ _ => []
  len := fun _ _ => rfl
  pers := fun _ _ _ h => by cases h
  pos := by decide
  sc := fun _ => rfl
  one := fun _ _ v h => by simp at h; subst h; rfl
  wit := fun _ h => h ()
/-- The bad read. -/
def hBad (n : Int) (s : Int) : Ev := ⟨3, 0, false, false, bK, bV, true, rec0, [n - s]⟩
/-- The other session. -/
def hOther : Ev := ⟨4, 0, false, false, bK, bE, false, rec0, []⟩
theorem lookF_congr (l l' : List Ev) : ∀ (xs : List Ev) (i : Nat), (∀ j, j < i + xs.length → l.take j = l'.take j) → lookF l i xs = lookF l' i xs
  | [], _, _ => rfl
  | x :: xs, i, h => by
    have ih := lookF_congr l l' xs (i + 1) (fun j hj => h j (by simp only [List.length_cons]; omega))
    have h0 := h i (by simp only [List.length_cons]; omega)
    simp only [lookF, ih, h0]
theorem look_snoc (l : List Ev) (g : Ev) (hp : g.put = false) : look (l ++ [g]) = look l ++ (if kind l g = 0 then [] else [((l.length : Int), kind l g)]) := by
  unfold look
  rw [lookF_app, Nat.zero_add]
  congr 1
  · exact lookF_congr _ _ l 0 fun j hj => by rw [List.take_append_of_le_length (by omega)]
  · simp only [lookF, hp, List.take_left]
    split <;> simp_all
theorem look_snocP (l : List Ev) (g : Ev) (hp : g.put = true) : look (l ++ [g]) = look l := by
  unfold look
  rw [lookF_app, Nat.zero_add]
  have : lookF (l ++ [g]) l.length [g] = [] := by simp [lookF, hp]
  rw [this, List.append_nil]
  exact lookF_congr _ _ l 0 fun j hj => by rw [List.take_append_of_le_length (by omega)]
/-- What holds of what has been built. -/
structure HInv (l : List Ev) (n : Int) : Prop where
  n0 : 0 ≤ n
  sess : ∀ y ∈ l, y.sess = 3
  seq : ∀ y ∈ l, y.put = true → y.done = true → y.r.site = 0 ∧ y.r.seq ≤ n
  at_ : ∀ y ∈ l, y.put = false → ∃ m, y.at_ = [m] ∧ 0 ≤ m ∧ m ≤ n
  none : n = 0 → ∀ y ∈ l, y.put = false
  told : 0 < n → ∃ y ∈ l, y.put = true ∧ y.done = false ∧ y.key = bK ∧ y.val = bV
  last : 0 < n → ∃ y ∈ l, y.put = true ∧ y.done = true ∧ y.r.site = 0 ∧ y.r.seq = n
theorem covers_one (a b : Int) (ha : 0 ≤ a) (hb : 0 ≤ b) : coversI [a] [b] = decide (b ≤ a) := by
  have : ∀ i : Int, getI [a] i = if i = 0 then a else 0 := fun i => by
    unfold getI
    split
    · rw [if_neg (by omega)]
    · split
      · rename_i h; subst h; rfl
      · obtain ⟨k, hk⟩ : ∃ k, i.toNat = k + 1 := ⟨i.toNat - 1, by omega⟩
        rw [hk]; rfl
  simp [coversI, getI, List.range_succ]
theorem getI_one (a : Int) : getI [a] 0 = a := rfl
theorem hstep_ok {l : List Ev} {n : Int} (h : HInv l n) {g y : Ev} (hy : y ∈ l) (ga : g.at_ = [n]) (gh : g.has = decide (0 < n)) : kindStep g 0 y = some 0 := by
  have hn := h.n0
  unfold kindStep
  rw [if_neg, if_neg, if_neg]
  · rintro ⟨_, hf, hp, _, _⟩
    rw [gh, decide_eq_false_iff_not] at hf
    have := h.none (by omega) y hy
    rw [this] at hp; cases hp
  · rintro ⟨hp, hc⟩
    obtain ⟨m, hm, h1, h2⟩ := h.at_ y hy hp
    rw [ga, hm, covers_one n m hn h1] at hc
    simp at hc; omega
  · rintro ⟨hp, hd, hl⟩
    obtain ⟨h1, h2⟩ := h.seq y hy hp hd
    rw [ga, h1, getI_one] at hl
    omega
theorem hkindF_ok {l : List Ev} {n : Int} (h : HInv l n) {g : Ev} (ga : g.at_ = [n]) (gh : g.has = decide (0 < n)) : ∀ xs : List Ev, (∀ y ∈ xs, y ∈ l) → kindF g xs 0 = some 0
  | [], _ => rfl
  | x :: xs, hx => by
    simp only [kindF, hstep_ok h (hx x (by simp)) ga gh]
    exact hkindF_ok h ga gh xs fun y hy => hx y (by simp [hy])
theorem hkind_ok {l : List Ev} {n : Int} (h : HInv l n) {g : Ev} (ga : g.at_ = [n]) (gh : g.has = decide (0 < n)) (gk : g.key = bK) (gv : g.val = if 0 < n then bV else bE) : kind l g = 0 := by
  unfold kind
  rw [hkindF_ok h ga gh _ fun y hy => (List.mem_filter.1 hy).1]
  simp only
  rw [if_neg]
  rintro ⟨_, hh, hf⟩
  rw [gh, decide_eq_true_eq] at hh
  obtain ⟨y, hy, h1, h2, h3, h4⟩ := h.told hh
  rw [List.any_eq_false] at hf
  apply hf y hy
  rw [if_pos hh] at gv
  unfold toldBy
  rw [h1, h2, h3, h4, gk, gv]; decide
theorem hinv_nil : HInv [] 0 := ⟨by omega, by simp, by simp, by simp, by simp, by omega, by omega⟩
theorem hinv_true {l : List Ev} {n : Int} (h : HInv l n) : HInv (l ++ hStep n true) (hNext n true) := by
  have hn := h.n0
  refine ⟨by simp [hNext]; omega, ?_, ?_, ?_, ?_, ?_, ?_⟩
  all_goals simp only [hStep, hNext, List.mem_append, List.mem_cons, List.mem_nil_iff, or_false, if_true]
  · rintro y (hy | rfl | rfl)
    · exact h.sess y hy
    · rfl
    · rfl
  · rintro y (hy | rfl | rfl) hp hd
    · have := h.seq y hy hp hd; exact ⟨this.1, by omega⟩
    · cases hd
    · exact ⟨rfl, by show n + 1 ≤ n + 1; omega⟩
  · rintro y (hy | rfl | rfl) hp
    · obtain ⟨m, h1, h2, h3⟩ := h.at_ y hy hp; exact ⟨m, h1, h2, by omega⟩
    · cases hp
    · cases hp
  · intro h0; omega
  · intro _; exact ⟨_, .inr (.inl rfl), rfl, rfl, rfl, rfl⟩
  · intro _; exact ⟨_, .inr (.inr rfl), rfl, rfl, rfl, rfl⟩
theorem hinv_false {l : List Ev} {n : Int} (h : HInv l n) : HInv (l ++ hStep n false) (hNext n false) := by
  have hn := h.n0
  refine ⟨by simp [hNext]; omega, ?_, ?_, ?_, ?_, ?_, ?_⟩
  all_goals simp only [hStep, hNext, List.mem_append, List.mem_cons, List.mem_nil_iff, or_false, Bool.false_eq_true, if_false]
  · rintro y (hy | rfl)
    · exact h.sess y hy
    · rfl
  · rintro y (hy | rfl) hp hd
    · exact h.seq y hy hp hd
    · cases hp
  · rintro y (hy | rfl) hp
    · exact h.at_ y hy hp
    · exact ⟨n, rfl, hn, by omega⟩
  · rintro h0 y (hy | rfl)
    · exact h.none h0 y hy
    · rfl
  · intro h0; obtain ⟨y, hy, r⟩ := h.told h0; exact ⟨y, .inl hy, r⟩
  · intro h0; obtain ⟨y, hy, r⟩ := h.last h0; exact ⟨y, .inl hy, r⟩
theorem hlook_step {l : List Ev} {n : Int} (h : HInv l n) (hl : look l = []) (b : Bool) : look (l ++ hStep n b) = [] ∧ HInv (l ++ hStep n b) (hNext n b) := by
  cases b with
  | true =>
    refine ⟨?_, hinv_true h⟩
    simp only [hStep]
    have app2 : ∀ (a b : Ev), l ++ [a, b] = (l ++ [a]) ++ [b] := fun a b => by simp
    rw [app2, look_snocP _ _ rfl, look_snocP _ _ rfl, hl]
  | false =>
    refine ⟨?_, hinv_false h⟩
    simp only [hStep]
    rw [look_snoc _ _ rfl, hl, hkind_ok h rfl rfl rfl rfl]
    rfl
theorem hlook_run : ∀ (bs : List Bool) (l : List Ev) (n : Int), HInv l n → look l = [] → look (l ++ hRun n bs) = [] ∧ HInv (l ++ hRun n bs) (hCount n bs)
  | [], l, n, h, hl => by simp [hRun, hCount, hl, h]
  | b :: bs, l, n, h, hl => by
    obtain ⟨h1, h2⟩ := hlook_step h hl b
    have := hlook_run bs _ _ h2 h1
    simpa [hRun, hCount] using this
theorem kindF_noneOf {g : Ev} : ∀ (xs : List Ev) (o : Int) (y : Ev), y ∈ xs → (∀ o, kindStep g o y = none) → kindF g xs o = none
  | x :: xs, o, y, hy, hs => by
    simp only [kindF]
    rcases List.mem_cons.1 hy with rfl | hy
    · rw [hs o]
    · cases kindStep g o x with
      | none => rfl
      | some o' => exact kindF_noneOf xs o' y hy hs
/-- The read that misses a put of its own session. -/
theorem hbad_pos {l : List Ev} {n s : Int} (h : HInv l n) (hn : 0 < n) (hs : 0 < s) : kind l (hBad n s) = 1 := by
  obtain ⟨y, hy, h1, h2, h3, h4⟩ := h.last hn
  unfold kind
  rw [kindF_noneOf _ 0 y (List.mem_filter.2 ⟨hy, by rw [h.sess y hy]; rfl⟩)]
  intro o
  unfold kindStep
  rw [if_pos]
  refine ⟨h1, h2, ?_⟩
  rw [h3, h4]
  show getI [n - s] 0 < n
  rw [getI_one]; omega
theorem kindF_pos {l : List Ev} {s : Int} (h : HInv l 0) (hs : 0 < s) : ∀ (xs : List Ev) (o : Int), (∀ y ∈ xs, y ∈ l) → o = 0 ∨ o = 2 → ∃ o', kindF (hBad 0 s) xs o = some o' ∧ (o' = 0 ∨ o' = 2)
  | [], o, _, ho => ⟨o, rfl, ho⟩
  | x :: xs, o, hx, ho => by
    have hp := h.none rfl x (hx x (by simp))
    have : kindStep (hBad 0 s) o x = some 2 ∨ kindStep (hBad 0 s) o x = some o := by
      unfold kindStep
      simp only [hp, Bool.false_eq_true, false_and, if_false, true_and, and_false]
      split
      · exact .inl rfl
      · exact .inr rfl
    simp only [kindF]
    rcases this with h2 | h2 <;> rw [h2]
    · exact kindF_pos h hs xs 2 (fun y hy => hx y (by simp [hy])) (.inr rfl)
    · exact kindF_pos h hs xs o (fun y hy => hx y (by simp [hy])) ho
theorem hbad_zero {l : List Ev} {s : Int} (h : HInv l 0) (hs : 0 < s) : kind l (hBad 0 s) ≠ 0 := by
  obtain ⟨o, h1, h2⟩ := kindF_pos h hs (l.filter fun x => decide (x.sess = (hBad 0 s).sess)) 0 (fun y hy => (List.mem_filter.1 hy).1) (.inl rfl)
  unfold kind
  rw [h1]
  simp only
  have ht : l.any (toldBy (hBad 0 s)) = false := by
    rw [List.any_eq_false]
    intro y hy
    simp [toldBy, h.none rfl y hy]
  rcases h2 with rfl | rfl
  · rw [if_pos ⟨rfl, rfl, ht⟩]; omega
  · rw [if_neg (by rintro ⟨h, _⟩; omega)]; omega
theorem hother {l : List Ev} {n : Int} (h : HInv l n) : kind l hOther = 0 := by
  unfold kind
  have : (l.filter fun x => decide (x.sess = hOther.sess)) = [] := by
    rw [List.filter_eq_nil_iff]
    intro y hy
    rw [h.sess y hy]; decide
  rw [this]
  rfl
end Go.Hist
