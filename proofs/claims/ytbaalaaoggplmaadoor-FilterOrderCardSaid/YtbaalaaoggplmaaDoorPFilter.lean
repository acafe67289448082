/- A part of a proof: what functions of the program compute. -/
import Derived.Test.YtbaalaaoggplmaaDoorPRec
/-! The filter, plainly. -/
set_option linter.unusedVariables false
set_option linter.unusedSimpArgs false
namespace Go.Sl
structure FS where
  site : Int
  room : Int
  next : Int
  held : List (Int × Rc)
def putF (s : FS) (r : Rc) : Int × FS :=
  if checkR r 8 ≠ 0 then (checkR r 8, s)
  else if r.site ≠ s.site then (1, s)
  else if (mget s.held r.seq).isSome = true ∨ r.seq < s.next then (5, s)
  else if s.room ≤ r.seq - s.next then (6, s)
  else (0, { s with held := mput s.held r.seq r })
def firstF (s : FS) : Rc := (mget s.held s.next).getD rc0
def hasF (s : FS) : Bool := (mget s.held s.next).isSome
def stepF (s : FS) : FS := { s with next := s.next + 1, held := mdel s.held s.next }
def afterF (s : FS) : Nat → FS
  | 0 => s
  | i + 1 => stepF (afterF s i)
def rdyF : Nat → FS → List Rc
  | 0, _ => []
  | n + 1, s => match mget s.held s.next with
    | none => []
    | some r => r :: rdyF n (stepF s)
/-- What is ready. -/
def readyF (s : FS) : List Rc := rdyF s.held.length s
def resetF (s : FS) (n : Int) : Int × FS := if n < 1 ∨ 1048577 < n then (1, s) else (0, { s with next := n, held := [] })

theorem mdel_len {κ α : Type} [DecidableEq κ] : ∀ (l : List (κ × α)) (k : κ), (mget l k).isSome = true → (mdel l k).length + 1 = l.length
  | [], k, h => by simp [mget] at h
  | (k', v) :: l, k, h => by
    simp only [mget] at h
    simp only [mdel]
    by_cases hk : k' = k
    · rw [if_pos hk]; rfl
    · rw [if_neg hk] at h ⊢
      have := mdel_len l k h
      simp only [List.length_cons]; omega
theorem after_stepF (s : FS) : ∀ i, afterF (stepF s) i = afterF s (i + 1)
  | 0 => rfl
  | i + 1 => by simp only [afterF, after_stepF s i]
theorem rdyF_get : ∀ (n : Nat) (s : FS) (i : Nat), s.held.length ≤ n → ((rdyF n s)[i]? = mget (afterF s i).held (afterF s i).next ∨ (rdyF n s).length < i)
  | 0, s, i, h => by
    have h0 : s.held = [] := List.length_eq_zero_iff.1 (by omega)
    cases i with
    | zero => left; simp [rdyF, afterF, h0, mget]
    | succ i => right; simp [rdyF]
  | n + 1, s, i, h => by
    simp only [rdyF]
    cases hg : mget s.held s.next with
    | none =>
      cases i with
      | zero => left; simp [afterF, hg]
      | succ i => right; simp
    | some r =>
      have hl := mdel_len s.held s.next (by rw [hg]; rfl)
      cases i with
      | zero => left; simp [afterF, hg]
      | succ i =>
        have := rdyF_get n (stepF s) i (by simp only [stepF]; omega)
        rw [after_stepF] at this
        rcases this with h1 | h1
        · left; simpa using h1
        · right; simp only [List.length_cons]; omega
theorem ready_get (s : FS) (i : Nat) (hi : i ≤ (readyF s).length) : (readyF s)[i]? = mget (afterF s i).held (afterF s i).next := by
  rcases rdyF_get s.held.length s i (Nat.le_refl _) with h | h
  · exact h
  · exact absurd hi (by unfold readyF; omega)
theorem after_next (s : FS) : ∀ i, (afterF s i).next = s.next + i
  | 0 => by simp [afterF]
  | i + 1 => by simp only [afterF, stepF, after_next s i]; omega
theorem rdyF_len : ∀ (n : Nat) (s : FS), (rdyF n s).length ≤ n
  | 0, s => by simp [rdyF]
  | n + 1, s => by
    simp only [rdyF]
    cases mget s.held s.next with
    | none => simp
    | some r => have := rdyF_len n (stepF s); simp only [List.length_cons]; omega
theorem ready_len (s : FS) : (readyF s).length ≤ s.held.length := rdyF_len _ _
theorem after_site (s : FS) : ∀ i, (afterF s i).site = s.site ∧ (afterF s i).room = s.room
  | 0 => ⟨rfl, rfl⟩
  | i + 1 => by simp only [afterF, stepF]; exact after_site s i
/-- A filter in memory. -/
def fAt (b mb : Nat) (s : FS) : List HP := [pts b 0 [.int .i64 s.site, .int .i64 s.room, .int .i64 s.next, .map (some mb)], mpAt (KI .i64) RRec mb s.held]
def bK : ByteArray := ⟨#[107]⟩
def rk (n : Int) : Rc := ⟨1, n, [], bK, bE⟩
def ERec : Enc Rc where
  V := Pl
  args := fun r h => [RRec.val r h]
  atoms := fun r h => RRec.atoms r h
  pers := fun r h => RRec.pers r h
theorem rk_check (n : Int) (h1 : 1 ≤ n) (h2 : n ≤ 1048576) : checkR (rk n) 8 = 0 := by
  unfold checkR rk
  rw [if_neg (by simp; omega)]
  rw [if_neg (by simp [checkV, vecBad])]
  rw [if_neg (by simp [getI]; omega)]
  rw [if_neg (show ¬ (bK.size < 1 ∨ 8 < bK.size ∨ nameOk bK = false) by decide), if_neg (show ¬ valOk bE = false by decide), if_neg (show ¬ 16 < bE.size by decide)]
theorem checkR_zero {r : Rc} (h : checkR r 8 = 0) : 0 ≤ r.site ∧ r.site < 8 ∧ 1 ≤ r.seq ∧ r.seq ≤ 1048576 := by
  unfold checkR at h
  split at h
  · omega
  · rename_i h1; omega
end Go.Sl
