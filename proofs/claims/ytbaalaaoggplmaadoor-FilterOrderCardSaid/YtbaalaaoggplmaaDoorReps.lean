/- A part of a proof: what functions of the program compute. -/
import Derived.Test.YtbaalaaoggplmaaDoorSlMixR
import Derived.KernelRfl
/-! How plain data lie in cells. -/
set_option linter.unusedVariables false
namespace Go.Sl
/-- Whole numbers of a kind. -/
def RK (k : IntKind) : Rep Int where
  V := Unit
  sz := 1
  agg := false
  cells := fun x _ => [.int k x]
  atoms := fun _ _ => []
  len := fun _ _ => rfl
  pers := fun _ _ _ h => by cases h
  pos := by decide
  sc := fun _ => rfl
  one := fun _ _ v h => by simp at h; subst h; rfl
  wit := fun _ h => h ()
abbrev RI : Rep Int := RK .i64
abbrev RU : Rep Int := RK .u8
def RB : Rep Bool where
  V := Unit
  sz := 1
  agg := false
  cells := fun x _ => [.bool x]
  atoms := fun _ _ => []
  len := fun _ _ => rfl
  pers := fun _ _ _ h => by cases h
  pos := by decide
  sc := fun _ => rfl
  one := fun _ _ v h => by simp at h; subst h; rfl
  wit := fun _ h => h ()
def RS : Rep ByteArray where
  V := Unit
  sz := 1
  agg := false
  cells := fun x _ => [.string x]
  atoms := fun _ _ => []
  len := fun _ _ => rfl
  pers := fun _ _ _ h => by cases h
  pos := by decide
  sc := fun _ => rfl
  one := fun _ _ v h => by simp at h; subst h; rfl
  wit := fun _ h => h ()
/-- A slice within a value: its place, its room. -/
abbrev Pl := Option Addr × Nat
/-- A record. -/
structure Rc where
  site : Int
  seq : Int
  dep : List Int
  key : ByteArray
  val : ByteArray
  deriving DecidableEq
def RRec : Rep Rc where
  V := Pl
  sz := 5
  agg := true
  cells := fun e h => [.int .i64 e.site, .int .i64 e.seq, .slice h.1 e.dep.length h.2, .string e.key, .string e.val]
  atoms := fun e h => [slAt RI h.1 e.dep.length e.dep, pr (e.dep.length ≤ h.2)]
  len := fun _ _ => rfl
  pers := fun e h A hA => by
    simp only [List.mem_cons, List.mem_nil_iff, or_false] at hA
    rcases hA with rfl | rfl
    · exact pers_slAt _ _ _ _
    · exact pers_pr _
  pos := by decide
  sc := fun h => by cases h
  one := fun _ _ v h => by
    simp only [List.mem_cons, List.mem_nil_iff, or_false] at h
    rcases h with rfl | rfl | rfl | rfl | rfl <;> rfl
  wit := fun _ h => h (none, 0)
def bE : ByteArray := ⟨#[]⟩
def rc0 : Rc := ⟨0, 0, [], bE, bE⟩
instance : Triv (pr (([] : List Int).length ≤ 0)) := ⟨fun _ _ => Nat.le_refl 0⟩
theorem Has.pr {p : Prop} {L : List HP} (h : p) : Has (Sl.pr p) L := @Has.triv _ _ ⟨fun _ _ => h⟩
theorem wrap_id {n : Int} (h1 : -9223372036854775808 ≤ n) (h2 : n < 9223372036854775808) : IntKind.i64.wrap n = n := by
  simp only [IntKind.wrap, IntKind.bits, IntKind.signed]; simp; omega
theorem wrap_nat {i : Nat} (h : i < lim) : IntKind.i64.wrap ((i : Int) + 1) = ((i + 1 : Nat) : Int) := by
  have : (i : Int) < 2147483648 := by unfold lim at h; omega
  rw [wrap_id (by omega) (by omega)]; omega

/-! ### Vectors -/
def getI (l : List Int) (i : Int) : Int := if i < 0 then 0 else l.getD i.toNat 0
def vecBad : List Int → Int
  | [] => 0
  | x :: xs => if x < 0 then 1 else if 1048576 < x then 4 else vecBad xs
/-- What is wrong with a vector of so many sites. -/
def checkV (l : List Int) (m : Int) : Int := if m < 1 ∨ 8 < m then 1 else if m < l.length then 4 else vecBad l
/-- The numbers that are not nought, with their places. -/
def nzF : Nat → List Int → List (Nat × Int)
  | _, [] => []
  | i, x :: xs => if x = 0 then nzF (i + 1) xs else (i, x) :: nzF (i + 1) xs
theorem nzF_app : ∀ (a b : List Int) (i : Nat), nzF i (a ++ b) = nzF i a ++ nzF (i + a.length) b
  | [], b, i => by simp [nzF]
  | x :: a, b, i => by
    simp only [List.cons_append, nzF, nzF_app a b (i + 1), List.length_cons]
    rw [show i + 1 + a.length = i + (a.length + 1) by omega]
    split <;> rfl
theorem nzF_take {l : List Int} {i : Nat} {x : Int} (h : l[i]? = some x) : nzF 0 (l.take (i + 1)) = nzF 0 (l.take i) ++ nzF i [x] := by
  have hl : i < l.length := (List.getElem?_eq_some_iff.1 h).1
  have : l.take (i + 1) = l.take i ++ [x] := by rw [List.take_add_one, h]; rfl
  rw [this, nzF_app, List.length_take, Nat.min_eq_left (by omega), Nat.zero_add]
theorem nzF_get {l : List Int} {i : Nat} {x : Int} (h : l[i]? = some x) (hs : x ≠ 0) : (nzF 0 l)[(nzF 0 (l.take i)).length]? = some (i, x) := by
  have hl : i < l.length := (List.getElem?_eq_some_iff.1 h).1
  have e : l = l.take i ++ l.drop i := by simp
  have d : l.drop i = x :: l.drop (i + 1) := by rw [List.drop_eq_getElem_cons hl]; congr 1; exact (List.getElem?_eq_some_iff.1 h).2
  have : nzF 0 l = nzF 0 (l.take i) ++ nzF i (l.drop i) := by
    conv => lhs; rw [e]
    rw [nzF_app, List.length_take, Nat.min_eq_left (by omega), Nat.zero_add]
  rw [this, List.getElem?_append_right (Nat.le_refl _), Nat.sub_self, d, nzF, if_neg hs]
  rfl
def badNz : List (Nat × Int) → Int
  | [] => 0
  | (_, x) :: xs => if x < 0 then 1 else if 1048576 < x then 4 else badNz xs
theorem bad_nz : ∀ (l : List Int) (i : Nat), badNz (nzF i l) = vecBad l
  | [], _ => rfl
  | x :: xs, i => by
    simp only [nzF, vecBad]
    by_cases h : x = 0
    · subst h; simp [bad_nz xs]
    · rw [if_neg h]; simp only [badNz, bad_nz xs]
theorem badNz_take : ∀ (xs : List (Nat × Int)) (i : Nat), badNz (xs.take i) = 0 → ∀ p, xs[i]? = some p → badNz xs = if p.2 < 0 then 1 else if 1048576 < p.2 then 4 else badNz (xs.drop (i + 1))
  | [], i, _, p, h => by simp at h
  | (j, x) :: xs, 0, _, p, h => by simp at h; subst h; simp [badNz]
  | (j, x) :: xs, i + 1, h0, p, h => by
    simp only [List.take_succ_cons, badNz] at h0
    simp only [badNz]
    by_cases h1 : x < 0
    · simp [h1] at h0
    · by_cases h2 : 1048576 < x
      · simp [h1, h2] at h0
      · simp only [h1, h2, if_false] at h0 ⊢
        have := badNz_take xs i h0 p (by simpa using h)
        simpa using this
theorem badNz_step {xs : List (Nat × Int)} {i : Nat} {p : Nat × Int} (h : xs[i]? = some p) (h0 : badNz (xs.take i) = 0) (h1 : ¬ p.2 < 0) (h2 : ¬ 1048576 < p.2) : badNz (xs.take (i + 1)) = 0 := by
  have e : (xs.take (i + 1))[i]? = some p := by rw [List.getElem?_take_of_lt (by omega)]; exact h
  have h3 : (xs.take (i + 1)).take i = xs.take i := by rw [List.take_take, Nat.min_eq_left (by omega)]
  have := badNz_take (xs.take (i + 1)) i (by rw [h3]; exact h0) p e
  rw [this, if_neg h1, if_neg h2]
  have : (xs.take (i + 1)).drop (i + 1) = [] := by simp
  rw [this]; rfl
/-- What an iterator over a vector hands over. -/
def ENz : Enc (Nat × Int) where
  V := Unit
  args := fun x _ => [.int .i64 (x.1 : Int), .int .i64 x.2]
  atoms := fun _ _ => []
  pers := fun _ _ _ h => by cases h
end Go.Sl
