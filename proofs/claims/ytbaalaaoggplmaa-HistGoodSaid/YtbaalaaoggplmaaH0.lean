/- A part of a proof: what functions of the program compute. -/
import Derived.Test.YtbaalaaoggplmaaSlOps2
import Derived.Test.YtbaalaaoggplmaaTabH
import Derived.KernelRfl
set_option linter.unusedVariables false
namespace Go.Sl
/-- Whole numbers (int). -/
def RI : Rep Int where
  V := Unit
  sz := 1
  agg := false
  cells := fun x _ => [.int .i64 x]
  atoms := fun _ _ => []
  len := fun _ _ => rfl
  pers := fun _ _ _ h => by cases h
  pos := by decide
  sc := fun _ => rfl
  one := fun _ _ v h => by simp at h; subst h; rfl
  wit := fun _ h => h ()

def getI (l : List Int) (i : Int) : Int := if i < 0 then 0 else l.getD i.toNat 0
/-- Is a nowhere below b? (by places) -/
def coversI (a b : List Int) : Bool := (List.range (max a.length b.length)).all fun i => decide (getI b i ≤ getI a i)
end Go.Sl

namespace Go.Hist
open Go.Sl
structure Rec where
  site : Int
  seq : Int
  dep : List Int
  key : ByteArray
  val : ByteArray
structure Ev where
  sess : Int
  site : Int
  put : Bool
  done : Bool
  key : ByteArray
  val : ByteArray
  has : Bool
  r : Rec
  at_ : List Int
def REv : Rep Ev where
  V := Option Addr × Nat × Option Addr × Nat
  sz := 13
  agg := true
  cells := fun e h => [.int .i64 e.sess, .int .i64 e.site, .bool e.put, .bool e.done, .string e.key, .string e.val, .bool e.has, .int .i64 e.r.site, .int .i64 e.r.seq, .slice h.1 e.r.dep.length h.2.1, .string e.r.key, .string e.r.val, .slice h.2.2.1 e.at_.length h.2.2.2]
  atoms := fun e h => [slAt RI h.1 e.r.dep.length e.r.dep, slAt RI h.2.2.1 e.at_.length e.at_]
  len := fun _ _ => rfl
  pers := fun e h A hA => by
    simp only [List.mem_cons, List.mem_nil_iff, or_false] at hA
    rcases hA with rfl | rfl
    · exact pers_slAt _ _ _ _
    · exact pers_slAt _ _ _ _
  pos := by decide
  sc := fun h => by cases h
  one := fun _ _ v h => by
    simp only [List.mem_cons, List.mem_nil_iff, or_false] at h
    rcases h with rfl | rfl | rfl | rfl | rfl | rfl | rfl | rfl | rfl | rfl | rfl | rfl | rfl <;> rfl
  wit := fun _ h => h (none, 0, none, 0)
abbrev Fl := Int × Int
def RFl : Rep Fl where
  V := Unit
  sz := 2
  agg := true
  cells := fun x _ => [.int .i64 x.1, .int .i64 x.2]
  atoms := fun _ _ => []
  len := fun _ _ => rfl
  pers := fun _ _ _ h => by cases h
  pos := by decide
  sc := fun h => by cases h
  one := fun _ _ v h => by
    simp only [List.mem_cons, List.mem_nil_iff, or_false] at h
    rcases h with rfl | rfl <;> rfl
  wit := fun _ h => h ()

def kindStep (g : Ev) (out : Int) (x : Ev) : Option Int :=
  if x.put = true ∧ x.done = true ∧ getI g.at_ x.r.site < x.r.seq then none
  else if x.put = false ∧ coversI g.at_ x.at_ = false then some 2
  else if out = 0 ∧ g.has = false ∧ x.put = true ∧ x.done = true ∧ eqS x.r.key g.key = true then some 3
  else some out
def kindF (g : Ev) : List Ev → Int → Option Int
  | [], out => some out
  | x :: xs, out => match kindStep g out x with
    | none => none
    | some o => kindF g xs o
def toldBy (g x : Ev) : Bool := x.put && !x.done && eqS x.key g.key && eqS x.val g.val
def kind (ahead : List Ev) (g : Ev) : Int := match kindF g (ahead.filter fun x => decide (x.sess = g.sess)) 0 with
  | none => 1
  | some out => if out = 0 ∧ g.has = true ∧ ahead.any (toldBy g) = false then 3 else out
def lookF (l : List Ev) : Nat → List Ev → List Fl
  | _, [] => []
  | i, x :: xs => if x.put = true then lookF l (i + 1) xs else if kind (l.take i) x = 0 then lookF l (i + 1) xs else ((i : Int), kind (l.take i) x) :: lookF l (i + 1) xs
def look (l : List Ev) : List Fl := lookF l 0 l
end Go.Hist
