/- A part of a proof: a walk over the model by a small separation logic. -/
import Derived.Test.YtbaalaaoggplmaaDoorSlStr
import Derived.Shelf.Strings.FuncGrows
/-! From a contract of the library's shelf to one of the walk. -/
set_option linter.unusedVariables false
set_option linter.unusedSectionVars false
namespace Go.Sl
open Go.RowKit

/-- What a world's heap holds, a later one holds. -/
theorem Sat.grow {w w' : World} {r : Ro} {o : Own} (s : Sat w r o) (hb : Below w.heap.size w w') : Sat w' r o := by
  have hlt : ∀ {i j v}, w.cell? ⟨i, j, none⟩ = some v → i < w.heap.size := fun {i j v} h => by
    obtain ⟨c, e, f, hh, _⟩ := cell_block h
    exact (Array.getElem?_eq_some_iff.1 hh).1
  refine ⟨fun i j v e => ?_, fun i j v e => ?_, fun i j x e => ?_, s.dis, s.below.trans (hb.mono s.below.size), s.low⟩
  · have := s.ro i j v e
    rw [hb.cell (p := ⟨i, j, none⟩) (hlt this)]; exact this
  · obtain ⟨h1, h2⟩ := s.val i j v e
    have := hlt h1
    exact ⟨by rw [hb.cell (p := ⟨i, j, none⟩) this]; exact h1, by rw [hb.frozen (p := ⟨i, j, none⟩) this]; exact h2⟩
  · obtain ⟨h0, h1, h2⟩ := s.obj i j x e
    exact ⟨h0, by rw [hb.block i (Array.getElem?_eq_some_iff.1 h1).1]; exact h1, h2⟩
theorem St.grow {w w' : World} {L : List HP} (h : St w L) (hb : Below w.heap.size w w') : St w' L :=
  let ⟨r, o, s, x⟩ := h
  ⟨r, o, s.grow hb, x⟩

/-- What is so of the world at the start, and of each later one. -/
def start (p : World → Prop) : HP := ⟨fun r _ => p r.bs, fun r r' o o' hr _ h => by rw [hr.bs]; exact h⟩
theorem pers_start (p : World → Prop) : Pers (start p) := fun _ _ h => h
/-- Go's two tables for reading runes. -/
def tabsP (g3 g4 : Nat) (w : World) : Prop := Lib.Utf8Tabs g3 g4 w ∧ g3 < w.heap.size ∧ g4 < w.heap.size
def tabs (g3 g4 : Nat) : HP := start (tabsP g3 g4)
theorem pers_tabs (g3 g4 : Nat) : Pers (tabs g3 g4) := pers_start _
theorem tabs_at {g3 g4 : Nat} {w : World} {L : List HP} (h : St w (tabs g3 g4 :: L)) : Lib.Utf8Tabs g3 g4 w := by
  obtain ⟨r, o, s, a, b, d, le, ⟨⟨h1, h2⟩, h3, h4⟩, hL⟩ := h
  have hc : ∀ g c, g < r.bs.heap.size → w.cell? ⟨g, c, none⟩ = r.bs.cell? ⟨g, c, none⟩ := fun g c hg => s.below.cell (p := ⟨g, c, none⟩) hg
  exact ⟨fun c hc' => by rw [hc g3 c h3]; exact h1 c hc', fun i hi => by rw [hc g4 _ h4, hc g4 _ h4]; exact h2 i hi⟩

/-- A contract of the shelf. -/
theorem Does.ofCalls {P : Program} {f : FuncId} {args : List Value} {pers : List HP} {v : Value} (he : ∀ vs w, (callFunc f vs).run P w = .ok (.enter f vs) w) (hp : ∀ A ∈ pers, Pers A)
    (h : ∀ F w, St w (F :: pers) → Calls P f args.toArray w fun e w' => e = .returned v ∧ Below w.heap.size w w') : Does P f args pers [] Unit (fun _ => True) (fun _ => v) (fun _ => []) :=
  ⟨he, hp, fun F w hst => by
    rw [List.append_nil] at hst
    refine (h F w hst).mono ?_
    rintro e w' ⟨rfl, hb⟩
    exact ⟨(), trivial, rfl, (hst.grow hb).ent (Ent.cons ent_nil)⟩⟩
/-- What a contract pays to the shelf. -/
theorem Does.grows {P : Program} {g : Nat} {lb : List Value} {p : Nat → Bool} (h : ∀ x : Nat, x ≤ 1114111 → Does P g (.int .i32 (x : Int) :: lb) [] [] Unit (fun _ => True) (fun _ => .bool (p x)) (fun _ => [])) (w : World) : Go.Proofs.PredGrows P g lb.toArray p w := by
  intro W x hx _
  have := (h x hx).law W (fun A hA => by cases hA)
  have e : #[Go.Proofs.encR x] ++ lb.toArray = (Value.int .i32 (x : Int) :: lb).toArray := by
    simp [Go.Proofs.encR]
  rw [e]; exact this
end Go.Sl
