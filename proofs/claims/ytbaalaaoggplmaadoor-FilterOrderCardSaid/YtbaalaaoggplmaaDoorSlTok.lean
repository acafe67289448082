/- A part of a proof: a walk over the model by a small separation logic. -/
import Derived.Test.YtbaalaaoggplmaaDoorSlMore
/-! Tokens of regions whose order is open. -/
set_option linter.unusedVariables false
set_option linter.unusedSectionVars false
namespace Go.Sl
/-- There is an x of which p tells, and M lies there. -/
def some1 {α : Type} (p : α → Prop) (M : α → List HP) : HP := ex fun x => big (pr (p x) :: M x)
theorem pers_big {M : List HP} (h : ∀ A ∈ M, Pers A) : Pers (big M) := by
  induction M with
  | nil => intro r o _; trivial
  | cons X M ih =>
    rintro r o ⟨p, q, d, le, hX, hM⟩
    have h2 : Pers (big M) := ih fun Y hY => h Y (by simp [hY])
    exact ⟨_, _, fun _ _ => .inl rfl, none_add, h X (by simp) _ _ hX, h2 r q hM⟩
theorem pers_some1 {α : Type} {p : α → Prop} {M : α → List HP} (h : ∀ x, ∀ A ∈ M x, Pers A) : Pers (some1 p M) :=
  pers_ex fun x => pers_big (all_cons (pers_pr _) (h x))
theorem tokAt_pers {S : List OpS} (h : ∀ s ∈ S, ∀ v, Pers (s.tok v)) (j : Nat) (v : Value) : Pers (tokAt S j v) := by
  unfold tokAt
  split
  · rename_i s hs; exact h s (List.mem_of_getElem? hs) v
  · exact pers_pr _
theorem allS_nil {p : OpS → Prop} : ∀ s ∈ ([] : List OpS), p s := fun _ h => by cases h
theorem allS_cons {p : OpS → Prop} {s : OpS} {S : List OpS} (h : p s) (t : ∀ s ∈ S, p s) : ∀ x ∈ s :: S, p x := fun x hx => by
  rcases List.mem_cons.1 hx with rfl | hx
  · exact h
  · exact t x hx
section
variable {P : Program} [tb : Tab P] {rd : Option Nat} {N : Nat} {T : TT} {L L' L1 : List HP} {Q : Post} {ks : List K}
variable {all : Array Oper}
theorem ent_tok {α : Type} {p : α → Prop} {M : α → List HP} {R : List HP} (x : α) (hp : p x) (h : Takes (M x ++ R) L L1) : Ent L (some1 p M :: R) :=
  (ent_prs hp (ent_append_of_takes h)).trans ((big_ent (A := pr (p x) :: M x)).trans (ent_ex (A := fun x => big (pr (p x) :: M x)) x))
theorem SO.tok {ops : List Oper} {α : Type} {p : α → Prop} {M : α → List HP} (hh : Take (some1 p M) L L') (h : ∀ x, p x → SO P rd N all ops T (M x ++ L') ks Q) : SO P rd N all ops T L ks Q := by
  refine SO.openEx (A := fun x => big (pr (p x) :: M x)) hh fun x => ?_
  refine SO.openBig .here ?_
  exact SO.openPr .here (h x)
theorem SK.tok {c : Code} {α : Type} {p : α → Prop} {M : α → List HP} (hh : Take (some1 p M) L L') (h : ∀ x, p x → SK P rd N (.code c :: ks) T (M x ++ L') Q) : SK P rd N (.code c :: ks) T L Q := by
  refine SK.openEx (A := fun x => big (pr (p x) :: M x)) hh fun x => ?_
  refine SK.openBig .here ?_
  exact SK.openPr .here (h x)
theorem takes_app : ∀ {A B : List HP}, Takes A (A ++ B) B
  | [], B => .nil
  | a :: A, B => .cons .here takes_app
theorem ent_inits : ∀ {S : List OpS} (hi : ∀ s ∈ S, s.init = pr True), Ent L (S.map (·.init) ++ L)
  | [], _ => Ent.refl _
  | s :: S, hi => by
    have h1 := ent_inits (S := S) (fun s hs => hi s (by simp [hs]))
    refine h1.trans ?_
    rw [List.map_cons, hi s (by simp)]
    exact ent_pr trivial
theorem SK.regionDag0 {id : Nat} {l : List Oper} {Sh : List HP} (S : List OpS) (T1 : TT) (keep : List Nat) (hm : P.follows .mixedOrders = true) (hT : Sub T T1) (hsh : Takes Sh L L1) (hi : ∀ s ∈ S, s.init = pr True) (hP : ∀ j ∈ sees S, ∀ v, Pers (tokAt S j v)) (hok : dagOk N l S T1 = true) (hE : Each P rd N l S T1 Sh l S)
    (k : ∀ ev : Nat → Value, SK P rd N ks (needT l keep ev ++ T1) (((liveN S l.length).map fun j => tokAt S j (ev j)) ++ (Sh ++ L1)) Q) : SK P rd N (.code (.region id l.toArray true) :: ks) T L Q := by
  refine SK.shift (L' := (Sh ++ S.map (·.init)) ++ L1) (fun F w hst => hst.ent (Ent.cons ?_)) (SK.regionDag S T1 keep hm hT takes_app hP hok hE k)
  have h1 : Ent L (Sh ++ L1) := hsh.ent
  refine h1.trans ?_
  rw [List.append_assoc]
  exact Ent.app (ent_inits hi)
/-- A slice that a value names; its capacity known, or not. -/
def sIn {α : Type} (ρ : Rep α) (n c : Nat) (l : List α) (v : Value) : HP := some1 (fun x : Option Addr => v = .slice x n c) (fun x => [slAt ρ x n l])
def sIn' {α : Type} (ρ : Rep α) (n : Nat) (l : List α) (v : Value) : HP := some1 (fun x : Option Addr × Nat => v = .slice x.1 n x.2) (fun x => [slAt ρ x.1 n l])
theorem pers_sIn {α : Type} {ρ : Rep α} {n c : Nat} {l : List α} {v : Value} : Pers (sIn ρ n c l v) := pers_some1 fun x => all_cons (pers_slAt _ _ _ _) all_nil
theorem pers_sIn' {α : Type} {ρ : Rep α} {n : Nat} {l : List α} {v : Value} : Pers (sIn' ρ n l v) := pers_some1 fun x => all_cons (pers_slAt _ _ _ _) all_nil
end
end Go.Sl
