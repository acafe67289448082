/- A part of a proof: a walk over the model by a small separation logic. -/
import Derived.Test.YtbaalaaoggplmaaDoorSlOps2
/-! Opening and shutting of what is hidden. -/
set_option linter.unusedVariables false
set_option linter.unusedSectionVars false
namespace Go.Sl
section
variable {P : Program} [tb : Tab P] {rd : Option Nat} {N : Nat} {T : TT} {L L' L1 : List HP} {Q : Post} {ks : List K}
variable {all : Array Oper} {rest : List Oper}

theorem SK.openEx {c : Code} {α : Type} {A : α → HP} (hh : Take (ex A) L L') (h : ∀ x, SK P rd N (.code c :: ks) T (A x :: L') Q) : SK P rd N (.code c :: ks) T L Q := by
  rw [SK_code]
  intro F a w ok
  obtain ⟨D, h1, h2⟩ := ok.mem
  obtain ⟨x, h3⟩ := St.ex (h2.ent ((Ent.cons hh.ent).trans Ent.swap))
  exact SK_code.1 (h x) F a w ⟨ok.size, ok.get, D, h1, h3.ent Ent.swap⟩
theorem SK.openBig {c : Code} {M : List HP} (hh : Take (big M) L L') (h : SK P rd N (.code c :: ks) T (M ++ L') Q) : SK P rd N (.code c :: ks) T L Q :=
  SK.shift (fun F w hst => hst.ent (Ent.cons (hh.ent.trans ent_big))) h
theorem SO.know {o : Oper} {p : Prop} (h : ∀ r o, seps L r o → p) (k : p → SO P rd N all (o :: rest) T L ks Q) : SO P rd N all (o :: rest) T L ks Q := by
  intro F a w ok
  obtain ⟨D, hD, r, o, s, x, y, d, le, _, hL⟩ := ok.mem
  exact k (h r y hL) F a w ok
theorem has_pr {p : Prop} (h : Has (pr p) L) (r : Ro) (o : Own) (hs : seps L r o) : p := by
  obtain ⟨x, y, _, _, hA, _⟩ := h.ent (pers_pr p) r o hs
  exact hA
theorem ent_close {α : Type} {A : α → HP} {M R : List HP} (x : α) (hA : A x = big M) (h : Takes (M ++ R) L L1) : Ent L (ex A :: R) := by
  refine (ent_append_of_takes h).trans ((big_ent).trans ?_)
  rw [← hA]; exact ent_ex x
theorem ent_prs {p : Prop} {R : List HP} (hp : p) (h : Ent L R) : Ent L (pr p :: R) := h.trans (ent_pr hp)
theorem ent_closeR {α : Type} {A : α → HP} {M R : List HP} (x : α) (hA : A x = big M) (h : Takes (M ++ R) L L1) : Ent L (ex A :: (R ++ L1)) := by
  refine h.ent.trans ?_
  rw [List.append_assoc]
  refine (big_ent).trans ?_
  rw [← hA]; exact ent_ex x
theorem hasAll_there {As : List HP} {B : HP} (h : HasAll As L) : HasAll As (B :: L) := by
  induction h with
  | nil => exact .nil
  | cons h _ ih => exact .cons (.there h) ih
theorem hasAll_app : ∀ {As M : List HP}, HasAll As (As ++ M)
  | [], M => .nil
  | A :: As, M => .cons .here (hasAll_there hasAll_app)
theorem SO.shift {ops : List Oper} (hs : ∀ F w, St w (F :: L) → St w (F :: L')) (h : SO P rd N all ops T L' ks Q) : SO P rd N all ops T L ks Q :=
  fun F a w ok => h F a w ⟨ok.size, ok.get, let ⟨D, h1, h2⟩ := ok.mem; ⟨D, h1, hs _ _ h2⟩⟩
theorem SO.openEx {ops : List Oper} {α : Type} {A : α → HP} (hh : Take (ex A) L L') (h : ∀ x, SO P rd N all ops T (A x :: L') ks Q) : SO P rd N all ops T L ks Q := by
  intro F a w ok
  obtain ⟨D, h1, h2⟩ := ok.mem
  obtain ⟨x, h3⟩ := St.ex (h2.ent ((Ent.cons hh.ent).trans Ent.swap))
  exact h x F a w ⟨ok.size, ok.get, D, h1, h3.ent Ent.swap⟩
theorem SO.openBig {ops : List Oper} {M : List HP} (hh : Take (big M) L L') (h : SO P rd N all ops T (M ++ L') ks Q) : SO P rd N all ops T L ks Q :=
  SO.shift (fun F w hst => hst.ent (Ent.cons (hh.ent.trans ent_big))) h
theorem SO.openPr {ops : List Oper} {p : Prop} (hh : Take (pr p) L L') (h : p → SO P rd N all ops T L' ks Q) : SO P rd N all ops T L ks Q := by
  intro F a w ok
  obtain ⟨D, h1, h2⟩ := ok.mem
  obtain ⟨hp, h3⟩ := St.pr (h2.ent ((Ent.cons hh.ent).trans Ent.swap))
  exact h hp F a w ⟨ok.size, ok.get, D, h1, h3⟩
theorem SK.openPr {c : Code} {p : Prop} (hh : Take (pr p) L L') (h : p → SK P rd N (.code c :: ks) T L' Q) : SK P rd N (.code c :: ks) T L Q := by
  rw [SK_code]
  intro F a w ok
  obtain ⟨D, h1, h2⟩ := ok.mem
  obtain ⟨hp, h3⟩ := St.pr (h2.ent ((Ent.cons hh.ent).trans Ent.swap))
  exact SK_code.1 (h hp) F a w ⟨ok.size, ok.get, D, h1, h3⟩
theorem SK.recast {c : Code} {b off : Nat} {vs vs' : List Value} (hh : Take (pts b off vs) L L') (e : vs = vs') (h : SK P rd N (.code c :: ks) T (pts b off vs' :: L') Q) : SK P rd N (.code c :: ks) T L Q :=
  SK.shift (fun F w hst => by subst e; exact hst.ent (Ent.cons hh.ent)) h

/-- The atoms of some. -/
def allAtoms {α : Type} (ρ : Rep α) : List (α × ρ.V) → List HP
  | [] => []
  | (x, h) :: z => ρ.atoms x h ++ allAtoms ρ z
theorem ent_memA {α : Type} {ρ : Rep α} {z : List (α × ρ.V)} (h : HasAll (allAtoms ρ z) L) : Ent L (memA ρ z :: L) := by
  have hp : ∀ (z : List (α × ρ.V)), ∀ A ∈ allAtoms ρ z, Pers A := by
    intro z
    induction z with
    | nil => intro A h; cases h
    | cons p z ih =>
      obtain ⟨x, h⟩ := p
      intro A hA
      simp only [allAtoms, List.mem_append] at hA
      rcases hA with hA | hA
      · exact ρ.pers x h A hA
      · exact ih A hA
  refine (h.ent (hp z)).trans ?_
  refine big_ent.trans ?_
  intro r o hs
  obtain ⟨a, b, d, le, hA, hL⟩ := hs
  refine ⟨a, b, d, le, ?_, hL⟩
  have : ∀ (z : List (α × ρ.V)) (a : Own), seps (allAtoms ρ z) r a → memS ρ z r := by
    intro z
    induction z with
    | nil => intro a _ i x h e; simp at e
    | cons p z ih =>
      obtain ⟨y, hy⟩ := p
      intro a hs i x h e
      have hs2 := ent_big r a (big_ent (A := ρ.atoms y hy) (L := allAtoms ρ z) r a hs)
      obtain ⟨a1, a2, d, le, h1, h2⟩ := big_ent (A := ρ.atoms y hy) (L := allAtoms ρ z) r a hs
      cases i with
      | zero =>
        simp at e; obtain ⟨rfl, rfl⟩ := e
        have : ∀ (M : List HP) (o : Own), (∀ X ∈ M, Pers X) → seps M r o → seps M r (fun _ _ => none) := by
          intro M
          induction M with
          | nil => intros; trivial
          | cons X M ih =>
            rintro o hp ⟨p, q, d, le, hX, hM⟩
            exact ⟨_, _, fun _ _ => .inl rfl, none_add, hp X (by simp) _ _ hX, ih q (fun Y hY => hp Y (by simp [hY])) hM⟩
        exact this _ a1 (ρ.pers y hy) h1
      | succ i => exact ih a2 h2 i x h (by simpa using e)
  exact this z a hA
/-- Cells of one's own become a slice that all may read. -/
theorem toSl {α : Type} {ρ : Rep α} {b n : Nat} {cs : List Value} {l : List α} (z : List (α × ρ.V)) (hh : Take (pts b 0 cs) L L') (hz : z.map (·.1) = l) (hc : flat ρ z = cs) (hn : n = l.length) (hl : Nat.ble n lim = true) (ha : HasAll (allAtoms ρ z) L') (F : HP) (w : World) (hst : St w (F :: L)) :
    St w (F :: slAt ρ (some ⟨b, 0, none⟩) n l :: L') := by
  have h1 : St w (pts b 0 cs :: F :: L') := hst.ent ((Ent.cons hh.ent).trans Ent.swap)
  have h2 := h1.publish
  subst hc
  have h3 : St w (rod b 0 (flat ρ z) :: memA ρ z :: F :: L') := h2.ent (Ent.cons ((Ent.cons (ent_memA ha)).trans Ent.swap))
  have := h3.ent (sl_shut (a := ⟨b, 0, none⟩) hn (Nat.le_of_ble_eq_true hl) rfl hz)
  exact this.ent Ent.swap
theorem ent_nil : Ent L [] := fun _ _ _ => trivial
end
end Go.Sl
