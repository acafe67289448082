/- A part of a proof: a walk over the model by a small separation logic. -/
import Derived.Test.YtbaalaaoggplmaaDoorLib1
import Derived.Laws.StructEq
import Derived.KernelRfl
import Derived.Lib.Overlaps
import Derived.Laws.Externs
import GoSem.Extern.MapsClone
/-! The rules of regions of open order with a chain. -/
set_option linter.unusedVariables false
set_option linter.unusedSectionVars false
set_option linter.unusedSimpArgs false
namespace Go.Sl
section
variable (P : Program) (rd : Option Nat) (N : Nat)
/-- 'B': what is read alone, by any of them; 'E': what the chain has. -/
def SX (all : Array Oper) (its : XO) (T : TT) (B E : List HP) (ks : List K) (Q : Post) : Prop :=
  ∀ (G : HP) (r : Ro) (oB : Own) (a : Act) (w : World), seps (G :: B) r oB → Ok (pin r oB) N T E a w → wpX P rd all (lift G N (postK P rd N ks Q)) its (fun w => Sat w r oB) a w
/-- Just behind a link. -/
def SY (all : Array Oper) (its : XO) (T : TT) (B E : List HP) (ks : List K) (Q : Post) : Prop :=
  ∀ (G : HP) (r : Ro) (oB : Own) (a : Act) (w : World), seps (G :: B) r oB → Ok (pin r oB) N T E a w → ∃ C : World → Prop, C w ∧ (∀ u, C u → Sat u r oB) ∧ wpX P rd all (lift G N (postK P rd N ks Q)) its C a w
end
/-- The second list is what the first one tells for good. -/
inductive PersSub : List HP → List HP → Prop
  | nil : PersSub [] []
  | keep {A : HP} {L M : List HP} (h : Pers A) (t : PersSub L M) : PersSub (A :: L) (A :: M)
  | skip {A : HP} {L M : List HP} (t : PersSub L M) : PersSub (A :: L) M
/-- Without some that are told for good. -/
inductive DropP : List HP → List HP → Prop
  | nil : DropP [] []
  | skip {A : HP} {L M : List HP} (h : Pers A) (t : DropP L M) : DropP (A :: L) M
  | keep {A : HP} {L M : List HP} (t : DropP L M) : DropP (A :: L) (A :: M)
theorem PersSub.s {α : Type} {ρ : Rep α} {A : Option Addr} {n : Nat} {l : List α} {L M : List HP} (t : PersSub L M) : PersSub (slAt ρ A n l :: L) (slAt ρ A n l :: M) := .keep (pers_slAt _ _ _ _) t
theorem PersSub.t {g h : Nat} {L M : List HP} (t : PersSub L M) : PersSub (tabs g h :: L) (tabs g h :: M) := .keep (pers_tabs _ _) t
theorem PersSub.p {p : Prop} {L M : List HP} (t : PersSub L M) : PersSub (pr p :: L) (pr p :: M) := .keep (pers_pr _) t
theorem PersSub.r {b off : Nat} {vs : List Value} {L M : List HP} (t : PersSub L M) : PersSub (rod b off vs :: L) (rod b off vs :: M) := .keep (pers_rod _ _ _) t
theorem DropP.s {α : Type} {ρ : Rep α} {A : Option Addr} {n : Nat} {l : List α} {L M : List HP} (t : DropP L M) : DropP (slAt ρ A n l :: L) M := .skip (pers_slAt _ _ _ _) t
theorem DropP.t {g h : Nat} {L M : List HP} (t : DropP L M) : DropP (tabs g h :: L) M := .skip (pers_tabs _ _) t
theorem DropP.p {p : Prop} {L M : List HP} (t : DropP L M) : DropP (pr p :: L) M := .skip (pers_pr _) t
theorem DropP.r {b off : Nat} {vs : List Value} {L M : List HP} (t : DropP L M) : DropP (rod b off vs :: L) M := .skip (pers_rod _ _ _) t
theorem DropP.ent {L M : List HP} (h : DropP L M) : Ent L M := by
  induction h with
  | nil => exact Ent.refl _
  | skip _ _ ih => exact Ent.drop.trans ih
  | keep _ ih => exact Ent.cons ih
theorem PersSub.all {L M : List HP} (h : PersSub L M) : ∀ A ∈ M, Pers A := by
  induction h with
  | nil => intro A h; cases h
  | keep h _ ih => exact all_cons h ih
  | skip _ ih => exact ih
theorem PersSub.told {L M : List HP} (h : PersSub L M) : ∀ {r : Ro} {o : Own}, seps L r o → ∀ A ∈ M, A.h r own0 := by
  induction h with
  | nil => intro r o _ A h; cases h
  | keep hp _ ih =>
    rintro r o ⟨a, b, d, le, hA, hL⟩
    exact all_cons (hp r a hA) (ih hL)
  | skip _ ih =>
    rintro r o ⟨a, b, d, le, hA, hL⟩
    exact ih hL
theorem seps_more {M B : List HP} {r : Ro} {o : Own} (hM : ∀ A ∈ M, A.h r own0) (h : seps B r o) : seps (M ++ B) r o := by
  induction M with
  | nil => exact h
  | cons A M ih => exact ⟨own0, o, fun _ _ => .inl rfl, none_add, hM A (by simp), ih fun C hC => hM C (by simp [hC])⟩
theorem sat_le {w : World} {r r' : Ro} {o : Own} (h : r.le r') (s : Sat w r' o) : Sat w r o :=
  ⟨fun i j v e => s.ro _ _ _ (h.le _ _ _ e), s.val, s.obj, fun i j v c e e' => s.dis _ _ _ _ (h.le _ _ _ e) e', h.bs ▸ s.below, fun i j c e => h.bs ▸ s.low i j c e, s.pl⟩

section
variable {P : Program} [tb : Tab P] {rd : Option Nat} {N : Nat} {T : TT} {B E E' L M : List HP} {Q : Post} {ks : List K}
variable {all : Array Oper} {rest : XO} {o : Oper}

theorem ok_unpin {G : HP} {r : Ro} {oB : Own} {a : Act} {w : World} (hs : seps (G :: B) r oB) (ok : Ok (pin r oB) N T E a w) : Ok G N T (E ++ B) a w := by
  obtain ⟨h1, h2, D, hD, hst⟩ := ok
  refine ⟨h1, h2, D, hD, ?_⟩
  have h3 : St w (pin r oB :: (D.map mkA ++ E)) := hst.ent (ent_big (A := pin r oB :: D.map mkA))
  have h4 := pin_swap h3 hs
  refine h4.ent ?_
  refine (ent_big (A := G :: B)).trans ?_
  have e1 : Ent (B ++ (D.map mkA ++ E)) ((D.map mkA ++ E) ++ B) := ent_app_comm
  rw [List.append_assoc] at e1
  exact (Ent.cons e1).trans (big_ent (A := G :: D.map mkA))
theorem ok_sat {r : Ro} {oB : Own} {a : Act} {w : World} (ok : Ok (pin r oB) N T E a w) : Sat w r oB := by
  obtain ⟨h1, h2, D, hD, hst⟩ := ok
  exact pin_sat (hst.ent (ent_big (A := pin r oB :: D.map mkA)))

theorem SX.nil (hd : DropP E E') (h : SK P rd N ks T (E' ++ B) Q) : SX P rd N all .nil T B E ks Q := fun G r oB a w hs ok => by
  have := ok_unpin hs (ok.ent hd.ent)
  exact ⟨T, E' ++ B, this, h⟩
def all2 : XO → Bool
  | .nil => true
  | .item k _ t => Nat.beq k 2 && all2 t
  | .fork _ _ => false
def opsX : XO → List Oper
  | .nil => []
  | .item _ o t => o :: opsX t
  | .fork _ _ => []
theorem SX.tail {its : XO} (hk : all2 its = true) (hd : DropP E E') (h : SO P rd N all (opsX its) T (E' ++ B) ks Q) : SX P rd N all its T B E ks Q := by
  intro G r oB a w hs ok
  have h1 := h G a w (ok_unpin hs (ok.ent hd.ent))
  have h2 := ok_sat ok
  have key : ∀ (its : XO) (C : World → Prop) (a : Act) (w : World), all2 its = true → wpListIn (FW rd) 0 P all (lift G N (postK P rd N ks Q)) (opsX its) a w → wpX P rd all (lift G N (postK P rd N ks Q)) its C a w := by
    intro its
    induction its with
    | nil => intro C a w _ h; simpa [wpX, wpListIn, opsX] using h
    | fork _ _ _ _ => intro C a w h; cases h
    | item k o its ih =>
      intro C a w hk h
      simp only [all2, Bool.and_eq_true] at hk
      obtain rfl : k = 2 := Nat.eq_of_beq_eq_true hk.1
      simp only [opsX, wpListIn] at h
      simp only [wpX]
      split
      · rename_i hw
        rw [if_pos hw] at h
        exact Oper.wpIn_mono (fun a' w' h' => ⟨fun _ => True, trivial, by simp, ih _ a' w' hk.2 h'⟩) h
      · rename_i hw
        rw [if_neg hw] at h
        exact ih _ _ _ hk.2 h.2
  exact key its _ a w hk h1
/-- Either may come. -/
theorem SX.fork {x y : XO} (h1 : SX P rd N all x T B E ks Q) (h2 : SX P rd N all y T B E ks Q) : SX P rd N all (.fork x y) T B E ks Q := fun G r oB a w hs ok => ⟨h1 G r oB a w hs ok, h2 G r oB a w hs ok⟩
theorem SY.go (h : SX P rd N all rest T B E ks Q) : SY P rd N all rest T B E ks Q := fun G r oB a w hs ok => ⟨fun w => Sat w r oB, ok_sat ok, fun _ h => h, h G r oB a w hs ok⟩
/-- What is told for good is told to the readers, too. -/
theorem SY.share {X X' : List HP} (hX : PersSub X X') (h : SY P rd N all rest T (X' ++ B) (X ++ E) ks Q) : SY P rd N all rest T B (X ++ E) ks Q := by
  intro G r oB a w hs ok
  obtain ⟨h1, h2, D, hD, hst⟩ := ok
  have h3 : St w (pin r oB :: (D.map mkA ++ (X ++ E))) := hst.ent (ent_big (A := pin r oB :: D.map mkA))
  have e1 := ent_app_comm (A := D.map mkA) (B := X ++ E)
  rw [List.append_assoc] at e1
  obtain ⟨r', o', s, x, y, d, le, ⟨hr, ho⟩, hy⟩ := h3.ent (Ent.cons e1)
  have hX0 : seps X r' y := by
    have : ∀ (X R : List HP) (r : Ro) (y : Own), seps (X ++ R) r y → seps X r y := by
      intro X R
      induction X with
      | nil => intros; trivial
      | cons A X ih => rintro r y ⟨a1, b1, d1, le1, hA, hL⟩; exact ⟨a1, b1, d1, le1, hA, ih _ _ hL⟩
    exact this _ _ _ _ hy
  have htold := hX.told hX0
  have hs' : seps (G :: (X' ++ B)) r' oB := by
    obtain ⟨a1, b1, d1, le1, hG, hB⟩ := seps_up hr (Own.le_refl _) hs
    exact ⟨a1, b1, d1, le1, hG, seps_more htold hB⟩
  have hst' : St w (pin r' oB :: (X ++ (E ++ D.map mkA))) := ⟨r', o', s, x, y, d, le, ⟨Ro.le_refl _, ho⟩, hy⟩
  have e2 := ent_app_comm (A := X ++ E) (B := D.map mkA)
  rw [List.append_assoc] at e2
  obtain ⟨C, hC, hCC, hwp⟩ := h G r' oB a w hs' ⟨h1, h2, D, hD, (hst'.ent (Ent.cons e2)).ent (big_ent (A := pin r' oB :: D.map mkA))⟩
  exact ⟨C, hC, fun u hu => sat_le hr (hCC u hu), hwp⟩
theorem SY.shareGo {X X' : List HP} (hX : PersSub X X') (h : SX P rd N all rest T (X' ++ B) (X ++ E) ks Q) : SY P rd N all rest T B (X ++ E) ks Q := SY.share hX (SY.go h)
/-- What the readers are told for good is told to the chain, too. -/
theorem SX.copy {M : List HP} {its : XO} (hM : ∀ A ∈ M, Pers A) (h : SX P rd N all its T (M ++ B) (M ++ E) ks Q) : SX P rd N all its T (M ++ B) E ks Q := by
  intro G r oB a w hs ok
  refine h G r oB a w hs ?_
  obtain ⟨h1, h2, D, hD, hst⟩ := ok
  refine ⟨h1, h2, D, hD, ?_⟩
  have htold : ∀ A ∈ M, A.h r own0 := by
    obtain ⟨_, y, _, _, _, hB⟩ := hs
    clear h hst
    revert hM hB
    generalize y = z
    induction M generalizing z with
    | nil => intro _ _ A hA; cases hA
    | cons A M ih =>
      rintro hM ⟨a1, b1, _, _, hA, hB⟩
      exact all_cons (hM A (by simp) r a1 hA) (ih b1 (fun C hC => hM C (by simp [hC])) hB)
  have h3 : St w (pin r oB :: (D.map mkA ++ E)) := hst.ent (ent_big (A := pin r oB :: D.map mkA))
  obtain ⟨r', o', s, x, y, d, le, ⟨hr, ho⟩, hy⟩ := h3
  have hy2 : seps (M ++ (D.map mkA ++ E)) r' y := seps_more (fun A hA => A.up _ _ _ _ hr (Own.le_refl _) (htold A hA)) hy
  have h4 : St w (pin r oB :: (M ++ (D.map mkA ++ E))) := ⟨r', o', s, x, y, d, le, ⟨hr, ho⟩, hy2⟩
  refine h4.ent ?_
  have e1 : Ent (M ++ (D.map mkA ++ E)) (D.map mkA ++ (M ++ E)) := by
    have h5 := ent_app_comm (A := M) (B := D.map mkA ++ E)
    rw [List.append_assoc] at h5
    exact h5.trans (Ent.app ent_app_comm)
  exact (Ent.cons e1).trans (big_ent (A := pin r oB :: D.map mkA))
theorem SY.ent (e : Ent E E') (h : SY P rd N all rest T B E' ks Q) : SY P rd N all rest T B E ks Q := fun G r oB a w hs ok => h G r oB a w hs (ok.ent e)
theorem SY.shift (hs : ∀ F w, St w (F :: E) → St w (F :: E')) (h : SY P rd N all rest T B E' ks Q) : SY P rd N all rest T B E ks Q := fun G r oB a w hs' ok =>
  h G r oB a w hs' ⟨ok.size, ok.get, let ⟨D, h1, h2⟩ := ok.mem; ⟨D, h1, hs _ _ h2⟩⟩
theorem SY.setT (T' : TT) (hT : Sub T T') (h : SY P rd N all rest T' B E ks Q) : SY P rd N all rest T B E ks Q := fun G r oB a w hs ok => h G r oB a w hs (ok.sub hT)
theorem SX.setT (T' : TT) (hT : Sub T T') (h : SX P rd N all rest T' B E ks Q) : SX P rd N all rest T B E ks Q := fun G r oB a w hs ok => h G r oB a w hs (ok.sub hT)
theorem SY.know {p : Prop} (hp : ∀ r o, seps E r o → p) (k : p → SY P rd N all rest T B E ks Q) : SY P rd N all rest T B E ks Q := fun G r oB a w hs ok => by
  obtain ⟨D, hD, r', o', s, x, y, d, le, _, hL⟩ := ok.mem
  exact k (hp r' y hL) G r oB a w hs ok
theorem SY.openPr {p : Prop} (hh : Take (pr p) E E') (h : p → SY P rd N all rest T B E' ks Q) : SY P rd N all rest T B E ks Q := fun G r oB a w hs ok => by
  obtain ⟨D, hD, r', o', s, x, y, d, le, _, hL⟩ := ok.mem
  obtain ⟨_, _, _, _, hp, _⟩ := hh.ent r' y hL
  exact h hp G r oB a w hs (ok.ent hh.drop)
theorem wpIn_swap {o : Oper} {a : Act} {w : World} {K K' : Act → World → Prop} {Q1 Q2 : Exit → Act → World → Prop} (hn : notDefer o.op = true) (hQ : ∀ c a w, Q1 (.panic c) a w → False) (hO : LetsOut Q1 → False) (hK : ∀ a w, K a w → K' a w) (h : o.wpIn (FW rd) 0 P a w K Q1) : o.wpIn (FW rd) 0 P a w K' Q2 := by
  unfold Oper.wpIn at *
  refine ⟨fun _ _ => trivial, ?_⟩
  have h := h.2
  rw [Oper.semAt_eq _ _ _ (notDefer_spec hn)] at h ⊢
  generalize (execOp a.eval o).run P w = r at *
  cases r with
  | ok x w' =>
    cases x <;> simp only [Oper.uponIn] at h ⊢
    case value u => exact hK _ _ h
    case skip => exact hK _ _ h
    case defer d => exact hK _ _ h
    case enter f args =>
      refine ⟨h.1, CallsIn.mono h.2 fun e w'' he => ?_⟩
      cases e with
      | returned u => exact hK _ _ he
      | panicked c => exact (hQ _ _ _ he).elim
      | outgrown => exact (hO he).elim
    case row row args => exact ⟨h.1, RowsIn.mono h.2 fun u w'' he => hK _ _ he⟩
    case round l f tmps assign body =>
      refine ⟨h.1, RoundIn.mono h.2 fun e w'' he => ?_⟩
      cases e with
      | returned u => exact hK _ _ he
      | panicked c => exact (hQ _ _ _ he).elim
      | outgrown => exact (hO he).elim
  | halt x w' =>
    cases x <;> simp only [Oper.uponIn] at h ⊢
    case panic u => exact (hQ _ _ _ h).elim
/-- A link of the chain: as anywhere. -/
theorem SX.step {k : Nat} (hg : o.guard = none) (hn : notDefer o.op = true) (h : SO P rd N all [o] T E [.inv fun T' E' => SY P rd N all rest T' B E' ks Q] (fun _ _ _ => False)) : SX P rd N all (.item (k + 1) o rest) T B E ks Q := by
  intro G r oB a w hs ok
  have h1 := h (pin r oB) a w ok
  simp only [wpListIn, wpX, Region.wanted, hg, if_true] at h1 ⊢
  refine wpIn_swap hn ?_ ?_ ?_ h1
  · rintro c a' w' ⟨T', L', _, hq⟩; exact hq.elim
  · rintro ⟨a', w', T', L', _, hq⟩; exact hq.elim
  · rintro a' w' ⟨T', E', ok', hq⟩
    simp only [postK] at hq
    rw [SK] at hq
    obtain ⟨C, hC, hCC, hwp⟩ := hq G r oB a' w' hs ok'
    exact ⟨C, hC, .inr hCC, hwp⟩
theorem SK.invY {ks' : List K} {Q0 : Post} (h : SY P rd N all rest T B E ks Q) : SK P rd N (.inv (fun T' E' => SY P rd N all rest T' B E' ks Q) :: ks') T E Q0 := SK.inv h
theorem SX.reads {R : Value → List HP → Prop} (hr : Reads P T B o R) (hg : o.guard = none) (hd : dstOk N o.dst = true)
    (h : ∀ v B', R v B' → SX P rd N all rest (putD o.dst v T) B' E ks Q) : SX P rd N all (.item 0 o rest) T B E ks Q := by
  intro G r oB a w hs ok
  obtain ⟨v, B', hR, hs', hrun⟩ := hr a.eval ok.knows r oB G hs
  simp only [wpX, Region.wanted, hg, if_true]
  exact ⟨v, hrun, h v B' hR G r oB _ w hs' (ok.putD hd v)⟩
theorem SX.guard {k : Nat} {j : Nat} {want : Bool} {t : Nat} {β : Bool} {dst : Option Tmp} {op : Op} {ty : TypeId} {pos : String} {aft : Array Edge}
    (hj : (all[j]?).bind (·.dst) = some t) (ht : T.get t = some (.bool β)) (hd : dstOk N dst = true)
    (yes : β = want → SX P rd N all (.item k ⟨dst, op, ty, pos, aft, none⟩ rest) ((t, .bool want) :: T) B E ks Q)
    (no : β = !want → SX P rd N all rest (putD dst undef ((t, .bool (!want)) :: T)) B E ks Q) : SX P rd N all (.item k ⟨dst, op, ty, pos, aft, some (j, want)⟩ rest) T B E ks Q := by
  intro G r oB a w hs ok
  have hy : yielded all a.tmps j = some β := by
    simp only [yielded, hj, Option.bind_some, ok.get _ _ ht]
  by_cases hb : β = want
  · have hw : Region.wanted (⟨dst, op, ty, pos, aft, some (j, want)⟩ : Oper) (yielded all a.tmps) = true := by simp [Region.wanted, hy, hb]
    have h2 := yes hb G r oB a w hs (ok.know (hb ▸ ht))
    simp only [wpX, hw, if_true]
    simp only [wpX, Region.wanted, if_true] at h2
    exact h2
  · have hw : Region.wanted (⟨dst, op, ty, pos, aft, some (j, want)⟩ : Oper) (yielded all a.tmps) = false := by simp [Region.wanted, hy, hb]
    have hb' : β = !want := by cases β <;> cases want <;> simp_all
    simp only [wpX, hw]
    exact no hb' G r oB _ w hs ((ok.know (hb' ▸ ht)).putD hd undef)
theorem SX.guardY {k : Nat} {j : Nat} {want : Bool} {t : Nat} {dst : Option Tmp} {op : Op} {ty : TypeId} {pos : String} {aft : Array Edge}
    (hj : (all[j]?).bind (·.dst) = some t) (ht : T.get t = some (.bool want))
    (yes : SX P rd N all (.item k ⟨dst, op, ty, pos, aft, none⟩ rest) T B E ks Q) : SX P rd N all (.item k ⟨dst, op, ty, pos, aft, some (j, want)⟩ rest) T B E ks Q := by
  intro G r oB a w hs ok
  have hy : yielded all a.tmps j = some want := by
    simp only [yielded, hj, Option.bind_some, ok.get _ _ ht]
  have hw : Region.wanted (⟨dst, op, ty, pos, aft, some (j, want)⟩ : Oper) (yielded all a.tmps) = true := by simp [Region.wanted, hy]
  have h2 := yes G r oB a w hs ok
  simp only [wpX, hw, if_true]
  simp only [wpX, Region.wanted, if_true] at h2
  exact h2
theorem SX.guardN {k : Nat} {j : Nat} {want : Bool} {t : Nat} {dst : Option Tmp} {op : Op} {ty : TypeId} {pos : String} {aft : Array Edge}
    (hj : (all[j]?).bind (·.dst) = some t) (ht : T.get t = some (.bool (!want))) (hd : dstOk N dst = true)
    (no : SX P rd N all rest (putD dst undef T) B E ks Q) : SX P rd N all (.item k ⟨dst, op, ty, pos, aft, some (j, want)⟩ rest) T B E ks Q := by
  intro G r oB a w hs ok
  have hy : yielded all a.tmps j = some (!want) := by
    simp only [yielded, hj, Option.bind_some, ok.get _ _ ht]
  have hw : Region.wanted (⟨dst, op, ty, pos, aft, some (j, want)⟩ : Oper) (yielded all a.tmps) = false := by simp [Region.wanted, hy]
  simp only [wpX, hw]
  exact no G r oB _ w hs (ok.putD hd undef)
theorem SX.guardU {k : Nat} {j : Nat} {want : Bool} {t : Nat} {v : Value} {dst : Option Tmp} {op : Op} {ty : TypeId} {pos : String} {aft : Array Edge}
    (hj : (all[j]?).bind (·.dst) = some t) (ht : T.get t = some v) (hv : noBool v = true) (hd : dstOk N dst = true)
    (no : SX P rd N all rest (putD dst undef T) B E ks Q) : SX P rd N all (.item k ⟨dst, op, ty, pos, aft, some (j, want)⟩ rest) T B E ks Q := by
  intro G r oB a w hs ok
  have hy := yield_none hj (ok.get _ _ ht) hv
  have hw : Region.wanted (⟨dst, op, ty, pos, aft, some (j, want)⟩ : Oper) (yielded all a.tmps) = false := by simp [Region.wanted, hy]
  simp only [wpX, hw]
  exact no G r oB _ w hs (ok.putD hd undef)
theorem SX.guardYP {k : Nat} {j : Nat} {want : Bool} {t : Nat} {β : Bool} {dst : Option Tmp} {op : Op} {ty : TypeId} {pos : String} {aft : Array Edge}
    (hj : (all[j]?).bind (·.dst) = some t) (ht : T.get t = some (.bool β)) (hb : β = want)
    (yes : SX P rd N all (.item k ⟨dst, op, ty, pos, aft, none⟩ rest) ((t, .bool want) :: T) B E ks Q) : SX P rd N all (.item k ⟨dst, op, ty, pos, aft, some (j, want)⟩ rest) T B E ks Q := by
  subst hb
  exact fun G r oB a w hs ok => (SX.guardY (T := (t, .bool β) :: T) hj (by rw [TT.get_cons, if_pos rfl]) yes) G r oB a w hs (ok.know ht)
theorem SX.guardNP {k : Nat} {j : Nat} {want : Bool} {t : Nat} {β : Bool} {dst : Option Tmp} {op : Op} {ty : TypeId} {pos : String} {aft : Array Edge}
    (hj : (all[j]?).bind (·.dst) = some t) (ht : T.get t = some (.bool β)) (hd : dstOk N dst = true) (hb : β = !want)
    (no : SX P rd N all rest (putD dst undef ((t, .bool (!want)) :: T)) B E ks Q) : SX P rd N all (.item k ⟨dst, op, ty, pos, aft, some (j, want)⟩ rest) T B E ks Q := by
  subst hb
  exact fun G r oB a w hs ok => (SX.guardN (T := (t, .bool (!want)) :: T) hj (by rw [TT.get_cons, if_pos rfl]) hd no) G r oB a w hs (ok.know ht)
/-- **A region of open order with a chain.** 'Ps': what is told for good, for the chain too; 'Own0': what the chain has. -/
theorem SK.regionX {l : List Oper} {L0 Ps : List HP} (id : Nat) (ord : XT) (E0 : List HP) (hE : Takes E0 L L0) (hP : PersSub L0 Ps) (hm : P.follows .mixedOrders = true) (hok : canOk N l ord = true) (hnp : ∀ c T L, Q (.panic c) T L → False)
    (h : SX P rd N l.toArray (pickK l ord) T L0 (E0 ++ Ps) ks Q) : SK P rd N (.code (.region id l.toArray true) :: ks) T L Q := by
  rw [SK_code]
  intro G a0 w ok
  simp only [canOk, Bool.and_eq_true] at hok
  obtain ⟨⟨⟨hok1, hok2⟩, hok3⟩, hok4⟩ := hok
  obtain ⟨D, hD, hst⟩ := ok.mem
  -- what the readers have is laid apart
  have h1 : St w (D.map mkA ++ (E0 ++ (G :: L0))) := by
    have h2 : St w ((G :: D.map mkA) ++ L) := hst.ent (ent_big (A := G :: D.map mkA))
    have h3 : St w ((G :: D.map mkA) ++ (E0 ++ L0)) := h2.ent (Ent.app hE.ent)
    refine h3.ent ?_
    have e1 := ent_app_comm (A := [G]) (B := D.map mkA ++ (E0 ++ L0))
    simp only [List.append_assoc, List.cons_append, List.nil_append] at e1 ⊢
    refine e1.trans (Ent.app (Ent.app ?_))
    exact (ent_app_comm (A := L0) (B := [G])).trans (Ent.refl _)
  obtain ⟨r, oo, s, hs⟩ := h1
  have hsplit : ∀ (A B : List HP) (r : Ro) (o : Own), seps (A ++ B) r o → ∃ x y, Own.disj x y ∧ Own.le (x.add y) o ∧ seps A r x ∧ seps B r y := by
    intro A B r
    induction A with
    | nil => intro o h; exact ⟨own0, o, fun _ _ => .inl rfl, none_add, trivial, h⟩
    | cons A As ih =>
      rintro o ⟨p, q, d, le, hA, hq⟩
      have := (big_ent (A := A :: As) (L := B)) r o ⟨p, q, d, le, hA, hq⟩
      obtain ⟨x, y, d', le', hx, hy⟩ := this
      exact ⟨x, y, d', le', hx, hy⟩
  have hs2 : seps ((D.map mkA ++ E0) ++ (G :: L0)) r oo := by rw [List.append_assoc]; exact hs
  obtain ⟨x1, oB, d1, le1, hE0, hB⟩ := hsplit _ _ r oo hs2
  have hpin : St w (pin r oB :: (D.map mkA ++ E0)) := by
    have h5 : seps ((D.map mkA ++ E0) ++ [pin r oB]) r oo := by
      have : ∀ (A : List HP) (x y o : Own), Own.disj x y → Own.le (x.add y) o → seps A r x → y = oB → seps (A ++ [pin r oB]) r o := by
        intro A x y o d le hA hy
        subst hy
        have := (ent_big (A := A) (L := [pin r y])) r o ⟨x, y, d, le, hA, y, own0, fun _ _ => .inr rfl, (fun i j c e => by
          rcases Own.add_cases e with e | e
          · exact e
          · cases e), ⟨Ro.le_refl _, Own.le_refl _⟩, trivial⟩
        exact this
      exact this _ x1 oB oo d1 le1 hE0 rfl
    exact St.ent (ent_app_comm (B := [pin r oB])) ⟨r, oo, s, h5⟩
  have htold := hP.told (r := r) (o := oB) (by obtain ⟨_, _, d, le, _, h⟩ := hB; exact seps_up (Ro.le_refl _) (Own.le_trans (Own.le_add_right d) le) h)
  have hst2 : St w (big (pin r oB :: D.map mkA) :: (E0 ++ Ps)) := by
    obtain ⟨r', o', s', p, q, d, le, ⟨hr, ho⟩, hq⟩ := hpin
    have hq2 : seps (Ps ++ (D.map mkA ++ E0)) r' q := seps_more (fun A hA => A.up _ _ _ _ hr (Own.le_refl _) (htold A hA)) hq
    have h6 : St w (pin r oB :: (Ps ++ (D.map mkA ++ E0))) := ⟨r', o', s', p, q, d, le, ⟨hr, ho⟩, hq2⟩
    refine h6.ent ?_
    have e1 := ent_app_comm (A := Ps) (B := D.map mkA ++ E0)
    rw [List.append_assoc] at e1
    exact (Ent.cons e1).trans (big_ent (A := pin r oB :: D.map mkA))
  refine wpIn_region_any hm ?_
  have hdrew : St { w with drawn := w.drawn + 1 } (big (pin r oB :: D.map mkA) :: (E0 ++ Ps)) := hst2.drew _
  have ok2 : Ok (pin r oB) N T (E0 ++ Ps) a0 { w with drawn := w.drawn + 1 } := ⟨ok.size, ok.get, D, hD, hdrew⟩
  have hw := h G r oB a0 _ hB ok2
  refine TInv.run (fun c a w ⟨T, L, _, hq⟩ => hnp c T L hq) _ ord [] [] _ a0 _ a0 _ ?_ hok4 ⟨hw, fun p hp => ⟨pathOk_ok hok1 hok2 (List.all_eq_true.1 hok3 p hp), ?_⟩⟩
  · refine Nat.le_trans (List.length_filter_le _ _) (by simp)
  · refine ⟨rfl, by simp, fun i h => ?_, fun i => ?_, fun q h => (by cases h), ok_sat ok2, trivial, rfl, ok.size, ok.size, fun _ _ => rfl, fun q h => by cases h⟩
    · rw [getD_rep] at h; cases h
    · rw [getD_rep]; simp
/-- What a region comes to, told once for all ways through it. -/
theorem SK.cutJ {c : Code} {X : Type} (TX : X → TT) (LX : X → List HP) (hq : ∀ id T L, Q (.exit id) T L → False) (h : SK P rd N [.code c, .inv fun T' L' => ∃ x : X, Sub T' (TX x) ∧ Ent L' (LX x)] T L Q) (k : ∀ x, ∀ T' L', Sub T' (TX x) → Ent L' (LX x) → SK P rd N ks T' L' Q) : SK P rd N (.code c :: ks) T L Q := by
  rw [SK_code] at h ⊢
  intro F a w ok
  refine wpIn_mono (h F a w ok) ?_
  rintro e a' w' ⟨T', L', ok', hp⟩
  refine ⟨T', L', ok', ?_⟩
  cases e with
  | normal =>
    simp only [postK] at hp ⊢
    rw [SK] at hp
    obtain ⟨x, h1, h2⟩ := hp
    exact k x T' L' h1 h2
  | exit id =>
    simp only [postK, findK] at hp
    exact (hq id T' L' hp).elim
  | ret => exact hp
  | goto l => exact hp
  | panic ch => exact hp
  | outgrown => exact hp
end
end Go.Sl

/-! The rules of reading, for regions with a chain. -/
set_option linter.unusedVariables false
set_option linter.unusedSectionVars false
set_option linter.unusedSimpArgs false
namespace Go.Sl
section
variable {P : Program} [tb : Tab P] {rd : Option Nat} {N : Nat} {T : TT} {L L' L1 L2 E : List HP} {Q : Post} {ks : List K}
variable {all : Array Oper} {rest : XO} {o : Oper} {d : Option Tmp} {ty : TypeId} {pos : String} {aft : Array Edge}
variable {α : Type} {ρ : Rep α}
theorem SX.pure {v : Value} (hg : o.guard = none) (h : pureOp tb.tab T o.op = some v) (hd : dstOk N o.dst = true)
    (k : SX P rd N all rest (putD o.dst v T) L E ks Q) : SX P rd N all (.item 0 o rest) T L E ks Q := SX.reads (reads_pure h) hg hd (by rintro _ _ ⟨rfl, rfl⟩; exact k)
theorem SX.load {x : Operand} {t b off o' : Nat} {vs : List Value} {ti : TI} (hx : evO T x = some (.pointer (some ⟨b, off, none⟩))) (htk : Take (pts b o' vs) L L')
    (ht : tget tb.tab t = some ti) (ho : Nat.ble o' off = true) (hp : packOk ti (cut vs (off - o') ti.size)) (hd : dstOk N d = true)
    (k : SX P rd N all rest (putD d (packV ti (cut vs (off - o') ti.size)) T) L E ks Q) : SX P rd N all (.item 0 ⟨d, .load t x, ty, pos, aft, none⟩ rest) T L E ks Q :=
  SX.reads (rd_load hx htk ht ho hp) rfl hd (by rintro _ _ ⟨rfl, rfl⟩; exact k)
theorem SX.loadR {x : Operand} {t b off o' : Nat} {vs : List Value} {ti : TI} (hx : evO T x = some (.pointer (some ⟨b, off, none⟩))) (htk : Take (rod b o' vs) L L')
    (ht : tget tb.tab t = some ti) (ho : Nat.ble o' off = true) (hp : packOk ti (cut vs (off - o') ti.size)) (hd : dstOk N d = true)
    (k : SX P rd N all rest (putD d (packV ti (cut vs (off - o') ti.size)) T) L E ks Q) : SX P rd N all (.item 0 ⟨d, .load t x, ty, pos, aft, none⟩ rest) T L E ks Q :=
  SX.reads (rd_loadR hx htk ht ho hp) rfl hd (by rintro _ _ ⟨rfl, rfl⟩; exact k)
theorem SX.field {x : Operand} {t i off : Nat} {cs : List Value} {fs : List (Nat × Nat)} {n1 n2 : Nat} {z : Value} {tf : Nat} {ti : TI} (hx : evO T x = some (.agg cs.toArray))
    (ht : tget tb.tab t = some ⟨.st fs, n1, n2, z⟩) (hf : fs[i]? = some (off, tf)) (hti : tget tb.tab tf = some ti) (hp : packOk ti (cut cs off ti.size)) (hd : dstOk N d = true)
    (k : SX P rd N all rest (putD d (packV ti (cut cs off ti.size)) T) L E ks Q) : SX P rd N all (.item 0 ⟨d, .field t x i, ty, pos, aft, none⟩ rest) T L E ks Q :=
  SX.reads (rd_field hx ht hf hti hp) rfl hd (by rintro _ _ ⟨rfl, rfl⟩; exact k)
theorem SX.build {t : Nat} {ps : List (Nat × Operand)} {fs : List (Nat × Nat)} {n1 n2 : Nat} {z : Value} {r : List Value}
    (ht : tget tb.tab t = some ⟨.st fs, n1, n2, z⟩) (ha : allTab tb.tab fs = true) (hb : buildV tb.tab fs T z.cells.toList ps = some r) (hd : dstOk N d = true)
    (k : SX P rd N all rest (putD d (.agg r.toArray) T) L E ks Q) : SX P rd N all (.item 0 ⟨d, .build t ps.toArray, ty, pos, aft, none⟩ rest) T L E ks Q :=
  SX.reads (rd_build ht ha hb) rfl hd (by rintro _ _ ⟨rfl, rfl⟩; exact k)
theorem SX.index {x y : Operand} {t e : Nat} {sz n1 n2 b1 : Nat} {z z2 : Value} {ke : TK} {A : Option Addr} {n c i : Nat} {k : IntKind} {j : Int} {l : List α} (hx : evO T x = some (.slice A n c)) (hy : evO T y = some (.int k j))
    (hh : Has (slAt ρ A n l) L) (ht : tget tb.tab t = some ⟨.sl e, n1, n2, z⟩) (hte : tget tb.tab e = some ⟨ke, sz, b1, z2⟩) (hj : Int.ofNat i = j) (hd : dstOk N d = true) (hi : i < n)
    (kk : ∀ v, l[i]? = some v → SX P rd N all rest (putD d (.pointer (some (eadr A i sz 0))) T) L E ks Q) : SX P rd N all (.item 0 ⟨d, .indexAddr t x y, ty, pos, aft, none⟩ rest) T L E ks Q :=
  SX.reads (rd_index hx hy hh ht hte hj hi) rfl hd (by rintro _ _ ⟨rfl, rfl, u, hu⟩; exact kk u hu)
theorem SX.indexW {x y : Operand} {t e : Nat} {sz n1 n2 b1 : Nat} {z z2 : Value} {ke : TK} {A : Option Addr} {n c c' i : Nat} {k : IntKind} {j : Int} {l : List α} {w' : Bool} (hx : evO T x = some (.slice A n c)) (hy : evO T y = some (.int k j))
    (hh : Take (sqAt w' ρ A n c' l) L L') (ht : tget tb.tab t = some ⟨.sl e, n1, n2, z⟩) (hte : tget tb.tab e = some ⟨ke, sz, b1, z2⟩) (hj : Int.ofNat i = j) (hd : dstOk N d = true) (hi : i < n)
    (kk : ∀ v, l[i]? = some v → SX P rd N all rest (putD d (.pointer (some (eadr A i sz 0))) T) L E ks Q) : SX P rd N all (.item 0 ⟨d, .indexAddr t x y, ty, pos, aft, none⟩ rest) T L E ks Q :=
  SX.reads (rd_indexW hx hy hh ht hte hj hi) rfl hd (by rintro _ _ ⟨rfl, rfl, u, hu⟩; exact kk u hu)
theorem SX.efield {x : Operand} {t f : Nat} {A : Option Addr} {i sz o off tf n1 n2 s1 s2 : Nat} {z z2 : Value} {k2 : TK} {fs : List (Nat × Nat)} (hx : evO T x = some (.pointer (some (eadr A i sz o))))
    (ht : tget tb.tab t = some ⟨.st fs, n1, n2, z⟩) (hf : fs[f]? = some (off, tf)) (htf : tget tb.tab tf = some ⟨k2, s1 + 1, s2, z2⟩) (hd : dstOk N d = true)
    (kk : SX P rd N all rest (putD d (.pointer (some (eadr A i sz (o + off)))) T) L E ks Q) : SX P rd N all (.item 0 ⟨d, .fieldAddr t x f, ty, pos, aft, none⟩ rest) T L E ks Q :=
  SX.reads (rd_efield hx ht hf htf) rfl hd (by rintro _ _ ⟨rfl, rfl⟩; exact kk)
theorem SX.eload {x : Operand} {t : Nat} {ti : TI} {A : Option Addr} {n i sz o : Nat} {l : List α} {u : α} (hx : evO T x = some (.pointer (some (eadr A i sz o)))) (hh : Has (slAt ρ A n l) L) (hu : l[i]? = some u)
    (ht : tget tb.tab t = some ti) (hsz : Nat.beq ρ.sz sz = true) (hp : ∀ h, packOk ti (cut (ρ.cells u h) o ti.size)) (hd : dstOk N d = true)
    (kk : ∀ h, SX P rd N all rest (putD d (packV ti (cut (ρ.cells u h) o ti.size)) T) (ρ.atoms u h ++ L) (ρ.atoms u h ++ E) ks Q) : SX P rd N all (.item 0 ⟨d, .load t x, ty, pos, aft, none⟩ rest) T L E ks Q :=
  SX.reads (rd_eload hx hh hu ht hsz hp) rfl hd (by rintro _ _ ⟨h, rfl, rfl⟩; exact SX.copy (ρ.pers u h) (kk h))
theorem SX.slice {x : Operand} {lo hi : Option Operand} {A : Option Addr} {n c i j t e sz n1 n2 b1 : Nat} {z z2 : Value} {ke : TK} {l : List α} (hx : evO T x = some (.slice A n c)) {vl vh : Option Value} {k1 k2 : IntKind}
    (hlo : evOo T lo = some vl) (hhi : evOo T hi = some vh)
    (hh : Has (slAt ρ A n l) L) (ht : tget tb.tab t = some ⟨.sl e, n1, n2, z⟩) (hte : tget tb.tab e = some ⟨ke, sz, b1, z2⟩) (hsz : Nat.beq ρ.sz sz = true) (hd : dstOk N d = true) (hl : vl = some (.int k1 i) ∨ (vl = none ∧ i = 0)) (hv : vh = some (.int k2 j) ∨ (vh = none ∧ j = n)) (h1 : i ≤ j) (h2 : j ≤ n) (h3 : n ≤ c)
    (kk : ∀ A' c', j - i ≤ c' → SX P rd N all rest (putD d (.slice A' (j - i) c') T) (slAt ρ A' (j - i) ((l.drop i).take (j - i)) :: L) (slAt ρ A' (j - i) ((l.drop i).take (j - i)) :: E) ks Q) : SX P rd N all (.item 0 ⟨d, .slice t x lo hi none, ty, pos, aft, none⟩ rest) T L E ks Q :=
  SX.reads (rd_slice hx hlo hhi hh ht hte hsz hl hv h1 h2 h3) rfl hd (by rintro _ _ ⟨A', c', hc, rfl, rfl⟩; exact SX.copy (M := [_]) (all_cons (pers_slAt _ _ _ _) all_nil) (kk A' c' hc))
theorem SX.pure2 {v : Value} (hg : o.guard = none) (h : pureOp2 tb.tab T o.op = some v) (hd : dstOk N o.dst = true)
    (k : SX P rd N all rest (putD o.dst v T) L E ks Q) : SX P rd N all (.item 0 o rest) T L E ks Q := SX.reads (reads_pure2 h) hg hd (by rintro _ _ ⟨rfl, rfl⟩; exact k)
theorem SX.eloadW {ty : TypeId} {pos : String} {aft : Array Edge} {d : Option Tmp} {α : Type} {ρ : Rep α} {x : Operand} {t : Nat} {ti : TI} {A : Option Addr} {n i sz : Nat} {l : List α} {u : α} (hx : evO T x = some (.pointer (some (eadr A i sz 0)))) (hh : Has (slAt ρ A n l) L) (hu : l[i]? = some u)
    (ht : tget tb.tab t = some ti) (hsz : Nat.beq ρ.sz sz = true) (hk : ti.k.agg = ρ.agg) (h2 : Nat.beq ti.size ρ.sz = true) (hd : dstOk N d = true)
    (kk : ∀ h, SX P rd N all rest (putD d (ρ.val u h) T) (ρ.atoms u h ++ L) (ρ.atoms u h ++ E) ks Q) : SX P rd N all (.item 0 ⟨d, .load t x, ty, pos, aft, none⟩ rest) T L E ks Q :=
  SX.eload hx hh hu ht hsz (fun h => (whole hk h2).2) hd (fun h => by rw [(whole hk h2).1]; exact kk h)
theorem SX.loadW {ty : TypeId} {pos : String} {aft : Array Edge} {d : Option Tmp} {x : Operand} {t b off : Nat} {v : Value} {ti : TI} (hx : evO T x = some (.pointer (some ⟨b, off, none⟩))) (htk : Take (pts b off v.cells.toList) L L')
    (ht : tget tb.tab t = some ti) (h1 : ti.k.agg = true) (h2 : isAggV v = true) (h3 : Nat.beq v.cells.toList.length ti.size = true) (hd : dstOk N d = true)
    (k : SX P rd N all rest (putD d v T) L E ks Q) : SX P rd N all (.item 0 ⟨d, .load t x, ty, pos, aft, none⟩ rest) T L E ks Q :=
  SX.load hx htk ht (by simp) (wholeV h1 h2 h3 off).2 hd (by rw [(wholeV h1 h2 h3 off).1]; exact k)
end
section
variable {P : Program} [tb : Tab P] {rd : Option Nat} {N : Nat} {T : TT} {L L' L1 E : List HP} {Q : Post} {ks : List K}
variable {all : Array Oper} {rest : XO} {d : Option Tmp} {ty : TypeId} {pos : String} {aft : Array Edge}
variable {κ α : Type} [DecidableEq κ] {kr : KR κ} {ρ : Rep α}
theorem SX.lookup {x y : Operand} {t e kt b n1 n2 : Nat} {z0 : Value} {tik tie : TI} {l : List (κ × α)} {key : κ} {ok : Bool} (hx : evO T x = some (.map (some b))) (htk : Take (mpAt kr ρ b l) L L') (hy : evO T y = some (kr.v key))
    (ht : tget tb.tab t = some ⟨.map kt e, n1, n2, z0⟩) (hkt : tget tb.tab kt = some tik) (hkk : kdOf tik.k = some kr.kd) (hte : tget tb.tab e = some tie) (hd : dstOk N d = true)
    (yes : ∀ u h, mget l key = some u → SX P rd N all rest (putD d (lookV ok (ρ.val u h) true) T) (ρ.atoms u h ++ L) (ρ.atoms u h ++ E) ks Q) (no : mget l key = none → SX P rd N all rest (putD d (lookV ok tie.zero false) T) L E ks Q) :
    SX P rd N all (.item 0 ⟨d, .lookup t x y ok, ty, pos, aft, none⟩ rest) T L E ks Q :=
  SX.reads (rd_lookup hx htk hy ht hkt hkk hte) rfl hd (by rintro _ _ (⟨u, h, hg, rfl, rfl⟩ | ⟨hg, rfl, rfl⟩) <;> first | exact SX.copy (ρ.pers _ _) (yes _ _ (by assumption)) | exact no (by assumption))
theorem SX.lenMap {x : Operand} {t e kt b n1 n2 : Nat} {z0 : Value} {l : List (κ × α)} (hx : evO T x = some (.map (some b))) (htk : Take (mpAt kr ρ b l) L L')
    (ht : tget tb.tab t = some ⟨.map kt e, n1, n2, z0⟩) (hd : dstOk N d = true) (k : SX P rd N all rest (putD d (.int .i64 (l.length : Int)) T) L E ks Q) :
    SX P rd N all (.item 0 ⟨d, .call ⟨.builtin .len, #[x], #[t]⟩, ty, pos, aft, none⟩ rest) T L E ks Q :=
  SX.reads (rd_lenMap hx htk ht) rfl hd (by rintro _ _ ⟨rfl, rfl⟩; exact k)
end
section
variable {P : Program} [tb : Tab P] {rd : Option Nat} {N : Nat} {T : TT} {L E : List HP} {Q : Post} {ks : List K} {all : Array Oper} {rest : XO} {d : Option Tmp} {ty : TypeId} {pos : String} {aft : Array Edge}
theorem SX.div {op : BinOp} {t cx : Nat} {x y : Operand} {k : IntKind} {a b : Int} {v : Value} (hx : evO T x = some (.int k a)) (hy : evO T y = some (.int k b)) (h : divV op k a b = some v) (hd : dstOk N d = true)
    (kk : SX P rd N all rest (putD d v T) L E ks Q) : SX P rd N all (.item 0 ⟨d, .binOp op t x y cx, ty, pos, aft, none⟩ rest) T L E ks Q :=
  SX.reads (reads_div hx hy h) rfl hd (by rintro _ _ ⟨rfl, rfl⟩; exact kk)
end
end Go.Sl

/-! Strings: their bytes one by one, joined, compared, cut. -/
set_option linter.unusedVariables false
set_option linter.unusedSectionVars false
set_option linter.unusedSimpArgs false
namespace Go.Sl
def ltS (a b : ByteArray) : Bool := Op.bytesLess a.data.toList b.data.toList
def cmpS (op : BinOp) (a b : ByteArray) : Option Bool := match op with
  | .lss => some (ltS a b)
  | .leq => some (ltS a b || eqS a b)
  | .gtr => some (!(ltS a b || eqS a b))
  | .geq => some (!ltS a b)
  | _ => none
section
variable {P : Program} [tb : Tab P] {rd : Option Nat} {N : Nat} {T : TT} {L E : List HP} {Q : Post} {ks : List K} {RR : TT → List HP → Prop}
variable {all : Array Oper} {rest : List Oper} {restX : XO} {d : Option Tmp} {ty : TypeId} {pos : String} {aft : Array Edge}
/-- An element that is known. -/
theorem rd_indexH {α : Type} {ρ : Rep α} {x y : Operand} {t e : Nat} {sz n1 n2 b1 : Nat} {z z2 : Value} {ke : TK} {A : Option Addr} {n c i : Nat} {k : IntKind} {j : Int} {l : List α} {u : α} (hx : evO T x = some (.slice A n c)) (hy : evO T y = some (.int k j))
    (hh : Has (slAt ρ A n l) L) (ht : tget tb.tab t = some ⟨.sl e, n1, n2, z⟩) (hte : tget tb.tab e = some ⟨ke, sz, b1, z2⟩) (hj : Int.ofNat i = j) (hu : l[i]? = some u) : Reads P T L ⟨d, .indexAddr t x y, ty, pos, aft, none⟩ (fun v L' => v = .pointer (some (eadr A i sz 0)) ∧ L' = L) := by
  intro q hq rr oo F hs
  have hs1 := (show seps L rr _ from hs.choose_spec.choose_spec.2.2.2)
  obtain ⟨h0, h1, h2⟩ := sl_len hh rr _ hs1
  have hl : i < l.length := (List.getElem?_eq_some_iff.1 hu).1
  obtain ⟨v, L', ⟨h3, h4, _⟩, h5, h6⟩ := rd_index (d := d) (ty := ty) (pos := pos) (aft := aft) hx hy hh ht hte hj (by omega) q hq rr oo F hs
  exact ⟨v, L', ⟨h3, h4⟩, h5, h6⟩
theorem rd_sidx {x y : Operand} {t n1 n2 i : Nat} {z : Value} {s : ByteArray} {k : IntKind} {j : Int} (hx : evO T x = some (.string s)) (hy : evO T y = some (.int k j))
    (ht : tget tb.tab t = some ⟨.str, n1, n2, z⟩) (hj : Int.ofNat i = j) (hi : i < s.size) : Reads P T L ⟨d, .index t x y, ty, pos, aft, none⟩ (fun u L' => L' = L ∧ ∃ v, (bytesI s)[i]? = some v ∧ u = .int .u8 v) := by
  intro q hq rr oo F hs
  have hk := (tab_ok ht).k
  simp only [TK.ok] at hk
  have hj' : j = (i : Int) := hj.symm
  subst hj'
  refine ⟨.int .u8 ((s[i]'hi).toNat : Int), L, ⟨rfl, _, ?_, rfl⟩, hs, fun w _ => ?_⟩
  · unfold bytesI
    rw [List.getElem?_map]
    have : s.data.toList[i]? = some (s[i]'hi) := by
      have h2 : i < s.data.toList.length := by simpa using hi
      rw [List.getElem?_eq_getElem h2]
      rfl
    rw [this]; rfl
  · simp only [execOp, hq _ _ hx, hq _ _ hy, Instr.index, asIntOf, Sem.run_bind, Sem.run_pure, run_und hk, Result.andThen_ok]
    have h1 : (if (0 : Int) ≤ (i : Int) then s[(i : Int).toNat]? else none) = some (s[i]'hi) := by
      rw [if_pos (by omega)]
      simp [hi]
    rw [h1]
    rfl
theorem rd_scat {x y : Operand} {t cx : Nat} {a b : ByteArray} (hx : evO T x = some (.string a)) (hy : evO T y = some (.string b)) (hb : a.size + b.size ≤ 9223372036854775807) :
    Reads P T L ⟨d, .binOp .add t x y cx, ty, pos, aft, none⟩ (fun u L' => u = .string (a ++ b) ∧ L' = L) := by
  intro q hq rr oo F hs
  refine ⟨_, L, ⟨rfl, rfl⟩, hs, fun w _ => ?_⟩
  have h1 : (eqGuard .add t x y (.string a) (.string b)).run P w = .ok () w := by unfold eqGuard; simp
  have h2 : ¬ (((a.size + b.size : Nat) : Int) > IntKind.i64.max) := by
    have : IntKind.i64.max = 9223372036854775807 := by decide
    omega
  simp only [execOp, hq _ _ hx, hq _ _ hy, Sem.run_bind, h1, Result.andThen_ok, binOp, Op.stringOp, if_neg h2]
  rfl
theorem rd_scmp {op : BinOp} {x y : Operand} {t cx : Nat} {a b : ByteArray} {v : Bool} (hx : evO T x = some (.string a)) (hy : evO T y = some (.string b)) (hv : cmpS op a b = some v) :
    Reads P T L ⟨d, .binOp op t x y cx, ty, pos, aft, none⟩ (fun u L' => u = .bool v ∧ L' = L) := by
  intro q hq rr oo F hs
  refine ⟨_, L, ⟨rfl, rfl⟩, hs, fun w _ => ?_⟩
  have h1 : (eqGuard op t x y (.string a) (.string b)).run P w = .ok () w := by unfold eqGuard; split <;> simp
  simp only [execOp, hq _ _ hx, hq _ _ hy, Sem.run_bind, h1, Result.andThen_ok, binOp, Op.stringOp, toList_eq]
  unfold cmpS ltS at hv
  split at hv <;> cases hv <;> (simp only [ByteArray.toList_eq]; rfl)
theorem rd_sslice {x : Operand} {lo hi : Option Operand} {s : ByteArray} {i j t n1 n2 : Nat} {z : Value} (hx : evO T x = some (.string s)) {vl vh : Option Value} {k1 k2 : IntKind}
    (hlo : evOo T lo = some vl) (hhi : evOo T hi = some vh) (ht : tget tb.tab t = some ⟨.str, n1, n2, z⟩) (hl : vl = some (.int k1 i) ∨ (vl = none ∧ i = 0)) (hv : vh = some (.int k2 j) ∨ (vh = none ∧ j = s.size)) (h1 : i ≤ j) (h2 : j ≤ s.size) :
    Reads P T L ⟨d, .slice t x lo hi none, ty, pos, aft, none⟩ (fun u L' => u = .string (s.extract i j) ∧ L' = L) := by
  intro q hq rr oo F hs
  have hk := (tab_ok ht).k
  simp only [TK.ok] at hk
  refine ⟨_, L, ⟨rfl, rfl⟩, hs, fun w _ => ?_⟩
  have hb : ∀ (c : BoundsCode) (k : IntKind) (a m : Nat), a ≤ m → (Instr.sliceBound (.int k (a : Int)) m c).run P w = .ok a w := fun c k a m h => by
    simp only [Instr.sliceBound, asIntOf, Sem.run_bind, Sem.run_pure, Result.andThen_ok]
    rw [if_pos ⟨by omega, by omega⟩]
    simp [Sem.run_pure]
  have hbd : (Instr.sliceBounds false s.size s.size vl vh none).run P w = .ok (i, j, s.size) w := by
    rcases hv with rfl | ⟨rfl, rfl⟩ <;> rcases hl with rfl | ⟨rfl, rfl⟩ <;> simp [Instr.sliceBounds, Sem.run_bind, Sem.run_pure, Result.andThen_ok, hb, h1, h2]
  simp only [execOp, hq _ _ hx, evOo_ok hq hlo, evOo_ok hq hhi, Option.map_none, Sem.run_bind, Instr.sliceAt, Instr.slice, run_und hk, Result.andThen_ok, Option.isSome_none, Bool.false_eq_true, if_false, Sem.run_pure, hbd]
theorem SO.sidx {x y : Operand} {t n1 n2 i : Nat} {z : Value} {s : ByteArray} {k : IntKind} {j : Int} (hx : evO T x = some (.string s)) (hy : evO T y = some (.int k j)) (ht : tget tb.tab t = some ⟨.str, n1, n2, z⟩) (hj : Int.ofNat i = j) (hd : dstOk N d = true) (hi : i < s.size)
    (kk : ∀ v, (bytesI s)[i]? = some v → SO P rd N all rest (putD d (.int .u8 v) T) L ks Q) : SO P rd N all (⟨d, .index t x y, ty, pos, aft, none⟩ :: rest) T L ks Q :=
  SO.reads (rd_sidx hx hy ht hj hi) rfl rfl hd (by rintro _ _ ⟨rfl, v, hv, rfl⟩; exact kk v hv)
theorem SQ.sidx {x y : Operand} {t n1 n2 i : Nat} {z : Value} {s : ByteArray} {k : IntKind} {j : Int} (hx : evO T x = some (.string s)) (hy : evO T y = some (.int k j)) (ht : tget tb.tab t = some ⟨.str, n1, n2, z⟩) (hj : Int.ofNat i = j) (hd : dstOk N d = true) (hi : i < s.size)
    (kk : ∀ v, (bytesI s)[i]? = some v → SQ P N all rest (putD d (.int .u8 v) T) L RR) : SQ P N all (⟨d, .index t x y, ty, pos, aft, none⟩ :: rest) T L RR :=
  SQ.reads (rd_sidx hx hy ht hj hi) rfl hd (by rintro _ _ ⟨rfl, v, hv, rfl⟩; exact kk v hv)
theorem SX.sidx {x y : Operand} {t n1 n2 i : Nat} {z : Value} {s : ByteArray} {k : IntKind} {j : Int} (hx : evO T x = some (.string s)) (hy : evO T y = some (.int k j)) (ht : tget tb.tab t = some ⟨.str, n1, n2, z⟩) (hj : Int.ofNat i = j) (hd : dstOk N d = true) (hi : i < s.size)
    (kk : ∀ v, (bytesI s)[i]? = some v → SX P rd N all restX (putD d (.int .u8 v) T) L E ks Q) : SX P rd N all (.item 0 ⟨d, .index t x y, ty, pos, aft, none⟩ restX) T L E ks Q :=
  SX.reads (rd_sidx hx hy ht hj hi) rfl hd (by rintro _ _ ⟨rfl, v, hv, rfl⟩; exact kk v hv)
theorem SO.scat {x y : Operand} {t cx : Nat} {a b : ByteArray} (hx : evO T x = some (.string a)) (hy : evO T y = some (.string b)) (hd : dstOk N d = true) (hb : a.size + b.size ≤ 9223372036854775807)
    (kk : SO P rd N all rest (putD d (.string (a ++ b)) T) L ks Q) : SO P rd N all (⟨d, .binOp .add t x y cx, ty, pos, aft, none⟩ :: rest) T L ks Q :=
  SO.reads (rd_scat hx hy hb) rfl rfl hd (by rintro _ _ ⟨rfl, rfl⟩; exact kk)
theorem SQ.scat {x y : Operand} {t cx : Nat} {a b : ByteArray} (hx : evO T x = some (.string a)) (hy : evO T y = some (.string b)) (hd : dstOk N d = true) (hb : a.size + b.size ≤ 9223372036854775807)
    (kk : SQ P N all rest (putD d (.string (a ++ b)) T) L RR) : SQ P N all (⟨d, .binOp .add t x y cx, ty, pos, aft, none⟩ :: rest) T L RR :=
  SQ.reads (rd_scat hx hy hb) rfl hd (by rintro _ _ ⟨rfl, rfl⟩; exact kk)
theorem SX.scat {x y : Operand} {t cx : Nat} {a b : ByteArray} (hx : evO T x = some (.string a)) (hy : evO T y = some (.string b)) (hd : dstOk N d = true) (hb : a.size + b.size ≤ 9223372036854775807)
    (kk : SX P rd N all restX (putD d (.string (a ++ b)) T) L E ks Q) : SX P rd N all (.item 0 ⟨d, .binOp .add t x y cx, ty, pos, aft, none⟩ restX) T L E ks Q :=
  SX.reads (rd_scat hx hy hb) rfl hd (by rintro _ _ ⟨rfl, rfl⟩; exact kk)
theorem SO.scmp {op : BinOp} {x y : Operand} {t cx : Nat} {a b : ByteArray} {v : Bool} (hx : evO T x = some (.string a)) (hy : evO T y = some (.string b)) (hv : cmpS op a b = some v) (hd : dstOk N d = true)
    (kk : SO P rd N all rest (putD d (.bool v) T) L ks Q) : SO P rd N all (⟨d, .binOp op t x y cx, ty, pos, aft, none⟩ :: rest) T L ks Q :=
  SO.reads (rd_scmp hx hy hv) rfl rfl hd (by rintro _ _ ⟨rfl, rfl⟩; exact kk)
theorem SQ.scmp {op : BinOp} {x y : Operand} {t cx : Nat} {a b : ByteArray} {v : Bool} (hx : evO T x = some (.string a)) (hy : evO T y = some (.string b)) (hv : cmpS op a b = some v) (hd : dstOk N d = true)
    (kk : SQ P N all rest (putD d (.bool v) T) L RR) : SQ P N all (⟨d, .binOp op t x y cx, ty, pos, aft, none⟩ :: rest) T L RR :=
  SQ.reads (rd_scmp hx hy hv) rfl hd (by rintro _ _ ⟨rfl, rfl⟩; exact kk)
theorem SX.scmp {op : BinOp} {x y : Operand} {t cx : Nat} {a b : ByteArray} {v : Bool} (hx : evO T x = some (.string a)) (hy : evO T y = some (.string b)) (hv : cmpS op a b = some v) (hd : dstOk N d = true)
    (kk : SX P rd N all restX (putD d (.bool v) T) L E ks Q) : SX P rd N all (.item 0 ⟨d, .binOp op t x y cx, ty, pos, aft, none⟩ restX) T L E ks Q :=
  SX.reads (rd_scmp hx hy hv) rfl hd (by rintro _ _ ⟨rfl, rfl⟩; exact kk)
theorem SO.sslice {x : Operand} {lo hi : Option Operand} {s : ByteArray} {i j t n1 n2 : Nat} {z : Value} (hx : evO T x = some (.string s)) {vl vh : Option Value} {k1 k2 : IntKind} (hlo : evOo T lo = some vl) (hhi : evOo T hi = some vh) (ht : tget tb.tab t = some ⟨.str, n1, n2, z⟩) (hd : dstOk N d = true) (hl : vl = some (.int k1 i) ∨ (vl = none ∧ i = 0)) (hv : vh = some (.int k2 j) ∨ (vh = none ∧ j = s.size)) (h1 : i ≤ j) (h2 : j ≤ s.size)
    (kk : SO P rd N all rest (putD d (.string (s.extract i j)) T) L ks Q) : SO P rd N all (⟨d, .slice t x lo hi none, ty, pos, aft, none⟩ :: rest) T L ks Q :=
  SO.reads (rd_sslice hx hlo hhi ht hl hv h1 h2) rfl rfl hd (by rintro _ _ ⟨rfl, rfl⟩; exact kk)
theorem SQ.sslice {x : Operand} {lo hi : Option Operand} {s : ByteArray} {i j t n1 n2 : Nat} {z : Value} (hx : evO T x = some (.string s)) {vl vh : Option Value} {k1 k2 : IntKind} (hlo : evOo T lo = some vl) (hhi : evOo T hi = some vh) (ht : tget tb.tab t = some ⟨.str, n1, n2, z⟩) (hd : dstOk N d = true) (hl : vl = some (.int k1 i) ∨ (vl = none ∧ i = 0)) (hv : vh = some (.int k2 j) ∨ (vh = none ∧ j = s.size)) (h1 : i ≤ j) (h2 : j ≤ s.size)
    (kk : SQ P N all rest (putD d (.string (s.extract i j)) T) L RR) : SQ P N all (⟨d, .slice t x lo hi none, ty, pos, aft, none⟩ :: rest) T L RR :=
  SQ.reads (rd_sslice hx hlo hhi ht hl hv h1 h2) rfl hd (by rintro _ _ ⟨rfl, rfl⟩; exact kk)
theorem SX.sslice {x : Operand} {lo hi : Option Operand} {s : ByteArray} {i j t n1 n2 : Nat} {z : Value} (hx : evO T x = some (.string s)) {vl vh : Option Value} {k1 k2 : IntKind} (hlo : evOo T lo = some vl) (hhi : evOo T hi = some vh) (ht : tget tb.tab t = some ⟨.str, n1, n2, z⟩) (hd : dstOk N d = true) (hl : vl = some (.int k1 i) ∨ (vl = none ∧ i = 0)) (hv : vh = some (.int k2 j) ∨ (vh = none ∧ j = s.size)) (h1 : i ≤ j) (h2 : j ≤ s.size)
    (kk : SX P rd N all restX (putD d (.string (s.extract i j)) T) L E ks Q) : SX P rd N all (.item 0 ⟨d, .slice t x lo hi none, ty, pos, aft, none⟩ restX) T L E ks Q :=
  SX.reads (rd_sslice hx hlo hhi ht hl hv h1 h2) rfl hd (by rintro _ _ ⟨rfl, rfl⟩; exact kk)
theorem SO.indexH {α : Type} {ρ : Rep α} {x y : Operand} {t e : Nat} {sz n1 n2 b1 : Nat} {z z2 : Value} {ke : TK} {A : Option Addr} {n c i : Nat} {k : IntKind} {j : Int} {l : List α} {u : α} (hx : evO T x = some (.slice A n c)) (hy : evO T y = some (.int k j)) (hh : Has (slAt ρ A n l) L) (ht : tget tb.tab t = some ⟨.sl e, n1, n2, z⟩) (hte : tget tb.tab e = some ⟨ke, sz, b1, z2⟩) (hj : Int.ofNat i = j) (hd : dstOk N d = true) (hu : l[i]? = some u)
    (kk : SO P rd N all rest (putD d (.pointer (some (eadr A i sz 0))) T) L ks Q) : SO P rd N all (⟨d, .indexAddr t x y, ty, pos, aft, none⟩ :: rest) T L ks Q :=
  SO.reads (rd_indexH hx hy hh ht hte hj hu) rfl rfl hd (by rintro _ _ ⟨rfl, rfl⟩; exact kk)
theorem SQ.indexH {α : Type} {ρ : Rep α} {x y : Operand} {t e : Nat} {sz n1 n2 b1 : Nat} {z z2 : Value} {ke : TK} {A : Option Addr} {n c i : Nat} {k : IntKind} {j : Int} {l : List α} {u : α} (hx : evO T x = some (.slice A n c)) (hy : evO T y = some (.int k j)) (hh : Has (slAt ρ A n l) L) (ht : tget tb.tab t = some ⟨.sl e, n1, n2, z⟩) (hte : tget tb.tab e = some ⟨ke, sz, b1, z2⟩) (hj : Int.ofNat i = j) (hd : dstOk N d = true) (hu : l[i]? = some u)
    (kk : SQ P N all rest (putD d (.pointer (some (eadr A i sz 0))) T) L RR) : SQ P N all (⟨d, .indexAddr t x y, ty, pos, aft, none⟩ :: rest) T L RR :=
  SQ.reads (rd_indexH hx hy hh ht hte hj hu) rfl hd (by rintro _ _ ⟨rfl, rfl⟩; exact kk)
theorem SX.indexH {α : Type} {ρ : Rep α} {x y : Operand} {t e : Nat} {sz n1 n2 b1 : Nat} {z z2 : Value} {ke : TK} {A : Option Addr} {n c i : Nat} {k : IntKind} {j : Int} {l : List α} {u : α} (hx : evO T x = some (.slice A n c)) (hy : evO T y = some (.int k j)) (hh : Has (slAt ρ A n l) L) (ht : tget tb.tab t = some ⟨.sl e, n1, n2, z⟩) (hte : tget tb.tab e = some ⟨ke, sz, b1, z2⟩) (hj : Int.ofNat i = j) (hd : dstOk N d = true) (hu : l[i]? = some u)
    (kk : SX P rd N all restX (putD d (.pointer (some (eadr A i sz 0))) T) L E ks Q) : SX P rd N all (.item 0 ⟨d, .indexAddr t x y, ty, pos, aft, none⟩ restX) T L E ks Q :=
  SX.reads (rd_indexH hx hy hh ht hte hj hu) rfl hd (by rintro _ _ ⟨rfl, rfl⟩; exact kk)
theorem SO.sidxH {x y : Operand} {t n1 n2 i : Nat} {z : Value} {s : ByteArray} {k : IntKind} {j v : Int} (hx : evO T x = some (.string s)) (hy : evO T y = some (.int k j)) (ht : tget tb.tab t = some ⟨.str, n1, n2, z⟩) (hj : Int.ofNat i = j) (hd : dstOk N d = true) (hu : (bytesI s)[i]? = some v)
    (kk : SO P rd N all rest (putD d (.int .u8 v) T) L ks Q) : SO P rd N all (⟨d, .index t x y, ty, pos, aft, none⟩ :: rest) T L ks Q :=
  SO.reads (rd_sidx hx hy ht hj (by have := (List.getElem?_eq_some_iff.1 hu).1; rwa [bytesI_len] at this)) rfl rfl hd (by rintro _ _ ⟨rfl, v, hv, rfl⟩; rw [hu] at hv; cases hv; exact kk)
theorem SQ.sidxH {x y : Operand} {t n1 n2 i : Nat} {z : Value} {s : ByteArray} {k : IntKind} {j v : Int} (hx : evO T x = some (.string s)) (hy : evO T y = some (.int k j)) (ht : tget tb.tab t = some ⟨.str, n1, n2, z⟩) (hj : Int.ofNat i = j) (hd : dstOk N d = true) (hu : (bytesI s)[i]? = some v)
    (kk : SQ P N all rest (putD d (.int .u8 v) T) L RR) : SQ P N all (⟨d, .index t x y, ty, pos, aft, none⟩ :: rest) T L RR :=
  SQ.reads (rd_sidx hx hy ht hj (by have := (List.getElem?_eq_some_iff.1 hu).1; rwa [bytesI_len] at this)) rfl hd (by rintro _ _ ⟨rfl, v, hv, rfl⟩; rw [hu] at hv; cases hv; exact kk)
theorem SX.sidxH {x y : Operand} {t n1 n2 i : Nat} {z : Value} {s : ByteArray} {k : IntKind} {j v : Int} (hx : evO T x = some (.string s)) (hy : evO T y = some (.int k j)) (ht : tget tb.tab t = some ⟨.str, n1, n2, z⟩) (hj : Int.ofNat i = j) (hd : dstOk N d = true) (hu : (bytesI s)[i]? = some v)
    (kk : SX P rd N all restX (putD d (.int .u8 v) T) L E ks Q) : SX P rd N all (.item 0 ⟨d, .index t x y, ty, pos, aft, none⟩ restX) T L E ks Q :=
  SX.reads (rd_sidx hx hy ht hj (by have := (List.getElem?_eq_some_iff.1 hu).1; rwa [bytesI_len] at this)) rfl hd (by rintro _ _ ⟨rfl, v, hv, rfl⟩; rw [hu] at hv; cases hv; exact kk)
end
end Go.Sl

/-! Slices of one's own, by their cells: parts of them, 'copy', 'append' of noughts. -/
set_option linter.unusedVariables false
set_option linter.unusedSectionVars false
set_option linter.unusedSimpArgs false
namespace Go.Sl
section
variable {P : Program} [tb : Tab P] {rd : Option Nat} {N : Nat} {T : TT} {L L' L1 L2 : List HP} {Q : Post} {ks : List K}
variable {all : Array Oper} {rest : List Oper} {ty : TypeId} {pos : String} {aft : Array Edge} {d : Option Tmp} {α : Type} {ρ : Rep α}

/-- 'x[lo:hi]', by its value alone. -/
theorem SO.sliceN {x : Operand} {lo hi : Option Operand} {b o n c i j t e sz n1 n2 b1 : Nat} {z z2 : Value} {ke : TK} (hx : evO T x = some (.slice (some ⟨b, o, none⟩) n c)) {vl vh : Option Value} {k1 k2 : IntKind}
    (hlo : evOo T lo = some vl) (hhi : evOo T hi = some vh) (ht : tget tb.tab t = some ⟨.sl e, n1, n2, z⟩) (hte : tget tb.tab e = some ⟨ke, sz, b1, z2⟩) (hd : dstOk N d = true) (hl : vl = some (.int k1 i) ∨ (vl = none ∧ i = 0)) (hv : vh = some (.int k2 j) ∨ (vh = none ∧ j = n)) (h1 : i ≤ j) (h2 : j ≤ c) (h3 : n ≤ c) (h4 : i < c ∨ i = 0)
    (kk : SO P rd N all rest (putD d (.slice (some ⟨b, o + i * sz, none⟩) (j - i) (c - i)) T) L ks Q) : SO P rd N all (⟨d, .slice t x lo hi none, ty, pos, aft, none⟩ :: rest) T L ks Q := by
  refine SO.run (R := fun v L2 => v = .slice (some ⟨b, o + i * sz, none⟩) (j - i) (c - i) ∧ L2 = L) rfl rfl hd ?_ (by rintro _ _ ⟨rfl, rfl⟩; exact kk)
  intro q hq F w hst
  refine ⟨_, w, L, .inl ?_, ⟨rfl, rfl⟩, hst⟩
  simp only [execOp, hq _ _ hx, evOo_ok hq hlo, evOo_ok hq hhi, Option.map_none, Sem.run_bind, run_slice_lo ht hte h1 h2 h3 hl hv, Result.andThen_ok]
  have e : (if c = i then some (⟨b, o, none⟩ : Addr) else (some (⟨b, o, none⟩ : Addr)).map (·.add (i * sz))) = some ⟨b, o + i * sz, none⟩ := by
    split
    · rename_i hc
      have : i = 0 := by omega
      subst this; simp
    · simp only [Option.map_some, eadr_base (a := ⟨b, o, none⟩) rfl]
  rw [e]; rfl

/-- Cells that lie somewhere. -/
def Cells (L : List HP) (b o : Nat) (cs : List Value) : Prop := ∀ F w, St w (F :: L) → ∀ j v, cs[j]? = some v → w.cell? ⟨b, o + j, none⟩ = some v
theorem Cells.pts {b o : Nat} {vs : List Value} (h : Take (Sl.pts b o vs) L L') (i k : Nat) : Cells L b (o + i) (cut vs i k) := by
  intro F w hst j v hj
  have h2 : St w (Sl.pts b o vs :: F :: L') := (hst.ent (Ent.cons h.ent)).ent Ent.swap
  have := (h2.cell (cut_get hj).1).1
  rwa [Nat.add_assoc]
theorem Cells.rod {b o : Nat} {vs : List Value} (h : Take (Sl.rod b o vs) L L') (i k : Nat) : Cells L b (o + i) (cut vs i k) := by
  intro F w hst j v hj
  have h2 : St w (Sl.rod b o vs :: F :: L') := (hst.ent (Ent.cons h.ent)).ent Ent.swap
  have := h2.rcell (cut_get hj).1
  rwa [Nat.add_assoc]

/-- 'copy' into own cells. -/
theorem SO.copy {x y : Operand} {b off o' dn dc b2 off2 sn sc k t t2 e sz n1 n2 b1 : Nat} {z z2 : Value} {ke : TK} {vs vs' cs : List Value} (hx : evO T x = some (.slice (some ⟨b, off, none⟩) dn dc)) (hy : evO T y = some (.slice (some ⟨b2, off2, none⟩) sn sc))
    (htk : Take (pts b o' vs) L L') (hs : Cells L b2 off2 cs) (ht : tget tb.tab t = some ⟨.sl e, n1, n2, z⟩) (hte : tget tb.tab e = some ⟨ke, sz, b1, z2⟩) (hk : Nat.min sn dn = k) (hc : cs.length = k * sz) (h1 : ∀ c ∈ cs, one c = true) (ho : o' ≤ off) (hl : off - o' + k * sz ≤ vs.length)
    (hv : lay vs (off - o') cs = vs') (hd : dstOk N d = true) (kk : SO P rd N all rest (putD d (.int .i64 k) T) (pts b o' vs' :: L') ks Q) : SO P rd N all (⟨d, .call ⟨.builtin .copy, #[x, y], #[t, t2]⟩, ty, pos, aft, none⟩ :: rest) T L ks Q := by
  refine SO.run (R := fun v L2 => v = .int .i64 k ∧ L2 = pts b o' vs' :: L') rfl rfl hd ?_ (by rintro _ _ ⟨rfl, rfl⟩; exact kk)
  intro q hq F w hst
  have hkk := (tab_ok ht).k
  simp only [TK.ok] at hkk
  have hsz := sizeOf_ok (tab_ok hte) w
  simp only at hsz
  have hst2 : St w (pts b o' vs :: F :: L') := hst.ent ((Ent.cons htk.ent).trans Ent.swap)
  rcases storeCells_ok (P := P) (A := pr True) (i := 0) cs vs w 0 (off - o') hst2 h1 (by omega) with ⟨w', hr, hst'⟩ | h
  · refine ⟨_, w', _, .inl ?_, ⟨rfl, rfl⟩, ?_⟩
    · have hf := run_first (P := P) (b := ⟨b2, off2, none⟩) (c := sc) (k := sn) rfl hc (hs F w hst)
      rw [show o' + (off - o') - 0 = off by omega] at hr
      simp only [execOp, resolve, invoke, builtin, Builtin.copy_, hq _ _ hx, hq _ _ hy, Sem.run_bind, Sem.run_pure, Result.andThen_ok, List.map_toArray, List.map_cons, List.map_nil, List.getElem?_toArray, List.getElem?_cons_zero, List.getElem?_cons_succ, run_und hkk, Builtin.lenOf, hsz, hk, hf, hr, goInt]
    · rw [hv] at hst'; exact hst'.ent Ent.swap
  · exact absurd h (by omega)

/-- 'append' of so many noughts, for which there is no room. -/
theorem SO.appendZ {x y : Operand} {b off n c m t t2 e sz n1 n2 b1 n3 n4 : Nat} {z z2 z3 : Value} {ke : TK} {k3 : IntKind} {cs : List Value} (hx : evO T x = some (.slice (some ⟨b, off, none⟩) n c)) (hy : evO T y = some (.int .i64 m))
    (hs : Cells L b off cs) (ht : tget tb.tab t = some ⟨.sl e, n1, n2, z⟩) (ht2 : tget tb.tab t2 = some ⟨.int k3, n3, n4, z3⟩) (hte : tget tb.tab e = some ⟨ke, sz, b1, z2⟩) (hzz : Nat.beq z2.cells.toList.length sz = true) (hb : Nat.ble b1 32768 = true) (hc : cs.length = n * sz)
    (hno : c < n + m) (hlim : n + m ≤ lim) (hd : dstOk N d = true)
    (kk : ∀ b' c' (zs sp : List Value), n + m ≤ c' → zs.length = m * sz → sp.length = (c' - (n + m)) * sz → SO P rd N all rest (putD d (.slice (some ⟨b', 0, none⟩) (n + m) c') T) (pts b' 0 (cs ++ zs ++ sp) :: L) ks Q) :
    SO P rd N all (⟨d, .call ⟨.builtin .append, #[x, y], #[t, t2]⟩, ty, pos, aft, none⟩ :: rest) T L ks Q := by
  refine SO.run (R := fun v L2 => ∃ b' c' zs sp, n + m ≤ c' ∧ zs.length = m * sz ∧ sp.length = (c' - (n + m)) * sz ∧ v = .slice (some ⟨b', 0, none⟩) (n + m) c' ∧ L2 = pts b' 0 (cs ++ zs ++ sp) :: L) rfl rfl hd ?_ (by rintro _ _ ⟨b', c', zs, sp, h1, h2, h3, rfl, rfl⟩; exact kk b' c' zs sp h1 h2 h3)
  intro q hq F W hst
  have hkk := (tab_ok ht).k
  have hk2 := (tab_ok ht2).k
  simp only [TK.ok] at hkk hk2
  have hsize := fun w => sizeOf_ok (tab_ok hte) w
  have hzero := fun w => zero_ok (tab_ok hte) w
  obtain ⟨ti, hti0, htib⟩ := info_ok (tab_ok hte) W
  have hti : ∀ w, (typeInfo e).run P w = .ok ti w := by
    intro w
    obtain ⟨i, hi, _⟩ := (tab_ok hte).info
    have h1 : (typeInfo e).run P w = .ok i w := by simp [typeInfo, program, Sem.run, bind, Sem.bind, hi, pure]
    have h2 : (typeInfo e).run P W = .ok i W := by simp [typeInfo, program, Sem.run, bind, Sem.bind, hi, pure]
    rw [h2] at hti0; cases hti0; exact h1
  simp only at hsize hzero htib
  have hzs : z2.cells.size = sz := by have := Nat.eq_of_beq_eq_true hzz; simpa using this
  have hb := Nat.le_of_ble_eq_true hb
  have hw : IntKind.i64.wrap (m : Int) = m := wrap_id (by omega) (by simp only [lim] at hlim; omega)
  have hneg : ¬ ((m : Int) < 0) := by omega
  have hbig : ¬ ((m : Int) * (ti.bytes : Int) > 2 ^ 48) := by
    have h2 : m * ti.bytes ≤ lim * 32768 := Nat.mul_le_mul (by omega) (by omega)
    have h3 : lim * 32768 = 70368744177664 := by decide
    rw [h3] at h2
    have h4 : (m : Int) * (ti.bytes : Int) = ((m * ti.bytes : Nat) : Int) := (Int.natCast_mul _ _).symm
    rw [h4]
    intro h
    have h5 : (2 : Int) ^ 48 = 281474976710656 := by decide
    rw [h5] at h
    omega
  have hbig2 : ¬ ((281474976710656 : Int) < (m : Int) * (ti.bytes : Int)) := by
    intro h; apply hbig
    have h5 : (2 : Int) ^ 48 = 281474976710656 := by decide
    rw [h5]; exact h
  have hroom : ¬ (n + m ≤ c) := by omega
  have hno' : ¬ ((9223372036854775807 : Int) < ((n : Int) + (m : Int))) := by simp only [lim] at hlim; omega
  have hcap : ¬ (Builtin.nextslicecap (n + m) c * ti.bytes > 2 ^ 48) := by
    have h1 := nextcap_le (n + m) c (by omega)
    have h2 : Builtin.nextslicecap (n + m) c * ti.bytes ≤ (2 * (n + m) + 2000) * 32768 := Nat.mul_le_mul h1 (by rw [htib]; exact hb)
    have h3 : (2 * (n + m) + 2000) * 32768 ≤ (2 * 2147483648 + 2000) * 32768 := Nat.mul_le_mul_right _ (by simp only [lim] at hlim; omega)
    intro h
    have h4 := Nat.lt_of_lt_of_le h (Nat.le_trans h2 h3)
    omega
  let cap := (Question.appendCap (n + m) c e).cut (W.tape W.drawn (.appendCap (n + m) c e))
  have hcap1 : n + m ≤ cap := by simp only [cap, Question.cut]; omega
  have hmark : ∀ (k : Nat) (w : World), (askRoom k).run P w = .ok () w := by
    intro k w; unfold askRoom; split <;> rfl
  have hW1 : ∀ b v j, W.cell? ⟨b, j, none⟩ = some v → W.drew.cell? ⟨b, j, none⟩ = some v := fun _ _ _ h => h
  let zs : Array Value := if m * sz = 0 then #[] else Builtin.zeroCells z2.cells m
  have hzl : zs.toList.length = m * sz := by
    simp only [zs]
    split
    · rename_i h; simp [h]
    · rw [Array.length_toList, zeroCells_len, hzs]
  have hst4 := (hst.drew (W.drawn + 1)).alloc (cs.toArray ++ zs ++ Builtin.zeroCells z2.cells (cap - (n + m))) e
  refine ⟨.slice (some ⟨W.heap.size, 0, none⟩) (n + m) cap, { W with drawn := W.drawn + 1, heap := W.heap.push (.cells (cs.toArray ++ zs ++ Builtin.zeroCells z2.cells (cap - (n + m))) e) }, pts W.heap.size 0 (cs ++ zs.toList ++ (Builtin.zeroCells z2.cells (cap - (n + m))).toList) :: L, .inl ?_, ⟨_, _, _, _, hcap1, hzl, by rw [Array.length_toList, zeroCells_len, hzs], rfl, rfl⟩, ?_⟩
  · have hforced : (Question.appendCap (n + m) c e).forced = false := rfl
    have hold : (Builtin.firstCells sz n (.slice (some ⟨b, off, none⟩) n c)).run P W.drew = .ok cs.toArray W.drew := run_first (P := P) (b := ⟨b, off, none⟩) rfl hc (fun j v hj => hW1 _ _ _ (hs F W hst j v hj))
    simp [execOp, resolve, invoke, builtin, hq _ _ hx, hq _ _ hy, Builtin.append_, Builtin.lenOf, asInt, asIntOf, run_und hkk, run_und hk2, hsize, hti, hw, hneg, hbig, hbig2, hroom, hno', hcap, hmark, hforced]
    rw [hold]
    by_cases h0 : m * sz = 0
    · simp [h0, zs, hzero, newRow, newObj, Sem.run]
      exact ⟨rfl, rfl⟩
    · simp [h0, zs, hzero, newRow, newObj, Sem.run]
      exact ⟨rfl, rfl⟩
  · have : (cs.toArray ++ zs ++ Builtin.zeroCells z2.cells (cap - (n + m))).toList = cs ++ zs.toList ++ (Builtin.zeroCells z2.cells (cap - (n + m))).toList := by simp
    rw [this] at hst4
    exact hst4.ent Ent.swap
end
end Go.Sl

/-! Structs compared, shifts, texts made of bytes. -/
set_option linter.unusedVariables false
set_option linter.unusedSectionVars false
set_option linter.unusedSimpArgs false
namespace Go.Sl
/-- Are two scalars equal? -/
def eq1 : TK → Value → Value → Option Bool
  | .int _, .int _ a, .int _ b => some (decide (a = b))
  | .str, .string a, .string b => some (eqS a b)
  | .bool, .bool a, .bool b => some (a == b)
  | _, _, _ => none
def intsOk : TK → Value → Value → Bool
  | .int k, .int k1 _, .int k2 _ => decide (k1 = k2)
  | _, _, _ => true
def eqFs (tab : List TI) : List (Nat × Nat) → List Value → List Value → Option Bool
  | [], _, _ => some true
  | (off, ty) :: fs, xs, ys => match xs[off]?, ys[off]?, tget tab ty with
    | some u, some v, some ti => match eq1 ti.k u v with
      | some b => bif intsOk ti.k u v then match eqFs tab fs xs ys with
        | some r => some (b && r)
        | none => none
        else none
      | none => none
    | _, _, _ => none
def eqOk (P : Program) (t : Nat) : Bool := match P.underlying t with
  | some (.struct F) => F.toList.all (fun f => decide (f.name ≠ "_")) && !P.stoodInHeld t && !P.eqGuardType P.depth t
  | _ => false
section
variable {P : Program} [tb : Tab P]
theorem eq1_ok {t : Nat} {ti : TI} (ht : ti.ok P t) {u v : Value} {b : Bool} (h : eq1 ti.k u v = some b) (hi : intsOk ti.k u v = true) (d : Nat) (w : World) : (Op.equalIn (d + 1) t u v).run P w = .ok b w ∧ ti.k.agg = false := by
  obtain ⟨k, n1, n2, z⟩ := ti
  have hk := ht.k
  simp only at h hi hk ⊢
  unfold eq1 at h
  split at h <;> first | (cases h; done) | skip
  · rename_i k0 k1 a k2 b'
    have : k1 = k2 := by simpa [intsOk] using hi
    subst this
    cases h
    simp only [TK.ok] at hk
    refine ⟨?_, rfl⟩
    rw [run_equalIn_int w d t k1 k0 a b' hk]; rfl
  · cases h
    simp only [TK.ok] at hk
    refine ⟨?_, rfl⟩
    rw [run_equalIn_string w d t _ _ hk, toList_eq]
  · cases h
    simp only [TK.ok] at hk
    exact ⟨run_equalIn_bool' w d t _ _ hk, rfl⟩
theorem eqFs_ok (d : Nat) {xs ys : List Value} : ∀ {F : List Field} {b : Bool} (hn : F.all (fun f => decide (f.name ≠ "_")) = true) (h : eqFs tb.tab (F.map fun f => (f.offset, f.type)) xs ys = some b) (w : World), (Op.eqFields (d + 1) xs.toArray ys.toArray F).run P w = .ok b w
  | [], b, _, h, w => by simp only [List.map_nil, eqFs] at h; cases h; rfl
  | f :: F, b, hn, h, w => by
    simp only [List.all_cons, Bool.and_eq_true, decide_eq_true_eq] at hn
    simp only [List.map_cons, eqFs] at h
    split at h
    · rename_i u v ti hu hv hti
      split at h
      · rename_i b1 hb1
        cases hi : intsOk ti.k u v with
        | false => rw [hi] at h; cases h
        | true =>
          rw [hi] at h
          simp only [cond_true] at h
          split at h
          · rename_i r hr
            cases h
            obtain ⟨h1, h2⟩ := eq1_ok (tab_ok hti) hb1 hi d w
            have hp : ∀ (cs : List Value) (c : Value), cs[f.offset]? = some c → (part f.type cs.toArray f.offset).run P w = .ok c w := fun cs c hc => by
              simp only [part, Sem.run_bind, isAgg_ok (tab_ok hti), Result.andThen_ok, h2]
              simp [hc]
            simp only [Op.eqFields, if_pos hn.1, Sem.run_bind, hp _ _ hu, hp _ _ hv, h1, Result.andThen_ok, ne_eq, hn.1, not_false_eq_true, if_true]
            cases b1 with
            | true => simp only [Bool.not_true, Bool.false_eq_true, if_false, Bool.true_and]; exact eqFs_ok d hn.2 hr w
            | false => simp
          · cases h
      · cases h
    · cases h
variable {rd : Option Nat} {N : Nat} {T : TT} {L E L' L1 : List HP} {Q : Post} {ks : List K} {RR : TT → List HP → Prop}
variable {all : Array Oper} {rest : List Oper} {restX : XO} {d : Option Tmp} {ty : TypeId} {pos : String} {aft : Array Edge}
theorem rd_agg {op : BinOp} {x y : Operand} {t cx n1 n2 : Nat} {z : Value} {fs : List (Nat × Nat)} {xs ys : List Value} {b r : Bool} (hx : evO T x = some (.agg xs.toArray)) (hy : evO T y = some (.agg ys.toArray)) (ht : tget tb.tab t = some ⟨.st fs, n1, n2, z⟩)
    (he : eqFs tb.tab fs xs ys = some b) (hok : eqOk P t = true) (hr : (op = .eql ∧ r = b) ∨ (op = .neq ∧ r = !b)) : Reads P T L ⟨d, .binOp op t x y cx, ty, pos, aft, none⟩ (fun u L' => u = .bool r ∧ L' = L) := by
  intro q hq rr oo F hs
  refine ⟨_, L, ⟨rfl, rfl⟩, hs, fun w _ => ?_⟩
  have hk := (tab_ok ht).k
  simp only [TK.ok] at hk
  obtain ⟨G, hG, hm⟩ := hk
  unfold eqOk at hok
  rw [hG] at hok
  simp only [Bool.and_eq_true, Bool.not_eq_true'] at hok
  obtain ⟨⟨h1, h2⟩, h3⟩ := hok
  subst hm
  have hF : P.fieldsOf t = G := by unfold Program.fieldsOf; rw [hG]
  have hrun : (Op.equal t (.agg xs.toArray) (.agg ys.toArray)).run P w = .ok b w := by
    unfold Op.equal
    rw [show Op.maxDepth = 9998 + 1 + 1 from rfl, run_equalIn_struct w _ t xs.toArray ys.toArray (by rw [hF]; exact hG) h2, hF]
    exact eqFs_ok _ h1 he w
  have hg : (eqGuard op t x y (.agg xs.toArray) (.agg ys.toArray)).run P w = .ok () w := by
    rcases hr with ⟨rfl, _⟩ | ⟨rfl, _⟩ <;> simp [eqGuard, Sem.run_bind, run_program, h3]
  rcases hr with ⟨rfl, rfl⟩ | ⟨rfl, rfl⟩ <;> simp only [execOp, hq _ _ hx, hq _ _ hy, Sem.run_bind, hg, Result.andThen_ok, binOp, hrun, Sem.run_pure]
theorem SO.agg {op : BinOp} {x y : Operand} {t cx n1 n2 : Nat} {z : Value} {fs : List (Nat × Nat)} {xs ys : List Value} {b r : Bool} (hx : evO T x = some (.agg xs.toArray)) (hy : evO T y = some (.agg ys.toArray)) (ht : tget tb.tab t = some ⟨.st fs, n1, n2, z⟩)
    (he : eqFs tb.tab fs xs ys = some b) (hr : (op = .eql ∧ r = b) ∨ (op = .neq ∧ r = !b)) (hok : eqOk P t = true) (hd : dstOk N d = true) (kk : SO P rd N all rest (putD d (.bool r) T) L ks Q) : SO P rd N all (⟨d, .binOp op t x y cx, ty, pos, aft, none⟩ :: rest) T L ks Q :=
  SO.reads (rd_agg hx hy ht he hok hr) rfl rfl hd (by rintro _ _ ⟨rfl, rfl⟩; exact kk)
theorem SQ.agg {op : BinOp} {x y : Operand} {t cx n1 n2 : Nat} {z : Value} {fs : List (Nat × Nat)} {xs ys : List Value} {b r : Bool} (hx : evO T x = some (.agg xs.toArray)) (hy : evO T y = some (.agg ys.toArray)) (ht : tget tb.tab t = some ⟨.st fs, n1, n2, z⟩)
    (he : eqFs tb.tab fs xs ys = some b) (hr : (op = .eql ∧ r = b) ∨ (op = .neq ∧ r = !b)) (hok : eqOk P t = true) (hd : dstOk N d = true) (kk : SQ P N all rest (putD d (.bool r) T) L RR) : SQ P N all (⟨d, .binOp op t x y cx, ty, pos, aft, none⟩ :: rest) T L RR :=
  SQ.reads (rd_agg hx hy ht he hok hr) rfl hd (by rintro _ _ ⟨rfl, rfl⟩; exact kk)
theorem SX.agg {op : BinOp} {x y : Operand} {t cx n1 n2 : Nat} {z : Value} {fs : List (Nat × Nat)} {xs ys : List Value} {b r : Bool} (hx : evO T x = some (.agg xs.toArray)) (hy : evO T y = some (.agg ys.toArray)) (ht : tget tb.tab t = some ⟨.st fs, n1, n2, z⟩)
    (he : eqFs tb.tab fs xs ys = some b) (hr : (op = .eql ∧ r = b) ∨ (op = .neq ∧ r = !b)) (hok : eqOk P t = true) (hd : dstOk N d = true) (kk : SX P rd N all restX (putD d (.bool r) T) L E ks Q) : SX P rd N all (.item 0 ⟨d, .binOp op t x y cx, ty, pos, aft, none⟩ restX) T L E ks Q :=
  SX.reads (rd_agg hx hy ht he hok hr) rfl hd (by rintro _ _ ⟨rfl, rfl⟩; exact kk)
/-- Shifts to the right by a number that is known. -/
theorem rd_shr {x y : Operand} {t cx : Nat} {k k2 : IntKind} {a b : Int} {v : Value} (hx : evO T x = some (.int k a)) (hy : evO T y = some (.int k2 b)) (hb : decide (0 ≤ b ∧ b < k.bits) = true) (hv : Value.int k (a.fdiv (2 ^ b.toNat)) = v) :
    Reads P T L ⟨d, .binOp .shr t x y cx, ty, pos, aft, none⟩ (fun u L' => u = v ∧ L' = L) := by
  intro q hq rr oo F hs
  refine ⟨_, L, ⟨rfl, rfl⟩, hs, fun w _ => ?_⟩
  simp only [decide_eq_true_eq] at hb
  have h1 : (eqGuard .shr t x y (.int k a) (.int k2 b)).run P w = .ok () w := by unfold eqGuard; simp
  have h2 : min b.toNat k.bits = b.toNat := by omega
  simp only [execOp, hq _ _ hx, hq _ _ hy, Sem.run_bind, h1, Result.andThen_ok, binOp, Op.shift, if_neg (show ¬ b < 0 by omega), h2, Sem.run_pure, hv]
theorem SO.shr {x y : Operand} {t cx : Nat} {k k2 : IntKind} {a b : Int} {v : Value} (hx : evO T x = some (.int k a)) (hy : evO T y = some (.int k2 b)) (hb : decide (0 ≤ b ∧ b < k.bits) = true) (hv : Value.int k (a.fdiv (2 ^ b.toNat)) = v) (hd : dstOk N d = true)
    (kk : SO P rd N all rest (putD d v T) L ks Q) : SO P rd N all (⟨d, .binOp .shr t x y cx, ty, pos, aft, none⟩ :: rest) T L ks Q :=
  SO.reads (rd_shr hx hy hb hv) rfl rfl hd (by rintro _ _ ⟨rfl, rfl⟩; exact kk)
/-- A slice's value alone, in a region of open order. -/
theorem rd_sliceN {x : Operand} {lo hi : Option Operand} {b o n c i j t e sz n1 n2 b1 : Nat} {z z2 : Value} {ke : TK} (hx : evO T x = some (.slice (some ⟨b, o, none⟩) n c)) {vl vh : Option Value} {k1 k2 : IntKind}
    (hlo : evOo T lo = some vl) (hhi : evOo T hi = some vh) (ht : tget tb.tab t = some ⟨.sl e, n1, n2, z⟩) (hte : tget tb.tab e = some ⟨ke, sz, b1, z2⟩) (hl : vl = some (.int k1 i) ∨ (vl = none ∧ i = 0)) (hv : vh = some (.int k2 j) ∨ (vh = none ∧ j = n)) (h1 : i ≤ j) (h2 : j ≤ c) (h3 : n ≤ c) (h4 : i < c ∨ i = 0) :
    Reads P T L ⟨d, .slice t x lo hi none, ty, pos, aft, none⟩ (fun u L' => u = .slice (some ⟨b, o + i * sz, none⟩) (j - i) (c - i) ∧ L' = L) := by
  intro q hq rr oo F hs
  refine ⟨_, L, ⟨rfl, rfl⟩, hs, fun w _ => ?_⟩
  simp only [execOp, hq _ _ hx, evOo_ok hq hlo, evOo_ok hq hhi, Option.map_none, Sem.run_bind, run_slice_lo ht hte h1 h2 h3 hl hv, Result.andThen_ok]
  have e : (if c = i then some (⟨b, o, none⟩ : Addr) else (some (⟨b, o, none⟩ : Addr)).map (·.add (i * sz))) = some ⟨b, o + i * sz, none⟩ := by
    split
    · rename_i hc
      have : i = 0 := by omega
      subst this; simp
    · simp only [Option.map_some, eadr_base (a := ⟨b, o, none⟩) rfl]
  rw [e]; rfl
theorem SX.sliceN {x : Operand} {lo hi : Option Operand} {b o n c i j t e sz n1 n2 b1 : Nat} {z z2 : Value} {ke : TK} (hx : evO T x = some (.slice (some ⟨b, o, none⟩) n c)) {vl vh : Option Value} {k1 k2 : IntKind}
    (hlo : evOo T lo = some vl) (hhi : evOo T hi = some vh) (ht : tget tb.tab t = some ⟨.sl e, n1, n2, z⟩) (hte : tget tb.tab e = some ⟨ke, sz, b1, z2⟩) (hd : dstOk N d = true) (hl : vl = some (.int k1 i) ∨ (vl = none ∧ i = 0)) (hv : vh = some (.int k2 j) ∨ (vh = none ∧ j = n)) (h1 : i ≤ j) (h2 : j ≤ c) (h3 : n ≤ c) (h4 : i < c ∨ i = 0)
    (kk : SX P rd N all restX (putD d (.slice (some ⟨b, o + i * sz, none⟩) (j - i) (c - i)) T) L E ks Q) : SX P rd N all (.item 0 ⟨d, .slice t x lo hi none, ty, pos, aft, none⟩ restX) T L E ks Q :=
  SX.reads (rd_sliceN hx hlo hhi ht hte hl hv h1 h2 h3 h4) rfl hd (by rintro _ _ ⟨rfl, rfl⟩; exact kk)
/-- A text made of own bytes. -/
def bytesS (l : List Int) : ByteArray := ⟨(l.map fun n => UInt8.ofNat n.toNat).toArray⟩
theorem SO.strOf {x : Operand} {t t2 e n1 n2 n3 n4 n5 n6 : Nat} {z0 z1 z2 : Value} {b o n c : Nat} {l : List Int} {vs : List Value} (hx : evO T x = some (.slice (some ⟨b, o, none⟩) n c)) (ht : tget tb.tab t = some ⟨.sl e, n3, n4, z1⟩) (hte : tget tb.tab e = some ⟨.int .u8, n5, n6, z2⟩) (ht2 : tget tb.tab t2 = some ⟨.str, n1, n2, z0⟩)
    (hh : Take (pts b o vs) L L') (hl : vs = l.map (Value.int .u8)) (hn : n = l.length) (hd : dstOk N d = true)
    (kk : SO P rd N all rest (putD d (.string (bytesS l)) T) L ks Q) : SO P rd N all (⟨d, .convert t t2 x, ty, pos, aft, none⟩ :: rest) T L ks Q := by
  refine SO.run (R := fun v L2 => v = .string (bytesS l) ∧ L2 = L) rfl rfl hd ?_ (by rintro _ _ ⟨rfl, rfl⟩; exact kk)
  intro q hq F w hst
  have hk1 := (tab_ok ht).k
  have hk2 := (tab_ok ht2).k
  have hke := (tab_ok hte).k
  simp only [TK.ok] at hk1 hk2 hke
  subst hl hn
  have h2 : St w (pts b o (l.map (Value.int .u8)) :: F :: L') := (hst.ent (Ent.cons hh.ent)).ent Ent.swap
  have hcs := loadCells_ok (P := P) (w := w) (b := b) (off := o) (l.map (Value.int .u8)) 0 #[] (fun j v hj => by have := (h2.cell hj).1; simpa using this)
  rw [List.length_map] at hcs
  refine ⟨_, w, L, .inl ?_, ⟨rfl, rfl⟩, hst⟩
  simp only [execOp, hq _ _ hx, convert, Sem.run_bind, run_und hk1, run_und hk2, run_und hke, Result.andThen_ok, Conv.bytesToString, loadCells, hcs]
  have hloop : ∀ (l : List Int) (s : ByteArray), (forIn (l.map (Value.int .u8)) s (fun c (s : ByteArray) => (do
      let .int .u8 n := c | stuck "bytesToString: byte expected"
      Pure.pure (ForInStep.yield (s.push (UInt8.ofNat n.toNat))) : Sem (ForInStep ByteArray)))).run P w = .ok ⟨s.data ++ (l.map fun n => UInt8.ofNat n.toNat).toArray⟩ w := by
    intro l
    induction l with
    | nil => intro s; simp
    | cons a l ih =>
      intro s
      simp only [List.map_cons, List.forIn_cons, Sem.run_bind, Sem.run_pure, Result.andThen_ok]
      rw [ih]
      congr 2
      simp [ByteArray.push]
  have := hloop l ByteArray.empty
  rw [← Array.forIn_toList]
  simp only [Array.toList_append, List.toList_toArray, List.nil_append, Array.toList_empty] at *
  erw [this]
  have he : (⟨ByteArray.empty.data ++ (l.map fun n => UInt8.ofNat n.toNat).toArray⟩ : ByteArray) = bytesS l := by
    unfold bytesS
    congr 1
    exact Array.empty_append
  rw [he]
  rfl
end
end Go.Sl

/-! Books, plainly: what is wrong with one; numbers in decimal. -/
set_option linter.unusedVariables false
set_option linter.unusedSimpArgs false
namespace Go.Sl
open Go.Lib (compareBytes)
theorem less_cmp : ∀ a b : List UInt8, Op.bytesLess a b = decide (compareBytes a b < 0)
  | [], [] => rfl
  | [], _ :: _ => rfl
  | _ :: _, [] => rfl
  | x :: a, y :: b => by
    simp only [Op.bytesLess, compareBytes]
    by_cases h1 : x < y
    · simp [h1]
    · by_cases h2 : y < x
      · have : x ≠ y := fun e => by subst e; exact h1 h2
        simp [h1, h2, this]
      · have : x = y := UInt8.le_antisymm (UInt8.not_lt.1 h2) (UInt8.not_lt.1 h1)
        subst this
        simp [h1, less_cmp a b]
theorem ltS_cmp (a b : ByteArray) : ltS a b = decide (cmpB a b < 0) := less_cmp _ _
theorem leS_cmp (a b : ByteArray) : (ltS a b || eqS a b) = !decide (cmpB b a < 0) := by
  rw [ltS_cmp]
  have h := cmpB_neg a b
  by_cases h1 : cmpB a b < 0
  · have h2 : ¬ cmpB b a < 0 := by omega
    simp [h1, h2]
  · by_cases h2 : cmpB a b = 0
    · have h3 : ¬ cmpB b a < 0 := by omega
      have h4 : eqS a b = true := eqS_iff.2 (cmpB_zero h2)
      simp [h1, h3, h4]
    · have h3 : cmpB b a < 0 := by omega
      have h4 : eqS a b = false := by rw [Bool.eq_false_iff]; intro h; rw [eqS_iff.1 h, cmpB_self] at h2; exact h2 rfl
      simp [h1, h3, h4]
/-- What is wrong with a cell. -/
def clBad (c : Cl) : Int := if cellBad c.key c.val ≠ 0 then cellBad c.key c.val else if c.site < 0 ∨ 8 ≤ c.site ∨ c.seq < 1 ∨ 1048576 < c.seq then 1 else 0
def riseOk (p : Option Cl) (c : Cl) : Bool := match p with
  | none => true
  | some q => decide (cmpB q.key c.key < 0)
def chkB : Option Cl → List Cl → Int
  | _, [] => 0
  | p, c :: b => if clBad c ≠ 0 then clBad c else if riseOk p c = false then 13 else chkB (some c) b
/-- What stands ahead of a place. -/
def prevB (b : List Cl) (i : Nat) : Option Cl := if i = 0 then none else b[i - 1]?
theorem chkB_step {b : List Cl} {i : Nat} {c : Cl} (hc : b[i]? = some c) (h : chkB none b = chkB (prevB b i) (b.drop i)) : chkB none b = if clBad c ≠ 0 then clBad c else if riseOk (prevB b i) c = false then 13 else chkB (prevB b (i + 1)) (b.drop (i + 1)) := by
  have hi := List.getElem?_eq_some_iff.1 hc
  rw [h, List.drop_eq_getElem_cons hi.1, hi.2, chkB]
  rw [show prevB b (i + 1) = some c by unfold prevB; simp [hc]]
theorem chkB_end {b : List Cl} {i : Nat} (hi : b.length ≤ i) (h : chkB none b = chkB (prevB b i) (b.drop i)) : chkB none b = 0 := by
  rw [h, List.drop_eq_nil_of_le hi]; rfl
theorem chkB_zero : ∀ {b : List Cl} {p : Option Cl}, chkB p b = 0 → (∀ c ∈ b, clBad c = 0) ∧ ris b ∧ ∀ q, p = some q → ∀ c ∈ b, cmpB q.key c.key < 0
  | [], p, _ => ⟨fun _ h => (by cases h), List.Pairwise.nil, fun _ _ _ h => (by cases h)⟩
  | c :: b, p, h => by
    simp only [chkB] at h
    split at h
    · rename_i h1; exact absurd h h1
    · rename_i h1
      have h1 : clBad c = 0 := by simpa using h1
      split at h
      · cases h
      · rename_i h2
        obtain ⟨h3, h4, h5⟩ := chkB_zero h
        refine ⟨fun x hx => ?_, List.pairwise_cons.2 ⟨h5 c rfl, h4⟩, fun q hq x hx => ?_⟩
        · rcases List.mem_cons.1 hx with rfl | hx
          · exact h1
          · exact h3 x hx
        · subst hq
          have hqc : cmpB q.key c.key < 0 := by simpa [riseOk] using h2
          rcases List.mem_cons.1 hx with rfl | hx
          · exact hqc
          · exact cmpB_trans hqc (h5 c rfl x hx)
theorem chkB_good : ∀ {b : List Cl} {p : Option Cl}, (∀ c ∈ b, clBad c = 0) → ris b → (∀ q, p = some q → ∀ c ∈ b, cmpB q.key c.key < 0) → chkB p b = 0
  | [], _, _, _, _ => rfl
  | c :: b, p, h1, h2, h3 => by
    obtain ⟨h4, h5⟩ := List.pairwise_cons.1 h2
    have hr : riseOk p c = true := by
      cases p with
      | none => rfl
      | some q => simpa [riseOk] using h3 q rfl c (by simp)
    simp only [chkB, h1 c (by simp), hr]
    simp
    exact chkB_good (fun x hx => h1 x (by simp [hx])) h5 (fun q hq x hx => by cases hq; exact h4 x hx)
/-! ### Decimal -/
def dig (d : Nat) : ByteArray := bytesS [48 + (d : Int)]
def decF : Nat → Nat → ByteArray
  | 0, _ => bE
  | f + 1, n => if n < 10 then dig n else decF f (n / 10) ++ dig (n % 10)
/-- A number in decimal. -/
def decS (n : Nat) : ByteArray := decF 20 n
def preF (f n : Nat) : ByteArray := if n < 10 then bE else decF f (n / 10)
theorem bE_app (a : ByteArray) : bE ++ a = a := by
  apply ByteArray.ext
  simp [bE]
theorem decF_pre (f n : Nat) : decF (f + 1) n = preF f n ++ dig (n % 10) := by
  unfold preF
  simp only [decF]
  split
  · rename_i h; rw [bE_app, Nat.mod_eq_of_lt h]
  · rfl
theorem preF_step {f n : Nat} (h : ¬ n < 10) : preF (f + 1) n = preF f (n / 10) ++ dig (n / 10 % 10) := by
  rw [show preF (f + 1) n = decF (f + 1) (n / 10) by unfold preF; rw [if_neg h], decF_pre]
theorem decF_size : ∀ (f n : Nat), (decF f n).size ≤ f
  | 0, _ => Nat.le_refl 0
  | f + 1, n => by
    have := decF_size f (n / 10)
    simp only [decF]
    split
    · show 1 ≤ f + 1; omega
    · rw [ByteArray.size_append]
      show _ + 1 ≤ f + 1; omega
theorem decS_size (n : Nat) : (decS n).size ≤ 20 := decF_size 20 n
end Go.Sl

/-! Records within arguments; what a key holds at last. -/
set_option linter.unusedVariables false
set_option linter.unusedSimpArgs false
namespace Go.Sl
theorem slC_has {w : World} {F : HP} {L : List HP} {α : Type} {ρ : Rep α} {A : Option Addr} {n : Nat} {l : List α} (h : Has (slC ρ A n l) L) (hn : n ≤ lim) (hst : St w (F :: L)) : St w (F :: slAt ρ A n l :: L) := by
  refine hst.ent (Ent.cons ?_)
  refine (h.ent (pers_slC _ _ _ _)).trans ?_
  rintro r o ⟨a, b, d, le, hA, hL⟩
  exact ⟨own0, o, fun _ _ => .inl rfl, none_add, hA.2 hn, seps_up (Ro.le_refl _) (Own.le_trans (Own.le_add_right d) le) hL⟩
/-- All short: as any records. -/
theorem recs_conv {A : Option Addr} {n : Nat} {l : List Rc} {L : List HP} (hl : ∀ x ∈ l, x.dep.length ≤ lim) : Ent (slAt RRecC A n l :: L) (slAt RRec A n l :: L) := by
  rintro r o ⟨a, b, d, le, ⟨h0, h1, h2, h3⟩, hL⟩
  refine ⟨a, b, d, le, ⟨h0, h1, h2, fun a' ha => ?_⟩, hL⟩
  obtain ⟨hs, z, hz, hc, hm⟩ := h3 a' ha
  refine ⟨hs, z, hz, ?_, fun i x h e => ?_⟩
  · have : ∀ z : List (Rc × Pl), flat RRec z = flat RRecC z := by
      intro z
      induction z with
      | nil => rfl
      | cons p z ih =>
        obtain ⟨x, h⟩ := p
        show RRec.cells x h ++ flat RRec z = RRecC.cells x h ++ flat RRecC z
        rw [ih]; rfl
    rw [show flat RRec z = flat RRecC z from this z]
    exact hc
  · refine rec_conv (hl x ?_) (hm i x h e)
    rw [← hz]
    exact List.mem_map.2 ⟨(x, h), List.mem_of_getElem? e, rfl⟩
/-- The last one of a key is what it holds. -/
theorem getB_last {b : List Cl} {l : List Rc} {i : Nat} {r : Rc} (hb : ris b) (hr : l[i]? = some r) (hlast : (l.drop (i + 1)).all (fun x => !decide (x.key = r.key)) = true) : getB (bookAt b l l.length) r.key = some (clOf r) := by
  have hi := List.getElem?_eq_some_iff.1 hr
  unfold bookAt
  rw [List.take_length, getB_puts hb]
  have e : l.map clOf = (l.take i).map clOf ++ (clOf r :: (l.drop (i + 1)).map clOf) := by
    conv => lhs; rw [← List.take_append_drop i l, List.drop_eq_getElem_cons hi.1, hi.2]
    rw [List.map_append]; rfl
  have hno : (((l.drop (i + 1)).map clOf).reverse.find? fun x => decide (x.key = r.key)) = none := by
    rw [List.find?_eq_none]
    intro x hx
    rw [List.mem_reverse, List.mem_map] at hx
    obtain ⟨y, hy, rfl⟩ := hx
    have := List.all_eq_true.1 hlast y hy
    show ¬ decide (y.key = r.key) = true
    rw [Bool.not_eq_true'] at this
    rw [this]; simp
  rw [e, List.reverse_append, List.reverse_cons, List.append_assoc, List.find?_append, hno]
  simp [clOf]
theorem getB_none {b : List Cl} {l : List Rc} {k : ByteArray} (hb : ris b) (hno : l.all (fun x => !decide (x.key = k)) = true) : getB (bookAt b l l.length) k = getB b k := by
  unfold bookAt
  rw [List.take_length, getB_puts hb]
  have : ((l.map clOf).reverse.find? fun x => decide (x.key = k)) = none := by
    rw [List.find?_eq_none]
    intro x hx
    rw [List.mem_reverse, List.mem_map] at hx
    obtain ⟨y, hy, rfl⟩ := hx
    have := List.all_eq_true.1 hno y hy
    show ¬ decide (y.key = k) = true
    rw [Bool.not_eq_true'] at this
    rw [this]; simp
  rw [this]; rfl
theorem bookAt_all (b : List Cl) (l : List Rc) : bookAt b l l.length = putsB b (l.map clOf) := by
  unfold bookAt; rw [List.take_length]
theorem bookAt_parts (b : List Cl) (l : List Rc) (k : Nat) : bookAt (bookAt b (l.take k) (l.take k).length) (l.drop k) (l.drop k).length = bookAt b l l.length := by
  rw [bookAt_all, bookAt_all, bookAt_all, ← putsB_app, ← List.map_append, List.take_append_drop]
/-- Books made of good records are good. -/
theorem bookAt_good {l : List Rc} (hl : ∀ x ∈ l, clBad (clOf x) = 0) : chkB none (bookAt [] l l.length) = 0 := by
  refine chkB_good (fun c hc => ?_) (bookAt_ris List.Pairwise.nil l _) (fun q hq => by cases hq)
  rw [bookAt_all] at hc
  rcases putsB_mem hc with h | h
  · obtain ⟨y, hy, rfl⟩ := List.mem_map.1 h
    exact hl y hy
  · cases h
theorem rec_clBad {r : Rc} (h : checkR r 8 = 0) : clBad (clOf r) = 0 := by
  rw [checkR_cell] at h
  unfold clBad clOf
  split at h
  · cases h
  · rename_i h1
    split at h
    · rename_i h2; exact absurd h h2
    · split at h
      · cases h
      · rw [if_neg (by rw [h]; simp), if_neg (by simp only; omega)]
end Go.Sl

/-! Records of unlike keys, in any order. -/
set_option linter.unusedVariables false
set_option linter.unusedSimpArgs false
namespace Go.Sl
/-- The key of a number. -/
def keyN (i : Nat) : ByteArray := ⟨#[107]⟩ ++ decS i
/-- What the so-many-th byte's record says. -/
def ordC (i : Nat) (v : Int) : Rc := ⟨0, ((i + 1 : Nat) : Int), [], keyN i, decS v.toNat⟩
def ordZ (i : Nat) : Rc := ⟨0, 9, [], keyN i, ⟨#[122]⟩⟩
def ordL (l : List Int) : List Rc := l.zipIdx.map fun x => ordC x.2 x.1
theorem ordL_len (l : List Int) : (ordL l).length = l.length := by simp [ordL]
theorem ordL_get {l : List Int} {i : Nat} {v : Int} (h : l[i]? = some v) : (ordL l)[i]? = some (ordC i v) := by
  unfold ordL
  rw [List.getElem?_map, List.getElem?_zipIdx, h]; simp
/-- The book of those that were taken, in their order. -/
def ordB (l : List Int) (js : List Nat) : List Cl := putsB [] (js.flatMap fun j => [clOf (ordZ j), clOf (ordC j (l.getD j 0))])
theorem ordB_step (l : List Int) (js : List Nat) (j : Nat) : ordB l (js ++ [j]) = putB (putB (ordB l js) (clOf (ordZ j))) (clOf (ordC j (l.getD j 0))) := by
  unfold ordB
  rw [List.flatMap_append, putsB_app]; rfl
theorem ordB_ris (l : List Int) (js : List Nat) : ris (ordB l js) := putsB_ris List.Pairwise.nil
theorem getB_ord (l : List Int) (k : ByteArray) : ∀ (n : Nat) (js : List Nat), js.length = n → getB (ordB l js) k = (js.reverse.find? fun j => decide (keyN j = k)).map fun j => clOf (ordC j (l.getD j 0))
  | 0, js, h => by
    obtain rfl := List.length_eq_zero_iff.1 h
    rfl
  | n + 1, js, h => by
    have hne : js ≠ [] := fun e => by rw [e] at h; simp at h
    obtain ⟨js', j, rfl⟩ : ∃ js' j, js = js' ++ [j] := ⟨js.dropLast, js.getLast hne, (List.dropLast_concat_getLast hne).symm⟩
    have ih := getB_ord l k n js' (by simpa using h)
    rw [ordB_step, putB_ins, getB_insB (by rw [putB_ins]; exact insB_ris (ordB_ris l js')), putB_ins, getB_insB (ordB_ris l js'), ih, List.reverse_append]
    simp only [List.reverse_cons, List.reverse_nil, List.nil_append, List.singleton_append, List.find?_cons]
    by_cases hk : keyN j = k
    · simp [clOf, ordC, hk]
    · simp [clOf, ordC, ordZ, hk]
theorem getB_ordA (l : List Int) (k : ByteArray) : ∀ (i : Nat), i ≤ l.length → getB (bookAt [] (ordL l) i) k = ((List.range i).reverse.find? fun j => decide (keyN j = k)).map fun j => clOf (ordC j (l.getD j 0))
  | 0, _ => rfl
  | i + 1, h => by
    have ih := getB_ordA l k i (by omega)
    obtain ⟨v, hv⟩ : ∃ v, l[i]? = some v := ⟨_, List.getElem?_eq_getElem (by omega)⟩
    have hd : l.getD i 0 = v := by rw [List.getD_eq_getElem?_getD, hv]; rfl
    rw [bookAt_step (ordL_get hv), putB_ins, getB_insB (bookAt_ris List.Pairwise.nil _ _), ih, List.range_succ, List.reverse_append]
    simp only [List.reverse_cons, List.reverse_nil, List.nil_append, List.singleton_append, List.find?_cons]
    rw [show (clOf (ordC i v)).key = keyN i from rfl]
    by_cases hk : keyN i = k
    · subst hk
      rw [if_pos rfl, decide_eq_true rfl]
      show _ = some (clOf (ordC i (l.getD i 0)))
      rw [hd]
    · rw [if_neg hk, decide_eq_false hk]
theorem keyN_inj : ∀ i, i < 12 → ∀ j, j < 12 → keyN i = keyN j → i = j := of_decide_eq_true (by kernel_rfl)
theorem keyN_ok : ∀ i, i < 12 → 1 ≤ (keyN i).size ∧ (keyN i).size ≤ 8 ∧ nameOk (keyN i) = true := of_decide_eq_true (by kernel_rfl)
theorem decS_ok : ∀ v, v < 256 → (decS v).size ≤ 16 ∧ valOk (decS v) = true := of_decide_eq_true (by kernel_rfl)
theorem find_perm {α : Type} {a b : List α} {p : α → Bool} (h : a.Perm b) (hu : ∀ x ∈ a, ∀ y ∈ a, p x = true → p y = true → x = y) : a.find? p = b.find? p := by
  cases ha : a.find? p with
  | none =>
    symm
    rw [List.find?_eq_none] at ha ⊢
    exact fun x hx => ha x (h.mem_iff.2 hx)
  | some x =>
    have hx := List.mem_of_find?_eq_some ha
    have px := List.find?_some ha
    cases hb : b.find? p with
    | none =>
      rw [List.find?_eq_none] at hb
      exact absurd px (hb x (h.mem_iff.1 hx))
    | some y =>
      have hy := h.mem_iff.2 (List.mem_of_find?_eq_some hb)
      rw [hu x hx y hy px (List.find?_some hb)]
/-- In whatever order they come, the book is the same. -/
theorem ord_same {l : List Int} {js : List Nat} (h12 : l.length ≤ 12) (h : js.Perm (List.range l.length)) : bookAt [] (ordL l) l.length = ordB l js := by
  refine books_ext (bookAt_ris List.Pairwise.nil _ _) (ordB_ris _ _) fun k => ?_
  rw [getB_ordA l k l.length (Nat.le_refl _), getB_ord l k js.length js rfl]
  congr 1
  refine find_perm ((List.reverse_perm _).trans (h.symm.trans (List.reverse_perm _).symm)) fun x hx y hy px py => ?_
  rw [List.mem_reverse, List.mem_range] at hx hy
  exact keyN_inj x (by omega) y (by omega) ((of_decide_eq_true px).trans (of_decide_eq_true py).symm)
theorem insB_len_new : ∀ {b : List Cl} {c : Cl}, getB b c.key = none → (insB b c).length = b.length + 1
  | [], c, _ => rfl
  | y :: b, c, h => by
    unfold getB at h
    rw [List.find?_cons] at h
    have hy : y.key ≠ c.key := fun e => by rw [decide_eq_true e] at h; cases h
    rw [decide_eq_false hy] at h
    have ih := insB_len_new (b := b) (c := c) h
    simp only [insB]
    split
    · simp [ih]
    · split
      · rename_i h0; exact absurd (cmpB_zero h0) hy
      · simp
theorem ordA_len {l : List Int} (h12 : l.length ≤ 12) : ∀ i, i ≤ l.length → (bookAt [] (ordL l) i).length = i
  | 0, _ => rfl
  | i + 1, h => by
    have ih := ordA_len h12 i (by omega)
    obtain ⟨v, hv⟩ : ∃ v, l[i]? = some v := ⟨_, List.getElem?_eq_getElem (by omega)⟩
    rw [bookAt_step (ordL_get hv), putB_ins, insB_len_new, ih]
    rw [getB_ordA l _ i (by omega)]
    have : ((List.range i).reverse.find? fun j => decide (keyN j = (clOf (ordC i v)).key)) = none := by
      rw [List.find?_eq_none]
      intro j hj he
      rw [List.mem_reverse, List.mem_range] at hj
      have := keyN_inj j (by omega) i (by omega) (of_decide_eq_true he)
      omega
    rw [this]; rfl
theorem ordC_good {i : Nat} {v : Int} (hi : i < 12) (hv : 0 ≤ v ∧ v ≤ 255) : clBad (clOf (ordC i v)) = 0 := by
  obtain ⟨h1, h2, h3⟩ := keyN_ok i hi
  obtain ⟨h4, h5⟩ := decS_ok v.toNat (by omega)
  have hc : cellBad (keyN i) (decS v.toNat) = 0 := by
    unfold cellBad
    rw [if_neg (by rintro (h | h | h) <;> first | omega | (rw [h3] at h; cases h)), if_neg (by rw [h5]; simp), if_neg (by omega)]
  unfold clBad
  rw [if_neg (by show ¬ cellBad (keyN i) (decS v.toNat) ≠ 0; rw [hc]; simp), if_neg (by show ¬ ((0 : Int) < 0 ∨ (8 : Int) ≤ 0 ∨ ((i + 1 : Nat) : Int) < 1 ∨ (1048576 : Int) < ((i + 1 : Nat) : Int)); omega)]
theorem ordA_good {l : List Int} (h12 : l.length ≤ 12) (hl : ∀ v ∈ l, 0 ≤ v ∧ v ≤ 255) : chkB none (bookAt [] (ordL l) l.length) = 0 := by
  rw [← ordL_len l]
  refine bookAt_good fun r hr => ?_
  obtain ⟨i, hi⟩ := List.getElem?_of_mem hr
  have hlt := (List.getElem?_eq_some_iff.1 hi).1
  rw [ordL_len] at hlt
  obtain ⟨v, hv⟩ : ∃ v, l[i]? = some v := ⟨_, List.getElem?_eq_getElem hlt⟩
  rw [ordL_get hv] at hi
  cases hi
  exact ordC_good (by omega) (hl v (List.mem_of_getElem? hv))
theorem ordA_vals {l : List Int} {x : Cl} (h : x ∈ bookAt [] (ordL l) l.length) : x.val.size ≤ 20 := by
  rw [← ordL_len l, bookAt_all] at h
  rcases putsB_mem h with h | h
  · obtain ⟨r, hr, rfl⟩ := List.mem_map.1 h
    obtain ⟨y, _, rfl⟩ := List.mem_map.1 hr
    exact decS_size _
  · cases h
/-- The numbers so far, noughts behind them. -/
def initL (n i : Nat) : List Int := (List.range i).map (fun k : Nat => (k : Int)) ++ List.replicate (n - i) 0
theorem initL_step {n i : Nat} (h : i < n) : (initL n i).set i (i : Int) = initL n (i + 1) := by
  unfold initL
  rw [show n - i = (n - (i + 1)) + 1 by omega, List.replicate_succ, List.set_append_right _ _ (by simp)]
  simp [List.range_succ]
theorem initL_end (n : Nat) : initL n n = (List.range n).map fun k : Nat => (k : Int) := by simp [initL]
theorem initL_len {n i : Nat} (h : i ≤ n) : (initL n i).length = n := by simp [initL]; omega
theorem ordF_len (l : List Int) : ∀ js : List Nat, (js.flatMap fun j => [clOf (ordZ j), clOf (ordC j (l.getD j 0))]).length = 2 * js.length
  | [] => rfl
  | j :: js => by
    have := ordF_len l js
    simp only [List.flatMap_cons, List.length_append, List.length_cons, List.length_nil]
    omega
theorem ordB_len (l : List Int) (js : List Nat) : (ordB l js).length ≤ 2 * js.length := by
  have h := putsB_len (b := []) (l := js.flatMap fun j => [clOf (ordZ j), clOf (ordC j (l.getD j 0))])
  rw [ordF_len] at h
  simpa [ordB] using h
/-- One is taken away. -/
theorem perm_take {left js all : List Nat} {k j : Nat} (h : (left ++ js).Perm all) (hj : left[k]? = some j) : ((left.take k ++ left.drop (k + 1)) ++ (js ++ [j])).Perm all := by
  refine List.Perm.trans ?_ h
  have hk := List.getElem?_eq_some_iff.1 hj
  have e : left = left.take k ++ j :: left.drop (k + 1) := by
    conv => lhs; rw [← List.take_append_drop k left, List.drop_eq_getElem_cons hk.1, hk.2]
  have h1 : ((left.take k ++ left.drop (k + 1)) ++ (js ++ [j])).Perm (j :: ((left.take k ++ left.drop (k + 1)) ++ js)) := by
    rw [← List.append_assoc]
    exact List.perm_append_singleton j _
  refine h1.trans ?_
  conv => rhs; rw [e]
  rw [List.append_assoc, List.append_assoc]
  exact List.perm_middle.symm
end Go.Sl

/-! Slices of plain elements by their cells; a row that is made with nothing marked behind it; 'slices.overlaps'. -/
set_option linter.unusedVariables false
set_option linter.unusedSectionVars false
set_option linter.unusedSimpArgs false
namespace Go.Sl
/-- Elements that lead to nothing. -/
structure Plain {α : Type} (ρ : Rep α) (h : ρ.V) : Prop where
  at0 : ∀ x, ρ.atoms x h = []
  un : ∀ h', h' = h
def cellsOf {α : Type} (ρ : Rep α) (h : ρ.V) (l : List α) : List Value := flat ρ (l.map fun x => (x, h))
theorem cellsOf_len {α : Type} {ρ : Rep α} {h : ρ.V} (l : List α) : (cellsOf ρ h l).length = l.length * ρ.sz := by
  unfold cellsOf; rw [flat_length, List.length_map]
theorem cellsOf_app {α : Type} {ρ : Rep α} {h : ρ.V} (a b : List α) : cellsOf ρ h (a ++ b) = cellsOf ρ h a ++ cellsOf ρ h b := by
  unfold cellsOf; rw [List.map_append, flat_append]
theorem cellsOf_one {α : Type} {ρ : Rep α} {h : ρ.V} (x : α) : cellsOf ρ h [x] = ρ.cells x h := by
  simp [cellsOf, flat]
theorem cellsOf_ones {α : Type} {ρ : Rep α} {h : ρ.V} : ∀ (l : List α), ∀ c ∈ cellsOf ρ h l, one c = true
  | [], c, hc => by simp [cellsOf, flat] at hc
  | x :: l, c, hc => by
    rw [show x :: l = [x] ++ l from rfl, cellsOf_app, cellsOf_one] at hc
    rcases List.mem_append.1 hc with hc | hc
    · exact ρ.one x h c hc
    · exact cellsOf_ones l c hc
theorem sq_cells {α : Type} {ρ : Rep α} {h : ρ.V} (hp : Plain ρ h) {a : Addr} {n c : Nat} {l : List α} {L : List HP} {W : World} (hs : St W (sqAt true ρ (some a) n c l :: L)) :
    a = ⟨a.block, a.off, none⟩ ∧ n ≤ c ∧ ∃ sp, sp.length = (c - n) * ρ.sz ∧ St W (pts a.block a.off (cellsOf ρ h l ++ sp) :: L) := by
  obtain ⟨h0, h1, h2, hsp, z, sp, hz, hl, h5⟩ := sq_open hs
  have hz2 : z = l.map fun x => (x, h) := by
    rw [← hz, List.map_map]
    conv => lhs; rw [← List.map_id z]
    refine List.map_congr_left fun p _ => ?_
    obtain ⟨x, k⟩ := p
    rw [hp.un k]; rfl
  refine ⟨addr_eta hsp, h2, sp, hl, ?_⟩
  subst hz2
  have hlen : (flat ρ (l.map fun x => (x, h))).length = n * ρ.sz := by rw [flat_length, List.length_map, h0]
  have h6 : St W (pts a.block a.off (flat ρ (l.map fun x => (x, h))) :: pts a.block (a.off + (flat ρ (l.map fun x => (x, h))).length) sp :: memA ρ (l.map fun x => (x, h)) :: L) := by rw [hlen]; exact h5
  exact (h6.ent pts_join).ent (Ent.cons Ent.drop)
theorem cells_sq {α : Type} {ρ : Rep α} {h : ρ.V} (hp : Plain ρ h) {b o n c : Nat} {l : List α} {L : List HP} {sp : List Value} (hn : n = l.length) (hl : n ≤ lim) (hc : n ≤ c) (hsp : sp.length = (c - n) * ρ.sz) :
    Ent (pts b o (cellsOf ρ h l ++ sp) :: L) (sqAt true ρ (some ⟨b, o, none⟩) n c l :: L) := by
  have h2 : Ent (pts b o (cellsOf ρ h l ++ sp) :: L) (pts b o (cellsOf ρ h l) :: pts b (o + n * ρ.sz) sp :: L) := by
    have := pts_split (b := b) (off := o) (us := cellsOf ρ h l) (vs := sp) (L := L)
    rwa [cellsOf_len, ← hn] at this
  refine h2.trans ?_
  have hm : ∀ (M : List HP), Ent M (memA ρ (l.map fun x => (x, h)) :: M) := fun M r o hM => ⟨own0, o, fun _ _ => .inl rfl, none_add, fun i u y e => by
    rw [List.getElem?_map, Option.map_eq_some_iff] at e
    obtain ⟨x, _, e⟩ := e
    cases e
    rw [hp.at0]; trivial, hM⟩
  refine (Ent.cons (Ent.cons (hm L))).trans ?_
  exact sq_shut (w := true) (a := ⟨b, o, none⟩) (z := l.map fun x => (x, h)) hn hl hc rfl (by rw [List.map_map]; exact List.map_id _) hsp
theorem cellsOf_cut {α : Type} {ρ : Rep α} {h : ρ.V} (l : List α) (sp : List Value) (i k s : Nat) (hs : ρ.sz = s) (hik : i + k ≤ l.length) : cut (cellsOf ρ h l ++ sp) (i * s) (k * s) = cellsOf ρ h ((l.drop i).take k) := by
  subst hs
  have e : l = l.take i ++ ((l.drop i).take k ++ (l.drop i).drop k) := by rw [List.take_append_drop, List.take_append_drop]
  unfold cut
  conv => lhs; rw [e]
  rw [cellsOf_app, cellsOf_app, List.append_assoc]
  have h1 : (cellsOf ρ h (l.take i)).length = i * ρ.sz := by rw [cellsOf_len, List.length_take, Nat.min_eq_left (by omega)]
  have h2 : (cellsOf ρ h ((l.drop i).take k)).length = k * ρ.sz := by rw [cellsOf_len, List.length_take, List.length_drop, Nat.min_eq_left (by omega)]
  rw [← h1, List.drop_left, List.append_assoc, ← h2, List.take_left]
theorem lay_app : ∀ (A : List Value) {B D : List Value}, lay (A ++ B) A.length D = A ++ lay B 0 D
  | [], B, D => rfl
  | a :: A, B, [] => by simp [lay]
  | a :: A, B, d :: D => by
    simp only [List.cons_append, List.length_cons, lay]
    rw [lay_app A]
theorem lay_over : ∀ {B D C : List Value}, B.length = D.length → lay (B ++ C) 0 D = D ++ C
  | [], [], C, _ => by simp [lay]
  | b :: B, d :: D, C, h => by
    simp only [List.cons_append, lay]
    rw [lay_over (by simpa using h)]
theorem lay_mid {A B C D : List Value} {n : Nat} (hn : n = A.length) (h : B.length = D.length) : lay (A ++ (B ++ C)) n D = A ++ (D ++ C) := by
  subst hn; rw [lay_app, lay_over h]
theorem takes_self : ∀ {L : List HP}, Takes L L []
  | [] => .nil
  | A :: L => .cons .here takes_self
section
variable {P : Program} [tb : Tab P] {rd : Option Nat} {N : Nat} {T : TT} {L L' L1 : List HP} {Q : Post} {ks : List K}
variable {all : Array Oper} {rest : List Oper} {d : Option Tmp} {ty : TypeId} {pos : String} {aft : Array Edge}
theorem SO.buildSliceP {t e len sz n1 n2 b1 : Nat} {z z2 : Value} {ke : TK} {ps : List (Nat × Operand)} {cs : List Value} (ht : tget tb.tab t = some ⟨.sl e, n1, n2, z⟩) (hte : tget tb.tab e = some ⟨ke, sz + 1, b1, z2⟩)
    (hz : Nat.beq z2.cells.toList.length (sz + 1) = true) (hb : buildSV T (sz + 1) (zeros z2.cells.toList len) ps = some cs) (hbig : Nat.ble (len * (sz + 1)) 16777216 = true) (hd : dstOk N d = true)
    (kk : ∀ b, SO P rd N all rest (putD d (.slice (some ⟨b, 0, none⟩) len len) T) (pts b 0 cs :: plain b cs.length :: L) ks Q) : SO P rd N all (⟨d, .buildSlice t len ps.toArray, ty, pos, aft, none⟩ :: rest) T L ks Q := by
  refine SO.run (R := fun v L2 => ∃ b, v = .slice (some ⟨b, 0, none⟩) len len ∧ L2 = pts b 0 cs :: plain b cs.length :: L) rfl rfl hd ?_ (by rintro _ _ ⟨b, rfl, rfl⟩; exact kk b)
  intro q hq F w hst
  have hk := (tab_ok ht).k
  simp only [TK.ok] at hk
  have hs := sizeOf_ok (tab_ok hte) w
  have hzz := zero_ok (tab_ok hte) w
  simp only at hs hzz
  have hzs : z2.cells.size = sz + 1 := by have := Nat.eq_of_beq_eq_true hz; simpa using this
  have hfill := fillS_ok hq ps (zeros z2.cells.toList len) ((Array.range (len * z2.cells.size)).map (z2.cells[· % z2.cells.size]!)) cs (range_zeros _ _ (by omega)) hb
  rw [hzs] at hfill
  have hbig := Nat.le_of_ble_eq_true hbig
  have h2 := hst.allocP cs.toArray e
  simp only [List.size_toArray] at h2
  refine ⟨_, _, _, .inl ?_, ⟨w.heap.size, rfl, rfl⟩, h2.ent ((Ent.cons Ent.swap).trans Ent.swap)⟩
  · simp only [execOp, Instr.buildSlice, Sem.run_bind, run_und hk, Result.andThen_ok, hs]
    rw [if_neg (by simp; omega)]
    by_cases h0 : len = 0
    · subst h0
      have he : (Array.range (0 * (sz + 1))).map (z2.cells[· % (sz + 1)]!) = #[] := by simp
      rw [he] at hfill
      have he2 : ∀ f : Nat → Value, (Array.range (0 * (sz + 1))).map f = #[] := by simp
      simp only [Nat.zero_mul, if_true, Sem.run_pure, Result.andThen_ok, Sem.run_bind, List.map_toArray]
      rw [Nat.zero_mul] at he2
      rw [he2, hfill]
      rfl
    · have : ¬ (len * (sz + 1) = 0) := by intro h; rcases Nat.mul_eq_zero.1 h with h | h <;> omega
      simp only [this, if_false, Sem.run_bind, hzz, Result.andThen_ok, Sem.run_pure, List.map_toArray, hzs]
      rw [hfill]
      rfl
theorem SO.overlaps {x y : Operand} {tys : Array TypeId} {f : FuncId} {fn : Func} {tS tR e sz n1 n2 b1 b n c b2 o2 o3 m c2 : Nat} {z z2 : Value} {ke : TK} {us vs : List Value} (hx : evO T x = some (.slice (some ⟨b, 0, none⟩) n c)) (hy : evO T y = some (.slice (some ⟨b2, o3, none⟩) m c2))
    (h1 : Takes [pts b 0 us, plain b us.length, pts b2 o2 vs] L L') (hu : us ≠ []) (hv : vs ≠ []) (ht : tget tb.tab tS = some ⟨.sl e, n1, n2, z⟩) (hte : tget tb.tab e = some ⟨ke, sz, b1, z2⟩)
    (hf : P.funcs[f]? = some fn) (hname : (fn.name == "runtime.NumGoroutine") = false) (hb : fn.body.isNone = true) (hn : Extern.findNext fn = none) (he : Extern.find fn = some (Extern.SlicesOverlaps.overlaps #[tS, tS] #[tR])) (hd : dstOk N d = true)
    (k : SO P rd N all rest (putD d (.bool false) T) L ks Q) : SO P rd N all (⟨d, .call ⟨.value (.func f), #[x, y], tys⟩, ty, pos, aft, none⟩ :: rest) T L ks Q := by
  refine SO.run (R := fun u L2 => u = .bool false ∧ L2 = L) rfl rfl hd ?_ (by rintro _ _ ⟨rfl, rfl⟩; exact k)
  intro q hq F w hst
  refine ⟨_, w, L, .inl ?_, ⟨rfl, rfl⟩, hst⟩
  have hst2 : St w (F :: pts b 0 us :: plain b us.length :: pts b2 o2 vs :: L') := hst.ent (Ent.cons h1.ent)
  have hA : St w (pts b 0 us :: plain b us.length :: pts b2 o2 vs :: L') := hst2.ent Ent.drop
  have hB : St w (plain b us.length :: pts b2 o2 vs :: L') := hA.ent Ent.drop
  have hC : St w (pts b2 o2 vs :: L') := hB.ent Ent.drop
  obtain ⟨u, us', rfl⟩ : ∃ u us', us = u :: us' := by cases us with | nil => exact absurd rfl hu | cons u us' => exact ⟨u, us', rfl⟩
  obtain ⟨v, vs', rfl⟩ : ∃ v vs', vs = v :: vs' := by cases vs with | nil => exact absurd rfl hv | cons v vs' => exact ⟨v, vs', rfl⟩
  obtain ⟨hc0, hf0⟩ := hA.cell (i := 0) (v := u) rfl
  obtain ⟨hc1, hf1⟩ := hC.cell (i := 0) (v := v) rfl
  obtain ⟨c0, e0, f0, hh0, hs0, hfe⟩ := hB.plain
  obtain ⟨c1, e1, f1, hh1, hg1⟩ := cell_block hc1
  have hj1 := (Array.getElem?_eq_some_iff.1 hg1).1
  have hne : b ≠ b2 := by
    rintro rfl
    rw [hh0] at hh1; cases hh1
    obtain ⟨r, o, s, x1, y1, d1, le1, hp1, x2, y2, d2, le2, hp2, x3, y3, d3, le3, hp3, _⟩ := hA
    have hlt : o2 < (u :: us').length := by rw [← hs0]; omega
    have ha : x1 b (0 + o2) = some (.val ((u :: us')[o2])) := hp1 o2 _ (by simp [hlt])
    have hb' : y1 b (o2 + 0) = some (.val v) := le2 _ _ _ (Own.le_add_right d2 _ _ _ (le3 _ _ _ (Own.le_add_left _ _ _ _ _ (hp3 0 v rfl))))
    rcases d1 b o2 with h | h
    · rw [Nat.zero_add] at ha; rw [h] at ha; cases ha
    · rw [Nat.add_zero] at hb'; rw [h] at hb'; cases hb'
  have hk := (tab_ok ht).k
  simp only [TK.ok] at hk
  have hsz := fun w => sizeOf_ok (tab_ok hte) w
  have hov := Lib.run_overlaps_apart (P := P) w tS tR e hk sz hsz ⟨b, 0, none⟩ ⟨b2, o3, none⟩ n c m c2 hne e0 e1 (u :: us').length c1.size
    (by unfold World.shape?; simp only [hh0, hs0]) (by unfold World.shape?; simp only [hh1]) (by omega) (by rw [Nat.add_zero] at hf0; exact hf0) hfe
  have hr := run_callFunc_extern (P := P) hf hname hb hn he #[.slice (some ⟨b, 0, none⟩) n c, .slice (some ⟨b2, o3, none⟩) m c2] w
  rw [hov] at hr
  simp only [execOp, resolve, Sem.run_bind, hq (.func f) _ rfl]
  simp [Deferred.ofValue, invoke, hq _ _ hx, hq _ _ hy, Sem.run_pure]
  rw [hr]; rfl
theorem SO.sliceV {x : Operand} {lo hi : Option Operand} {A : Option Addr} {n c i j t e sz n1 n2 b1 : Nat} {z z2 : Value} {ke : TK} (hx : evO T x = some (.slice A n c)) {vl vh : Option Value} {k1 k2 : IntKind}
    (hlo : evOo T lo = some vl) (hhi : evOo T hi = some vh) (ht : tget tb.tab t = some ⟨.sl e, n1, n2, z⟩) (hte : tget tb.tab e = some ⟨ke, sz, b1, z2⟩) (hd : dstOk N d = true) (hl : vl = some (.int k1 i) ∨ (vl = none ∧ i = 0)) (hv : vh = some (.int k2 j) ∨ (vh = none ∧ j = n)) (h1 : i ≤ j) (h2 : j ≤ c) (h3 : n ≤ c)
    (kk : SO P rd N all rest (putD d (.slice (if c = i then A else A.map (·.add (i * sz))) (j - i) (c - i)) T) L ks Q) : SO P rd N all (⟨d, .slice t x lo hi none, ty, pos, aft, none⟩ :: rest) T L ks Q := by
  refine SO.run (R := fun v L2 => v = .slice (if c = i then A else A.map (·.add (i * sz))) (j - i) (c - i) ∧ L2 = L) rfl rfl hd ?_ (by rintro _ _ ⟨rfl, rfl⟩; exact kk)
  intro q hq F w hst
  refine ⟨_, w, L, .inl ?_, ⟨rfl, rfl⟩, hst⟩
  simp only [execOp, hq _ _ hx, evOo_ok hq hlo, evOo_ok hq hhi, Option.map_none, Sem.run_bind, run_slice_lo ht hte h1 h2 h3 hl hv, Result.andThen_ok]
  rfl
theorem SO.cap {x : Operand} {t e n1 n2 : Nat} {z : Value} {A : Option Addr} {n c : Nat} (hx : evO T x = some (.slice A n c)) (ht : tget tb.tab t = some ⟨.sl e, n1, n2, z⟩) (hd : dstOk N d = true)
    (kk : SO P rd N all rest (putD d (.int .i64 c) T) L ks Q) : SO P rd N all (⟨d, .call ⟨.builtin .cap, #[x], #[t]⟩, ty, pos, aft, none⟩ :: rest) T L ks Q := by
  refine SO.run (R := fun v L2 => v = .int .i64 c ∧ L2 = L) rfl rfl hd ?_ (by rintro _ _ ⟨rfl, rfl⟩; exact kk)
  intro q hq F w hst
  refine ⟨_, w, L, .inl ?_, ⟨rfl, rfl⟩, hst⟩
  have := (tab_ok ht).k
  simp only [TK.ok] at this
  simp [execOp, resolve, invoke, builtin, Builtin.cap_, hq _ _ hx, run_und this, goInt]
theorem SK.cells {c : Code} {α : Type} {ρ : Rep α} {h : ρ.V} {a : Addr} {n m : Nat} {l : List α} (hp : Plain ρ h) (hh : Take (sqAt true ρ (some a) n m l) L L')
    (k : a.spot = none → ∀ sp : List Value, sp.length = (m - n) * ρ.sz → SK P rd N (.code c :: ks) T (pts a.block a.off (cellsOf ρ h l ++ sp) :: L') Q) : SK P rd N (.code c :: ks) T L Q := by
  refine SK.shift (L' := some1 (fun sp : List Value => a.spot = none ∧ sp.length = (m - n) * ρ.sz) (fun sp => [pts a.block a.off (cellsOf ρ h l ++ sp)]) :: L') (fun F w hst => ?_) (SK.tok .here fun sp hsp => k hsp.1 sp hsp.2)
  obtain ⟨h1, h2, sp, h3, h4⟩ := sq_cells hp ((hst.ent (Ent.cons hh.ent)).ent Ent.swap)
  refine (h4.ent ?_).ent Ent.swap
  exact ent_tok (p := fun sp : List Value => a.spot = none ∧ sp.length = (m - n) * ρ.sz) (M := fun sp => [pts a.block a.off (cellsOf ρ h l ++ sp)]) sp ⟨by rw [h1], h3⟩ (.cons .here takes_self)
theorem SO.cells {ops : List Oper} {α : Type} {ρ : Rep α} {h : ρ.V} {a : Addr} {n m : Nat} {l : List α} (hp : Plain ρ h) (hh : Take (sqAt true ρ (some a) n m l) L L')
    (k : a.spot = none → ∀ sp : List Value, sp.length = (m - n) * ρ.sz → SO P rd N all ops T (pts a.block a.off (cellsOf ρ h l ++ sp) :: L') ks Q) : SO P rd N all ops T L ks Q := by
  refine SO.shift (L' := some1 (fun sp : List Value => a.spot = none ∧ sp.length = (m - n) * ρ.sz) (fun sp => [pts a.block a.off (cellsOf ρ h l ++ sp)]) :: L') (fun F w hst => ?_) (SO.tok .here fun sp hsp => k hsp.1 sp hsp.2)
  obtain ⟨h1, h2, sp, h3, h4⟩ := sq_cells hp ((hst.ent (Ent.cons hh.ent)).ent Ent.swap)
  refine (h4.ent ?_).ent Ent.swap
  exact ent_tok (p := fun sp : List Value => a.spot = none ∧ sp.length = (m - n) * ρ.sz) (M := fun sp => [pts a.block a.off (cellsOf ρ h l ++ sp)]) sp ⟨by rw [h1], h3⟩ (.cons .here takes_self)
end
end Go.Sl

/-! Elements of slices of one's own: read, written. -/
set_option linter.unusedVariables false
set_option linter.unusedSectionVars false
set_option linter.unusedSimpArgs false
namespace Go.Sl
theorem lay_flat {α : Type} {ρ : Rep α} (u : α) (h : ρ.V) : ∀ (z : List (α × ρ.V)) (i : Nat), i < z.length → lay (flat ρ z) (i * ρ.sz) (ρ.cells u h) = flat ρ (z.set i (u, h))
  | [], i, hi => by simp at hi
  | (x, k) :: z, 0, _ => by
    simp only [flat, List.set_cons_zero, Nat.zero_mul]
    exact lay_over (by rw [ρ.len, ρ.len])
  | (x, k) :: z, i + 1, hi => by
    simp only [flat, List.set_cons_succ]
    rw [show (i + 1) * ρ.sz = ρ.sz + i * ρ.sz by rw [Nat.add_mul]; omega]
    have key : ∀ (A B D : List Value) (m : Nat), lay (A ++ B) (A.length + m) D = A ++ lay B m D := by
      intro A
      induction A with
      | nil => intro B D m; simp
      | cons a A ih =>
        intro B D m
        cases D with
        | nil => simp [lay]
        | cons d D =>
          simp only [List.cons_append, List.length_cons, show A.length + 1 + m = (A.length + m) + 1 by omega, lay]
          rw [ih]
    have := key (ρ.cells x k) (flat ρ z) (ρ.cells u h) (i * ρ.sz)
    rw [ρ.len] at this
    rw [this, lay_flat u h z i (by simpa using hi)]
theorem memS_set {α : Type} {ρ : Rep α} {z : List (α × ρ.V)} {r : Ro} {u : α} {h : ρ.V} (i : Nat) (m : memS ρ z r) (ha : seps (ρ.atoms u h) r (fun _ _ => none)) : memS ρ (z.set i (u, h)) r := by
  intro j x k e
  by_cases hj : i = j
  · subst hj
    rw [List.getElem?_set] at e
    simp only [if_true] at e
    split at e
    · cases e; exact ha
    · cases e
  · rw [List.getElem?_set_ne hj] at e; exact m j x k e
section
variable {P : Program} [tb : Tab P] {rd : Option Nat} {N : Nat} {T : TT} {L L' L1 E : List HP} {Q : Post} {ks : List K} {RR : TT → List HP → Prop}
variable {all : Array Oper} {rest : List Oper} {restX : XO} {d : Option Tmp} {ty : TypeId} {pos : String} {aft : Array Edge} {α : Type} {ρ : Rep α}
theorem seps_pers0 : ∀ {M : List HP} {B : List HP} {r : Ro} {o : Own}, (∀ X ∈ M, Pers X) → seps (M ++ B) r o → seps M r (fun _ _ => none)
  | [], _, _, _, _, _ => trivial
  | X :: M, B, r, o, hp, ⟨a, b, d, le, hA, hL⟩ => ⟨_, _, fun _ _ => .inl rfl, none_add, hp X (by simp) _ _ hA, seps_pers0 (fun Y hY => hp Y (by simp [hY])) hL⟩
/-- A whole element is written. -/
theorem SO.estoreW {x y : Operand} {t : Nat} {ti : TI} {A : Option Addr} {n c i sz : Nat} {l : List α} {u : α} {h : ρ.V} (hx : evO T x = some (.pointer (some (eadr A i sz 0)))) (hy : evO T y = some (ρ.val u h)) (hh : Take (sqAt true ρ A n c l) L L') (ha : HasAll (ρ.atoms u h) L')
    (ht : tget tb.tab t = some ti) (hsz : Nat.beq ρ.sz sz = true) (hti : Nat.beq ti.size ρ.sz = true) (hi : i < n)
    (kk : SO P rd N all rest T (sqAt true ρ A n c (l.set i u) :: L') ks Q) : SO P rd N all (⟨none, .store t x y, ty, pos, aft, none⟩ :: rest) T L ks Q := by
  refine SO.run (R := fun v L2 => L2 = sqAt true ρ A n c (l.set i u) :: L') rfl rfl rfl ?_ (by rintro v L2 rfl; exact kk)
  intro q hq F w hst
  have hsz := Nat.eq_of_beq_eq_true hsz
  subst hsz
  have hti := Nat.eq_of_beq_eq_true hti
  have hst2 : St w (sqAt true ρ A n c l :: F :: L') := hst.ent ((Ent.cons hh.ent).trans Ent.swap)
  cases A with
  | none =>
    obtain ⟨r, o, s, x1, y1, d1, le1, ⟨h0, _, _, h3, _⟩, _⟩ := hst2
    rw [(h3 rfl).1] at h0; simp at h0; omega
  | some a =>
    obtain ⟨h0, h1, h2, hsp, z, sp, hz, hl, h5⟩ := sq_open hst2
    have hzl : z.length = n := by rw [h0, ← hz]; simp
    have hcells : (ρ.val u h).cells.toList = ρ.cells u h := by
      unfold Rep.val
      cases hag : ρ.agg with
      | true => rfl
      | false =>
        have h1 := ρ.sc hag
        have h2 := ρ.len u h
        rw [h1] at h2
        match hc : ρ.cells u h, h2 with
        | [v], _ =>
          have hv : one v = true := ρ.one u h v (by rw [hc]; simp)
          cases v <;> first | rfl | (simp [one] at hv)
    obtain ⟨w', hr, hst'⟩ := storeVar_ok ht (n := i * ρ.sz) (v := ρ.val u h) h5 (fun c hc => by rw [hcells] at hc; exact ρ.one u h c hc) (by rw [hcells, ρ.len, hti]) (by
      rw [flat_length, hzl, hti]
      have : (i + 1) * ρ.sz ≤ n * ρ.sz := Nat.mul_le_mul_right _ hi
      rw [Nat.add_mul] at this; omega)
    rw [hcells, lay_flat u h z i (by omega)] at hst'
    refine ⟨undef, w', _, .inr ⟨?_, rfl⟩, rfl, ?_⟩
    · simp only [execOp, hq _ _ hx, hq _ _ hy, Instr.storeAt, Instr.sureAddr, Sem.run_bind, Sem.run_pure, Result.andThen_ok]
      rw [eadr_some hsp, Nat.add_zero, hr]; rfl
    · -- the new element's atoms
      have h6 : St w' (pts a.block a.off (flat ρ (z.set i (u, h))) :: pts a.block (a.off + n * ρ.sz) sp :: memA ρ (z.set i (u, h)) :: F :: L') := by
        refine hst'.ent (Ent.cons (Ent.cons ?_))
        rintro r o ⟨x1, y1, d1, le1, hm, hL⟩
        have hL2 : seps (F :: L') r y1 := hL
        have hat : seps (ρ.atoms u h) r (fun _ _ => none) := by
          have h7 := ((Ent.cons (ha.ent (ρ.pers u h))).trans ent_of_swap) r y1 hL2
          exact seps_pers0 (ρ.pers u h) h7
        exact ⟨x1, y1, d1, le1, memS_set i hm hat, hL⟩
      exact (h6.ent (sq_shut (w := true) (z := z.set i (u, h)) (by simp; omega) h1 h2 hsp (by rw [List.map_set, hz]) hl)).ent Ent.swap
/-- A load of an element's part; of a slice of one's own. -/
theorem rd_eloadQ {w' : Bool} {x : Operand} {t : Nat} {ti : TI} {A : Option Addr} {n c i sz o : Nat} {l : List α} {u : α} (hx : evO T x = some (.pointer (some (eadr A i sz o)))) (hh : Take (sqAt w' ρ A n c l) L L') (hu : l[i]? = some u)
    (ht : tget tb.tab t = some ti) (hsz : Nat.beq ρ.sz sz = true) (hp : ∀ h, packOk ti (cut (ρ.cells u h) o ti.size)) : Reads P T L ⟨d, .load t x, ty, pos, aft, none⟩ (fun v L2 => ∃ h, v = packV ti (cut (ρ.cells u h) o ti.size) ∧ L2 = ρ.atoms u h ++ L) := by
  intro q hq rr oo F hs
  have hszz := Nat.eq_of_beq_eq_true hsz
  subst hszz
  have hs1 := ((Ent.cons hh.ent).trans Ent.swap) rr oo hs
  obtain ⟨x1, y1, d1, le1, hA, hL⟩ := hs1
  obtain ⟨h0, h1, h2, h3, h4⟩ := hA
  cases A with
  | none => rw [(h3 rfl).1] at hu; simp at hu
  | some a =>
    obtain ⟨hsp, z, sp, hz, hspl, hc, hd, hm⟩ := h4 a rfl
    obtain ⟨h, hzh⟩ := map_get hz hu
    refine ⟨_, _, ⟨h, rfl, rfl⟩, ?_, fun w sat => ?_⟩
    · have hat := hm i u h hzh
      have h7 : seps (big (ρ.atoms u h) :: F :: L) rr oo :=
        ⟨fun _ _ => none, oo, fun _ _ => .inl rfl, none_add, hat, hs⟩
      exact (Ent.swap.trans (Ent.cons ent_big)) rr oo h7
    · simp only [execOp, hq _ _ hx, Instr.loadAt, Instr.sureAddr, Sem.run_bind, Sem.run_pure, Result.andThen_ok]
      rw [eadr_some hsp]
      rw [loadVar_ok ht (hp h) (fun j v hj => by
        obtain ⟨h5, h6⟩ := cut_get hj
        have hlt : o + j < ρ.sz := by rw [← ρ.len u h]; exact row_lt h5
        have := hc (i * ρ.sz + (o + j)) v (by rw [flat_get z i (o + j) u h hzh hlt]; exact h5)
        rw [show a.off + (i * ρ.sz + o) + j = a.off + (i * ρ.sz + (o + j)) by omega]
        cases w' with
        | true => rw [if_pos rfl] at this; exact (sat.val _ _ _ (le1 _ _ _ (Own.le_add_left _ _ _ _ _ this))).1
        | false => rw [if_neg (by simp)] at this; exact sat.ro _ _ _ this)]
      rfl
theorem SO.eloadQ {w' : Bool} {x : Operand} {t : Nat} {ti : TI} {A : Option Addr} {n c i sz o : Nat} {l : List α} {u : α} (hx : evO T x = some (.pointer (some (eadr A i sz o)))) (hh : Take (sqAt w' ρ A n c l) L L') (hu : l[i]? = some u)
    (ht : tget tb.tab t = some ti) (hsz : Nat.beq ρ.sz sz = true) (hp : ∀ h, packOk ti (cut (ρ.cells u h) o ti.size)) (hd : dstOk N d = true)
    (kk : ∀ h, SO P rd N all rest (putD d (packV ti (cut (ρ.cells u h) o ti.size)) T) (ρ.atoms u h ++ L) ks Q) : SO P rd N all (⟨d, .load t x, ty, pos, aft, none⟩ :: rest) T L ks Q :=
  SO.reads (rd_eloadQ hx hh hu ht hsz hp) rfl rfl hd (by rintro _ _ ⟨h, rfl, rfl⟩; exact kk h)
/-- An element's place, of a slice of one's own of which the element is known. -/
theorem rd_indexQ {w' : Bool} {x y : Operand} {t e : Nat} {sz n1 n2 b1 : Nat} {z z2 : Value} {ke : TK} {A : Option Addr} {n c c' i : Nat} {k : IntKind} {j : Int} {l : List α} {u : α} (hx : evO T x = some (.slice A n c)) (hy : evO T y = some (.int k j))
    (hh : Take (sqAt w' ρ A n c' l) L L') (ht : tget tb.tab t = some ⟨.sl e, n1, n2, z⟩) (hte : tget tb.tab e = some ⟨ke, sz, b1, z2⟩) (hj : Int.ofNat i = j) (hu : l[i]? = some u) : Reads P T L ⟨d, .indexAddr t x y, ty, pos, aft, none⟩ (fun v L2 => v = .pointer (some (eadr A i sz 0)) ∧ L2 = L) := by
  intro q hq rr oo F hs
  have hs1 := (show seps L rr _ from hs.choose_spec.choose_spec.2.2.2)
  obtain ⟨h0, h1, h2, h3⟩ := sq_len hh rr _ hs1
  have hl : i < l.length := (List.getElem?_eq_some_iff.1 hu).1
  obtain ⟨v, L2, ⟨h4, h5, _⟩, h6, h7⟩ := rd_indexW (d := d) (ty := ty) (pos := pos) (aft := aft) hx hy hh ht hte hj (by omega) q hq rr oo F hs
  exact ⟨v, L2, ⟨h4, h5⟩, h6, h7⟩
theorem SO.indexQ {w' : Bool} {x y : Operand} {t e : Nat} {sz n1 n2 b1 : Nat} {z z2 : Value} {ke : TK} {A : Option Addr} {n c c' i : Nat} {k : IntKind} {j : Int} {l : List α} {u : α} (hx : evO T x = some (.slice A n c)) (hy : evO T y = some (.int k j))
    (hh : Take (sqAt w' ρ A n c' l) L L') (ht : tget tb.tab t = some ⟨.sl e, n1, n2, z⟩) (hte : tget tb.tab e = some ⟨ke, sz, b1, z2⟩) (hj : Int.ofNat i = j) (hd : dstOk N d = true) (hu : l[i]? = some u)
    (kk : SO P rd N all rest (putD d (.pointer (some (eadr A i sz 0))) T) L ks Q) : SO P rd N all (⟨d, .indexAddr t x y, ty, pos, aft, none⟩ :: rest) T L ks Q :=
  SO.reads (rd_indexQ hx hy hh ht hte hj hu) rfl rfl hd (by rintro _ _ ⟨rfl, rfl⟩; exact kk)
theorem SX.eloadQ {w' : Bool} {x : Operand} {t : Nat} {ti : TI} {A : Option Addr} {n c i sz o : Nat} {l : List α} {u : α} (hx : evO T x = some (.pointer (some (eadr A i sz o)))) (hh : Take (sqAt w' ρ A n c l) L L') (hu : l[i]? = some u)
    (ht : tget tb.tab t = some ti) (hsz : Nat.beq ρ.sz sz = true) (hp : ∀ h, packOk ti (cut (ρ.cells u h) o ti.size)) (hd : dstOk N d = true)
    (kk : ∀ h, SX P rd N all restX (putD d (packV ti (cut (ρ.cells u h) o ti.size)) T) (ρ.atoms u h ++ L) E ks Q) : SX P rd N all (.item 0 ⟨d, .load t x, ty, pos, aft, none⟩ restX) T L E ks Q :=
  SX.reads (rd_eloadQ hx hh hu ht hsz hp) rfl hd (by rintro _ _ ⟨h, rfl, rfl⟩; exact kk h)
theorem SX.indexQ {w' : Bool} {x y : Operand} {t e : Nat} {sz n1 n2 b1 : Nat} {z z2 : Value} {ke : TK} {A : Option Addr} {n c c' i : Nat} {k : IntKind} {j : Int} {l : List α} {u : α} (hx : evO T x = some (.slice A n c)) (hy : evO T y = some (.int k j))
    (hh : Take (sqAt w' ρ A n c' l) L L') (ht : tget tb.tab t = some ⟨.sl e, n1, n2, z⟩) (hte : tget tb.tab e = some ⟨ke, sz, b1, z2⟩) (hj : Int.ofNat i = j) (hd : dstOk N d = true) (hu : l[i]? = some u)
    (kk : SX P rd N all restX (putD d (.pointer (some (eadr A i sz 0))) T) L E ks Q) : SX P rd N all (.item 0 ⟨d, .indexAddr t x y, ty, pos, aft, none⟩ restX) T L E ks Q :=
  SX.reads (rd_indexQ hx hy hh ht hte hj hu) rfl hd (by rintro _ _ ⟨rfl, rfl⟩; exact kk)
/-- What is one's own is read alone from now on. -/
theorem SK.share {c : Code} {w' : Bool} {A : Option Addr} {n m : Nat} {l : List α} (hh : Take (sqAt w' ρ A n m l) L L') (h : SK P rd N (.code c :: ks) T (slAt ρ A n l :: L') Q) : SK P rd N (.code c :: ks) T L Q := by
  refine SK.shift (fun F w hst => ?_) h
  have h1 : St w (sqAt w' ρ A n m l :: F :: L') := (hst.ent (Ent.cons hh.ent)).ent Ent.swap
  have h2 : St w (sqAt false ρ A n m l :: F :: L') := by cases w' with
    | true => exact h1.shut
    | false => exact h1
  exact (h2.ent (sl_of_sq.trans (Ent.cons Ent.drop))).ent Ent.swap
theorem SO.share {ops : List Oper} {w' : Bool} {A : Option Addr} {n m : Nat} {l : List α} (hh : Take (sqAt w' ρ A n m l) L L') (h : SO P rd N all ops T (slAt ρ A n l :: L') ks Q) : SO P rd N all ops T L ks Q := by
  refine SO.shift (fun F w hst => ?_) h
  have h1 : St w (sqAt w' ρ A n m l :: F :: L') := (hst.ent (Ent.cons hh.ent)).ent Ent.swap
  have h2 : St w (sqAt false ρ A n m l :: F :: L') := by cases w' with
    | true => exact h1.shut
    | false => exact h1
  exact (h2.ent (sl_of_sq.trans (Ent.cons Ent.drop))).ent Ent.swap
theorem zeros_flat {α : Type} {ρ : Rep α} (x : α) (h : ρ.V) : ∀ n, zeros (ρ.cells x h) n = flat ρ (List.replicate n (x, h))
  | 0 => rfl
  | n + 1 => by rw [List.replicate_succ]; simp only [zeros, flat]; rw [zeros_flat x h n]
/-- A row of noughts. -/
theorem SO.makeSlice {t e n sz n1 n2 b1 : Nat} {z z2 : Value} {ke : TK} {x y : Operand} {u : α} {h : ρ.V} (hx : evO T x = some (.int .i64 n)) (hy : evO T y = some (.int .i64 n)) (ht : tget tb.tab t = some ⟨.sl e, n1, n2, z⟩) (hte : tget tb.tab e = some ⟨ke, sz, b1, z2⟩)
    (hz : z2.cells.toList = ρ.cells u h) (hsz : Nat.beq ρ.sz sz = true) (ha : ρ.atoms u h = []) (hb : Nat.ble b1 32768 = true) (hn : n ≤ lim) (hd : dstOk N d = true)
    (kk : ∀ b, SO P rd N all rest (putD d (.slice (some ⟨b, 0, none⟩) n n) T) (sqAt true ρ (some ⟨b, 0, none⟩) n n (List.replicate n u) :: L) ks Q) : SO P rd N all (⟨d, .makeSlice t x y, ty, pos, aft, none⟩ :: rest) T L ks Q := by
  refine SO.run (R := fun v L2 => ∃ b, v = .slice (some ⟨b, 0, none⟩) n n ∧ L2 = sqAt true ρ (some ⟨b, 0, none⟩) n n (List.replicate n u) :: L) rfl rfl hd ?_ (by rintro _ _ ⟨b, rfl, rfl⟩; exact kk b)
  intro q hq F w hst
  have hk := (tab_ok ht).k
  simp only [TK.ok] at hk
  have hsz := Nat.eq_of_beq_eq_true hsz
  subst hsz
  have hb := Nat.le_of_ble_eq_true hb
  have hs := sizeOf_ok (tab_ok hte) w
  have hzz := zero_ok (tab_ok hte) w
  obtain ⟨ti, hti, htib⟩ := info_ok (tab_ok hte) w
  simp only at hs hzz htib
  have hzs : z2.cells.size = ρ.sz := by rw [← Array.length_toList, hz, ρ.len]
  have hw : IntKind.i64.wrap (n : Int) = n := by
    simp only [lim] at hn
    simp only [IntKind.wrap, IntKind.bits, IntKind.signed]; simp; omega
  have hbig : ¬ ((n : Int) < 0) := by omega
  have hbig2 : ¬ ((ti.bytes : Int) * (n : Int) > 2 ^ 48) := by
    have h2 : ti.bytes * n ≤ 32768 * lim := Nat.mul_le_mul (by omega) hn
    have h3 : 32768 * lim = 70368744177664 := by decide
    rw [h3] at h2
    have h4 : (ti.bytes : Int) * (n : Int) = ((ti.bytes * n : Nat) : Int) := (Int.natCast_mul _ _).symm
    rw [h4]
    intro h
    have h5 : (2 : Int) ^ 48 = 281474976710656 := by decide
    rw [h5] at h
    omega
  have hbig3 : ¬ ((281474976710656 : Int) < (ti.bytes : Int) * (n : Int)) := by
    intro h; apply hbig2
    have h5 : (2 : Int) ^ 48 = 281474976710656 := by decide
    rw [h5]; exact h
  have hmark : ∀ (k : Nat) (w : World), (askRoom k).run P w = .ok () w := by
    intro k w; unfold askRoom; split <;> rfl
  have hcs : ((Array.range (n * ρ.sz)).map (z2.cells[· % z2.cells.size]!)).toList = flat ρ (List.replicate n (u, h)) := by
    rw [← zeros_flat, ← hz, ← hzs]
    exact range_zeros z2.cells n (by rw [hzs]; exact ρ.pos)
  have h2 := hst.alloc ((Array.range (n * ρ.sz)).map (z2.cells[· % z2.cells.size]!)) e
  rw [hcs] at h2
  rw [← List.append_nil (flat ρ (List.replicate n (u, h)))] at h2
  have h3 := h2
  have h4 := h3.ent pts_split
  have hfl : (flat ρ (List.replicate n (u, h))).length = n * ρ.sz := by rw [flat_length, List.length_replicate]
  rw [hfl] at h4
  have hm : ∀ (M : List HP), Ent M (memA ρ (List.replicate n (u, h)) :: M) := fun M r o hM => ⟨own0, o, fun _ _ => .inl rfl, none_add, fun i y k e => by
    have := List.mem_of_getElem? e
    have h5 := List.eq_of_mem_replicate this
    cases h5
    rw [ha]; trivial, hM⟩
  have h5 := (h4.ent (Ent.cons (Ent.cons (hm _)))).ent (sq_shut (w := true) (a := ⟨w.heap.size, 0, none⟩) (z := List.replicate n (u, h)) (l := List.replicate n u) (c := n) (by simp) hn (Nat.le_refl n) rfl (by simp) (by simp))
  refine ⟨_, _, _, .inl ?_, ⟨w.heap.size, rfl, rfl⟩, h5.ent Ent.swap⟩
  simp only [execOp, hq _ _ hx, hq _ _ hy, Instr.makeSlice, Sem.run_bind, run_und hk, Result.andThen_ok, asInt, asIntOf, Sem.run_pure, hti, hw]
  simp only [hbig, hbig2, decide_false, Bool.or_false, Bool.false_eq_true, if_false, Int.toNat_natCast, gt_iff_lt, Int.lt_irrefl, hmark, hs, Result.andThen_ok, Sem.run_bind, Sem.run_pure]
  by_cases h0 : n * ρ.sz = 0
  · simp only [h0, if_true, Sem.run_bind, Sem.run_pure, Result.andThen_ok, newRow, newObj]
    have e0 : ∀ f : Nat → Value, (Array.range 0).map f = #[] := by simp
    rw [e0, e0]
    rfl
  · simp only [h0, if_false, Sem.run_bind, hzz, Sem.run_pure, Result.andThen_ok, newRow, newObj, Sem.run]
end
end Go.Sl

/-! Contracts that ask for less. -/
set_option linter.unusedVariables false
namespace Go.Sl
theorem ent_app_r {A B C : List HP} (e : Ent A B) : Ent (A ++ C) (B ++ C) := ent_app_comm.trans ((Ent.app e).trans ent_app_comm)
theorem ent_dropR : ∀ {A B : List HP}, Ent (A ++ B) A := fun {A B} => by
  have h1 : Ent (A ++ B) (B ++ A) := ent_app_comm
  have h2 : ∀ {B : List HP}, Ent (B ++ A) A := fun {B} => by
    induction B with
    | nil => exact Ent.refl _
    | cons b B ih => exact Ent.drop.trans ih
  exact h1.trans h2
/-- What is read alone may be had from what there is. -/
theorem Does.less {P : Program} {f : FuncId} {args : List Value} {pers pers' own : List HP} {X : Type} {ok : X → Prop} {ret : X → Value} {out : X → List HP} (s : Does P f args pers own X ok ret out) (hp : ∀ A ∈ pers', Pers A) (h : HasAll pers pers') : Does P f args pers' own X ok ret out :=
  ⟨s.entry, hp, fun F w hst => s.calls F w (hst.ent (Ent.cons (ent_app_r ((h.ent s.hpers).trans ent_dropR))))⟩
section
variable {P : Program} [tb : Tab P] {rd : Option Nat} {N : Nat} {T : TT} {L : List HP} {Q : Post} {ks : List K}
variable {all : Array Oper} {rest : List Oper} {d : Option Tmp} {ty : TypeId} {pos : String} {aft : Array Edge} {α : Type} {ρ : Rep α}
/-- An element's place, of a slice of which the first ones are known. -/
theorem SO.indexP {x y : Operand} {t e : Nat} {sz n1 n2 b1 : Nat} {z z2 : Value} {ke : TK} {A : Option Addr} {n m c i : Nat} {k : IntKind} {j : Int} {l : List α} {u : α} (hx : evO T x = some (.slice A n c)) (hy : evO T y = some (.int k j))
    (hh : Has (slAt ρ A m l) L) (ht : tget tb.tab t = some ⟨.sl e, n1, n2, z⟩) (hte : tget tb.tab e = some ⟨ke, sz, b1, z2⟩) (hj : Int.ofNat i = j) (hd : dstOk N d = true) (hm : m ≤ n) (hu : l[i]? = some u)
    (kk : SO P rd N all rest (putD d (.pointer (some (eadr A i sz 0))) T) L ks Q) : SO P rd N all (⟨d, .indexAddr t x y, ty, pos, aft, none⟩ :: rest) T L ks Q := by
  refine SO.reads (R := fun v L' => v = .pointer (some (eadr A i sz 0)) ∧ L' = L) ?_ rfl rfl hd (by rintro _ _ ⟨rfl, rfl⟩; exact kk)
  intro q hq rr oo F hs
  have hs1 := (show seps L rr _ from hs.choose_spec.choose_spec.2.2.2)
  obtain ⟨h0, h1, h2⟩ := sl_len hh rr _ hs1
  have hl : i < l.length := (List.getElem?_eq_some_iff.1 hu).1
  cases A with
  | none => rw [h2 rfl] at hl; simp at hl
  | some a =>
    refine ⟨_, L, ⟨rfl, rfl⟩, hs, fun w sat => ?_⟩
    have hj' : j = (i : Int) := hj.symm
    subst hj'
    simp only [execOp, hq _ _ hx, hq _ _ hy, Sem.run_bind, run_indexAt ht hte (show i < n by omega), Result.andThen_ok]
    rfl
end
end Go.Sl

/-! Maps copied; values in an interface. -/
set_option linter.unusedVariables false
set_option linter.unusedSectionVars false
set_option linter.unusedSimpArgs false
namespace Go.Sl
section
variable {P : Program} [tb : Tab P] {rd : Option Nat} {N : Nat} {T : TT} {L L' : List HP} {Q : Post} {ks : List K}
variable {all : Array Oper} {rest : List Oper} {d : Option Tmp} {ty : TypeId} {pos : String} {aft : Array Edge}
variable {κ α : Type} [DecidableEq κ] {kr : KR κ} {ρ : Rep α}
theorem SO.ifaceMap {x : Operand} {t kt e n1 n2 : Nat} {z0 : Value} {v : Value} (hx : evO T x = some v) (ht : tget tb.tab t = some ⟨.map kt e, n1, n2, z0⟩) (hd : dstOk N d = true)
    (k : SO P rd N all rest (putD d (.iface t v) T) L ks Q) : SO P rd N all (⟨d, .makeInterface t x, ty, pos, aft, none⟩ :: rest) T L ks Q := by
  refine SO.reads (R := fun u L' => u = .iface t v ∧ L' = L) ?_ rfl rfl hd (by rintro _ _ ⟨rfl, rfl⟩; exact k)
  intro q hq r oo F hs
  refine ⟨_, L, ⟨rfl, rfl⟩, hs, fun w _ => ?_⟩
  have hk := (tab_ok ht).k
  simp only [TK.ok] at hk
  simp only [execOp, hq _ _ hx, Instr.makeInterface, Sem.run_bind, run_und hk, Result.andThen_ok]
  rfl
theorem SO.assertMap {x : Operand} {t xt kt e n1 n2 : Nat} {z0 : Value} {v : Value} (hx : evO T x = some (.iface t v)) (ht : tget tb.tab t = some ⟨.map kt e, n1, n2, z0⟩) (hd : dstOk N d = true)
    (k : SO P rd N all rest (putD d v T) L ks Q) : SO P rd N all (⟨d, .typeAssert x xt t false, ty, pos, aft, none⟩ :: rest) T L ks Q := by
  refine SO.reads (R := fun u L' => u = v ∧ L' = L) ?_ rfl rfl hd (by rintro _ _ ⟨rfl, rfl⟩; exact k)
  intro q hq r oo F hs
  refine ⟨_, L, ⟨rfl, rfl⟩, hs, fun w _ => ?_⟩
  have hk := (tab_ok ht).k
  simp only [TK.ok] at hk
  simp only [execOp, hq _ _ hx, Instr.typeAssert, Sem.run_bind, run_und hk, Result.andThen_ok, if_true, Bool.false_eq_true, if_false]
  rfl
theorem SO.cloneMap {x : Operand} {tys : Array TypeId} {f : FuncId} {fn : Func} {t b : Nat} {l : List (κ × α)} (hx : evO T x = some (.iface t (.map (some b)))) (htk : Take (mpAt kr ρ b l) L L') (hf : P.funcs[f]? = some fn) (hname : (fn.name == "runtime.NumGoroutine") = false)
    (hb : fn.body.isNone = true) (hn : Extern.findNext fn = none) (he : Extern.find fn = some Extern.MapsClone.clone) (hd : dstOk N d = true)
    (k : ∀ b', SO P rd N all rest (putD d (.iface t (.map (some b'))) T) (mpAt kr ρ b' l :: mpAt kr ρ b l :: L') ks Q) : SO P rd N all (⟨d, .call ⟨.value (.func f), #[x], tys⟩, ty, pos, aft, none⟩ :: rest) T L ks Q := by
  refine SO.run (R := fun u L2 => ∃ b', u = .iface t (.map (some b')) ∧ L2 = mpAt kr ρ b' l :: mpAt kr ρ b l :: L') rfl rfl hd ?_ (by rintro _ _ ⟨b', rfl, rfl⟩; exact k b')
  intro q hq F w hst
  have h1 : St w (mpAt kr ρ b l :: F :: L') := hst.ent ((Ent.cons htk.ent).trans Ent.swap)
  obtain ⟨z, clock, e1, e2, e3, h2⟩ := map_open h1
  have hobj := h2.obj
  have h3 := h2.allocObj (.map (z.map (entM kr ρ)).toArray clock) trivial
  refine ⟨_, _, _, .inl ?_, ⟨w.heap.size, rfl, rfl⟩, h3.ent ?_⟩
  · have hc : (Extern.MapsClone.clone #[.iface t (.map (some b))]).run P w = .ok (.iface t (.map (some w.heap.size))) { w with heap := w.heap.push (.map (z.map (entM kr ρ)).toArray clock) } := by
      have e : Extern.MapsClone.clone #[.iface t (.map (some b))] = (getObj b >>= fun o => match o with
          | .map entries clock => (newObj (.map entries clock) >>= fun n => Pure.pure (.iface t (.map (some n))))
          | _ => stuck "maps.clone: a map expected") := rfl
      rw [e]
      simp [getObj, newObj, Sem.run, Bind.bind, Sem.bind, hobj.1, Pure.pure]
    have hr := run_callFunc_extern (P := P) hf hname hb hn he #[.iface t (.map (some b))] w
    rw [hc] at hr
    simp only [execOp, resolve, Sem.run_bind, hq (.func f) _ rfl]
    simp [Deferred.ofValue, invoke, hq _ _ hx, Sem.run_pure]
    rw [hr]; rfl
  · have e4 : Ent (ob w.heap.size (.map (z.map (entM kr ρ)).toArray clock) :: ob b (.map (z.map (entM kr ρ)).toArray clock) :: memA ρ (z.map fun p => (p.1.2, p.2.1)) :: F :: L')
        (ob w.heap.size (.map (z.map (entM kr ρ)).toArray clock) :: memA ρ (z.map fun p => (p.1.2, p.2.1)) :: ob b (.map (z.map (entM kr ρ)).toArray clock) :: memA ρ (z.map fun p => (p.1.2, p.2.1)) :: F :: L') :=
      Ent.cons ((Ent.cons (Ent.dup (pers_memA _ _))).trans Ent.swap)
    refine e4.trans ((map_shut z clock e1 e2 e3).trans ?_)
    refine (Ent.cons (map_shut z clock e1 e2 e3)).trans ?_
    exact (Ent.cons Ent.swap).trans Ent.swap
end
end Go.Sl
