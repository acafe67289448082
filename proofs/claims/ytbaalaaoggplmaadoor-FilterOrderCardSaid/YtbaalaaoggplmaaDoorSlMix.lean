/- A part of a proof: a walk over the model by a small separation logic. -/
import Derived.Test.YtbaalaaoggplmaaDoorSlMap
/-! Regions whose order is open, whose operations read, make new variables, and end in some that wait for all the others. -/
set_option linter.unusedVariables false
set_option linter.unusedSectionVars false
set_option linter.unusedSimpArgs false
namespace Go.Sl

/-- One value, the world left alone, in every world of a class. -/
def wpStrict (P : Program) (ops : Array Oper) (C : World → Prop) (Q : Act → Prop) : List Oper → Act → Prop
  | [], a => Q a
  | o :: rest, a => if Region.wanted o (yielded ops a.tmps) then ∃ v, (∀ w, C w → (execOp a.eval o).run P w = .ok (.value v) w) ∧ wpStrict P ops C Q rest (a.put o.dst v) else wpStrict P ops C Q rest (a.put o.dst undef)
theorem wpStrict_mono {P : Program} {all : Array Oper} {C : World → Prop} {Q Q' : Act → Prop} (h : ∀ a, Q a → Q' a) : ∀ (ops : List Oper) (a : Act), wpStrict P all C Q ops a → wpStrict P all C Q' ops a
  | [], a, hq => h a hq
  | o :: ops, a, hq => by
    simp only [wpStrict] at hq ⊢
    split
    · rename_i hw; rw [if_pos hw] at hq
      obtain ⟨v, h1, h2⟩ := hq
      exact ⟨v, h1, wpStrict_mono h ops _ h2⟩
    · rename_i hw; rw [if_neg hw] at hq; exact wpStrict_mono h ops _ hq

def SR (P : Program) (N : Nat) (all : Array Oper) (ops : List Oper) (T : TT) (L : List HP) (R : TT → List HP → Prop) : Prop :=
  ∀ r oo F a, seps (F :: L) r oo → Agr N T a → wpStrict P all (fun w => Sat w r oo) (fun a' => a'.defers = a.defers ∧ ∃ T' L', Agr N T' a' ∧ seps (F :: L') r oo ∧ R T' L') ops a

section
variable {P : Program} {rd : Option Nat} {N : Nat} {T : TT} {L L' L1 : List HP} {Q : Post} {ks : List K}
variable {all : Array Oper} {rest : List Oper} {o : Oper} {RR : TT → List HP → Prop}
theorem SR.nil (h : RR T L) : SR P N all [] T L RR := fun r oo F a hs ha => ⟨rfl, T, L, ha, hs, h⟩
theorem SR.reads {R : Value → List HP → Prop} (hr : Reads P T L o R) (hg : o.guard = none) (hd : dstOk N o.dst = true)
    (h : ∀ v L', R v L' → SR P N all rest (Sl.putD o.dst v T) L' RR) : SR P N all (o :: rest) T L RR := by
  intro r oo F a hs ha
  obtain ⟨v, L', hR, hs', hrun⟩ := hr a.eval ha.knows r oo F hs
  simp only [wpStrict, Region.wanted, hg, if_true]
  refine ⟨v, fun w hw => hrun w hw, wpStrict_mono ?_ rest _ (h v L' hR r oo F _ hs' (ha.putD hd v))⟩
  rintro a' ⟨h1, h2⟩; exact ⟨by rw [h1, put_defers_eq], h2⟩
theorem SR.guard {j : Nat} {want : Bool} {t : Nat} {β : Bool} {dst : Option Tmp} {op : Op} {ty : TypeId} {pos : String} {aft : Array Edge}
    (hj : (all[j]?).bind (·.dst) = some t) (ht : T.get t = some (.bool β)) (hd : dstOk N dst = true)
    (yes : β = want → SR P N all (⟨dst, op, ty, pos, aft, none⟩ :: rest) ((t, .bool want) :: T) L RR)
    (no : β = !want → SR P N all rest (Sl.putD dst undef ((t, .bool (!want)) :: T)) L RR) : SR P N all (⟨dst, op, ty, pos, aft, some (j, want)⟩ :: rest) T L RR := by
  intro r oo F a hs ha
  have hy : yielded all a.tmps j = some β := by
    simp only [yielded, hj, Option.bind_some, ha.2 _ _ ht]
  by_cases hb : β = want
  · have hw : Region.wanted (⟨dst, op, ty, pos, aft, some (j, want)⟩ : Oper) (yielded all a.tmps) = true := by simp [Region.wanted, hy, hb]
    have h2 := yes hb r oo F a hs (ha.know (hb ▸ ht))
    simp only [wpStrict, hw, if_true]
    simp only [wpStrict, Region.wanted, if_true] at h2
    exact h2
  · have hw : Region.wanted (⟨dst, op, ty, pos, aft, some (j, want)⟩ : Oper) (yielded all a.tmps) = false := by simp [Region.wanted, hy, hb]
    have hb' : β = !want := by cases β <;> cases want <;> simp_all
    simp only [wpStrict, hw]
    have := no hb' r oo F _ hs ((ha.know (hb' ▸ ht)).putD hd undef)
    exact wpStrict_mono (fun a' ⟨h1, h2⟩ => ⟨by rw [h1, put_defers_eq], h2⟩) rest _ this
theorem SR.guardY {j : Nat} {want : Bool} {t : Nat} {dst : Option Tmp} {op : Op} {ty : TypeId} {pos : String} {aft : Array Edge}
    (hj : (all[j]?).bind (·.dst) = some t) (ht : T.get t = some (.bool want))
    (yes : SR P N all (⟨dst, op, ty, pos, aft, none⟩ :: rest) T L RR) : SR P N all (⟨dst, op, ty, pos, aft, some (j, want)⟩ :: rest) T L RR := by
  intro r oo F a hs ha
  have hy : yielded all a.tmps j = some want := by
    simp only [yielded, hj, Option.bind_some, ha.2 _ _ ht]
  have hw : Region.wanted (⟨dst, op, ty, pos, aft, some (j, want)⟩ : Oper) (yielded all a.tmps) = true := by simp [Region.wanted, hy]
  have h2 := yes r oo F a hs ha
  simp only [wpStrict, hw, if_true]
  simp only [wpStrict, Region.wanted, if_true] at h2
  exact h2
theorem SR.guardN {j : Nat} {want : Bool} {t : Nat} {dst : Option Tmp} {op : Op} {ty : TypeId} {pos : String} {aft : Array Edge}
    (hj : (all[j]?).bind (·.dst) = some t) (ht : T.get t = some (.bool (!want))) (hd : dstOk N dst = true)
    (no : SR P N all rest (Sl.putD dst undef T) L RR) : SR P N all (⟨dst, op, ty, pos, aft, some (j, want)⟩ :: rest) T L RR := by
  intro r oo F a hs ha
  have hy : yielded all a.tmps j = some (!want) := by
    simp only [yielded, hj, Option.bind_some, ha.2 _ _ ht]
  have hw : Region.wanted (⟨dst, op, ty, pos, aft, some (j, want)⟩ : Oper) (yielded all a.tmps) = false := by simp [Region.wanted, hy]
  simp only [wpStrict, hw]
  exact wpStrict_mono (fun a' ⟨h1, h2⟩ => ⟨by rw [h1, put_defers_eq], h2⟩) rest _ (no r oo F _ hs (ha.putD hd undef))
theorem SR.guardYP {j : Nat} {want : Bool} {t : Nat} {β : Bool} {dst : Option Tmp} {op : Op} {ty : TypeId} {pos : String} {aft : Array Edge}
    (hj : (all[j]?).bind (·.dst) = some t) (ht : T.get t = some (.bool β)) (hb : β = want)
    (yes : SR P N all (⟨dst, op, ty, pos, aft, none⟩ :: rest) ((t, .bool want) :: T) L RR) : SR P N all (⟨dst, op, ty, pos, aft, some (j, want)⟩ :: rest) T L RR := by
  subst hb
  exact fun r oo F a hs ha => (SR.guardY (T := (t, .bool β) :: T) hj (by rw [TT.get_cons, if_pos rfl]) yes) r oo F a hs (ha.know ht)
theorem SR.guardNP {j : Nat} {want : Bool} {t : Nat} {β : Bool} {dst : Option Tmp} {op : Op} {ty : TypeId} {pos : String} {aft : Array Edge}
    (hj : (all[j]?).bind (·.dst) = some t) (ht : T.get t = some (.bool β)) (hd : dstOk N dst = true) (hb : β = !want)
    (no : SR P N all rest (Sl.putD dst undef ((t, .bool (!want)) :: T)) L RR) : SR P N all (⟨dst, op, ty, pos, aft, some (j, want)⟩ :: rest) T L RR := by
  subst hb
  exact fun r oo F a hs ha => (SR.guardN (T := (t, .bool (!want)) :: T) hj (by rw [TT.get_cons, if_pos rfl]) hd no) r oo F a hs (ha.know ht)
end

/-! ### The order -/
def pick (l : List Oper) : List Nat → List Oper
  | [] => []
  | i :: is => match l[i]? with
    | some o => o :: pick l is
    | none => pick l is
def dstAt (l : List Oper) (i : Nat) : Option Tmp := (l[i]?).bind (·.dst)
def aftAt (l : List Oper) (i : Nat) : List Nat := match l[i]? with
  | some o => aft o
  | none => []
def looksOf (l : List Oper) (i : Nat) : List Nat := match l[i]? with
  | some o => o.looksAt l.toArray
  | none => []
/-- Does each wait for none but those ahead of it? -/
def ordPre (l : List Oper) : List Nat → List Nat → Bool
  | _, [] => true
  | done, i :: is => subN (aftAt l i) done && ordPre l (i :: done) is
/-- Does each look at no slot of one of 'pre' that it does not wait for? -/
def looksOk (l : List Oper) (pre : List Nat) : List Nat → Bool
  | [] => true
  | i :: is => ((looksOf l i).all fun d => pre.all fun k => !((dstAt l k).any (Nat.beq d)) || (aftAt l i).elem k) && looksOk l pre is
def allocTy : Oper → Option Nat
  | ⟨_, .alloc t, _, _, _, none⟩ => some t
  | _ => none
def allocZ (tab : List TI) (l : List Oper) (i : Nat) : Option (List Value) := match l[i]? with
  | some o => match allocTy o with
    | some t => match tget tab t with
      | some ti => some ti.zero.cells.toList
      | none => none
    | none => none
  | none => none
def zerosAt (tab : List TI) (l : List Oper) (i : Nat) : List Value := (allocZ tab l i).getD []
/-- All that is waited for. -/
def clo (l : List Oper) : Nat → List Nat → List Nat
  | 0, is => is
  | n + 1, is => clo l n ((is.flatMap (aftAt l)).foldl (fun acc j => if acc.elem j then acc else j :: acc) is)
def chainOk (l : List Oper) : Nat → List Nat → Bool
  | r, [] => !(aftAt l r).elem r
  | r, r2 :: rs => !(aftAt l r).elem r && (r2 :: rs).all (fun k => !(aftAt l r).elem k) && (aftAt l r2).elem r && chainOk l r2 rs
def tailOk (l : List Oper) (pre : List Nat) : List Nat → Bool
  | [] => true
  | r :: rs => subN pre (clo l l.length (aftAt l r)) && chainOk l r rs
def coversN (n : Nat) (is : List Nat) : Bool := (List.range n).all fun i => is.elem i
/-- Operations that look at no world at all. -/
def pureKind (l : List Oper) (i : Nat) : Bool := match l[i]? with
  | some ⟨_, .extract _ _, _, _, _, none⟩ => true
  | some ⟨_, .move _, _, _, _, none⟩ => true
  | some ⟨_, .assign _, _, _, _, none⟩ => true
  | _ => false
def lateOk (l : List Oper) (ps rs : List Nat) : Bool := ps.all fun p => pureKind l p && (ps ++ rs).all fun j => Nat.beq j p || (aftAt l p).elem j || (aftAt l j).elem p || (match l[p]? with
  | some op => match l[j]? with
    | some oj => op.apart l.toArray oj
    | none => true
  | none => false)
def without (is ps : List Nat) : List Nat := is.filter fun i => !ps.elem i
def mixOk (N : Nat) (tab : List TI) (l : List Oper) (qs als ps rs : List Nat) : Bool :=
  noDefer l && Region.noSelect l.toArray && nodupN (qs ++ als ++ rs) && coversN l.length (qs ++ als ++ rs) && ((qs ++ als ++ rs).all fun i => Nat.blt i l.length) && ordPre l [] (qs ++ als) && looksOk l (qs ++ als) qs && (als.all fun i => (allocZ tab l i).isSome) && tailOk l (without (qs ++ als) ps) rs && lateOk l ps rs && subN ps qs && (rs.all fun i => (aftAt l i).all fun j => Nat.blt j l.length) &&
  nodupN ((qs ++ als).filterMap (dstAt l)) && ltAll N ((qs ++ als).filterMap (dstAt l))

section
variable {P : Program} {N : Nat} {l : List Oper} {C : World → Prop}
/-- What an operation gives there. -/
def YS (P : Program) (ops : Array Oper) (C : World → Prop) (o : Oper) (v : Value) (a : Act) : Prop :=
  (Region.wanted o (yielded ops a.tmps) = true ∧ ∀ w, C w → (execOp a.eval o).run P w = .ok (.value v) w) ∨ (Region.wanted o (yielded ops a.tmps) = false ∧ v = undef)
def actN (l : List Oper) (vals : Nat → Value) : List Nat → Act → Act
  | [], a => a
  | i :: is, a => actN l vals is (a.put (dstAt l i) (vals i))
theorem actN_congr {vals vals' : Nat → Value} : ∀ (is : List Nat) (a : Act), (∀ i ∈ is, vals i = vals' i) → actN l vals is a = actN l vals' is a
  | [], _, _ => rfl
  | i :: is, a, h => by
    simp only [actN]; rw [h i (by simp)]
    exact actN_congr is _ fun j hj => h j (by simp [hj])
theorem strict_vals {QQ : Act → Prop} : ∀ (is : List Nat) (a : Act), is.Nodup → (∀ i ∈ is, i < l.length) → wpStrict P l.toArray C QQ (pick l is) a →
    ∃ vals : Nat → Value, (∀ s i t, is = s ++ i :: t → ∀ o, l[i]? = some o → YS P l.toArray C o (vals i) (actN l vals s a)) ∧ QQ (actN l vals is a)
  | [], a, _, _, h => ⟨fun _ => undef, fun s i t e => by simp at e, h⟩
  | i :: is, a, hn, hl, h => by
    obtain ⟨o, ho⟩ : ∃ o, l[i]? = some o := ⟨_, List.getElem?_eq_getElem (hl i (by simp))⟩
    rw [List.nodup_cons] at hn
    simp only [pick, ho, wpStrict] at h
    have hd : dstAt l i = o.dst := by simp [dstAt, ho]
    obtain ⟨v, hy, h2⟩ : ∃ v, YS P l.toArray C o v a ∧ wpStrict P l.toArray C QQ (pick l is) (a.put o.dst v) := by
      split at h
      · rename_i hw
        obtain ⟨v, h1, h2⟩ := h
        exact ⟨v, .inl ⟨hw, h1⟩, h2⟩
      · rename_i hw
        exact ⟨undef, .inr ⟨by simpa using hw, rfl⟩, h⟩
    obtain ⟨vals', h3, h4⟩ := strict_vals is _ hn.2 (fun j hj => hl j (by simp [hj])) h2
    let vals : Nat → Value := fun j => if j = i then v else vals' j
    have hsame : ∀ s : List Nat, (∀ j ∈ s, j ∈ is) → ∀ a, actN l vals s a = actN l vals' s a := fun s hs a => actN_congr s a fun j hj => by
      have : j ≠ i := fun e => hn.1 (e ▸ hs j hj)
      simp [vals, this]
    have hvi : vals i = v := by simp [vals]
    refine ⟨vals, fun s j t e o' ho' => ?_, ?_⟩
    · cases s with
      | nil =>
        simp only [List.nil_append, List.cons.injEq] at e
        obtain ⟨rfl, rfl⟩ := e
        rw [ho] at ho'; cases ho'
        rw [hvi]; exact hy
      | cons k s =>
        simp only [List.cons_append, List.cons.injEq] at e
        obtain ⟨rfl, rfl⟩ := e
        simp only [actN, hd, hvi]
        rw [hsame s (fun j hj => by simp [hj])]
        have hj : j ≠ i := fun e => hn.1 (by rw [← e]; simp)
        have : vals j = vals' j := by simp [vals, hj]
        rw [this]
        exact h3 s j t rfl o' ho'
    · simp only [actN, hd, hvi]
      rw [hsame is (fun j hj => hj)]
      exact h4

theorem actN_size {vals : Nat → Value} : ∀ (is : List Nat) (a : Act), (actN l vals is a).tmps.size = a.tmps.size
  | [], _ => rfl
  | i :: is, a => by
    simp only [actN]; rw [actN_size is]
    cases dstAt l i <;> simp [Act.put]
theorem put_get {a : Act} {d : Option Tmp} {v : Value} {j : Nat} (h : d ≠ some j) : (a.put d v).tmps[j]? = a.tmps[j]? := by
  cases d with
  | none => rfl
  | some d =>
    have : d ≠ j := fun e => h (by rw [e])
    simp only [Act.put]; rw [Array.getElem?_setIfInBounds_ne this]
theorem put_self {a : Act} {d : Nat} {v : Value} (h : d < a.tmps.size) : (a.put (some d) v).tmps[d]? = some v := by
  simp [Act.put, h]
theorem actN_other {vals : Nat → Value} {d : Nat} : ∀ (is : List Nat) (a : Act), (∀ i ∈ is, dstAt l i ≠ some d) → (actN l vals is a).tmps[d]? = a.tmps[d]?
  | [], _, _ => rfl
  | i :: is, a, h => by
    simp only [actN]
    rw [actN_other is _ (fun j hj => h j (by simp [hj])), put_get (h i (by simp))]
theorem actN_own {vals : Nat → Value} {d : Nat} : ∀ (is : List Nat) (a : Act) (i : Nat), i ∈ is → dstAt l i = some d → (∀ j ∈ is, dstAt l j = some d → j = i) → is.Nodup → d < a.tmps.size → (actN l vals is a).tmps[d]? = some (vals i)
  | [], _, _, h, _, _, _, _ => by cases h
  | k :: is, a, i, hi, hd, hu, hn, hlt => by
    simp only [actN]
    rw [List.nodup_cons] at hn
    rcases List.mem_cons.1 hi with rfl | hi'
    · rw [actN_other is _ (fun j hj e => hn.1 (by rw [← hu j (by simp [hj]) e]; exact hj)), hd, put_self hlt]
    · exact actN_own is _ i hi' hd (fun j hj => hu j (by simp [hj])) hn.2 (by cases dstAt l k <;> simpa [Act.put] using hlt)

/-- Two acts that agree on what an operation looks at. -/
theorem YS.congr {o : Oper} {v : Value} {a a' : Act} {ops : Array Oper} (hs : ∀ cs b, o.op ≠ .select cs b) (h : ∀ d ∈ o.looksAt ops, a'.tmps[d]? = a.tmps[d]?) (hy : YS P ops C o v a) : YS P ops C o v a' := by
  have he : execOp a'.eval o = execOp a.eval o := execOp_congr o hs fun x hx => by
    cases x with
    | tmp t =>
      have := h t (List.mem_append_left _ (List.mem_filterMap.2 ⟨.tmp t, by simpa using hx, rfl⟩))
      simp [Act.eval, Array.getD_eq_getD_getElem?, this]
    | const u => rfl
    | global g => rfl
    | func f => rfl
  have hw : Region.wanted o (yielded ops a'.tmps) = Region.wanted o (yielded ops a.tmps) := by
    unfold Region.wanted
    cases hg : o.guard with
    | none => rfl
    | some gw =>
      obtain ⟨g, want⟩ := gw
      have hy : yielded ops a'.tmps g = yielded ops a.tmps g := by
        unfold yielded
        cases ht : (ops[g]?).bind (·.dst) with
        | none => rfl
        | some t =>
          have := h t (by simp [Oper.looksAt, hg, ht])
          simp only [Option.bind_some, this]
      simp only [hy]
  unfold YS at *
  rw [he, hw]; exact hy
end
section
variable {P : Program} {rd : Option Nat} {ops : Array Oper} {Q : Exit → Act → World → Prop} {md : Region.Mode}
/-- It gives its value in whatever world. -/
abbrev YA (P : Program) (ops : Array Oper) (o : Oper) (v : Value) (a : Act) : Prop := YS P ops (fun _ => True) o v a
theorem YA.same {o : Oper} {v : Value} {a a' : Act} (hy : YA P ops o v a) (he : execOp a'.eval o = execOp a.eval o) (hw : Region.wanted o (yielded ops a'.tmps) = Region.wanted o (yielded ops a.tmps)) : YA P ops o v a' := by
  unfold YA YS at *; rw [he, hw]; exact hy
theorem YA.wpOp {i : Nat} {o : Oper} {v : Value} {a : Act} (hn : notDefer o.op = true) (hi : ops[i]? = some o) (hy : YA P ops o v a) {K : Act → World → Prop} {w : World} (h : K (a.put o.dst v) w) : wpOpIn (FW rd) 0 P ops Q i K a w := by
  unfold wpOpIn
  simp only [hi]
  rcases hy with ⟨hw, hv⟩ | ⟨hw, rfl⟩
  · rw [if_pos hw]
    refine ⟨fun _ _ => trivial, ?_⟩
    rw [Oper.semAt_eq _ _ _ (notDefer_spec hn), hv w trivial]
    exact h
  · rw [if_neg (by rw [hw]; simp)]
    exact ⟨fun _ _ => trivial, h⟩
theorem wpOpIn_putS {j : Nat} {oi oj : Oper} {v : Value} (hn : notDefer oj.op = true) (hj : ops[j]? = some oj) (hap : oi.apart ops oj = true)
    (hsi : ∀ cs b, oi.op ≠ .select cs b) (hsj : ∀ cs b, oj.op ≠ .select cs b)
    (hQ : ∀ c a w, Q (.panic c) (a.put oi.dst v) w → Q (.panic c) a w) {K : Act → World → Prop} {a : Act} {w : World}
    (hy : YA P ops oi v a) (h : wpOpIn (FW rd) 0 P ops Q j K (a.put oi.dst v) w) :
    wpOpIn (FW rd) 0 P ops Q j (fun a' w' => YA P ops oi v a' ∧ K (a'.put oi.dst v) w') a w := by
  obtain ⟨h1, h2, h3⟩ := Oper.apart_spec hap
  have keep : ∀ (a : Act), YA P ops oi v a → ∀ u, YA P ops oi v (a.put oj.dst u) := fun a hy u =>
    hy.same (execOp_put oi hsi a oj.dst u h3) (wanted_put oi a oj.dst u h3)
  have keepD : ∀ d, YA P ops oi v { a with defers := d :: a.defers } := fun d => hy.same rfl rfl
  unfold wpOpIn at *
  simp only [hj] at *
  rw [wanted_put oj a oi.dst v h1] at h
  split
  · rename_i hw
    rw [if_pos hw] at h
    unfold Oper.wpIn at *
    refine ⟨fun _ _ => trivial, ?_⟩
    have h := h.2
    rw [Oper.semAt_eq _ _ _ (notDefer_spec hn), execOp_put oj hsj a oi.dst v h1] at h
    rw [Oper.semAt_eq _ _ _ (notDefer_spec hn)]
    generalize (execOp a.eval oj).run P w = r at *
    cases r with
    | ok x w' =>
      cases x <;> simp only [Oper.uponIn] at h ⊢
      case value u => exact ⟨keep a hy u, by rw [← Act.put_comm a v u h2]; exact h⟩
      case skip => exact ⟨keep a hy _, by rw [← Act.put_comm a v undef h2]; exact h⟩
      case defer d =>
        refine ⟨keep _ (keepD d) _, ?_⟩
        rw [← Act.put_comm _ v undef h2, ← Act.put_defers]
        exact h
      case enter f args =>
        refine ⟨h.1, CallsIn.mono h.2 fun e w'' he => ?_⟩
        cases e with
        | returned u => exact ⟨keep a hy u, by rw [← Act.put_comm a v u h2]; exact he⟩
        | panicked c => exact hQ _ _ _ he
        | outgrown => exact he
      case row row args => exact ⟨h.1, RowsIn.mono h.2 fun u w'' he => ⟨keep a hy u, by rw [← Act.put_comm a v u h2]; exact he⟩⟩
      case round l f tmps assign body =>
        refine ⟨h.1, RoundIn.mono h.2 fun e w'' he => ?_⟩
        cases e with
        | returned u => exact ⟨keep a hy u, by rw [← Act.put_comm a v u h2]; exact he⟩
        | panicked c => exact hQ _ _ _ he
        | outgrown => exact he
    | halt x w' =>
      cases x <;> simp only [Oper.uponIn] at h ⊢
      case panic u => exact hQ _ _ _ h
  · rename_i hw
    rw [if_neg hw] at h
    exact ⟨fun _ _ => trivial, keep a hy _, by rw [← Act.put_comm a v undef h2]; exact h.2⟩
theorem wpAnyIn_firstS {i : Nat} {oi : Oper} {v : Value} (hnd : ∀ (i : Nat) (o : Oper), ops[i]? = some o → notDefer o.op = true) (hi : ops[i]? = some oi) (hsel : ∀ (j : Nat) (o : Oper) cs b, ops[j]? = some o → o.op ≠ .select cs b)
    (hQ : ∀ c a w, Q (.panic c) (a.put oi.dst v) w → Q (.panic c) a w) :
    ∀ (fuel : Nat) (listed : Array Bool) (a : Act) (w : World),
      (∀ j oj, ops[j]? = some oj → j ≠ i → listed.getD j true = false → (∀ e ∈ oj.after, Region.binds md e = true → e.on ≠ i) → oi.apart ops oj = true) →
      i ∈ Region.ready md ops listed → YA P ops oi v a →
      wpAnyIn (FW rd) 0 P md ops Q fuel (listed.setIfInBounds i true) (a.put oi.dst v) w → wpAnyIn (FW rd) 0 P md ops Q (fuel + 1) listed a w := by
  intro fuel
  induction fuel with
  | zero =>
    intro listed a w _ hr hy H
    refine ⟨fun h => (by rw [h] at hr; cases hr), fun j hj => ?_⟩
    by_cases hji : j = i
    · subst hji; exact hy.wpOp (hnd _ _ hi) hi H
    · have := ready_mono hj hji
      rw [H.1] at this
      cases this
  | succ fuel ih =>
    intro listed a w hfree hr hy H
    refine ⟨fun h => (by rw [h] at hr; cases hr), fun j hj => ?_⟩
    by_cases hji : j = i
    · subst hji; exact hy.wpOp (hnd _ _ hi) hi H
    · have h1 := H.2 j (ready_mono hj hji)
      obtain ⟨hjun, oj, hoj, hall⟩ := mem_ready.1 hj
      have hnot : ∀ e ∈ oj.after, Region.binds md e = true → e.on ≠ i := fun e he hb heq => by
        have h1 := hall e he hb
        have h0 := (mem_ready.1 hr).1
        rw [heq] at h1
        rcases Nat.lt_or_ge i listed.size with h' | h'
        · simp [h'] at h0 h1; rw [h0] at h1; cases h1
        · simp [Array.getElem?_eq_none h'] at h1
      have h2 := wpOpIn_putS (hnd _ _ hoj) hoj (hfree j oj hoj hji hjun hnot) (fun cs b => hsel i oi cs b hi) (fun cs b => hsel j oj cs b hoj) hQ hy h1
      have hfree' : ∀ k ok, ops[k]? = some ok → k ≠ i → (listed.setIfInBounds j true).getD k true = false →
          (∀ e ∈ ok.after, Region.binds md e = true → e.on ≠ i) → oi.apart ops ok = true := fun k ok hk hki hun hno => by
        refine hfree k ok hk hki ?_ hno
        by_cases hjk : j = k
        · subst hjk; exact hjun
        · rw [getD_set_ne true hjk] at hun; exact hun
      refine wpOpIn_mono (fun a' w' h3 => ih (listed.setIfInBounds j true) a' w' hfree' (ready_mono hr (Ne.symm hji)) h3.1 ?_) h2
      rw [Array.setIfInBounds_comm _ _ hji]
      exact h3.2
end
/-- What looks at no world gives its value in each. -/
theorem pure_all {P : Program} {l : List Oper} {i : Nat} {o : Oper} {v : Value} {a : Act} {w0 : World} {C : World → Prop} (hp : pureKind l i = true) (ho : l[i]? = some o) (hw0 : C w0) (hy : YS P l.toArray C o v a) : YA P l.toArray o v a := by
  rcases hy with ⟨hw, hrun⟩ | h
  · left
    refine ⟨hw, fun w _ => ?_⟩
    have h0 := hrun w0 hw0
    unfold pureKind at hp
    rw [ho] at hp
    split at hp
    · rename_i heq
      obtain rfl := Option.some.inj heq
      simp only [execOp] at h0 ⊢
      revert h0
      unfold Instr.extract
      split
      · split
        · intro h0
          simp [Sem.run] at h0 ⊢
          exact h0
        · intro h0; simp [Sem.run] at h0
      · intro h0; simp [Sem.run] at h0
    · rename_i heq
      obtain rfl := Option.some.inj heq
      simp only [execOp] at h0 ⊢
      simp [Sem.run] at h0 ⊢
      exact h0
    · rename_i heq
      obtain rfl := Option.some.inj heq
      simp only [execOp] at h0 ⊢
      simp [Sem.run] at h0 ⊢
      exact h0
    · cases hp
  · exact .inr h
section
variable {P : Program} [tb : Tab P] {rd : Option Nat} {N : Nat} {l : List Oper} {qs als rs : List Nat}

theorem ordPre_spec : ∀ {is done : List Nat}, ordPre l done is = true → ∀ s i t, is = s ++ i :: t → ∀ j ∈ aftAt l i, j ∈ s ∨ j ∈ done
  | [], _, _, s, i, t, e, _, _ => by simp at e
  | k :: is, done, h, s, i, t, e, j, hj => by
    simp only [ordPre, Bool.and_eq_true] at h
    cases s with
    | nil =>
      simp only [List.nil_append, List.cons.injEq] at e
      obtain ⟨rfl, rfl⟩ := e
      exact .inr (subN_ok h.1 j hj)
    | cons k' s =>
      simp only [List.cons_append, List.cons.injEq] at e
      obtain ⟨rfl, rfl⟩ := e
      rcases ordPre_spec h.2 s i t rfl j hj with h' | h'
      · exact .inl (by simp [h'])
      · rcases List.mem_cons.1 h' with rfl | h'
        · exact .inl (by simp)
        · exact .inr h'
theorem looksOk_spec {pre : List Nat} : ∀ {is : List Nat}, looksOk l pre is = true → ∀ i ∈ is, ∀ d ∈ looksOf l i, ∀ k ∈ pre, dstAt l k = some d → k ∈ aftAt l i
  | [], _, i, h, _, _, _, _, _ => by cases h
  | k' :: is, h, i, hi, d, hd, k, hk, e => by
    simp only [looksOk, Bool.and_eq_true] at h
    rcases List.mem_cons.1 hi with rfl | hi
    · have h1 := List.all_eq_true.1 (List.all_eq_true.1 h.1 d hd) k hk
      rw [e] at h1
      simpa using h1
    · exact looksOk_spec h.2 i hi d hd k hk e
theorem foldl_mem : ∀ (js acc : List Nat) (x : Nat), x ∈ js.foldl (fun acc j => if acc.elem j then acc else j :: acc) acc → x ∈ acc ∨ x ∈ js
  | [], acc, x, h => .inl h
  | j :: js, acc, x, h => by
    simp only [List.foldl_cons] at h
    rcases foldl_mem js _ x h with h | h
    · split at h
      · exact .inl h
      · rcases List.mem_cons.1 h with rfl | h
        · exact .inr (by simp)
        · exact .inl h
    · exact .inr (by simp [h])
theorem clo_sub {p : Nat → Prop} (hc : ∀ i, p i → ∀ j ∈ aftAt l i, p j) : ∀ (n : Nat) (is : List Nat), (∀ i ∈ is, p i) → ∀ j ∈ clo l n is, p j
  | 0, is, h, j, hj => h j hj
  | n + 1, is, h, j, hj => by
    simp only [clo] at hj
    refine clo_sub hc n _ (fun i hi => ?_) j hj
    rcases foldl_mem _ _ i hi with hi | hi
    · exact h i hi
    · obtain ⟨k, hk, hki⟩ := List.mem_flatMap.1 hi
      exact hc k (h k hk) i hki
theorem aft_mem {i j : Nat} {o : Oper} (ho : l[i]? = some o) : j ∈ aftAt l i ↔ ∃ e ∈ o.after, Region.binds .any e = true ∧ e.on = j := by
  simp only [aftAt, ho, aft, List.mem_map, List.mem_filter]
  constructor
  · rintro ⟨e, ⟨he, hb⟩, rfl⟩; exact ⟨e, by simpa using he, hb, rfl⟩
  · rintro ⟨e, he, hb, rfl⟩; exact ⟨e, ⟨by simpa using he, hb⟩, rfl⟩
theorem ready_iff {i : Nat} {listed : Array Bool} (hs : listed.size = l.length) : i ∈ Region.ready .any l.toArray listed ↔ i < l.length ∧ listed.getD i false = false ∧ ∀ j ∈ aftAt l i, listed.getD j false = true := by
  rw [mem_ready]
  constructor
  · rintro ⟨h1, o, ho, h2⟩
    have hi : i < l.length := by have := (Array.getElem?_eq_some_iff.1 ho).1; simpa using this
    refine ⟨hi, (by rw [← getD_tf (by omega)]; exact h1), fun j hj => ?_⟩
    obtain ⟨e, he, hb, rfl⟩ := (aft_mem (by simpa using ho)).1 hj
    exact h2 e he hb
  · rintro ⟨hi, h1, h2⟩
    exact ⟨(by rw [getD_tf (by omega)]; exact h1), l[i], (by simp [hi]), fun e he hb => h2 _ ((aft_mem (o := l[i]) (by simp [hi])).2 ⟨e, he, hb, rfl⟩)⟩

/-- The last operations come one by one. -/
theorem tail_run {QQ : Exit → Act → World → Prop} : ∀ (rs : List Nat) (fuel : Nat) (listed : Array Bool) (a : Act) (w : World), listed.size = l.length → (∀ i, i < l.length → (listed.getD i false = false ↔ i ∈ rs)) → (∀ i ∈ rs, i < l.length) → (∀ i ∈ rs, ∀ j ∈ aftAt l i, j < l.length) → rs.Nodup → (∀ r rs', rs = r :: rs' → chainOk l r rs' = true) → rs.length ≤ fuel →
    wpListIn (FW rd) 0 P l.toArray QQ (pick l rs) a w → wpAnyIn (FW rd) 0 P .any l.toArray QQ fuel listed a w
  | [], fuel, listed, a, w, hs, hl, _, _, _, _, _, h => by
    have hr : Region.ready .any l.toArray listed = [] := by
      cases hh : Region.ready .any l.toArray listed with
      | nil => rfl
      | cons i r =>
        have hi : i ∈ Region.ready .any l.toArray listed := by rw [hh]; simp
        obtain ⟨h1, h2, _⟩ := (ready_iff hs).1 hi
        have := (hl i h1).1 h2
        cases this
    exact wpAnyIn_done hr h fuel
  | r :: rs, 0, listed, a, w, _, _, _, _, _, _, hf, _ => by simp at hf
  | r :: rs, fuel + 1, listed, a, w, hs, hl, hlt, haf, hn, hch, hf, h => by
    have hch1 := hch r rs rfl
    rw [List.nodup_cons] at hn
    have hrlt := hlt r (by simp)
    obtain ⟨o, ho⟩ : ∃ o, l[r]? = some o := ⟨_, List.getElem?_eq_getElem hrlt⟩
    have hself : ∀ k ∈ r :: rs, k ∉ aftAt l r := by
      intro k hk
      cases rs with
      | nil =>
        simp only [chainOk] at hch1
        simp at hk; subst hk; simpa using hch1
      | cons r2 rs =>
        simp only [chainOk, Bool.and_eq_true] at hch1
        obtain ⟨⟨⟨h1, h2⟩, _⟩, _⟩ := hch1
        rcases List.mem_cons.1 hk with rfl | hk
        · simpa using h1
        · have := List.all_eq_true.1 h2 k hk
          simpa using this
    have hready : r ∈ Region.ready .any l.toArray listed := (ready_iff hs).2 ⟨hrlt, (hl r hrlt).2 (by simp), fun j hj => by
      cases hb : listed.getD j false with
      | true => rfl
      | false => exact absurd hj (hself j ((hl j (haf r (by simp) j hj)).1 hb))⟩
    have honly : ∀ i ∈ Region.ready .any l.toArray listed, i = r := by
      intro i hi
      obtain ⟨h1, h2, h3⟩ := (ready_iff hs).1 hi
      have hmem := (hl i h1).1 h2
      -- who waits for another one of them does not come up
      have key : ∀ (r : Nat) (rs : List Nat), chainOk l r rs = true → i ∈ rs → ∃ p ∈ r :: rs, p ∈ aftAt l i := by
        intro r rs
        induction rs generalizing r with
        | nil => intro _ h; cases h
        | cons r2 rs ih =>
          intro hc hi
          simp only [chainOk, Bool.and_eq_true] at hc
          rcases List.mem_cons.1 hi with rfl | hi
          · exact ⟨r, by simp, by simpa using hc.1.2⟩
          · obtain ⟨p, hp, hpa⟩ := ih r2 hc.2 hi
            exact ⟨p, by simp [hp], hpa⟩
      rcases List.mem_cons.1 hmem with rfl | hmem
      · rfl
      · obtain ⟨p, hp, hpa⟩ := key r rs hch1 hmem
        have h4 := h3 p hpa
        have h5 := (hl p (by exact hlt p hp)).2 hp
        rw [h5] at h4; cases h4
    refine ⟨fun h0 => (by rw [h0] at hready; cases hready), fun i hi => ?_⟩
    obtain rfl := honly i hi
    have hnext : ∀ a' w', wpListIn (FW rd) 0 P l.toArray QQ (pick l rs) a' w' → wpAnyIn (FW rd) 0 P .any l.toArray QQ fuel (listed.setIfInBounds i true) a' w' := fun a' w' h' => by
      refine tail_run rs fuel _ a' w' (by simp [hs]) (fun k hk => ?_) (fun k hk => hlt k (by simp [hk])) (fun k hk => haf k (by simp [hk])) hn.2 (fun r' rs' e => ?_) (by simp at hf; omega) h'
      · by_cases hki : i = k
        · subst hki
          simp only [hs, hk, Array.getD_eq_getD_getElem?, Array.getElem?_setIfInBounds_self_of_lt (show i < listed.size by omega), Option.getD_some]
          simp [hn.1]
        · rw [getD_set_ne false hki, hl k hk]
          simp only [List.mem_cons]; exact ⟨fun h => h.resolve_left (fun e => hki e.symm), .inr⟩
      · subst e
        simp only [chainOk, Bool.and_eq_true] at hch1
        exact hch1.2
    simp only [pick, ho, wpListIn] at h
    unfold wpOpIn
    simp only [List.getElem?_toArray, ho]
    split
    · rename_i hw; rw [if_pos hw] at h
      exact Oper.wpIn_mono hnext h
    · rename_i hw; rw [if_neg hw] at h
      exact ⟨h.1, hnext _ _ h.2⟩

theorem nodup_le : ∀ {a b : List Nat}, a.Nodup → (∀ i ∈ a, i ∈ b) → a.length ≤ b.length
  | [], _, _, _ => by simp
  | x :: a, b, hn, h => by
    rw [List.nodup_cons] at hn
    have h1 := nodup_le (a := a) (b := b.erase x) hn.2 fun i hi => by
      have : i ≠ x := fun e => hn.1 (e ▸ hi)
      exact (List.mem_erase_of_ne this).2 (h i (by simp [hi]))
    have h2 := List.length_erase_of_mem (h x (by simp))
    have h3 : 0 < b.length := List.length_pos_of_mem (h x (by simp))
    simp only [List.length_cons]; omega
theorem pin_swap {w : World} {r : Ro} {oo : Own} {A M : List HP} (h : St w (pin r oo :: A)) (hs : seps M r oo) : St w (big M :: A) := by
  obtain ⟨r', o', s, a, b, d, le, ⟨h1, h2⟩, hA⟩ := h
  exact ⟨r', o', s, a, b, d, le, seps_up h1 h2 hs, hA⟩
theorem pin_sat {w : World} {r : Ro} {oo : Own} {A : List HP} (h : St w (pin r oo :: A)) : Sat w r oo := by
  obtain ⟨r', o', s', a1, b1, d1, le1, ⟨h1, h2⟩, _⟩ := h
  have s2 := s'.weaken (Own.le_trans h2 (Own.le_trans (Own.le_add_left a1 b1) le1))
  exact ⟨fun i j v e => s2.ro _ _ _ (h1.le _ _ _ e), s2.val, s2.obj, fun i j v c e e' => s2.dis _ _ _ _ (h1.le _ _ _ e) e', h1.bs ▸ s2.below, fun i j c e => h1.bs ▸ s2.low i j c e⟩
def valOf (als : List Nat) (vals : Nat → Value) (bs : Nat → Nat) (k : Nat) : Value := if k ∈ als then .pointer (some ⟨bs k, 0, none⟩) else vals k
def mixL (tab : List TI) (l : List Oper) (listed : Array Bool) (bs : Nat → Nat) (k : Nat) : HP := if listed.getD k false = true then pts (bs k) 0 (zerosAt tab l k) else emp
structure MixInv (tab : List TI) (N : Nat) (l : List Oper) (qs als : List Nat) (vals : Nat → Value) (a0 : Act) (X : HP) (listed : Array Bool) (a : Act) (w : World) : Prop where
  lsize : listed.size = l.length
  only : ∀ i, listed.getD i false = true → i ∈ qs ++ als
  closed : ∀ i, listed.getD i false = true → ∀ j ∈ aftAt l i, listed.getD j false = true
  dfr : a.defers = a0.defers
  size : a.tmps.size = N
  mem : ∃ bs : Nat → Nat, (∀ k d, k ∈ qs ++ als → listed.getD k false = true → dstAt l k = some d → a.tmps[d]? = some (valOf als vals bs k)) ∧
    (∀ d, (∀ k ∈ qs ++ als, listed.getD k false = true → dstAt l k ≠ some d) → a.tmps[d]? = a0.tmps[d]?) ∧ St w (X :: als.map (mixL tab l listed bs))

theorem ent_mapset {f f' : Nat → HP} {i : Nat} : ∀ {als : List Nat}, i ∈ als → als.Nodup → (∀ k, k ≠ i → f' k = f k) → Ent (f' i :: als.map f) (als.map f')
  | [], h, _, _ => by cases h
  | k :: als, h, hn, hf => by
    rw [List.nodup_cons] at hn
    simp only [List.map_cons]
    by_cases hk : k = i
    · subst hk
      have : als.map f = als.map f' := List.map_congr_left fun j hj => (hf j (fun e => hn.1 (e ▸ hj))).symm
      rw [this]
      exact Ent.swap.trans Ent.drop
    · have h' : i ∈ als := by
        rcases List.mem_cons.1 h with e | h
        · exact absurd e.symm hk
        · exact h
      rw [hf k hk]
      exact Ent.swap.trans (Ent.cons (ent_mapset h' hn.2 hf))
theorem getD_set_self {listed : Array Bool} {i : Nat} (h : i < listed.size) : (listed.setIfInBounds i true).getD i false = true := by simp [h]
theorem getD_lt {listed : Array Bool} {i : Nat} (h : listed.getD i false = true) : i < listed.size := by
  rcases Nat.lt_or_ge i listed.size with h' | h'
  · exact h'
  · simp [Array.getElem?_eq_none h'] at h
theorem dst_uniq : ∀ {pre : List Nat}, (pre.filterMap (dstAt l)).Nodup → ∀ i ∈ pre, ∀ j ∈ pre, ∀ d, dstAt l i = some d → dstAt l j = some d → pre.Nodup → i = j
  | [], _, i, h, _, _, _, _, _, _ => by cases h
  | k :: pre, hn, i, hi, j, hj, d, h1, h2, hnd => by
    rw [List.nodup_cons] at hnd
    have hn' : (pre.filterMap (dstAt l)).Nodup := by
      simp only [List.filterMap_cons] at hn
      split at hn
      · exact hn
      · exact (List.nodup_cons.1 hn).2
    have hk : ∀ x ∈ pre, dstAt l k = some d → dstAt l x = some d → False := fun x hx e1 e2 => by
      simp only [List.filterMap_cons, e1, List.nodup_cons] at hn
      exact hn.1 (List.mem_filterMap.2 ⟨x, hx, e2⟩)
    rcases List.mem_cons.1 hi with rfl | hi
    · rcases List.mem_cons.1 hj with rfl | hj
      · rfl
      · exact (hk j hj h1 h2).elim
    · rcases List.mem_cons.1 hj with e | hj
      · subst e; exact (hk i (by assumption) h2 h1).elim
      · exact dst_uniq hn' i hi j hj d h1 h2 hnd.2

/-- **A region whose order is open: operations that read ('qs'), new variables ('als'), then those that wait for all of them ('rs').** -/
theorem SK.regionM {T : TT} {L : List HP} {Q : Post} {ks : List K} {id : Nat} (qs als ps rs : List Nat) (hm : P.follows .mixedOrders = true) (hok : mixOk N tb.tab l qs als ps rs = true) (hnp : ∀ c T L, Q (.panic c) T L → False)
    (h : SR P N l.toArray (pick l qs) T L (fun T' L' => ∀ bs : Nat → Nat, SO P rd N l.toArray (pick l rs) (als.foldr (fun k T => putD (dstAt l k) (.pointer (some ⟨bs k, 0, none⟩)) T) T') ((als.map fun k => pts (bs k) 0 (zerosAt tb.tab l k)) ++ L') ks Q)) :
    SK P rd N (.code (.region id l.toArray true) :: ks) T L Q := by
  simp only [mixOk, Bool.and_eq_true] at hok
  obtain ⟨⟨⟨⟨⟨⟨⟨⟨⟨⟨⟨⟨⟨hnd, hsel⟩, hnod⟩, hcov⟩, hlt⟩, hord⟩, hlooks⟩, hals⟩, htail⟩, hlate⟩, hpsq⟩, haft⟩, hdst⟩, hdN⟩ := hok
  have hnodN := nodupN_ok hnod
  have hdstN := nodupN_ok hdst
  have hltN : ∀ i ∈ qs ++ als ++ rs, i < l.length := fun i hi => by have := List.all_eq_true.1 hlt i hi; simpa [Nat.blt_eq] using this
  have hpreN : (qs ++ als).Nodup := (List.nodup_append.1 hnodN).1
  have hqsN : qs.Nodup := (List.nodup_append.1 hpreN).1
  have halsN : als.Nodup := (List.nodup_append.1 hpreN).2.1
  have hrsN : rs.Nodup := (List.nodup_append.1 hnodN).2.1
  have hqa : ∀ k ∈ qs, k ∉ als := fun k h1 h2 => (List.nodup_append.1 hpreN).2.2 k h1 k h2 rfl
  have hprs : ∀ k ∈ qs ++ als, k ∉ rs := fun k h1 h2 => (List.nodup_append.1 hnodN).2.2 k h1 k h2 rfl
  have hcovN : ∀ i, i < l.length → i ∈ qs ++ als ++ rs := fun i hi => by have := List.all_eq_true.1 hcov i (by simp [hi]); simpa using this
  have hselN := Region.noSelect_spec hsel
  have hpsQ : ∀ i ∈ ps, i ∈ qs := subN_ok hpsq
  have hpure : ∀ i ∈ ps, pureKind l i = true := fun i hi => by
    have h1 := List.all_eq_true.1 hlate i hi
    simp only [Bool.and_eq_true] at h1
    exact h1.1
  have hndN : ∀ (i : Nat) (o : Oper), l[i]? = some o → notDefer o.op = true := fun i o ho => List.all_eq_true.1 hnd o (List.mem_of_getElem? ho)
  have hdltN : ∀ k d, k ∈ qs ++ als → dstAt l k = some d → d < N := fun k d hk hd => ltAll_ok hdN d (List.mem_filterMap.2 ⟨k, hk, hd⟩)
  rw [SK_code]
  intro G a0 w ok
  obtain ⟨D, hD, r, oo, s, hs⟩ := ok.mem
  obtain ⟨vals, hys, hfin⟩ := strict_vals qs a0 hqsN (fun i hi => hltN i (by simp [hi])) (h r oo _ a0 hs ⟨ok.size, ok.get⟩)
  refine wpIn_region_any hm ?_
  -- all of 'pre' is there: the rest
  have hrest : ∀ (fuel : Nat) (listed : Array Bool) (a : Act) (w : World), (unl l.length listed).length ≤ fuel → MixInv tb.tab N l qs als vals a0 (pin r oo) listed a w → (∀ i ∈ qs ++ als, listed.getD i false = true) →
      wpAnyIn (FW rd) 0 P .any l.toArray (lift G N (postK P rd N ks Q)) fuel listed a w := by
    intro fuel listed a w hf inv hall
    obtain ⟨bs, hown, hoth, hst⟩ := inv.mem
    refine tail_run rs fuel listed a w inv.lsize (fun i hi => ⟨fun h0 => ?_, fun h0 => ?_⟩) (fun i hi => hltN i (by simp [hi])) ?_ hrsN (fun r' rs' e => ?_) ?_ ?_
    · rcases List.mem_append.1 (hcovN i hi) with h1 | h1
      · rw [hall i h1] at h0; cases h0
      · exact h1
    · cases hb : listed.getD i false with
      | false => rfl
      | true => exact _root_.absurd h0 (hprs i (inv.only i hb))
    · intro i hi j hj
      have := List.all_eq_true.1 (List.all_eq_true.1 haft i hi) j hj
      simpa [Nat.blt_eq] using this
    · subst e
      simp only [tailOk, Bool.and_eq_true] at htail
      exact htail.2
    · refine Nat.le_trans ?_ hf
      refine nodup_le hrsN fun i hi => ?_
      simp only [unl, List.mem_filter, List.mem_range]
      refine ⟨hltN i (by simp [hi]), ?_⟩
      have h1 : listed.getD i false = false := by
        cases hb : listed.getD i false with
        | false => rfl
        | true => exact _root_.absurd hi (hprs i (inv.only i hb))
      rw [getD_tf (by rw [inv.lsize]; exact hltN i (by simp [hi])), h1]; rfl
    · obtain ⟨h1, T', L', hagr, hs', hso⟩ := hfin
      have hso := hso bs
      refine hso G a w ⟨inv.size, ?_, D, by rw [inv.dfr, hD], ?_⟩
      · -- the slots
        have hsame : ∀ d, (∀ k ∈ als, dstAt l k ≠ some d) → a.tmps[d]? = (actN l vals qs a0).tmps[d]? := by
          intro d hd
          by_cases hex : ∃ k ∈ qs, dstAt l k = some d
          · obtain ⟨k, hk, hkd⟩ := hex
            rw [hown k d (by simp [hk]) (hall k (by simp [hk])) hkd]
            rw [actN_own qs a0 k hk hkd (fun j hj hjd => dst_uniq hdstN j (by simp [hj]) k (by simp [hk]) d hjd hkd hpreN) hqsN (by rw [ok.size]; exact hdltN k d (by simp [hk]) hkd)]
            simp [valOf, hqa k hk]
          · rw [hoth d (fun k hk _ e => ?_), actN_other qs a0 (fun i hi e => hex ⟨i, hi, e⟩)]
            rcases List.mem_append.1 hk with hk | hk
            · exact hex ⟨k, hk, e⟩
            · exact hd k hk e
        have key : ∀ (as : List Nat), (∀ k ∈ as, k ∈ als) → ∀ i v, (as.foldr (fun k T => Sl.putD (dstAt l k) (.pointer (some ⟨bs k, 0, none⟩)) T) T').get i = some v → (∃ k ∈ as, dstAt l k = some i ∧ v = .pointer (some ⟨bs k, 0, none⟩)) ∨ (T'.get i = some v ∧ ∀ k ∈ as, dstAt l k ≠ some i) := by
          intro as
          induction as with
          | nil => intro _ i v h; exact .inr ⟨h, by simp⟩
          | cons k as ih =>
            intro hka i v h
            simp only [List.foldr_cons] at h
            cases hd : dstAt l k with
            | none =>
              rw [hd] at h
              rcases ih (fun j hj => hka j (by simp [hj])) i v h with ⟨j, hj, h1⟩ | ⟨h1, h2⟩
              · exact .inl ⟨j, by simp [hj], h1⟩
              · refine .inr ⟨h1, fun j hj => ?_⟩
                rcases List.mem_cons.1 hj with rfl | hj
                · rw [hd]; simp
                · exact h2 j hj
            | some d =>
              rw [hd] at h
              simp only [Sl.putD] at h
              rw [TT.get_cons] at h
              split at h
              · rename_i hdi; subst hdi; cases h
                exact .inl ⟨k, by simp, hd, rfl⟩
              · rename_i hdi
                rcases ih (fun j hj => hka j (by simp [hj])) i v h with ⟨j, hj, h1⟩ | ⟨h1, h2⟩
                · exact .inl ⟨j, by simp [hj], h1⟩
                · refine .inr ⟨h1, fun j hj => ?_⟩
                  rcases List.mem_cons.1 hj with rfl | hj
                  · rw [hd]; simpa using hdi
                  · exact h2 j hj
        intro i v hv
        rcases key als (fun k hk => hk) i v hv with ⟨k, hk, hkd, rfl⟩ | ⟨hv, hno⟩
        · rw [hown k i (by simp [hk]) (hall k (by simp [hk])) hkd]
          simp [valOf, hk]
        · rw [hsame i hno]; exact hagr.2 i v hv
      · -- the memory
        have hmap : als.map (mixL tb.tab l listed bs) = als.map fun k => pts (bs k) 0 (zerosAt tb.tab l k) := List.map_congr_left fun k hk => by simp [mixL, hall k (by simp [hk])]
        rw [hmap] at hst
        have h2 := pin_swap hst hs'
        refine h2.ent ?_
        refine (ent_big (A := big (G :: D.map mkA) :: L')).trans ?_
        exact Ent.cons ent_app_comm
  -- on the way
  have hway : ∀ (fuel : Nat) (listed : Array Bool) (a : Act) (w : World), (unl l.length listed).length ≤ fuel → MixInv tb.tab N l qs als vals a0 (pin r oo) listed a w →
      wpAnyIn (FW rd) 0 P .any l.toArray (lift G N (postK P rd N ks Q)) fuel listed a w := by
    intro fuel
    induction fuel with
    | zero =>
      intro listed a w hf inv
      refine hrest 0 listed a w hf inv fun i hi => ?_
      have h0 : unl l.length listed = [] := List.length_eq_zero_iff.1 (by omega)
      have hil := hltN i (by simp only [List.mem_append] at hi ⊢; exact .inl hi)
      cases hb : listed.getD i false with
      | true => rfl
      | false =>
        have : i ∈ unl l.length listed := by
          simp only [unl, List.mem_filter, List.mem_range]
          exact ⟨hil, by rw [getD_tf (by rw [inv.lsize]; exact hil), hb]; rfl⟩
        rw [h0] at this; cases this
    | succ fuel ih =>
      intro listed a w hf inv
      by_cases hall : ∀ i ∈ qs ++ als, listed.getD i false = true
      · exact hrest _ listed a w hf inv hall
      -- the first one that is not there comes up
      have hfirst : ∃ i, i ∈ Region.ready .any l.toArray listed ∧ i ∈ qs ++ als ∧ listed.getD i false = false := by
        have key : ∀ (t s : List Nat), qs ++ als = s ++ t → (∀ i ∈ s, listed.getD i false = true) → ∃ i, i ∈ Region.ready .any l.toArray listed ∧ i ∈ qs ++ als ∧ listed.getD i false = false := by
          intro t
          induction t with
          | nil =>
            intro s e h1
            rw [List.append_nil] at e
            exact _root_.absurd (fun i hi => h1 i (e ▸ hi)) hall
          | cons i t iht =>
            intro s e h1
            cases hb : listed.getD i false with
            | true =>
              refine iht (s ++ [i]) (by rw [e]; simp) fun j hj => ?_
              rcases List.mem_append.1 hj with hj | hj
              · exact h1 j hj
              · simp at hj; subst hj; exact hb
            | false =>
              have hi : i ∈ qs ++ als := by rw [e]; simp
              refine ⟨i, (ready_iff inv.lsize).2 ⟨hltN i (by simp only [List.mem_append] at hi ⊢; exact .inl hi), hb, fun j hj => ?_⟩, hi, hb⟩
              rcases ordPre_spec hord s i t e j hj with h2 | h2
              · exact h1 j h2
              · cases h2
        exact key _ [] rfl (by simp)
      -- it is none of the last
      have hpre : (∃ k ∈ qs ++ als, k ∉ ps ∧ listed.getD k false = false) → ∀ i, i ∈ Region.ready .any l.toArray listed → i ∈ qs ++ als := by
        intro hsome i hi
        obtain ⟨hil, hiu, hia⟩ := (ready_iff inv.lsize).1 hi
        rcases List.mem_append.1 (hcovN i hil) with h1 | h1
        · exact h1
        exfalso
        have key : ∀ (rs : List Nat), tailOk l (without (qs ++ als) ps) rs = true → (∀ k ∈ rs, listed.getD k false = false) → i ∈ rs → False := by
          intro rs htl hun hir
          cases rs with
          | nil => cases hir
          | cons r rs =>
            simp only [tailOk, Bool.and_eq_true] at htl
            rcases List.mem_cons.1 hir with rfl | hir'
            · obtain ⟨k, hk, hkp, hku⟩ := hsome
              have := clo_sub (p := fun j => listed.getD j false = true) inv.closed _ _ hia k (subN_ok htl.1 k (by unfold without; rw [List.mem_filter]; exact ⟨hk, by simpa using hkp⟩))
              rw [hku] at this; cases this
            · have key2 : ∀ (r : Nat) (rs : List Nat), chainOk l r rs = true → i ∈ rs → ∃ p ∈ r :: rs, p ∈ aftAt l i := by
                intro r rs
                induction rs generalizing r with
                | nil => intro _ h; cases h
                | cons r2 rs ih2 =>
                  intro hc hi
                  simp only [chainOk, Bool.and_eq_true] at hc
                  rcases List.mem_cons.1 hi with rfl | hi
                  · exact ⟨r, by simp, by simpa using hc.1.2⟩
                  · obtain ⟨p, hp, hpa⟩ := ih2 r2 hc.2 hi
                    exact ⟨p, by simp [hp], hpa⟩
              obtain ⟨p, hp, hpa⟩ := key2 r rs htl.2 hir'
              have := hia p hpa
              rw [hun p hp] at this; cases this
        refine key rs htail (fun k hk => ?_) h1
        cases hb : listed.getD k false with
        | false => rfl
        | true => exact _root_.absurd hk (hprs k (inv.only k hb))
      have hone : ∀ i, i ∈ Region.ready .any l.toArray listed → i ∈ qs ++ als → wpOpIn (FW rd) 0 P l.toArray (lift G N (postK P rd N ks Q)) i (wpAnyIn (FW rd) 0 P .any l.toArray (lift G N (postK P rd N ks Q)) fuel (listed.setIfInBounds i true)) a w ∧
          (i ∈ ps → ∃ o, l[i]? = some o ∧ YA P l.toArray o (vals i) a ∧ wpAnyIn (FW rd) 0 P .any l.toArray (lift G N (postK P rd N ks Q)) fuel (listed.setIfInBounds i true) (a.put o.dst (vals i)) w) := by
        intro i hi hpre
        obtain ⟨hil, hiu, hia⟩ := (ready_iff inv.lsize).1 hi
        obtain ⟨o, ho⟩ : ∃ o, l[i]? = some o := ⟨_, List.getElem?_eq_getElem hil⟩
        obtain ⟨bs, hown, hoth, hst⟩ := inv.mem
        have hsat : Sat w r oo := pin_sat hst
        have hdo : dstAt l i = o.dst := by simp [dstAt, ho]
        have hunl : (unl l.length (listed.setIfInBounds i true)).length ≤ fuel := by
          have : i ∈ unl l.length listed := by
            simp only [unl, List.mem_filter, List.mem_range]
            exact ⟨hil, by rw [getD_tf (by rw [inv.lsize]; exact hil), hiu]; rfl⟩
          have := unl_set this
          omega
        have hls : ∀ k, (listed.setIfInBounds i true).getD k false = true ↔ k = i ∨ listed.getD k false = true := fun k => by
          by_cases hk : i = k
          · subst hk
            rw [getD_set_self (by rw [inv.lsize]; exact hil)]; simp
          · rw [getD_set_ne false hk]
            exact ⟨.inr, fun h => h.resolve_left (fun e => hk e.symm)⟩
        -- the invariant behind it
        have hinv : ∀ (v : Value) (w' : World) (bs' : Nat → Nat), (∀ k, k ≠ i → bs' k = bs k) → v = valOf als vals bs' i → St w' (pin r oo :: als.map (mixL tb.tab l (listed.setIfInBounds i true) bs')) →
            MixInv tb.tab N l qs als vals a0 (pin r oo) (listed.setIfInBounds i true) (a.put o.dst v) w' := by
          intro v w' bs' hbs hv hst'
          have hval : ∀ k, k ≠ i → valOf als vals bs' k = valOf als vals bs k := fun k hk => by simp [valOf, hbs k hk]
          refine ⟨by simp [inv.lsize], fun k hk => ?_, fun k hk j hj => ?_, by rw [put_defers_eq]; exact inv.dfr, ?_, bs', fun k d hk hkl hkd => ?_, fun d hd => ?_, hst'⟩
          · rcases (hls k).1 hk with rfl | hk
            · exact hpre
            · exact inv.only k hk
          · rw [hls]; right
            rcases (hls k).1 hk with rfl | hk
            · exact hia j hj
            · exact inv.closed k hk j hj
          · cases o.dst <;> simp [Act.put, inv.size]
          · by_cases hki : k = i
            · subst hki
              rw [hdo] at hkd
              rw [hkd, put_self (by rw [inv.size]; exact hdltN k d hk (by rw [hdo]; exact hkd)), hv]
            · have hkl' := ((hls k).1 hkl).resolve_left hki
              rw [put_get (fun e => hki (dst_uniq hdstN k hk i hpre d hkd (by rw [hdo]; exact e) hpreN)), hown k d hk hkl' hkd, hval k hki]
          · have h1 := hd i hpre ((hls i).2 (.inl rfl))
            rw [put_get (by rw [← hdo]; exact h1)]
            exact hoth d fun k hk hkl => hd k hk ((hls k).2 (.inr hkl))
        have hmix : ∀ (bs' : Nat → Nat) (k : Nat), k ≠ i → bs' k = bs k → mixL tb.tab l (listed.setIfInBounds i true) bs' k = mixL tb.tab l listed bs k := fun bs' k hk hb => by
          simp only [mixL, hb, getD_set_ne false (fun e : i = k => hk e.symm)]
        rcases List.mem_append.1 hpre with hq | hal
        · -- it reads
          obtain ⟨sA, tA, hsplit⟩ := List.append_of_mem hq
          have hy0 := hys sA i tA hsplit o ho
          have hy : YS P l.toArray (fun w => Sat w r oo) o (vals i) a := by
            refine YS.congr (hselN i o · · (by simpa using ho)) (fun d hd => ?_) hy0
            have hdl : d ∈ looksOf l i := by simp only [looksOf, ho]; exact hd
            by_cases hex : ∃ k ∈ qs ++ als, dstAt l k = some d
            · obtain ⟨k, hk, hkd⟩ := hex
              have hka := looksOk_spec hlooks i hq d hdl k hk hkd
              have hks : k ∈ sA := by
                rcases ordPre_spec hord sA i (tA ++ als) (by rw [hsplit]; simp) k hka with h1 | h1
                · exact h1
                · cases h1
              have hkq : k ∈ qs := by rw [hsplit]; simp [hks]
              rw [hown k d hk (hia k hka) hkd]
              have hsN : sA.Nodup := by rw [hsplit] at hqsN; exact (List.nodup_append.1 hqsN).1
              rw [actN_own sA a0 k hks hkd (fun j hj hjd => dst_uniq hdstN j (by rw [hsplit]; simp [hj]) k hk d hjd hkd hpreN) hsN (by rw [ok.size]; exact hdltN k d hk hkd)]
              simp [valOf, hqa k hkq]
            · rw [hoth d (fun k hk _ e => hex ⟨k, hk, e⟩), actN_other sA a0 (fun k hk e => hex ⟨k, by rw [hsplit]; simp [hk], e⟩)]
          have hvi : valOf als vals bs i = vals i := by simp [valOf, hqa i hq]
          have hst' : St w (pin r oo :: als.map (mixL tb.tab l (listed.setIfInBounds i true) bs)) := by
            have : als.map (mixL tb.tab l (listed.setIfInBounds i true) bs) = als.map (mixL tb.tab l listed bs) := List.map_congr_left fun k hk => hmix bs k (fun e => hqa i hq (e ▸ hk)) rfl
            rw [this]; exact hst
          refine ⟨?_, fun hip => ⟨o, ho, pure_all (hpure i hip) ho hsat hy, ih _ _ _ hunl (hinv (vals i) w bs (fun _ _ => rfl) hvi.symm hst')⟩⟩
          unfold wpOpIn
          simp only [List.getElem?_toArray, ho]
          rcases hy with ⟨hw, hrun⟩ | ⟨hw, hv⟩
          · rw [if_pos hw]
            refine ⟨fun _ _ => trivial, ?_⟩
            rw [Oper.semAt_eq _ _ _ (notDefer_spec (hndN i o ho)), hrun w hsat]
            exact ih _ _ _ hunl (hinv (vals i) w bs (fun _ _ => rfl) hvi.symm hst')
          · rw [if_neg (by rw [hw]; simp)]
            refine ⟨fun _ _ => trivial, ?_⟩
            rw [← hv]
            exact ih _ _ _ hunl (hinv (vals i) w bs (fun _ _ => rfl) hvi.symm hst')
        · -- a new variable
          refine ⟨?_, fun hip => _root_.absurd hal (hqa i (hpsQ i hip))⟩
          unfold wpOpIn
          simp only [List.getElem?_toArray, ho]
          have hz := List.all_eq_true.1 hals i hal
          obtain ⟨t, ti, hop, hti, hzz, hgu⟩ : ∃ t ti, o.op = .alloc t ∧ tget tb.tab t = some ti ∧ zerosAt tb.tab l i = ti.zero.cells.toList ∧ o.guard = none := by
            unfold zerosAt
            simp only [allocZ, ho] at hz ⊢
            cases ht : allocTy o with
            | none => rw [ht] at hz; cases hz
            | some t =>
              rw [ht] at hz
              cases htt : tget tb.tab t with
              | none => simp only [htt] at hz; cases hz
              | some ti =>
                refine ⟨t, ti, ?_, htt, by simp [htt], ?_⟩
                · unfold allocTy at ht; split at ht
                  · cases ht; rfl
                  · cases ht
                · unfold allocTy at ht; split at ht
                  · rfl
                  · cases ht
          have hw : Region.wanted o (yielded l.toArray a.tmps) = true := by simp [Region.wanted, hgu]
          rw [if_pos hw]
          refine ⟨fun _ _ => trivial, ?_⟩
          have hrun : (execOp a.eval o).run P w = .ok (.value (.pointer (some ⟨w.heap.size, 0, none⟩))) { w with heap := w.heap.push (.cells ti.zero.cells t) } := by
            unfold execOp
            rw [hop]
            simp only [Instr.alloc, Sem.run_bind, zero_ok (tab_ok hti), Result.andThen_ok, newVar, newRow]
            rfl
          rw [Oper.semAt_eq _ _ _ (notDefer_spec (hndN i o ho)), hrun]
          let bs' : Nat → Nat := fun k => if k = i then w.heap.size else bs k
          have hbs' : bs' i = w.heap.size := by simp [bs']
          have hbo : ∀ k, k ≠ i → bs' k = bs k := fun k hk => by simp [bs', hk]
          refine ih _ _ _ hunl (hinv _ _ bs' hbo (by simp [valOf, hal, hbs']) ?_)
          have h3 := hst.alloc ti.zero.cells t
          refine h3.ent (Ent.swap.trans (Ent.cons ?_))
          have hfi : mixL tb.tab l (listed.setIfInBounds i true) bs' i = pts w.heap.size 0 ti.zero.cells.toList := by
            simp only [mixL, (hls i).2 (.inl rfl), if_true, hbs', hzz]
          rw [← hfi]
          exact ent_mapset hal halsN fun k hk => hmix bs' k hk (hbo k hk)
      by_cases hsome : ∃ k ∈ qs ++ als, k ∉ ps ∧ listed.getD k false = false
      · refine ⟨fun h0 => ?_, fun i hi => (hone i hi (hpre hsome i hi)).1⟩
        obtain ⟨i, hi, _⟩ := hfirst; rw [h0] at hi; cases hi
      · obtain ⟨i, hi, hiq, hiu⟩ := hfirst
        have hip : i ∈ ps := Classical.byContradiction fun hn => hsome ⟨i, hiq, hn, hiu⟩
        obtain ⟨o, ho, hya, hnx⟩ := (hone i hi hiq).2 hip
        refine wpAnyIn_firstS (fun k ok hk => hndN k ok (by simpa using hk)) (by simpa using ho) hselN (fun c a' w' hq => ?_) fuel listed a w (fun j oj hj hji hun hno => ?_) hi hya hnx
        · obtain ⟨T', L', hok', hq'⟩ := hq
          exact (hnp c T' L' hq').elim
        · have hjl : l[j]? = some oj := by simpa using hj
          have hjlt : j < l.length := row_lt hjl
          have hun' : listed.getD j false = false := by rw [← getD_tf (by rw [inv.lsize]; exact hjlt)]; exact hun
          have hjm : j ∈ ps ++ rs := by
            rcases List.mem_append.1 (hcovN j hjlt) with h1 | h1
            · exact List.mem_append.2 (.inl (Classical.byContradiction fun hn => hsome ⟨j, h1, hn, hun'⟩))
            · exact List.mem_append.2 (.inr h1)
          have h1 := List.all_eq_true.1 hlate i hip
          simp only [Bool.and_eq_true] at h1
          have h2 := List.all_eq_true.1 h1.2 j hjm
          simp only [Bool.or_eq_true, ho, hjl] at h2
          rcases h2 with ((h2 | h2) | h2) | h2
          · exact _root_.absurd (Nat.eq_of_beq_eq_true h2) hji
          · have h3 := ((ready_iff inv.lsize).1 hi).2.2 j (by simpa using h2)
            rw [hun'] at h3; cases h3
          · obtain ⟨e, he, hb, heq⟩ := (aft_mem hjl).1 (by simpa using h2)
            exact _root_.absurd heq (hno e he hb)
          · exact h2
  refine hway _ _ _ _ ?_ ⟨by simp, fun i hi => ?_, fun i hi => ?_, rfl, ok.size, fun _ => 0, fun k d _ hk => ?_, fun d _ => rfl, ?_⟩
  · refine Nat.le_trans (List.length_filter_le _ _) (by simp)
  · rw [getD_rep] at hi; cases hi
  · rw [getD_rep] at hi; cases hi
  · rw [getD_rep] at hk; cases hk
  · have hmap : als.map (mixL tb.tab l (Array.replicate l.toArray.size false) fun _ => 0) = als.map fun _ => emp := List.map_congr_left fun k hk => by simp only [mixL, getD_rep]; rfl
    rw [hmap]
    have hs0 : Sat { w with drawn := w.drawn + 1 } r oo := ⟨s.ro, s.val, s.obj, s.dis, s.below.drew, s.low⟩
    refine ⟨r, oo, hs0, oo, own0, fun _ _ => .inr rfl, fun i j c e => ?_, ⟨Ro.le_refl _, Own.le_refl _⟩, ?_⟩
    · rcases Own.add_cases e with e | e
      · exact e
      · cases e
    · have : ∀ (is : List Nat), seps (is.map fun _ => emp) r own0 := by
        intro is
        induction is with
        | nil => trivial
        | cons i is ihh => exact ⟨own0, own0, fun _ _ => .inl rfl, none_add, trivial, ihh⟩
      exact this als
end
end Go.Sl
