/- A part of a proof: a walk over the model by a small separation logic. -/
import Derived.Test.YtbaalaaoggplmaaDoorSlDag
import Derived.Laws.Small
/-! More operations that need no memory. -/
set_option linter.unusedVariables false
set_option linter.unusedSectionVars false
namespace Go.Sl

/-- Are they equal? (kinds whose equality asks of no memory) -/
def eqV : TK → Value → Value → Option Bool
  | .bool, .bool a, .bool b => some (a == b)
  | .fn, .nilFunc, .nilFunc => some true
  | .fn, .func _ _ _, .nilFunc => some false
  | .fn, .nilFunc, .func _ _ _ => some false
  | .sl _, .slice none _ _, .slice none _ _ => some true
  | .sl _, .slice (some _) _ _, .slice none _ _ => some false
  | .map _ _, .map none, .map none => some true
  | .map _ _, .map (some _), .map none => some false
  | .ptr, .pointer none, .pointer none => some true
  | .ptr, .pointer (some _), .pointer none => some false
  | _, _, _ => none
def divV (op : BinOp) (k : IntKind) (a b : Int) : Option Value :=
  match op with
  | .quo => if b = 0 then none else some (.int k (k.wrap (a.tdiv b)))
  | .rem => if b = 0 then none else some (.int k (a.tmod b))
  | _ => none
def bin2 (tab : List TI) (op : BinOp) (t : Nat) (u v : Value) : Option Value :=
  match u, v with
  | .int .i64 a, .int .i64 b => divV op .i64 a b
  | .int .u8 a, .int .u8 b => divV op .u8 a b
  | .int .i32 a, .int .i32 b => divV op .i32 a b
  | .int _ _, .int _ _ => none
  | u, v => match tget tab t with
    | some ti => match eqV ti.k u v with
      | some b => match op with
        | .eql => some (.bool b)
        | .neq => some (.bool (!b))
        | _ => none
      | none => none
    | none => none
def pureOp2 (tab : List TI) (T : TT) : Op → Option Value
  | .binOp op t x y _ => match evO T x with
    | some u => match evO T y with
      | some v => bin2 tab op t u v
      | none => none
    | none => none
  | .call ⟨.builtin .max, args, _⟩ => match args.toList with
    | [x, y] => match evO T x with
      | some (.int k a) => match evO T y with
        | some (.int _ b) => some (.int k (if a < b then b else a))
        | _ => none
      | _ => none
    | _ => none
  | .call ⟨.builtin .min, args, _⟩ => match args.toList with
    | [x, y] => match evO T x with
      | some (.int k a) => match evO T y with
        | some (.int _ b) => some (.int k (if b < a then b else a))
        | _ => none
      | _ => none
    | _ => none
  | _ => none

section
variable {P : Program} [tb : Tab P]

theorem eqV_in {t : Nat} {ti : TI} (ht : ti.ok P t) {u v : Value} {b : Bool} (h : eqV ti.k u v = some b) (d : Nat) (w : World) : (Op.equalIn (d + 1) t u v).run P w = .ok b w := by
  obtain ⟨k, n1, n2, z⟩ := ti
  have hk := ht.k
  simp only at h
  unfold eqV at h
  split at h <;> first | (cases h; done) | skip
  all_goals (cases h; simp only [TK.ok] at hk)
  case h_1 => exact run_equalIn_bool w d t _ _ hk
  case h_2 => obtain ⟨a, b, c, hk⟩ := hk; simp [Op.equalIn, Sem.run_bind, run_und hk]
  case h_3 => obtain ⟨a, b, c, hk⟩ := hk; simp [Op.equalIn, Sem.run_bind, run_und hk]
  case h_4 => obtain ⟨a, b, c, hk⟩ := hk; simp [Op.equalIn, Sem.run_bind, run_und hk]
  case h_5 => simp [Op.equalIn, Sem.run_bind, run_und hk]
  case h_6 => simp [Op.equalIn, Sem.run_bind, run_und hk]
  case h_7 => simp [Op.equalIn, Sem.run_bind, run_und hk]
  case h_8 => simp [Op.equalIn, Sem.run_bind, run_und hk]
  case h_9 => obtain ⟨a, hk⟩ := hk; simp [Op.equalIn, Sem.run_bind, run_und hk]
  case h_10 => obtain ⟨a, hk⟩ := hk; simp [Op.equalIn, Sem.run_bind, run_und hk]
theorem eqV_ok {t : Nat} {ti : TI} (ht : ti.ok P t) {u v : Value} {b : Bool} (h : eqV ti.k u v = some b) (w : World) : (Op.equal t u v).run P w = .ok b w := eqV_in ht h 9999 w

theorem divV_ok {op : BinOp} {k : IntKind} {a b : Int} {v : Value} (h : divV op k a b = some v) (t : Nat) (w : World) : (binOp op t (.int k a) (.int k b)).run P w = .ok v w := by
  unfold divV at h
  split at h
  · split at h
    · cases h
    · rename_i hb; cases h; simp [binOp, Op.intDiv, hb]
  · split at h
    · cases h
    · rename_i hb; cases h; simp [binOp, Op.intDiv, hb]
  · cases h

theorem bin2_ok {op : BinOp} {t : Nat} {u v r : Value} (h : bin2 tb.tab op t u v = some r) (x y : Operand) (w : World) : (do eqGuard op t x y u v; binOp op t u v).run P w = .ok r w := by
  have key : (eqGuard op t x y u v).run P w = .ok () w ∧ (binOp op t u v).run P w = .ok r w := by
    unfold bin2 at h
    split at h
    · exact ⟨by unfold eqGuard; split <;> simp, divV_ok h t w⟩
    · exact ⟨by unfold eqGuard; split <;> simp, divV_ok h t w⟩
    · exact ⟨by unfold eqGuard; split <;> simp, divV_ok h t w⟩
    · cases h
    · rename_i u v h1 h2 h3 h4
      split at h
      · rename_i ti hti
        split at h
        · rename_i b hb
          have he := eqV_ok (tab_ok hti) hb w
          split at h
          · cases h
            unfold eqV at hb
            split at hb <;> first | (cases hb; done) | skip
            all_goals (cases hb; refine ⟨by unfold eqGuard; split <;> simp, ?_⟩; simp only [binOp, Sem.run_bind, he, Result.andThen_ok, Sem.run_pure])
          · cases h
            unfold eqV at hb
            split at hb <;> first | (cases hb; done) | skip
            all_goals (cases hb; refine ⟨by unfold eqGuard; split <;> simp, ?_⟩; simp only [binOp, Sem.run_bind, he, Result.andThen_ok, Sem.run_pure])
          · cases h
        · cases h
      · cases h
  rw [Sem.run_bind, key.1, Result.andThen_ok, key.2]

theorem get2 {α : Type} {a : Array α} {x y : α} (h : a.toList = [x, y]) : a = #[x, y] := by cases a; simp_all

theorem reads_pure2 {T : TT} {L : List HP} {o : Oper} {v : Value} (h : pureOp2 tb.tab T o.op = some v) : Reads P T L o (fun u L' => u = v ∧ L' = L) := by
  intro ρ hρ r oo F hst
  suffices hs : ∀ w, (execOp ρ o).run P w = .ok (.value v) w from ⟨v, L, ⟨rfl, rfl⟩, hst, fun w _ => hs w⟩
  intro w
  obtain ⟨dst, op, ty, pos, aft, g⟩ := o
  simp only at h
  unfold pureOp2 at h
  split at h
  case h_1 op t x y cx =>
    split at h
    · rename_i u hu
      split at h
      · rename_i u' hu'
        have := bin2_ok h x y w
        simp only [execOp, hρ _ _ hu, hρ _ _ hu']
        rw [Sem.run_bind] at this
        simp only [Sem.run_bind]
        revert this
        generalize (eqGuard op t x y u u').run P w = res
        intro this
        cases res with
        | ok a w1 =>
          simp only [Result.andThen_ok] at this ⊢
          rw [this]; rfl
        | halt e w1 => simp at this
      · cases h
    · cases h
  case h_2 args tys =>
    split at h
    · rename_i x y hargs
      have ha := get2 hargs
      subst ha
      split at h
      · rename_i k a hx
        split at h
        · rename_i k' b hy
          cases h
          simp [execOp, resolve, invoke, builtin, hρ _ _ hx, hρ _ _ hy, run_max_int2]
        · cases h
      · cases h
    · cases h
  case h_3 args tys =>
    split at h
    · rename_i x y hargs
      have ha := get2 hargs
      subst ha
      split at h
      · rename_i k a hx
        split at h
        · rename_i k' b hy
          cases h
          simp [execOp, resolve, invoke, builtin, hρ _ _ hx, hρ _ _ hy, run_min_int2]
        · cases h
      · cases h
    · cases h
  case h_4 => cases h

variable {rd : Option Nat} {N : Nat} {T : TT} {L L' L2 : List HP} {Q : Post} {ks : List K}
variable {all : Array Oper} {rest : List Oper} {o : Oper}
theorem SO.pure2 {v : Value} (hg : o.guard = none) (h : pureOp2 tb.tab T o.op = some v) (hd : dstOk N o.dst = true)
    (k : SO P rd N all rest (putD o.dst v T) L ks Q) : SO P rd N all (o :: rest) T L ks Q := by
  refine SO.reads (reads_pure2 h) hg ?_ hd (by rintro _ _ ⟨rfl, rfl⟩; exact k)
  cases hop : o.op <;> first | rfl | (rw [hop] at h; simp [pureOp2] at h)
theorem SQ.pure2 {v : Value} {RR : TT → List HP → Prop} (hg : o.guard = none) (h : pureOp2 tb.tab T o.op = some v) (hd : dstOk N o.dst = true)
    (k : SQ P N all rest (putD o.dst v T) L RR) : SQ P N all (o :: rest) T L RR := SQ.reads (reads_pure2 h) hg hd (by rintro _ _ ⟨rfl, rfl⟩; exact k)

/-- A whole element. -/
theorem whole {α : Type} {ρ : Rep α} {ti : TI} {u : α} {h : ρ.V} (h1 : ti.k.agg = ρ.agg) (h2 : Nat.beq ti.size ρ.sz = true) : packV ti (cut (ρ.cells u h) 0 ti.size) = ρ.val u h ∧ packOk ti (cut (ρ.cells u h) 0 ti.size) := by
  have h2 := Nat.eq_of_beq_eq_true h2
  have hc : cut (ρ.cells u h) 0 ti.size = ρ.cells u h := by
    unfold cut; rw [h2, ← ρ.len u h]; simp
  rw [hc]
  refine ⟨?_, by rw [ρ.len, h2], fun he => by rw [h2]; exact ρ.sc (by rw [← h1]; exact he)⟩
  unfold packV Rep.val; rw [h1]
  generalize ρ.cells u h = cs
  cases ρ.agg <;> cases cs <;> rfl
theorem SO.eloadW {ty : TypeId} {pos : String} {aft : Array Edge} {d : Option Tmp} {α : Type} {ρ : Rep α} {x : Operand} {t : Nat} {ti : TI} {A : Option Addr} {n i sz : Nat} {l : List α} {u : α} (hx : evO T x = some (.pointer (some (eadr A i sz 0)))) (hh : Has (slAt ρ A n l) L) (hu : l[i]? = some u)
    (ht : tget tb.tab t = some ti) (hsz : Nat.beq ρ.sz sz = true) (hk : ti.k.agg = ρ.agg) (h2 : Nat.beq ti.size ρ.sz = true) (hd : dstOk N d = true)
    (kk : ∀ h, SO P rd N all rest (putD d (ρ.val u h) T) (ρ.atoms u h ++ L) ks Q) : SO P rd N all (⟨d, .load t x, ty, pos, aft, none⟩ :: rest) T L ks Q :=
  SO.eload hx hh hu ht hsz (fun h => (whole hk h2).2) hd (fun h => by rw [(whole hk h2).1]; exact kk h)
theorem SQ.eloadW {RR : TT → List HP → Prop} {ty : TypeId} {pos : String} {aft : Array Edge} {d : Option Tmp} {α : Type} {ρ : Rep α} {x : Operand} {t : Nat} {ti : TI} {A : Option Addr} {n i sz : Nat} {l : List α} {u : α} (hx : evO T x = some (.pointer (some (eadr A i sz 0)))) (hh : Has (slAt ρ A n l) L) (hu : l[i]? = some u)
    (ht : tget tb.tab t = some ti) (hsz : Nat.beq ρ.sz sz = true) (hk : ti.k.agg = ρ.agg) (h2 : Nat.beq ti.size ρ.sz = true) (hd : dstOk N d = true)
    (kk : ∀ h, SQ P N all rest (putD d (ρ.val u h) T) (ρ.atoms u h ++ L) RR) : SQ P N all (⟨d, .load t x, ty, pos, aft, none⟩ :: rest) T L RR :=
  SQ.eload hx hh hu ht hsz (fun h => (whole hk h2).2) hd (fun h => by rw [(whole hk h2).1]; exact kk h)

/-- What is known of the memory may be looked at otherwise. -/
theorem SK.shift {c : Code} (hs : ∀ F w, St w (F :: L) → St w (F :: L')) (h : SK P rd N (.code c :: ks) T L' Q) : SK P rd N (.code c :: ks) T L Q := by
  rw [SK_code] at h ⊢
  exact fun F a w ok => h F a w ⟨ok.size, ok.get, let ⟨D, h1, h2⟩ := ok.mem; ⟨D, h1, hs _ _ h2⟩⟩
theorem SK.publish {c : Code} {b off : Nat} {vs : List Value} (hh : Take (pts b off vs) L L') (h : SK P rd N (.code c :: ks) T (rod b off vs :: L') Q) : SK P rd N (.code c :: ks) T L Q :=
  SK.shift (fun F w hst => ((hst.ent ((Ent.cons hh.ent).trans Ent.swap)).publish).ent Ent.swap) h

theorem lay_all : ∀ (us cs : List Value), us.length = cs.length → lay us 0 cs = cs
  | [], [], _ => rfl
  | [], c :: cs, h => by simp at h
  | u :: us, [], h => by simp at h
  | u :: us, c :: cs, h => by simp only [lay]; rw [lay_all us cs (by simpa using h)]
/-- A store over the whole. -/
theorem SO.storeW {ty : TypeId} {pos : String} {aft : Array Edge} {x y : Operand} {t b off : Nat} {vs : List Value} {v : Value} {ti : TI} (hx : evO T x = some (.pointer (some ⟨b, off, none⟩))) (hy : evO T y = some v) (htk : Take (pts b off vs) L L')
    (ht : tget tb.tab t = some ti) (h1 : v.cells.toList.all one = true) (hs : Nat.beq v.cells.toList.length ti.size = true) (hl : Nat.beq vs.length ti.size = true)
    (k : SO P rd N all rest T (pts b off v.cells.toList :: L') ks Q) : SO P rd N all (⟨none, .store t x y, ty, pos, aft, none⟩ :: rest) T L ks Q := by
  have e1 := Nat.eq_of_beq_eq_true hs
  have e2 := Nat.eq_of_beq_eq_true hl
  refine SO.store hx hy htk ht (by simp) h1 hs (by rw [Nat.sub_self, Nat.zero_add, e2]; simp) ?_ k
  rw [Nat.sub_self, lay_all _ _ (by rw [e1, e2])]
def isAggV : Value → Bool
  | .agg _ => true
  | _ => false
theorem wholeV {ti : TI} {v : Value} (h1 : ti.k.agg = true) (h2 : isAggV v = true) (h3 : Nat.beq v.cells.toList.length ti.size = true) (off : Nat) : packV ti (cut v.cells.toList (off - off) ti.size) = v ∧ packOk ti (cut v.cells.toList (off - off) ti.size) := by
  have h3 := Nat.eq_of_beq_eq_true h3
  have hc : cut v.cells.toList (off - off) ti.size = v.cells.toList := by unfold cut; rw [Nat.sub_self, ← h3, List.drop_zero, List.take_length]
  rw [hc]
  refine ⟨?_, h3, fun h => by rw [h1] at h; cases h⟩
  unfold packV; rw [h1]
  cases v <;> first | (cases h2; done) | (simp [Value.cells])
theorem SO.loadW {ty : TypeId} {pos : String} {aft : Array Edge} {d : Option Tmp} {x : Operand} {t b off : Nat} {v : Value} {ti : TI} (hx : evO T x = some (.pointer (some ⟨b, off, none⟩))) (htk : Take (pts b off v.cells.toList) L L')
    (ht : tget tb.tab t = some ti) (h1 : ti.k.agg = true) (h2 : isAggV v = true) (h3 : Nat.beq v.cells.toList.length ti.size = true) (hd : dstOk N d = true)
    (k : SO P rd N all rest (putD d v T) L ks Q) : SO P rd N all (⟨d, .load t x, ty, pos, aft, none⟩ :: rest) T L ks Q :=
  SO.load hx htk ht (by simp) (wholeV h1 h2 h3 off).2 hd (by rw [(wholeV h1 h2 h3 off).1]; exact k)
theorem SQ.loadW {RR : TT → List HP → Prop} {ty : TypeId} {pos : String} {aft : Array Edge} {d : Option Tmp} {x : Operand} {t b off : Nat} {v : Value} {ti : TI} (hx : evO T x = some (.pointer (some ⟨b, off, none⟩))) (htk : Take (pts b off v.cells.toList) L L')
    (ht : tget tb.tab t = some ti) (h1 : ti.k.agg = true) (h2 : isAggV v = true) (h3 : Nat.beq v.cells.toList.length ti.size = true) (hd : dstOk N d = true)
    (k : SQ P N all rest (putD d v T) L RR) : SQ P N all (⟨d, .load t x, ty, pos, aft, none⟩ :: rest) T L RR :=
  SQ.load hx htk ht (by simp) (wholeV h1 h2 h3 off).2 hd (by rw [(wholeV h1 h2 h3 off).1]; exact k)
/-- A box; its cells as the value has them. -/
theorem SO.boxW {ty : TypeId} {pos : String} {aft : Array Edge} {d : Option Tmp} {x : Operand} {t : Nat} {v : Value} (hx : evO T x = some v) (hd : dstOk N d = true)
    (k : ∀ b, SO P rd N all rest (putD d (.pointer (some ⟨b, 0, none⟩)) T) (pts b 0 v.cells.toList :: L) ks Q) : SO P rd N all (⟨d, .box t x, ty, pos, aft, none⟩ :: rest) T L ks Q :=
  SO.box hx rfl hd k

theorem SK.publishAs {c : Code} {b off : Nat} {vs vs' : List Value} (hh : Take (pts b off vs) L L') (e : vs = vs') (h : SK P rd N (.code c :: ks) T (rod b off vs' :: L') Q) : SK P rd N (.code c :: ks) T L Q := by
  subst e; exact SK.publish hh h
theorem no_has {L : List HP} (h : Has (pr False) L) (r : Ro) (o : Own) (hs : seps L r o) : False := by
  obtain ⟨x, y, _, _, hA, _⟩ := h.ent (pers_pr False) r o hs
  exact hA
theorem SK.absurd {c : Code} (h : Has (pr False) L) : SK P rd N (.code c :: ks) T L Q := SK.know (no_has h) fun h => h.elim

theorem ent_triv {A : HP} [t : Triv A] : Ent L (A :: L) := fun r o h => ⟨fun _ _ => none, o, fun _ _ => .inl rfl, none_add, Triv.h _ _, h⟩
/-- One's own slice may be read by all from now on. -/
theorem SK.readable {c : Code} {α : Type} {ρ : Rep α} {A : Option Addr} {n m : Nat} {l : List α} (hh : Take (sqAt false ρ A n m l) L L') (h : SK P rd N (.code c :: ks) T (slAt ρ A n l :: sqAt false ρ A n m l :: L') Q) : SK P rd N (.code c :: ks) T L Q :=
  SK.shift (fun F w hst => hst.ent (Ent.cons (hh.ent.trans sl_of_sq))) h
end
end Go.Sl
