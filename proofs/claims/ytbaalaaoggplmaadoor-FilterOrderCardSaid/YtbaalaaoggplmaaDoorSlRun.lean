/- A part of a proof: a walk over the model by a small separation logic. -/
import Derived.Test.YtbaalaaoggplmaaDoorSlOps
/-! Operations on cells whose place is known. -/
set_option linter.unusedVariables false
set_option linter.unusedSectionVars false
namespace Go.Sl
section
variable {P : Program} [tb : Tab P] {rd : Option Nat} {N : Nat} {T : TT} {L L' L2 : List HP} {Q : Post} {ks : List K}
variable {all : Array Oper} {rest : List Oper} {o : Oper} {ty : TypeId} {pos : String} {aft : Array Edge} {d : Option Tmp}

theorem SO.pure {v : Value} (hg : o.guard = none) (h : pureOp tb.tab T o.op = some v) (hd : dstOk N o.dst = true)
    (k : SO P rd N all rest (putD o.dst v T) L ks Q) : SO P rd N all (o :: rest) T L ks Q := by
  refine SO.reads (reads_pure h) hg ?_ hd (by rintro _ _ ⟨rfl, rfl⟩; exact k)
  cases hop : o.op <;> first | rfl | (rw [hop] at h; simp [pureOp] at h)
theorem SQ.pure {v : Value} {RR : TT → List HP → Prop} (hg : o.guard = none) (h : pureOp tb.tab T o.op = some v) (hd : dstOk N o.dst = true)
    (k : SQ P N all rest (putD o.dst v T) L RR) : SQ P N all (o :: rest) T L RR := SQ.reads (reads_pure h) hg hd (by rintro _ _ ⟨rfl, rfl⟩; exact k)

/-- 'ws' is what stands in 'vs' from 'i' on, 'n' long. -/
def cut (vs : List Value) (i n : Nat) : List Value := (vs.drop i).take n
theorem cut_get {vs : List Value} {i n j : Nat} {v : Value} (h : (cut vs i n)[j]? = some v) : vs[i + j]? = some v ∧ j < n := by
  unfold cut at h
  rw [List.getElem?_take] at h
  split at h
  · rename_i hj; rw [List.getElem?_drop] at h; exact ⟨h, hj⟩
  · cases h

theorem loadCells_ok {w : World} {b off : Nat} : ∀ (cs : List Value) (i : Nat) (acc : Array Value), (∀ j v, cs[j]? = some v → w.cell? ⟨b, off + (i + j), none⟩ = some v) →
    (loadCellsFrom ⟨b, off, none⟩ i cs.length acc).run P w = .ok (acc ++ cs.toArray) w
  | [], i, acc, _ => by simp [loadCellsFrom]
  | c :: cs, i, acc, h => by
    have h0 := h 0 c rfl
    have hadd : (Addr.add ⟨b, off, none⟩ i) = ⟨b, off + i, none⟩ := by simp only [Addr.add]; split <;> simp_all
    simp only [List.length_cons, loadCellsFrom, Sem.run_bind, hadd]
    rw [Nat.add_zero] at h0
    simp only [run_load, h0, Result.andThen_ok]
    rw [loadCells_ok cs (i + 1) (acc.push c) (fun j v hj => by have := h (j + 1) v (by simpa using hj); rwa [show i + (j + 1) = i + 1 + j by omega] at this)]
    simp

/-- The value of a variable of type 't' whose cells are 'cs'. -/
def packV (ti : TI) (cs : List Value) : Value := match ti.k.agg with
  | true => .agg cs.toArray
  | false => match cs with
    | v :: _ => v
    | [] => undef
def packOk (ti : TI) (cs : List Value) : Prop := cs.length = ti.size ∧ (ti.k.agg = false → ti.size = 1)

theorem loadVar_ok {t : Nat} {ti : TI} (ht : tget tb.tab t = some ti) {w : World} {b off : Nat} {cs : List Value} (hc : packOk ti cs)
    (h : ∀ j v, cs[j]? = some v → w.cell? ⟨b, off + j, none⟩ = some v) : (loadVar t ⟨b, off, none⟩).run P w = .ok (packV ti cs) w := by
  simp only [loadVar, Sem.run_bind, isAgg_ok (tab_ok ht), Result.andThen_ok]
  obtain ⟨hl, h1⟩ := hc
  cases hk : ti.k.agg with
  | true =>
    simp only [if_true, Sem.run_bind, sizeOf_ok (tab_ok ht), Result.andThen_ok, loadCells, packV, hk, ← hl]
    rw [loadCells_ok cs 0 #[] (fun j v hj => by have := h j v hj; simpa using this)]
    simp
  | false =>
    have h1 := h1 hk
    rw [h1] at hl
    match cs, hl with
    | [v], _ =>
      have := h 0 v rfl
      rw [Nat.add_zero] at this
      simp [run_load, this, packV, hk]

/-- A load of own cells. -/
theorem rd_load {x : Operand} {t b off o' : Nat} {vs : List Value} {ti : TI} (hx : evO T x = some (.pointer (some ⟨b, off, none⟩))) (htk : Take (pts b o' vs) L L')
    (ht : tget tb.tab t = some ti) (ho : Nat.ble o' off = true) (hp : packOk ti (cut vs (off - o') ti.size)) : Reads P T L ⟨d, .load t x, ty, pos, aft, none⟩ (fun v L' => v = packV ti (cut vs (off - o') ti.size) ∧ L' = L) := by
  intro ρ hρ rr oo F hs
  refine ⟨_, L, ⟨rfl, rfl⟩, hs, fun w sat => ?_⟩
  have hst : St w (F :: L) := ⟨rr, oo, sat, hs⟩
  have hst2 : St w (pts b o' vs :: F :: L') := hst.ent ((Ent.cons htk.ent).trans Ent.swap)
  have ho := Nat.le_of_ble_eq_true ho
  simp only [execOp, hρ _ _ hx, Instr.loadAt, Instr.sureAddr, Sem.run_bind, Sem.run_pure, Result.andThen_ok]
  rw [loadVar_ok ht hp (fun j v hj => by
    have := (hst2.cell (cut_get hj).1).1
    rwa [show o' + (off - o' + j) = off + j by omega] at this)]
  rfl
theorem SO.load {x : Operand} {t b off o' : Nat} {vs : List Value} {ti : TI} (hx : evO T x = some (.pointer (some ⟨b, off, none⟩))) (htk : Take (pts b o' vs) L L')
    (ht : tget tb.tab t = some ti) (ho : Nat.ble o' off = true) (hp : packOk ti (cut vs (off - o') ti.size)) (hd : dstOk N d = true)
    (k : SO P rd N all rest (putD d (packV ti (cut vs (off - o') ti.size)) T) L ks Q) : SO P rd N all (⟨d, .load t x, ty, pos, aft, none⟩ :: rest) T L ks Q :=
  SO.reads (rd_load hx htk ht ho hp) rfl rfl hd (by rintro _ _ ⟨rfl, rfl⟩; exact k)
theorem SQ.load {RR : TT → List HP → Prop} {x : Operand} {t b off o' : Nat} {vs : List Value} {ti : TI} (hx : evO T x = some (.pointer (some ⟨b, off, none⟩))) (htk : Take (pts b o' vs) L L')
    (ht : tget tb.tab t = some ti) (ho : Nat.ble o' off = true) (hp : packOk ti (cut vs (off - o') ti.size)) (hd : dstOk N d = true)
    (k : SQ P N all rest (putD d (packV ti (cut vs (off - o') ti.size)) T) L RR) : SQ P N all (⟨d, .load t x, ty, pos, aft, none⟩ :: rest) T L RR :=
  SQ.reads (rd_load hx htk ht ho hp) rfl hd (by rintro _ _ ⟨rfl, rfl⟩; exact k)

/-- A load of cells that are read alone. -/
theorem rd_loadR {x : Operand} {t b off o' : Nat} {vs : List Value} {ti : TI} (hx : evO T x = some (.pointer (some ⟨b, off, none⟩))) (htk : Take (rod b o' vs) L L')
    (ht : tget tb.tab t = some ti) (ho : Nat.ble o' off = true) (hp : packOk ti (cut vs (off - o') ti.size)) : Reads P T L ⟨d, .load t x, ty, pos, aft, none⟩ (fun v L' => v = packV ti (cut vs (off - o') ti.size) ∧ L' = L) := by
  intro ρ hρ rr oo F hs
  refine ⟨_, L, ⟨rfl, rfl⟩, hs, fun w sat => ?_⟩
  have hst : St w (F :: L) := ⟨rr, oo, sat, hs⟩
  have hst2 : St w (rod b o' vs :: F :: L') := hst.ent ((Ent.cons htk.ent).trans Ent.swap)
  have ho := Nat.le_of_ble_eq_true ho
  simp only [execOp, hρ _ _ hx, Instr.loadAt, Instr.sureAddr, Sem.run_bind, Sem.run_pure, Result.andThen_ok]
  rw [loadVar_ok ht hp (fun j v hj => by
    have := hst2.rcell (cut_get hj).1
    rwa [show o' + (off - o' + j) = off + j by omega] at this)]
  rfl
theorem SO.loadR {x : Operand} {t b off o' : Nat} {vs : List Value} {ti : TI} (hx : evO T x = some (.pointer (some ⟨b, off, none⟩))) (htk : Take (rod b o' vs) L L')
    (ht : tget tb.tab t = some ti) (ho : Nat.ble o' off = true) (hp : packOk ti (cut vs (off - o') ti.size)) (hd : dstOk N d = true)
    (k : SO P rd N all rest (putD d (packV ti (cut vs (off - o') ti.size)) T) L ks Q) : SO P rd N all (⟨d, .load t x, ty, pos, aft, none⟩ :: rest) T L ks Q :=
  SO.reads (rd_loadR hx htk ht ho hp) rfl rfl hd (by rintro _ _ ⟨rfl, rfl⟩; exact k)
theorem SQ.loadR {RR : TT → List HP → Prop} {x : Operand} {t b off o' : Nat} {vs : List Value} {ti : TI} (hx : evO T x = some (.pointer (some ⟨b, off, none⟩))) (htk : Take (rod b o' vs) L L')
    (ht : tget tb.tab t = some ti) (ho : Nat.ble o' off = true) (hp : packOk ti (cut vs (off - o') ti.size)) (hd : dstOk N d = true)
    (k : SQ P N all rest (putD d (packV ti (cut vs (off - o') ti.size)) T) L RR) : SQ P N all (⟨d, .load t x, ty, pos, aft, none⟩ :: rest) T L RR :=
  SQ.reads (rd_loadR hx htk ht ho hp) rfl hd (by rintro _ _ ⟨rfl, rfl⟩; exact k)

/-- Is it the value of one cell? -/
def one : Value → Bool
  | .agg _ => false
  | .tuple _ => false
  | _ => true

/-- 'us' with 'cs' laid over it from 'i' on. -/
def lay : List Value → Nat → List Value → List Value
  | us, _, [] => us
  | [], _, _ => []
  | _ :: us, 0, c :: cs => c :: lay us 0 cs
  | u :: us, i + 1, c :: cs => u :: lay us i (c :: cs)

theorem lay_length : ∀ (us : List Value) (i : Nat) (cs : List Value), (lay us i cs).length = us.length
  | us, _, [] => by simp [lay]
  | [], _, c :: cs => by simp [lay]
  | u :: us, 0, c :: cs => by simp [lay, lay_length us 0 cs]
  | u :: us, i + 1, c :: cs => by simp [lay, lay_length us i (c :: cs)]
theorem lay_cons : ∀ (us : List Value) (i : Nat) (c : Value) (cs : List Value), lay us i (c :: cs) = lay (us.set i c) (i + 1) cs
  | [], i, c, cs => by cases cs <;> simp [lay]
  | u :: us, 0, c, [] => by cases us <;> simp [lay]
  | u :: us, 0, c, c' :: cs => by simp [lay]
  | u :: us, i + 1, c, [] => by simp only [lay, List.set_cons_succ]; have := lay_cons us i c []; simp only [lay] at this; rw [this]
  | u :: us, i + 1, c, c' :: cs => by simp only [lay, List.set_cons_succ]; rw [lay_cons us i c (c' :: cs)]

theorem run_store1 {w : World} {a : Addr} {u v : Value} (hv : one v = true) (hc : w.cell? a = some u) (hf : w.frozen? a = false) : (store a v).run P w = .ok () (w.setCell a v) := by
  cases v <;> first | (simp [one] at hv; done) | simp [store, Sem.run, hc, hf]

theorem storeCells_ok {b o' i : Nat} {A : HP} {L : List HP} : ∀ (cs vs : List Value) (w : World) (j n : Nat), St w (pts b o' vs :: L) → (∀ c ∈ cs, one c = true) → n + cs.length ≤ vs.length →
    (∃ w', (storeCells ⟨b, o' + n - j, none⟩ cs j).run P w = .ok () w' ∧ St w' (pts b o' (lay vs n cs) :: L)) ∨ j > o' + n
  | [], vs, w, j, n, hst, _, _ => .inl ⟨w, by simp [storeCells], by simpa [lay] using hst⟩
  | c :: cs, vs, w, j, n, hst, h1, hl => by
    by_cases hj : j > o' + n
    · exact .inr hj
    left
    simp only [List.length_cons] at hl
    have hn : n < vs.length := by omega
    obtain ⟨hc, hf⟩ := hst.cell (i := n) (v := vs[n]) (by simp [hn])
    have hadd : (Addr.add ⟨b, o' + n - j, none⟩ j) = ⟨b, o' + n, none⟩ := by
      simp only [Addr.add]
      split
      · rename_i h0; subst h0; simp
      · congr 1; omega
    have hst2 := hst.store hn c
    rcases storeCells_ok (A := A) (i := i) cs (vs.set n c) _ (j + 1) (n + 1) hst2 (fun c h => h1 c (by simp [h])) (by simp; omega) with ⟨w', hr, hs⟩ | h
    · refine ⟨w', ?_, by rw [lay_cons]; exact hs⟩
      simp only [storeCells, Sem.run_bind, hadd, run_store1 (h1 c (by simp)) hc hf, Result.andThen_ok]
      rw [show o' + (n + 1) - (j + 1) = o' + n - j by omega] at hr
      exact hr
    · exact absurd h (by omega)

theorem storeVar_ok {t : Nat} {ti : TI} (ht : tget tb.tab t = some ti) {w : World} {b o' n : Nat} {v : Value} {vs : List Value} {L : List HP} (hst : St w (pts b o' vs :: L))
    (h1 : ∀ c ∈ v.cells.toList, one c = true) (hs : v.cells.toList.length = ti.size) (hl : n + ti.size ≤ vs.length) :
    ∃ w', (storeVar t ⟨b, o' + n, none⟩ v).run P w = .ok () w' ∧ St w' (pts b o' (lay vs n v.cells.toList) :: L) := by
  have hs' : v.cells.size = ti.size := by simpa using hs
  rcases storeCells_ok (P := P) (A := pr True) (i := 0) v.cells.toList vs w 0 n hst h1 (by omega) with ⟨w', hr, hst'⟩ | h
  · refine ⟨w', ?_, hst'⟩
    simp only [storeVar, Sem.run_bind, sizeOf_ok (tab_ok ht), Result.andThen_ok, hs', ne_eq, not_true_eq_false, if_false]
    simpa using hr
  · exact absurd h (by omega)

/-- A store into own cells. 'L2': what is known behind it. -/
theorem SO.store {x y : Operand} {t b off o' : Nat} {vs vs' : List Value} {v : Value} {ti : TI} (hx : evO T x = some (.pointer (some ⟨b, off, none⟩))) (hy : evO T y = some v) (htk : Take (pts b o' vs) L L')
    (ht : tget tb.tab t = some ti) (ho : Nat.ble o' off = true) (h1 : v.cells.toList.all one = true) (hs : Nat.beq v.cells.toList.length ti.size = true) (hl : Nat.ble (off - o' + ti.size) vs.length = true)
    (hv : lay vs (off - o') v.cells.toList = vs')
    (k : SO P rd N all rest T (pts b o' vs' :: L') ks Q) : SO P rd N all (⟨none, .store t x y, ty, pos, aft, none⟩ :: rest) T L ks Q := by
  refine SO.run (R := fun v L2 => L2 = pts b o' vs' :: L') rfl rfl rfl ?_ (by rintro v L2 rfl; exact k)
  intro ρ hρ F w hst
  have hst2 : St w (pts b o' vs :: F :: L') := hst.ent ((Ent.cons htk.ent).trans Ent.swap)
  have ho := Nat.le_of_ble_eq_true ho
  obtain ⟨w', hr, hst'⟩ := storeVar_ok ht (n := off - o') (v := v) hst2 (fun c hc => List.all_eq_true.1 h1 c hc) (Nat.eq_of_beq_eq_true hs) (Nat.le_of_ble_eq_true hl)
  refine ⟨undef, w', _, .inr ⟨?_, rfl⟩, rfl, ?_⟩
  · simp only [execOp, hρ _ _ hx, hρ _ _ hy, Instr.storeAt, Instr.sureAddr, Sem.run_bind, Sem.run_pure, Result.andThen_ok]
    rw [show o' + (off - o') = off by omega] at hr
    rw [hr]; rfl
  · rw [hv] at hst'; exact hst'.ent Ent.swap

/-- A new variable with its zero value. -/
theorem SO.alloc {t : Nat} {ti : TI} {cs : List Value} (ht : tget tb.tab t = some ti) (hc : ti.zero.cells.toList = cs) (hd : dstOk N d = true)
    (k : ∀ b, SO P rd N all rest (putD d (.pointer (some ⟨b, 0, none⟩)) T) (pts b 0 cs :: L) ks Q) : SO P rd N all (⟨d, .alloc t, ty, pos, aft, none⟩ :: rest) T L ks Q := by
  refine SO.run (R := fun v L2 => ∃ b, v = .pointer (some ⟨b, 0, none⟩) ∧ L2 = pts b 0 cs :: L) rfl rfl hd ?_ (by rintro _ _ ⟨b, rfl, rfl⟩; exact k b)
  intro ρ hρ F w hst
  refine ⟨_, _, _, .inl ?_, ⟨w.heap.size, rfl, rfl⟩, ((hst.alloc ti.zero.cells t).ent Ent.swap).ent ?_⟩
  · simp only [execOp, Instr.alloc, Sem.run_bind, zero_ok (tab_ok ht), Result.andThen_ok, newVar, newRow]
    rfl
  · rw [hc]; exact Ent.refl _

theorem SO.box {x : Operand} {t : Nat} {v : Value} {cs : List Value} (hx : evO T x = some v) (hc : v.cells.toList = cs) (hd : dstOk N d = true)
    (k : ∀ b, SO P rd N all rest (putD d (.pointer (some ⟨b, 0, none⟩)) T) (pts b 0 cs :: L) ks Q) : SO P rd N all (⟨d, .box t x, ty, pos, aft, none⟩ :: rest) T L ks Q := by
  refine SO.run (R := fun v L2 => ∃ b, v = .pointer (some ⟨b, 0, none⟩) ∧ L2 = pts b 0 cs :: L) rfl rfl hd ?_ (by rintro _ _ ⟨b, rfl, rfl⟩; exact k b)
  intro ρ hρ F w hst
  refine ⟨_, _, _, .inl ?_, ⟨w.heap.size, rfl, rfl⟩, ((hst.alloc v.cells t).ent Ent.swap).ent ?_⟩
  · simp only [execOp, hρ _ _ hx, Instr.box, Sem.run_bind, newVar, newRow]
    rfl
  · rw [hc]; exact Ent.refl _

/-! ### Structs by value -/
theorem rd_field {x : Operand} {t i off : Nat} {cs : List Value} {fs : List (Nat × Nat)} {n1 n2 : Nat} {z : Value} {tf : Nat} {ti : TI} (hx : evO T x = some (.agg cs.toArray))
    (ht : tget tb.tab t = some ⟨.st fs, n1, n2, z⟩) (hf : fs[i]? = some (off, tf)) (hti : tget tb.tab tf = some ti) (hp : packOk ti (cut cs off ti.size)) : Reads P T L ⟨d, .field t x i, ty, pos, aft, none⟩ (fun v L' => v = packV ti (cut cs off ti.size) ∧ L' = L) := by
  intro ρ hρ rr oo F hs
  refine ⟨_, L, ⟨rfl, rfl⟩, hs, fun w sat => ?_⟩
  have hst : St w (F :: L) := ⟨rr, oo, sat, hs⟩
  have hk := (tab_ok ht).k
  simp only [TK.ok] at hk
  obtain ⟨G, hG, hm⟩ := hk
  have hf' : ∃ f, G[i]? = some f ∧ f.offset = off ∧ f.type = tf := by
    rw [← hm] at hf
    simp only [List.getElem?_map, Option.map_eq_some_iff] at hf
    obtain ⟨f, h1, h2⟩ := hf
    cases h2
    exact ⟨f, by simpa using h1, rfl, rfl⟩
  obtain ⟨f, hf1, hf2, hf3⟩ := hf'
  subst hf2 hf3
  obtain ⟨hl, h1⟩ := hp
  simp only [execOp, hρ _ _ hx, Instr.field, Sem.run_bind, run_und hG, Result.andThen_ok, hf1, asAgg, Sem.run_pure, part, isAgg_ok (tab_ok hti)]
  cases hk : ti.k.agg with
  | true =>
    simp only [if_true, Sem.run_bind, sizeOf_ok (tab_ok hti), Result.andThen_ok, Sem.run_pure, packV, hk, cut]
    simp only [List.extract_toArray, List.extract_eq_take_drop, Nat.add_sub_cancel_left]
  | false =>
    have h1 := h1 hk
    rw [h1] at hl
    have : cs[f.offset]? = (cut cs f.offset 1)[0]? := by
      simp only [cut]; rw [List.getElem?_take_of_lt (by omega), List.getElem?_drop]; simp
    match hcc : cut cs f.offset 1, (by rw [← h1]; rw [h1]; exact hl : (cut cs f.offset 1).length = 1) with
    | [v], _ =>
      rw [hcc] at this
      simp [packV, hk, h1, hcc, this]
theorem SO.field {x : Operand} {t i off : Nat} {cs : List Value} {fs : List (Nat × Nat)} {n1 n2 : Nat} {z : Value} {tf : Nat} {ti : TI} (hx : evO T x = some (.agg cs.toArray))
    (ht : tget tb.tab t = some ⟨.st fs, n1, n2, z⟩) (hf : fs[i]? = some (off, tf)) (hti : tget tb.tab tf = some ti) (hp : packOk ti (cut cs off ti.size)) (hd : dstOk N d = true)
    (k : SO P rd N all rest (putD d (packV ti (cut cs off ti.size)) T) L ks Q) : SO P rd N all (⟨d, .field t x i, ty, pos, aft, none⟩ :: rest) T L ks Q :=
  SO.reads (rd_field hx ht hf hti hp) rfl rfl hd (by rintro _ _ ⟨rfl, rfl⟩; exact k)
theorem SQ.field {RR : TT → List HP → Prop} {x : Operand} {t i off : Nat} {cs : List Value} {fs : List (Nat × Nat)} {n1 n2 : Nat} {z : Value} {tf : Nat} {ti : TI} (hx : evO T x = some (.agg cs.toArray))
    (ht : tget tb.tab t = some ⟨.st fs, n1, n2, z⟩) (hf : fs[i]? = some (off, tf)) (hti : tget tb.tab tf = some ti) (hp : packOk ti (cut cs off ti.size)) (hd : dstOk N d = true)
    (k : SQ P N all rest (putD d (packV ti (cut cs off ti.size)) T) L RR) : SQ P N all (⟨d, .field t x i, ty, pos, aft, none⟩ :: rest) T L RR :=
  SQ.reads (rd_field hx ht hf hti hp) rfl hd (by rintro _ _ ⟨rfl, rfl⟩; exact k)

/-- 'build': the zero value with parts laid over it. -/
def buildV (tab : List TI) (fs : List (Nat × Nat)) (T : TT) : List Value → List (Nat × Operand) → Option (List Value)
  | cs, [] => some cs
  | cs, (i, x) :: ps => match fs[i]? with
    | some (off, tf) => match evO T x with
      | some v => match tget tab tf with
        | some ti => bif Nat.beq v.cells.toList.length ti.size && Nat.ble (off + ti.size) cs.length then buildV tab fs T (lay cs off v.cells.toList) ps else none
        | none => none
      | none => none
    | none => none

theorem fold_lay : ∀ (cs : List Value) (us : Array Value) (off : Nat), ((cs.zipIdx).foldl (fun (a : Array Value) (cj : Value × Nat) => a.setIfInBounds (off + cj.2) cj.1) us).toList = lay us.toList off cs := by
  have key : ∀ (cs : List Value) (us : Array Value) (off m : Nat), ((cs.zipIdx m).foldl (fun (a : Array Value) (cj : Value × Nat) => a.setIfInBounds (off + cj.2) cj.1) us).toList = lay us.toList (off + m) cs := by
    intro cs
    induction cs with
    | nil => intro us off m; simp [lay]
    | cons c cs ih =>
      intro us off m
      simp only [List.zipIdx_cons, List.foldl_cons]
      rw [ih, lay_cons]
      simp [Nat.add_assoc]
  intro cs us off
  exact key cs us off 0

theorem fill_ok {F : Array Field} {fs : List (Nat × Nat)} (hm : F.toList.map (fun f => (f.offset, f.type)) = fs) {places : Array (Nat × Nat)}
    (hpl : ∀ (i off tf : Nat) (ti : TI), fs[i]? = some (off, tf) → tget tb.tab tf = some ti → places[i]? = some (off, ti.size)) {ρ : Operand → Value} (hρ : Knows T ρ) :
    ∀ (ps : List (Nat × Operand)) (cs : List Value) (us : Array Value) (r : List Value), us.toList = cs → buildV tb.tab fs T cs ps = some r → Instr.fill (places[·]?) us (ps.map fun p => (p.1, ρ p.2)) = some r.toArray
  | [], cs, us, r, hus, h => by simp only [buildV] at h; cases h; subst hus; simp [Instr.fill]
  | (i, x) :: ps, cs, us, r, hus, h => by
    simp only [buildV] at h
    split at h
    · rename_i off tf hfi
      split at h
      · rename_i v hv
        split at h
        · rename_i ti hti
          cases hb : (Nat.beq v.cells.toList.length ti.size && Nat.ble (off + ti.size) cs.length) with
          | false => rw [hb] at h; cases h
          | true =>
            rw [hb] at h
            simp only [cond_true] at h
            rw [Bool.and_eq_true] at hb
            have h1 := Nat.eq_of_beq_eq_true hb.1
            have h2 := Nat.le_of_ble_eq_true hb.2
            simp only [List.map_cons, Instr.fill, hpl i off tf ti hfi hti, hρ _ _ hv]
            have h1' : v.cells.size = ti.size := by simpa using h1
            have h2' : us.size = cs.length := by rw [← hus]; simp
            rw [if_neg (by rw [h1', h2']; simp; omega)]
            refine fill_ok hm hpl hρ ps _ _ r ?_ h
            rw [← hus, ← fold_lay, ← Array.toList_zipIdx, Array.foldl_toList]
        · cases h
      · cases h
    · cases h

theorem mapM_places {fs : List (Nat × Nat)} (hall : ∀ (i off tf : Nat), fs[i]? = some (off, tf) → ∃ ti, tget tb.tab tf = some ti) :
    ∀ (F : List Field), (∀ f ∈ F, ∃ ti, tget tb.tab f.type = some ti) → ∀ w, ∃ r : List (Nat × Nat), (F.mapM (m := Sem) fun f => do pure (f.offset, ← sizeOf f.type)).run P w = .ok r w ∧
      r.length = F.length ∧ ∀ (i : Nat) (f : Field) (ti : TI), F[i]? = some f → tget tb.tab f.type = some ti → r[i]? = some (f.offset, ti.size)
  | [], _, w => ⟨[], by simp, rfl, fun i f ti h => by simp at h⟩
  | f :: F, h, w => by
    obtain ⟨ti, hti⟩ := h f (by simp)
    obtain ⟨r, hr, hlen, hp⟩ := mapM_places hall F (fun g hg => h g (by simp [hg])) w
    refine ⟨(f.offset, ti.size) :: r, ?_, by simp [hlen], fun i g tj hi hj => ?_⟩
    · simp only [List.mapM_cons, Sem.run_bind, sizeOf_ok (tab_ok hti), Result.andThen_ok, Sem.run_pure, hr]
    · cases i with
      | zero => simp at hi; subst hi; rw [hti] at hj; cases hj; simp
      | succ i => simp at hi; simpa using hp i g tj hi hj

def allTab (tab : List TI) : List (Nat × Nat) → Bool
  | [] => true
  | (_, t) :: fs => (match tget tab t with | some _ => true | none => false) && allTab tab fs
theorem allTab_ok : ∀ {fs : List (Nat × Nat)}, allTab tb.tab fs = true → ∀ p ∈ fs, ∃ ti, tget tb.tab p.2 = some ti
  | [], _, p, hp => by cases hp
  | (a, t) :: fs, h, p, hp => by
    simp only [allTab, Bool.and_eq_true] at h
    rcases List.mem_cons.1 hp with rfl | hp
    · cases ht : tget tb.tab t with
      | some ti => exact ⟨ti, rfl⟩
      | none => rw [ht] at h; cases h.1
    · exact allTab_ok h.2 p hp

theorem rd_build {t : Nat} {ps : List (Nat × Operand)} {fs : List (Nat × Nat)} {n1 n2 : Nat} {z : Value} {r : List Value}
    (ht : tget tb.tab t = some ⟨.st fs, n1, n2, z⟩) (ha : allTab tb.tab fs = true) (hb : buildV tb.tab fs T z.cells.toList ps = some r) : Reads P T L ⟨d, .build t ps.toArray, ty, pos, aft, none⟩ (fun v L' => v = .agg r.toArray ∧ L' = L) := by
  intro ρ hρ rr oo F hs
  refine ⟨_, L, ⟨rfl, rfl⟩, hs, fun w sat => ?_⟩
  have hst : St w (F :: L) := ⟨rr, oo, sat, hs⟩
  have hk := (tab_ok ht).k
  simp only [TK.ok] at hk
  obtain ⟨G, hG, hm⟩ := hk
  have hall : ∀ f ∈ G.toList, ∃ ti, tget tb.tab f.type = some ti := fun f hf => allTab_ok ha (f.offset, f.type) (by rw [← hm]; exact List.mem_map.2 ⟨f, hf, rfl⟩)
  obtain ⟨pl, hpl, hlen, hp⟩ := mapM_places (fs := fs) (fun i off tf h => allTab_ok ha _ (List.mem_of_getElem? h)) G.toList hall w
  have hz := zero_ok (tab_ok ht) w
  simp only [execOp, Instr.build, Sem.run_bind, hz, Result.andThen_ok, run_und hG, List.map_toArray]
  have hmm : (G.mapM (m := Sem) fun f => do Pure.pure (f.offset, ← sizeOf f.type)).run P w = .ok pl.toArray w := by
    rw [Array.mapM_eq_mapM_toList]
    simp only [Sem.run_map, hpl, Result.andThen_ok]
  rw [hmm]
  simp only [Result.andThen_ok]
  have hfill := fill_ok (tb := tb) (T := T) hm (places := pl.toArray) (fun i off tf ti hi hti => by
    rw [← hm] at hi
    simp only [List.getElem?_map, Option.map_eq_some_iff] at hi
    obtain ⟨f, h1, h2⟩ := hi
    cases h2
    simpa using hp i f ti h1 hti) hρ ps z.cells.toList z.cells r rfl hb
  simp only [hfill]
  rfl
theorem SO.build {t : Nat} {ps : List (Nat × Operand)} {fs : List (Nat × Nat)} {n1 n2 : Nat} {z : Value} {r : List Value}
    (ht : tget tb.tab t = some ⟨.st fs, n1, n2, z⟩) (ha : allTab tb.tab fs = true) (hb : buildV tb.tab fs T z.cells.toList ps = some r) (hd : dstOk N d = true)
    (k : SO P rd N all rest (putD d (.agg r.toArray) T) L ks Q) : SO P rd N all (⟨d, .build t ps.toArray, ty, pos, aft, none⟩ :: rest) T L ks Q :=
  SO.reads (rd_build ht ha hb) rfl rfl hd (by rintro _ _ ⟨rfl, rfl⟩; exact k)
theorem SQ.build {RR : TT → List HP → Prop} {t : Nat} {ps : List (Nat × Operand)} {fs : List (Nat × Nat)} {n1 n2 : Nat} {z : Value} {r : List Value}
    (ht : tget tb.tab t = some ⟨.st fs, n1, n2, z⟩) (ha : allTab tb.tab fs = true) (hb : buildV tb.tab fs T z.cells.toList ps = some r) (hd : dstOk N d = true)
    (k : SQ P N all rest (putD d (.agg r.toArray) T) L RR) : SQ P N all (⟨d, .build t ps.toArray, ty, pos, aft, none⟩ :: rest) T L RR :=
  SQ.reads (rd_build ht ha hb) rfl hd (by rintro _ _ ⟨rfl, rfl⟩; exact k)
end
end Go.Sl
