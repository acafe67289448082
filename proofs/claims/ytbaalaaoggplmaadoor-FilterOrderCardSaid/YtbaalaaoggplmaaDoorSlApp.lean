/- A part of a proof: a walk over the model by a small separation logic. -/
import Derived.Test.YtbaalaaoggplmaaDoorSlIter
/-! append, literal slices, parts of slices. -/
set_option linter.unusedVariables false
set_option linter.unusedSectionVars false
namespace Go.Sl
section
variable {P : Program} [tb : Tab P] {rd : Option Nat} {N : Nat} {T : TT} {L L' L1 L2 : List HP} {Q : Post} {ks : List K}
variable {all : Array Oper} {rest : List Oper} {ty : TypeId} {pos : String} {aft : Array Edge} {d : Option Tmp} {α : Type} {ρ : Rep α}

/-! ### Literal slices -/
def buildSV (T : TT) (sz : Nat) : List Value → List (Nat × Operand) → Option (List Value)
  | cs, [] => some cs
  | cs, (i, x) :: ps => match evO T x with
      | some v => bif Nat.beq v.cells.toList.length sz && Nat.ble (i * sz + sz) cs.length then buildSV T sz (lay cs (i * sz) v.cells.toList) ps else none
      | none => none
theorem fillS_ok {sz : Nat} {ρ : Operand → Value} (hρ : Knows T ρ) :
    ∀ (ps : List (Nat × Operand)) (cs : List Value) (us : Array Value) (r : List Value), us.toList = cs → buildSV T sz cs ps = some r → Instr.fill (fun i => some (i * sz, sz)) us (ps.map fun p => (p.1, ρ p.2)) = some r.toArray
  | [], cs, us, r, hus, h => by simp only [buildSV] at h; cases h; subst hus; simp [Instr.fill]
  | (i, x) :: ps, cs, us, r, hus, h => by
    simp only [buildSV] at h
    split at h
    · rename_i v hv
      cases hb : (Nat.beq v.cells.toList.length sz && Nat.ble (i * sz + sz) cs.length) with
      | false => rw [hb] at h; cases h
      | true =>
        rw [hb] at h
        simp only [cond_true] at h
        rw [Bool.and_eq_true] at hb
        have h1 := Nat.eq_of_beq_eq_true hb.1
        have h2 := Nat.le_of_ble_eq_true hb.2
        simp only [List.map_cons, Instr.fill, hρ _ _ hv]
        have h1' : v.cells.size = sz := by simpa using h1
        have h2' : us.size = cs.length := by rw [← hus]; simp
        rw [if_neg (by rw [h1', h2']; simp; omega)]
        refine fillS_ok hρ ps _ _ r ?_ h
        rw [← hus, ← fold_lay, ← Array.toList_zipIdx, Array.foldl_toList]
    · cases h

def zeros (z : List Value) : Nat → List Value
  | 0 => []
  | n + 1 => z ++ zeros z n
theorem zeros_length (z : List Value) : ∀ n, (zeros z n).length = n * z.length
  | 0 => by simp [zeros]
  | n + 1 => by simp [zeros, zeros_length z n, Nat.add_mul, Nat.add_comm]
theorem zeros_get (z : List Value) : ∀ (n i : Nat), i < n * z.length → (zeros z n)[i]? = z[i % z.length]?
  | 0, i, h => by simp at h
  | n + 1, i, h => by
    simp only [zeros]
    rcases Nat.lt_or_ge i z.length with hi | hi
    · rw [List.getElem?_append_left hi, Nat.mod_eq_of_lt hi]
    · rw [List.getElem?_append_right hi, zeros_get z n (i - z.length) (by rw [Nat.add_mul] at h; omega), Nat.mod_eq_sub_mod hi]
theorem range_zeros (z : Array Value) (n : Nat) (hz : 0 < z.size) : ((Array.range (n * z.size)).map (z[· % z.size]!)).toList = zeros z.toList n := by
  apply List.ext_getElem?
  intro i
  rcases Nat.lt_or_ge i (n * z.size) with h | h
  · rw [zeros_get _ _ _ (by simpa using h)]
    have hm : i % z.size < z.size := Nat.mod_lt _ hz
    simp [h, getElem!_pos z (i % z.size) hm, Array.getElem?_eq_getElem hm]
  · rw [List.getElem?_eq_none (by simpa using h), List.getElem?_eq_none (by rw [zeros_length]; simpa using h)]

theorem SO.buildSlice {t e len sz n1 n2 b1 : Nat} {z z2 : Value} {ke : TK} {ps : List (Nat × Operand)} {cs : List Value} (ht : tget tb.tab t = some ⟨.sl e, n1, n2, z⟩) (hte : tget tb.tab e = some ⟨ke, sz + 1, b1, z2⟩)
    (hz : Nat.beq z2.cells.toList.length (sz + 1) = true) (hb : buildSV T (sz + 1) (zeros z2.cells.toList len) ps = some cs) (hbig : Nat.ble (len * (sz + 1)) 16777216 = true) (hd : dstOk N d = true)
    (kk : ∀ b, SO P rd N all rest (putD d (.slice (some ⟨b, 0, none⟩) len len) T) (pts b 0 cs :: L) ks Q) : SO P rd N all (⟨d, .buildSlice t len ps.toArray, ty, pos, aft, none⟩ :: rest) T L ks Q := by
  refine SO.run (R := fun v L2 => ∃ b, v = .slice (some ⟨b, 0, none⟩) len len ∧ L2 = pts b 0 cs :: L) rfl rfl hd ?_ (by rintro _ _ ⟨b, rfl, rfl⟩; exact kk b)
  intro q hq F w hst
  have hk := (tab_ok ht).k
  simp only [TK.ok] at hk
  have hs := sizeOf_ok (tab_ok hte) w
  have hzz := zero_ok (tab_ok hte) w
  simp only at hs hzz
  have hzs : z2.cells.size = sz + 1 := by have := Nat.eq_of_beq_eq_true hz; simpa using this
  have hfill := fillS_ok hq ps (zeros z2.cells.toList len) ((Array.range (len * z2.cells.size)).map (z2.cells[· % z2.cells.size]!)) cs (range_zeros _ _ (by omega)) hb
  rw [hzs] at hfill
  have hbig := Nat.le_of_ble_eq_true hbig
  refine ⟨_, _, _, .inl ?_, ⟨w.heap.size, rfl, rfl⟩, ((hst.alloc cs.toArray e).ent Ent.swap)⟩
  simp only [execOp, Instr.buildSlice, Sem.run_bind, run_und hk, Result.andThen_ok, hs]
  rw [if_neg (by simp; omega)]
  by_cases h0 : len = 0
  · subst h0
    have he : (Array.range (0 * (sz + 1))).map (z2.cells[· % (sz + 1)]!) = #[] := by simp
    rw [he] at hfill
    have he2 : ∀ f : Nat → Value, (Array.range (0 * (sz + 1))).map f = #[] := by simp
    simp only [Nat.zero_mul, if_true, Sem.run_pure, Result.andThen_ok, Sem.run_bind, List.map_toArray]
    rw [Nat.zero_mul] at he2
    rw [he2, hfill]
    rfl
  · have : ¬ (len * (sz + 1) = 0) := by intro h; rcases Nat.mul_eq_zero.1 h with h | h <;> omega
    simp only [this, if_false, Sem.run_bind, hzz, Result.andThen_ok, Sem.run_pure, List.map_toArray, hzs]
    rw [hfill]
    rfl

/-! ### Where what is added comes from -/
/-- 'B' leads to m elements: 'ys'. -/
def Src (ρ : Rep α) (L : List HP) (B : Option Addr) (m : Nat) (ys : List α) : Prop :=
  ∀ F w, St w (F :: L) → m = ys.length ∧ (B = none → ys = []) ∧ ∀ b, B = some b → b.spot = none ∧ ∃ z : List (α × ρ.V), z.map (·.1) = ys ∧ (∀ j v, (flat ρ z)[j]? = some v → w.cell? ⟨b.block, b.off + j, none⟩ = some v) ∧ St w (memA ρ z :: F :: L)

theorem Src.sl {A : Option Addr} {n : Nat} {l : List α} (h : Has (slAt ρ A n l) L) : Src ρ L A n l := by
  intro F w hst
  obtain ⟨h0, h1, h2, h3⟩ := sl_open ((hst.ent (Ent.cons (h.ent (pers_slAt _ _ _ _)))).ent Ent.swap)
  refine ⟨h0, h2, fun b hb => ?_⟩
  obtain ⟨hs, z, hz, hst2⟩ := h3 b hb
  exact ⟨hs, z, hz, fun j v hj => hst2.rcell hj, hst2.ent Ent.drop⟩
theorem Src.one {b : Nat} {cs : List Value} {x : α} {h : ρ.V} (ht : Take (pts b 0 cs) L L') (he : ρ.cells x h = cs) (ha : HasAll (ρ.atoms x h) L) : Src ρ L (some ⟨b, 0, none⟩) 1 [x] := by
  intro F w hst
  refine ⟨rfl, (fun h => by cases h), fun b' hb => ?_⟩
  cases hb
  have h2 : St w (pts b 0 cs :: F :: L') := (hst.ent (Ent.cons ht.ent)).ent Ent.swap
  have hf : flat ρ [(x, h)] = cs := by simp [flat, he]
  refine ⟨rfl, [(x, h)], rfl, fun j v hj => ?_, ?_⟩
  · rw [hf] at hj
    have := (h2.cell hj).1
    exact this
  · have h3 : St w (ρ.atoms x h ++ (F :: L)) := by
      refine hst.ent ?_
      refine (Ent.cons (ha.ent (ρ.pers x h))).trans ?_
      exact ent_of_swap
    obtain ⟨r, o, s, hL⟩ := h3
    have h4 := (big_ent (A := ρ.atoms x h) (L := F :: L)) r o hL
    obtain ⟨a, b2, d2, le, hA, hL2⟩ := h4
    have : seps (ρ.atoms x h) r (fun _ _ => none) := by
      have : ∀ (L : List HP), (∀ A ∈ L, Pers A) → ∀ o, seps L r o → seps L r (fun _ _ => none) := by
        intro L
        induction L with
        | nil => intros; trivial
        | cons A L ih =>
          rintro hp o ⟨a, b, d, le, hA, hL⟩
          exact ⟨_, _, fun _ _ => .inl rfl, none_add, hp A (by simp) _ _ hA, ih (fun B hB => hp B (by simp [hB])) _ hL⟩
      exact this _ (ρ.pers x h) _ hA
    refine ⟨r, o, s, fun _ _ => none, o, fun _ _ => .inl rfl, none_add, ?_, seps_up (Ro.le_refl _) (Own.le_trans (Own.le_add_right d2) le) hL2⟩
    intro i y k hy
    cases i with
    | zero => simp at hy; obtain ⟨rfl, rfl⟩ := hy; exact this
    | succ i => simp at hy

theorem memS_append {z1 z2 : List (α × ρ.V)} {r : Ro} (h1 : memS ρ z1 r) (h2 : memS ρ z2 r) : memS ρ (z1 ++ z2) r := by
  intro i x h e
  rcases Nat.lt_or_ge i z1.length with hi | hi
  · rw [List.getElem?_append_left hi] at e; exact h1 i x h e
  · rw [List.getElem?_append_right hi] at e; exact h2 _ x h e
theorem memA_append {z1 z2 : List (α × ρ.V)} : Ent (memA ρ z1 :: memA ρ z2 :: L) (memA ρ (z1 ++ z2) :: L) := by
  rintro r o ⟨a, b, d, le, h1, a2, b2, d2, le2, h2, hL⟩
  exact ⟨fun _ _ => none, o, fun _ _ => .inl rfl, none_add, memS_append h1 h2, seps_up (Ro.le_refl _) (Own.le_trans (Own.le_add_right d2) (Own.le_trans le2 (Own.le_trans (Own.le_add_right d) le))) hL⟩

theorem nextcap_le (need old : Nat) (h : old < need) : Builtin.nextslicecap need old ≤ 2 * need + 2000 := by
  unfold Builtin.nextslicecap
  split
  · omega
  · split
    · omega
    · have key : ∀ (k c : Nat), c ≤ need + need / 2 + 192 * 4 → Builtin.growBy need k c ≤ 2 * need + 2000 := by
        intro k
        induction k with
        | zero => intro c hc; simp only [Builtin.growBy]; omega
        | succ k ih =>
          intro c hc
          simp only [Builtin.growBy]
          split
          · omega
          · exact ih _ (by omega)
      exact key 4 old (by omega)

theorem run_first {w : World} {b : Addr} (hs : b.spot = none) {cs : List Value} {n sz c : Nat} (hl : cs.length = n * sz) (h : ∀ j v, cs[j]? = some v → w.cell? ⟨b.block, b.off + j, none⟩ = some v) {k : Nat} :
    (Builtin.firstCells sz n (.slice (some b) k c)).run P w = .ok cs.toArray w := by
  simp only [Builtin.firstCells, loadCells]
  rw [addr_eta hs, ← hl]
  have := loadCells_ok (P := P) (w := w) (b := b.block) (off := b.off) cs 0 #[] (fun j v hj => by have := h j v hj; simpa using this)
  simpa using this
theorem run_first_nil {w : World} {n sz c k : Nat} : (Builtin.firstCells sz n (.slice none k c)).run P w = .ok #[] w := rfl

theorem zeroCells_len (z : Array Value) (n : Nat) : (Builtin.zeroCells z n).size = n * z.size := by simp [Builtin.zeroCells]

theorem eadr_base {a : Addr} (hs : a.spot = none) (k : Nat) : a.add k = ⟨a.block, a.off + k, none⟩ := by
  rw [addr_eta hs]; simp only [Addr.add]; split <;> simp_all

/-- 'append' onto a slice of one's own. -/
theorem runs_append {w : Bool} {A B : Option Addr} {n c m c2 t t2 e e2 sz n1 n2 n3 n4 b1 : Nat} {z z2 z3 : Value} {ke : TK} {l ys : List α} (hs : Take (sqAt w ρ A n c l) L L1) (src : Src ρ L B m ys)
    (ht : tget tb.tab t = some ⟨.sl e, n1, n2, z⟩) (ht2 : tget tb.tab t2 = some ⟨.sl e2, n3, n4, z3⟩) (hte : tget tb.tab e = some ⟨ke, sz, b1, z2⟩) (hzz : Nat.beq z2.cells.toList.length sz = true) (hsz : Nat.beq ρ.sz sz = true)
    (hlim : n + m ≤ lim) (hb : Nat.ble b1 32768 = true) {F : HP} {W : World} (hst : St W (F :: L)) (ty : TypeId) :
    ∃ A' c' W', (Builtin.append_ #[t, t2] ty #[.slice A n c, .slice B m c2]).run P W = .ok (.slice A' (n + m) c') W' ∧ St W' (F :: sqAt w ρ A' (n + m) c' (l ++ ys) :: L1) := by
  have hk := (tab_ok ht).k
  have hk2 := (tab_ok ht2).k
  simp only [TK.ok] at hk hk2
  have hsize := fun w => sizeOf_ok (tab_ok hte) w
  have hzero := fun w => zero_ok (tab_ok hte) w
  obtain ⟨ti, hti0, htib⟩ := info_ok (tab_ok hte) W
  have hti : ∀ w, (typeInfo e).run P w = .ok ti w := by
    intro w
    obtain ⟨i, hi, _⟩ := (tab_ok hte).info
    have h1 : (typeInfo e).run P w = .ok i w := by simp [typeInfo, program, Sem.run, bind, Sem.bind, hi, pure]
    have h2 : (typeInfo e).run P W = .ok i W := by simp [typeInfo, program, Sem.run, bind, Sem.bind, hi, pure]
    rw [h2] at hti0; cases hti0; exact h1
  simp only at hsize hzero htib
  have hsz := Nat.eq_of_beq_eq_true hsz
  subst hsz
  have hzs : z2.cells.size = ρ.sz := by have := Nat.eq_of_beq_eq_true hzz; simpa using this
  have hb := Nat.le_of_ble_eq_true hb
  have hsp := ρ.pos
  -- what is there
  obtain ⟨hm, hB0, hB⟩ := src F W hst
  have hst1 : St W (sqAt w ρ A n c l :: F :: L1) := (hst.ent (Ent.cons hs.ent)).ent Ent.swap
  obtain ⟨hn, hnl, hnc, hA0⟩ := (fun (h : St W (sqAt w ρ A n c l :: F :: L1)) => let ⟨r, o, s, x, y, d, le, hA, hL⟩ := h; (⟨hA.1, hA.2.1, hA.2.2.1, hA.2.2.2.1⟩ : n = l.length ∧ n ≤ lim ∧ n ≤ c ∧ (A = none → l = [] ∧ c = 0))) hst1
  -- the cells that are added
  obtain ⟨zn, hzn, hfirst, hstn⟩ : ∃ zn : List (α × ρ.V), zn.map (·.1) = ys ∧ (∀ k w', (∀ b v j, W.cell? ⟨b, j, none⟩ = some v → w'.cell? ⟨b, j, none⟩ = some v) → (Builtin.firstCells ρ.sz m (.slice B k c2)).run P w' = .ok (flat ρ zn).toArray w') ∧ St W (memA ρ zn :: F :: L) := by
    cases hBB : B with
    | none =>
      have hy := hB0 hBB
      subst hy
      refine ⟨[], rfl, fun k w' _ => rfl, ?_⟩
      obtain ⟨r, o, s, hL⟩ := hst
      exact ⟨r, o, s, fun _ _ => none, o, fun _ _ => .inl rfl, none_add, (fun i x h e => by simp at e), hL⟩
    | some b =>
      obtain ⟨hbs, zn, h1, h2, h3⟩ := hB b hBB
      refine ⟨zn, h1, fun k w' hw => ?_, h3⟩
      exact run_first hbs (by rw [flat_length, hm, ← h1]; simp) (fun j v hj => hw _ _ _ (h2 j v hj))
  have hfl : (flat ρ zn).length = m * ρ.sz := by rw [flat_length, hm, ← hzn]; simp
  have hone : ∀ v ∈ flat ρ zn, one v = true := by
    have : ∀ (z : List (α × ρ.V)), ∀ v ∈ flat ρ z, one v = true := by
      intro z
      induction z with
      | nil => intro v hv; simp [flat] at hv
      | cons p z ih =>
        obtain ⟨x, h⟩ := p
        intro v hv
        simp only [flat, List.mem_append] at hv
        rcases hv with hv | hv
        · exact ρ.one x h v hv
        · exact ih v hv
    exact this zn
  have hst2 : St W (sqAt w ρ A n c l :: memA ρ zn :: F :: L1) := by
    refine hstn.ent ?_
    refine (Ent.cons (Ent.cons hs.ent)).trans ?_
    refine (Ent.cons Ent.swap).trans Ent.swap
  have hlen : l.length + ys.length = n + m := by omega
  by_cases hroom : n + m ≤ c
  · -- there is room
    cases hAA : A with
    | none =>
      obtain ⟨rfl, rfl⟩ := hA0 hAA
      have hn0 : n = 0 := by omega
      have hm0 : m = 0 := by omega
      subst hn0 hm0
      have hz0 : zn = [] := by cases zn with
        | nil => rfl
        | cons a l => rw [← hzn] at hm; simp at hm
      subst hz0
      have hy : ys = [] := by rw [← hzn]; rfl
      subst hy
      refine ⟨none, 0, W, ?_, ?_⟩
      · simp [Builtin.append_, run_und hk, run_und hk2, hsize, Builtin.lenOf, hfirst 0 W (fun _ _ _ h => h), flat]
      · subst hAA
        exact ((hst2.ent (Ent.cons Ent.drop)).ent Ent.swap)
    | some a =>
      subst hAA
      obtain ⟨_, _, _, has, zo, sp, hzo, hspl, hst3⟩ := sq_open hst2
      have hmc : m * ρ.sz ≤ sp.length := by rw [hspl]; exact Nat.mul_le_mul_right _ (by omega)
      -- the spare room to the front
      have hst4 : St W (pts a.block (a.off + n * ρ.sz) sp :: headA w a.block a.off (flat ρ zo) :: memA ρ zo :: memA ρ zn :: F :: L1) := hst3.ent Ent.swap
      rcases storeCells_ok (P := P) (A := pr True) (i := 0) (flat ρ zn) sp W 0 0 hst4 hone (by omega) with ⟨W', hr, hst5⟩ | h
      · have hlay : lay sp 0 (flat ρ zn) = flat ρ zn ++ sp.drop (m * ρ.sz) := by
          have : ∀ (cs us : List Value), cs.length ≤ us.length → lay us 0 cs = cs ++ us.drop cs.length := by
            intro cs
            induction cs with
            | nil => intro us _; simp [lay]
            | cons c cs ih =>
              intro us hu
              cases us with
              | nil => simp at hu
              | cons u us => simp only [lay, List.length_cons, List.drop_succ_cons, List.cons_append]; rw [ih us (by simpa using hu)]
          rw [this _ _ (by omega), hfl]
        rw [hlay] at hst5
        have hst6 := hst5.ent pts_split
        rw [hfl] at hst6
        refine ⟨some a, c, W', ?_, ?_⟩
        · have e1 : a.off + n * ρ.sz + 0 - 0 = a.off + n * ρ.sz := by omega
          rw [e1] at hr
          simp [Builtin.append_, Builtin.lenOf, hroom, eadr_base has, run_und hk, run_und hk2, hsize]
          rw [hfirst m W (fun _ _ _ h => h)]
          simp [hr]
        · -- put together
          have hst7 : St W' (headA w a.block a.off (flat ρ (zo ++ zn)) :: pts a.block (a.off + (n + m) * ρ.sz) (sp.drop (m * ρ.sz)) :: memA ρ (zo ++ zn) :: F :: L1) := by
            have hoff : a.off + n * ρ.sz + m * ρ.sz = a.off + (n + m) * ρ.sz := by rw [Nat.add_mul]; omega
            rw [hoff] at hst6
            have hzl : (flat ρ zo).length = n * ρ.sz := by rw [flat_length, hn, ← hzo]; simp
            cases w with
            | true =>
              have h1 : St W' (pts a.block a.off (flat ρ zo) :: pts a.block (a.off + (flat ρ zo).length) (flat ρ zn) :: pts a.block (a.off + (n + m) * ρ.sz) (sp.drop (m * ρ.sz)) :: memA ρ zo :: memA ρ zn :: F :: L1) := by
                rw [hzl]
                exact hst6.ent ((Ent.cons Ent.swap).trans Ent.swap)
              have h2 := h1.ent pts_join
              rw [← flat_append] at h2
              exact h2.ent (Ent.cons (Ent.cons memA_append))
            | false =>
              have h1 := hst6.publish
              have h2 : St W' (rod a.block a.off (flat ρ zo) :: rod a.block (a.off + (flat ρ zo).length) (flat ρ zn) :: pts a.block (a.off + (n + m) * ρ.sz) (sp.drop (m * ρ.sz)) :: memA ρ zo :: memA ρ zn :: F :: L1) := by
                rw [hzl]
                exact h1.ent ((Ent.cons Ent.swap).trans Ent.swap)
              have h3 : Ent (rod a.block a.off (flat ρ zo) :: rod a.block (a.off + (flat ρ zo).length) (flat ρ zn) :: pts a.block (a.off + (n + m) * ρ.sz) (sp.drop (m * ρ.sz)) :: memA ρ zo :: memA ρ zn :: F :: L1)
                  (rod a.block a.off (flat ρ (zo ++ zn)) :: pts a.block (a.off + (n + m) * ρ.sz) (sp.drop (m * ρ.sz)) :: memA ρ (zo ++ zn) :: F :: L1) := by
                rintro r o ⟨x, y, d, le, hx, x2, y2, d2, le2, hx2, hL⟩
                refine (Ent.cons (Ent.cons memA_append)) r o ⟨fun _ _ => none, o, fun _ _ => .inl rfl, none_add, ?_, seps_up (Ro.le_refl _) (Own.le_trans (Own.le_add_right d2) (Own.le_trans le2 (Own.le_trans (Own.le_add_right d) le))) hL⟩
                intro i v hv
                rw [flat_append] at hv
                rcases Nat.lt_or_ge i (flat ρ zo).length with hi | hi
                · rw [List.getElem?_append_left hi] at hv; exact hx i v hv
                · rw [List.getElem?_append_right hi] at hv
                  have := hx2 _ _ hv
                  rwa [show a.off + (flat ρ zo).length + (i - (flat ρ zo).length) = a.off + i by omega] at this
              exact h2.ent h3
          have := sq_shut (w := w) (L := F :: L1) (a := a) (c := c) (z := zo ++ zn) (sp := sp.drop (m * ρ.sz)) (n := n + m) (l := l ++ ys) (by simp; omega) hlim hroom has (by simp [hzo, hzn]) (by rw [List.length_drop, hspl, ← Nat.sub_mul]; congr 1; omega)
          exact (hst7.ent this).ent Ent.swap
      · exact absurd h (by omega)
  · -- a new row
    have hold : ∃ zo : List (α × ρ.V), zo.map (·.1) = l ∧ (∀ w', (∀ b v j, W.cell? ⟨b, j, none⟩ = some v → w'.cell? ⟨b, j, none⟩ = some v) → (Builtin.firstCells ρ.sz n (.slice A n c)).run P w' = .ok (flat ρ zo).toArray w') ∧
        St W (memA ρ zo :: memA ρ zn :: F :: L1) := by
      cases hAA : A with
      | none =>
        obtain ⟨rfl, rfl⟩ := hA0 hAA
        obtain ⟨r, o, s, hL⟩ := hst2.ent Ent.drop
        exact ⟨[], rfl, fun w' _ => rfl, r, o, s, fun _ _ => none, o, fun _ _ => .inl rfl, none_add, (fun i x h e => by simp at e), hL⟩
      | some a =>
        subst hAA
        obtain ⟨_, _, _, has, zo, sp, hzo, hspl, hst3⟩ := sq_open hst2
        refine ⟨zo, hzo, fun w' hw => ?_, (hst3.ent Ent.drop).ent Ent.drop⟩
        refine run_first has (by rw [flat_length, hn, ← hzo]; simp) (fun j v hj => hw _ _ _ ?_)
        cases w with
        | true => exact (St.cell hst3 hj).1
        | false => exact St.rcell hst3 hj
    obtain ⟨zo, hzo, hofirst, hst3⟩ := hold
    have hzl : (flat ρ zo).length = n * ρ.sz := by rw [flat_length, hn, ← hzo]; simp
    have hno : ¬ (((n + m : Nat) : Int) > IntKind.i64.max ∧ (false = true ∨ ti.bytes = 0)) := by
      rintro ⟨h, _⟩
      have : IntKind.i64.max = 9223372036854775807 := by decide
      rw [this] at h; simp only [lim] at hlim; omega
    have hcap : ¬ (Builtin.nextslicecap (n + m) c * ti.bytes > 2 ^ 48) := by
      have h1 := nextcap_le (n + m) c (by omega)
      have h2 : Builtin.nextslicecap (n + m) c * ti.bytes ≤ (2 * (n + m) + 2000) * 32768 := Nat.mul_le_mul h1 (by rw [htib]; exact hb)
      have h3 : (2 * (n + m) + 2000) * 32768 ≤ (2 * 2147483648 + 2000) * 32768 := Nat.mul_le_mul_right _ (by simp only [lim] at hlim; omega)
      intro h
      have h4 := Nat.lt_of_lt_of_le h (Nat.le_trans h2 h3)
      omega
    let cap := (Question.appendCap (n + m) c e).cut (W.tape W.drawn (.appendCap (n + m) c e))
    have hcap1 : n + m ≤ cap := by simp only [cap, Question.cut]; omega
    have hmark : ∀ (k : Nat) (w : World), (askRoom k).run P w = .ok () w := by
      intro k w; unfold askRoom; split <;> rfl
    have hchoose : (choose (.appendCap (n + m) c e)).run P W = .ok cap { W with drawn := W.drawn + 1 } := by
      simp [choose, Sem.run, Question.forced, cap]
    have hW1 : ∀ b v j, W.cell? ⟨b, j, none⟩ = some v → ({ W with drawn := W.drawn + 1 } : World).cell? ⟨b, j, none⟩ = some v := fun _ _ _ h => h
    have hst4 := (hst3.drew (W.drawn + 1)).alloc ((flat ρ zo).toArray ++ (flat ρ zn).toArray ++ Builtin.zeroCells z2.cells (cap - (n + m))) e
    refine ⟨some ⟨W.heap.size, 0, none⟩, cap, { W with drawn := W.drawn + 1, heap := W.heap.push (.cells ((flat ρ zo).toArray ++ (flat ρ zn).toArray ++ Builtin.zeroCells z2.cells (cap - (n + m))) e) }, ?_, ?_⟩
    · have hno' : ¬ ((9223372036854775807 : Int) < ((n : Int) + (m : Int)) ∧ ti.bytes = 0) := by
        rintro ⟨h1, h2⟩; simp only [lim] at hlim; omega
      have hW1 : ∀ b v j, W.cell? ⟨b, j, none⟩ = some v → W.drew.cell? ⟨b, j, none⟩ = some v := fun _ _ _ h => h
      have hforced : (Question.appendCap (n + m) c e).forced = false := rfl
      simp [Builtin.append_, Builtin.lenOf, hroom, run_und hk, run_und hk2, hsize, hti, hno', hcap, hmark, hforced]
      rw [hofirst _ hW1]
      simp only [Result.andThen_ok]
      rw [hfirst m _ hW1]
      simp [hzero, newRow, newObj, Sem.run]
      refine ⟨rfl, ?_⟩
      rw [← List.append_toArray, Array.append_assoc]
      rfl
    · -- put together
      have hl1 : ((flat ρ zo).toArray ++ (flat ρ zn).toArray ++ Builtin.zeroCells z2.cells (cap - (n + m))).toList = flat ρ (zo ++ zn) ++ (Builtin.zeroCells z2.cells (cap - (n + m))).toList := by
        simp [flat_append]
      rw [hl1] at hst4
      have hst5 := hst4.ent pts_split
      have hlen2 : (flat ρ (zo ++ zn)).length = (n + m) * ρ.sz := by rw [flat_append, List.length_append, hzl, hfl, Nat.add_mul]
      rw [hlen2] at hst5
      have hst6 : St { W with drawn := W.drawn + 1, heap := W.heap.push (.cells ((flat ρ zo).toArray ++ (flat ρ zn).toArray ++ Builtin.zeroCells z2.cells (cap - (n + m))) e) } (headA w W.heap.size 0 (flat ρ (zo ++ zn)) :: pts W.heap.size (0 + (n + m) * ρ.sz) (Builtin.zeroCells z2.cells (cap - (n + m))).toList :: memA ρ zo :: memA ρ zn :: F :: L1) := by
        cases w with
        | true => exact hst5
        | false => exact hst5.publish
      have hst7 := hst6.ent (Ent.cons (Ent.cons memA_append))
      have := sq_shut (w := w) (L := F :: L1) (a := ⟨W.heap.size, 0, none⟩) (c := cap) (z := zo ++ zn) (sp := (Builtin.zeroCells z2.cells (cap - (n + m))).toList) (n := n + m) (l := l ++ ys) (by simp; omega) hlim hcap1 rfl (by simp [hzo, hzn]) (by simp [zeroCells_len, hzs])
      exact (hst7.ent this).ent Ent.swap

theorem SO.append {w : Bool} {x y : Operand} {A B : Option Addr} {n c m c2 t t2 e e2 sz n1 n2 n3 n4 b1 : Nat} {z z2 z3 : Value} {ke : TK} {l ys : List α} (hx : evO T x = some (.slice A n c)) (hy : evO T y = some (.slice B m c2))
    (hs : Take (sqAt w ρ A n c l) L L1) (src : Src ρ L B m ys)
    (ht : tget tb.tab t = some ⟨.sl e, n1, n2, z⟩) (ht2 : tget tb.tab t2 = some ⟨.sl e2, n3, n4, z3⟩) (hte : tget tb.tab e = some ⟨ke, sz, b1, z2⟩) (hzz : Nat.beq z2.cells.toList.length sz = true) (hsz : Nat.beq ρ.sz sz = true) (hb : Nat.ble b1 32768 = true) (hd : dstOk N d = true)
    (hlim : n + m ≤ lim)
    (kk : ∀ A' c', SO P rd N all rest (putD d (.slice A' (n + m) c') T) (sqAt w ρ A' (n + m) c' (l ++ ys) :: L1) ks Q) : SO P rd N all (⟨d, .call ⟨.builtin .append, #[x, y], #[t, t2]⟩, ty, pos, aft, none⟩ :: rest) T L ks Q := by
  refine SO.run (R := fun v L2 => ∃ A' c', v = .slice A' (n + m) c' ∧ L2 = sqAt w ρ A' (n + m) c' (l ++ ys) :: L1) rfl rfl hd ?_ (by rintro _ _ ⟨A', c', rfl, rfl⟩; exact kk A' c')
  intro q hq F W hst
  obtain ⟨A', c', W', hr, hst'⟩ := runs_append hs src ht ht2 hte hzz hsz hlim hb hst ty
  refine ⟨_, W', _, .inl ?_, ⟨A', c', rfl, rfl⟩, hst'⟩
  simp [execOp, resolve, invoke, builtin, hq _ _ hx, hq _ _ hy]
  rw [hr]; rfl

/-! ### Parts of slices that are read alone -/
theorem slAt_part {A A' : Option Addr} {n i k : Nat} {l : List α} (hi : i + k ≤ n) (hA : ∀ a, A = some a → a.spot = none → ∃ a', A' = some a' ∧ a'.spot = none ∧ a'.block = a.block ∧ (k = 0 ∨ a'.off = a.off + i * ρ.sz)) (hA0 : A = none → A' = none) :
    Ent (slAt ρ A n l :: L) (slAt ρ A' k ((l.drop i).take k) :: L) := by
  rintro r o ⟨x, y, d, le, ⟨h0, h1, h2, h3⟩, hL⟩
  refine ⟨fun _ _ => none, o, fun _ _ => .inl rfl, none_add, ⟨by simp; omega, Nat.le_trans (by omega) h1, fun h => ?_, fun a' ha' => ?_⟩, seps_up (Ro.le_refl _) (Own.le_trans (Own.le_add_right d) le) hL⟩
  · cases hAA : A with
    | none => rw [h2 hAA]; simp
    | some a => obtain ⟨a', h5, _⟩ := hA a hAA (h3 a hAA).1; rw [h5] at h; cases h
  · cases hAA : A with
    | none => rw [hA0 hAA] at ha'; cases ha'
    | some a =>
      obtain ⟨hs, z, hz, hc, hm⟩ := h3 a hAA
      obtain ⟨a2, h5, h6, h7, h8⟩ := hA a hAA hs
      rw [h5] at ha'; cases ha'
      refine ⟨h6, (z.drop i).take k, by rw [List.map_take, List.map_drop, hz], fun j v hj => ?_, fun j u h e => ?_⟩
      · -- the cells of the part
        have hk : k ≠ 0 := by rintro rfl; simp [flat] at hj
        have h8 := h8.resolve_left hk
        have key : flat ρ z = flat ρ (z.take i) ++ (flat ρ ((z.drop i).take k) ++ flat ρ ((z.drop i).drop k)) := by
          rw [← flat_append, List.take_append_drop, ← flat_append, List.take_append_drop]
        have hzl : z.length = n := by rw [h0, ← hz]; simp
        have hl1 : (flat ρ (z.take i)).length = i * ρ.sz := by rw [flat_length, List.length_take, hzl, Nat.min_eq_left (by omega)]
        have : (flat ρ z)[i * ρ.sz + j]? = some v := by
          rw [key, List.getElem?_append_right (by omega), hl1, Nat.add_sub_cancel_left, List.getElem?_append_left (row_lt hj)]; exact hj
        have := hc _ _ this
        rw [h7, h8]
        rwa [← Nat.add_assoc] at this
      · have e2 : z[i + j]? = some (u, h) := by
          rw [List.getElem?_take] at e
          split at e
          · rwa [List.getElem?_drop] at e
          · cases e
        exact hm _ u h e2

theorem run_slice_lo {t e sz n1 n2 b1 : Nat} {z z2 : Value} {ke : TK} (ht : tget tb.tab t = some ⟨.sl e, n1, n2, z⟩) (hte : tget tb.tab e = some ⟨ke, sz, b1, z2⟩) {A : Option Addr} {n c lo hi : Nat} (h1 : lo ≤ hi) (h2 : hi ≤ c) (h3 : n ≤ c) {vl vh : Option Value} {k1 k2 : IntKind}
    (hl : vl = some (.int k1 lo) ∨ (vl = none ∧ lo = 0)) (hh : vh = some (.int k2 hi) ∨ (vh = none ∧ hi = n)) (w : World) :
    (Instr.sliceAt t (.slice A n c) vl vh none).run P w = .ok (.slice (if c = lo then A else A.map (·.add (lo * sz))) (hi - lo) (c - lo)) w := by
  have hk := (tab_ok ht).k
  simp only [TK.ok] at hk
  have hs := sizeOf_ok (tab_ok hte) w
  simp only at hs
  have b1 : (0 : Int) ≤ (lo : Int) ∧ (lo : Int) ≤ ((hi : Nat) : Int) := ⟨by omega, by omega⟩
  have b2 : (0 : Int) ≤ (hi : Int) ∧ (hi : Int) ≤ ((c : Nat) : Int) := ⟨by omega, by omega⟩
  rcases hl with rfl | ⟨rfl, rfl⟩ <;> rcases hh with rfl | ⟨rfl, rfl⟩ <;>
    simp [Instr.sliceAt, Instr.slice, Instr.sliceBounds, Instr.sliceBound, asIntOf, run_und hk, hs, b1, b2, h1, h2, Int.ofNat_le]

def evOo (T : TT) : Option Operand → Option (Option Value)
  | none => some none
  | some x => match evO T x with
    | some v => some (some v)
    | none => none
theorem evOo_ok {q : Operand → Value} (hq : Knows T q) {x : Option Operand} {v : Option Value} (h : evOo T x = some v) : x.map q = v := by
  cases x with
  | none => simp only [evOo] at h; cases h; rfl
  | some x =>
    simp only [evOo] at h
    split at h
    · rename_i u hu; cases h; simp [hq _ _ hu]
    · cases h

/-- 'x[lo:hi]', of a slice that is read alone, not past its end. -/
theorem rd_slice {x : Operand} {lo hi : Option Operand} {A : Option Addr} {n c i j t e sz n1 n2 b1 : Nat} {z z2 : Value} {ke : TK} {l : List α} (hx : evO T x = some (.slice A n c)) {vl vh : Option Value} {k1 k2 : IntKind}
    (hlo : evOo T lo = some vl) (hhi : evOo T hi = some vh)
    (hh : Has (slAt ρ A n l) L) (ht : tget tb.tab t = some ⟨.sl e, n1, n2, z⟩) (hte : tget tb.tab e = some ⟨ke, sz, b1, z2⟩) (hsz : Nat.beq ρ.sz sz = true) (hl : vl = some (.int k1 i) ∨ (vl = none ∧ i = 0)) (hv : vh = some (.int k2 j) ∨ (vh = none ∧ j = n)) (h1 : i ≤ j) (h2 : j ≤ n) (h3 : n ≤ c) : Reads P T L ⟨d, .slice t x lo hi none, ty, pos, aft, none⟩ (fun v L2 => ∃ A' c', j - i ≤ c' ∧ v = .slice A' (j - i) c' ∧ L2 = slAt ρ A' (j - i) ((l.drop i).take (j - i)) :: L) := by
  intro q hq rr oo F hs
  have hszz := Nat.eq_of_beq_eq_true hsz
  subst hszz
  refine ⟨_, _, ⟨if c = i then A else A.map (·.add (i * ρ.sz)), c - i, by omega, rfl, rfl⟩, ?_, fun w sat => ?_⟩
  · refine (Ent.cons ?_) rr oo hs
    refine (hh.ent (pers_slAt _ _ _ _)).trans ?_
    refine slAt_part (by omega) (fun a ha has => ?_) (fun ha => ?_)
    · subst ha
      by_cases hc : c = i
      · rw [if_pos hc]; exact ⟨a, rfl, has, rfl, .inl (by omega)⟩
      · rw [if_neg hc]; exact ⟨a.add (i * ρ.sz), rfl, by rw [eadr_base has], by rw [eadr_base has], .inr (by rw [eadr_base has])⟩
    · subst ha; split <;> rfl
  · simp only [execOp, hq _ _ hx, evOo_ok hq hlo, evOo_ok hq hhi, Option.map_none, Sem.run_bind, run_slice_lo ht hte h1 (by omega : j ≤ c) h3 hl hv, Result.andThen_ok]
    rfl
theorem SO.slice {x : Operand} {lo hi : Option Operand} {A : Option Addr} {n c i j t e sz n1 n2 b1 : Nat} {z z2 : Value} {ke : TK} {l : List α} (hx : evO T x = some (.slice A n c)) {vl vh : Option Value} {k1 k2 : IntKind}
    (hlo : evOo T lo = some vl) (hhi : evOo T hi = some vh)
    (hh : Has (slAt ρ A n l) L) (ht : tget tb.tab t = some ⟨.sl e, n1, n2, z⟩) (hte : tget tb.tab e = some ⟨ke, sz, b1, z2⟩) (hsz : Nat.beq ρ.sz sz = true) (hd : dstOk N d = true) (hl : vl = some (.int k1 i) ∨ (vl = none ∧ i = 0)) (hv : vh = some (.int k2 j) ∨ (vh = none ∧ j = n)) (h1 : i ≤ j) (h2 : j ≤ n) (h3 : n ≤ c)
    (kk : ∀ A' c', j - i ≤ c' → SO P rd N all rest (putD d (.slice A' (j - i) c') T) (slAt ρ A' (j - i) ((l.drop i).take (j - i)) :: L) ks Q) : SO P rd N all (⟨d, .slice t x lo hi none, ty, pos, aft, none⟩ :: rest) T L ks Q :=
  SO.reads (rd_slice hx hlo hhi hh ht hte hsz hl hv h1 h2 h3) rfl rfl hd (by rintro _ _ ⟨A', c', hc, rfl, rfl⟩; exact kk A' c' hc)
theorem SQ.slice {RR : TT → List HP → Prop} {x : Operand} {lo hi : Option Operand} {A : Option Addr} {n c i j t e sz n1 n2 b1 : Nat} {z z2 : Value} {ke : TK} {l : List α} (hx : evO T x = some (.slice A n c)) {vl vh : Option Value} {k1 k2 : IntKind}
    (hlo : evOo T lo = some vl) (hhi : evOo T hi = some vh)
    (hh : Has (slAt ρ A n l) L) (ht : tget tb.tab t = some ⟨.sl e, n1, n2, z⟩) (hte : tget tb.tab e = some ⟨ke, sz, b1, z2⟩) (hsz : Nat.beq ρ.sz sz = true) (hd : dstOk N d = true) (hl : vl = some (.int k1 i) ∨ (vl = none ∧ i = 0)) (hv : vh = some (.int k2 j) ∨ (vh = none ∧ j = n)) (h1 : i ≤ j) (h2 : j ≤ n) (h3 : n ≤ c)
    (kk : ∀ A' c', j - i ≤ c' → SQ P N all rest (putD d (.slice A' (j - i) c') T) (slAt ρ A' (j - i) ((l.drop i).take (j - i)) :: L) RR) : SQ P N all (⟨d, .slice t x lo hi none, ty, pos, aft, none⟩ :: rest) T L RR :=
  SQ.reads (rd_slice hx hlo hhi hh ht hte hsz hl hv h1 h2 h3) rfl hd (by rintro _ _ ⟨A', c', hc, rfl, rfl⟩; exact kk A' c' hc)
end
end Go.Sl
