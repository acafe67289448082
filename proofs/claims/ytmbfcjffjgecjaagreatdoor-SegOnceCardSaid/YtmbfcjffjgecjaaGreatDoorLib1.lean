/- A part of a proof: a walk over the model by a small separation logic. -/
import Derived.Test.YtmbfcjffjgecjaaGreatDoorLib0
import Derived.Carry
import Derived.ChangeSame
import Derived.RowKit
import Derived.WideKeyArgs
import Derived.KernelRfl
import Derived.Laws.IdiomStrings
import Derived.Shelf.Strings.FuncGrows
import Derived.OpenShut
import Derived.Lib.IndexMore
import Derived.Lib.IndexLaws
import Derived.Lib.Bytealg
/-! Slices of one's own that are built at once. -/
set_option linter.unusedVariables false
set_option linter.unusedSectionVars false
namespace Go.Sl
section
variable {P : Program} [tb : Tab P] {rd : Option Nat} {N : Nat} {T : TT} {L L' L1 : List HP} {Q : Post} {ks : List K}
variable {all : Array Oper}
/-- Cells of one's own become a slice of one's own. -/
theorem toSq {α : Type} {ρ : Rep α} {b n : Nat} {cs : List Value} {l : List α} (z : List (α × ρ.V)) (hh : Take (pts b 0 cs) L L') (hz : z.map (·.1) = l) (hc : flat ρ z = cs) (hn : n = l.length) (hl : Nat.ble n lim = true) (ha : HasAll (allAtoms ρ z) L') (F : HP) (w : World) (hst : St w (F :: L)) :
    St w (F :: sqAt true ρ (some ⟨b, 0, none⟩) n n l :: L') := by
  have h1 : St w (pts b 0 cs :: F :: L') := hst.ent ((Ent.cons hh.ent).trans Ent.swap)
  subst hc
  have hm : St w (pts b 0 (flat ρ z) :: memA ρ z :: F :: L') := h1.ent (Ent.cons ((Ent.cons (ent_memA ha)).trans Ent.swap))
  have h2 : Ent (memA ρ z :: F :: L') (pts b (0 + n * ρ.sz) [] :: memA ρ z :: F :: L') :=
    fun r o h => ⟨fun _ _ => none, o, fun _ _ => .inl rfl, none_add, fun i v e => by simp at e, h⟩
  have h3 := hm.ent (Ent.cons h2)
  have := h3.ent (sq_shut (w := true) (a := ⟨b, 0, none⟩) hn (Nat.le_of_ble_eq_true hl) (Nat.le_refl n) rfl hz (by simp))
  exact this.ent Ent.swap
theorem toSqR {α : Type} {ρ : Rep α} {b n : Nat} {cs : List Value} {l : List α} (z : List (α × ρ.V)) (hh : Take (pts b 0 cs) L L') (hz : z.map (·.1) = l) (hc : flat ρ z = cs) (hn : n = l.length) (hl : Nat.ble n lim = true) (ha : HasAll (allAtoms ρ z) L') (F : HP) (w : World) (hst : St w (F :: L)) :
    St w (F :: sqAt false ρ (some ⟨b, 0, none⟩) n n l :: L') :=
  (((toSq z hh hz hc hn hl ha F w hst).ent Ent.swap).shut).ent Ent.swap
theorem SO.readable {ops : List Oper} {α : Type} {ρ : Rep α} {A : Option Addr} {n m : Nat} {l : List α} (hh : Take (sqAt false ρ A n m l) L L') (h : SO P rd N all ops T (slAt ρ A n l :: sqAt false ρ A n m l :: L') ks Q) : SO P rd N all ops T L ks Q :=
  SO.shift (fun F w hst => hst.ent (Ent.cons (hh.ent.trans sl_of_sq))) h
end
end Go.Sl

/-! From a contract to a law's row: what the arguments read as lies in memory that is only read; behind the call all of it is as it was. -/
set_option linter.unusedVariables false
set_option linter.unusedSectionVars false
namespace Go.Sl
open Go.ChangeShapes Go.WideShapes Go.RowKit

/-- All that lies in a world is read alone. -/
def ro0 (W : World) : Ro := ⟨fun i j => W.cell? ⟨i, j, none⟩, W⟩
def own0 : Own := fun _ _ => none
theorem sat0 (W : World) : Sat W (ro0 W) own0 :=
  ⟨fun i j v e => e, fun i j v e => (by cases e), fun i j x e => (by cases e), fun i j v c e e' => (by cases e'), Below.refl _ _, fun i j c e => (by cases e), fun i j e => (by cases e)⟩

theorem seps_nil_own {L : List HP} : ∀ {r : Ro}, (∀ A ∈ L, A.h r own0) → seps L r own0 := by
  induction L with
  | nil => intros; trivial
  | cons A L ih => intro r h; exact ⟨own0, own0, fun _ _ => .inl rfl, none_add, h A (by simp), ih fun B hB => h B (by simp [hB])⟩

/-- A contract of a law: the law is true, and all is as it was. -/
theorem Does.law {P : Program} {f : FuncId} {args : List Value} {pers : List HP} {X : Type} {ok : X → Prop} {v : Value} {out : X → List HP} (h : Does P f args pers [] X ok (fun _ => v) out) (W : World) (hp : ∀ A ∈ pers, A.h (ro0 W) own0) :
    Calls P f args.toArray W fun e W' => e = .returned v ∧ Below W.heap.size W W' := by
  have hst : St W (pin (ro0 W) own0 :: (pers ++ [])) := by
    refine ⟨ro0 W, own0, sat0 W, own0, own0, fun _ _ => .inl rfl, none_add, ⟨Ro.le_refl _, Own.le_refl _⟩, ?_⟩
    rw [List.append_nil]
    exact seps_nil_own hp
  refine (h.calls _ W hst).mono ?_
  rintro e W' ⟨x, hx, rfl, r', o', s', a1, b1, d1, le1, ⟨h1, h2⟩, _⟩
  refine ⟨rfl, ?_⟩
  have := s'.below
  rw [h1.bs] at this
  exact this

section
variable {H : Type} {enc : TypeId × Value → H} {P : Program}

theorem trodAll_stays (hl : laidOutB P = true) {W W' : World} (hb : Below W.heap.size W W') {sp : Nat → Bool} : ∀ {ts : List TypeId} {vs : List Value} {ds : List (DataW H)} {ps : List MemPlace}, (∀ t ∈ ts, P.readableRec t = true ∧ t < P.types.size) →
    DataW.TrodAll enc P W 0 (fun _ => true) true ts vs ds ps → (∀ x ∈ ps, x.block < W.heap.size) → (∀ x ∈ ps, sp x.block = true) → DataW.TrodAll enc P W' 0 sp true ts vs ds ps
  | [], _, _, _, _, h, _, _ => by
    obtain ⟨rfl, rfl, rfl⟩ := trodAll_nil h
    exact trodAll_mk0
  | t :: ts, _, _, _, hr, h, hlt, hs => by
    obtain ⟨v, vs, d, ds, p, q, rfl, rfl, rfl, h1, h2⟩ := trodAll_cons h
    refine ⟨p, q, WideElems.Trod_stays hl (hr t (by simp)).1 (hr t (by simp)).2 h1 (fun x hx => hb.same (hlt x (by simp [hx]))) (fun x hx => hs x (by simp [hx])), ?_, rfl⟩
    exact trodAll_stays hl hb (fun t ht => hr t (by simp [ht])) h2 (fun x hx => hlt x (by simp [hx])) (fun x hx => hs x (by simp [hx]))

def typesOk (P : Program) (ts : List TypeId) : Bool := ts.all fun t => P.readableRec t && decide (t < P.types.size)
theorem typesOk_all {ts : List TypeId} (h : typesOk P ts = true) : ∀ t ∈ ts, P.readableRec t = true ∧ t < P.types.size := fun t ht => by
  have := List.all_eq_true.1 h t ht
  simpa using this

/-- A law's post: true, and the arguments as they were. -/
theorem law_post {fn : Func} {s : ChangeSpec} {apart fresh handsOn again : Bool} {W W' : World} {args : Array Value} {ds : List (DataW H)} {before : List MemPlace} {tb : TypeId} (hl : laidOutB P = true) (ht : typesOk P fn.params.toList = true) (hr : fn.resultTypes = #[tb]) (hbool : P.underlying tb = some .bool)
    (hv : s.vars = []) (hfn : s.fn H ds = { results := [.lit (.bool true)], args := ds }) (hW : DataW.Whole enc P fn.params.toList s.vars apart W args.toList ds [] before) (hb : Below W.heap.size W W') :
    s.post enc P fn apart fresh handsOn again W args (.bool true) W' := by
  have hW0 := hW
  obtain ⟨p, q, hA, hV, rfl, hfz, hnd⟩ := hW
  have hlt : ∀ x ∈ p ++ q, x.block < W.heap.size := fun x hx => hW0.lt x hx
  rw [hv] at hV
  obtain rfl : q = [] := hV
  have hold : ∀ x ∈ p ++ [], (fun b => decide (b < W.heap.size)) x.block = true := fun x hx => by simpa using hlt x hx
  have hargs : ∀ sp : Nat → Bool, (∀ x ∈ p ++ [], sp x.block = true) → DataW.TrodAll enc P W' 0 sp true fn.params.toList args.toList (s.fn H (ds ++ [])).args p := fun sp hsp => by
    rw [List.append_nil, hfn]
    exact trodAll_stays hl hb (typesOk_all ht) hA (fun x hx => hlt x (by simp [hx])) (fun x hx => hsp x (by simp [hx]))
  have hres : ∀ (b : Nat) (sp : Nat → Bool) (hd : Bool), DataW.TrodAll enc P W' b sp hd fn.resultTypes.toList ((Value.bool true).resultList fn.resultTypes.size) (s.fn H (ds ++ [])).results [] := fun b sp hd => by
    rw [List.append_nil, hfn, hr]
    exact trodAll_mk1 ⟨1, by simp [DataW.trod, Value.cells, hbool]⟩
  have hvars : ∀ sp : Nat → Bool, DataW.TrodVars enc P W' sp s.vars (s.fn H (ds ++ [])).vars [] := fun sp => by
    rw [List.append_nil, hfn, hv]; rfl
  refine ⟨ds, [], p ++ [], [], p, [], hW0, hres _ _ _, hargs _ hold, hvars _, hb.frame _, fun _ => ?_⟩
  refine ⟨?_, _, _, ([] ++ p) ++ [], ⟨[] ++ p, [], trodAll_append (hargs _ (fun _ _ => rfl)) (hres _ _ _), hvars _, rfl, ?_, ?_⟩, ?_⟩
  · exact ok_one hr rfl (by simp [Value.okWide, Cell.okWide, Cell.ok, hbool])
  · intro b off hp
    have hp' : MemPlace.cell b off ∈ p ++ [] := by simpa using hp
    have hlt' : b < W.heap.size := hlt _ hp'
    rw [hb.frozen (p := ⟨b, off, none⟩) hlt']
    exact hfz b off hp'
  · intro ha
    have := hnd ha
    simpa using this
  · intro x hx _
    simpa using hx
end
end Go.Sl

/-! What an argument reads as lies in memory. -/
set_option linter.unusedVariables false
set_option linter.unusedSectionVars false
namespace Go.Sl
open Go.ChangeShapes Go.WideShapes Go.RowKit
section
variable {H : Type} {enc : TypeId × Value → H} {P : Program} {W : World}

/-- Cells that read as data of type t are those of one of α, with p. -/
def Rd {α : Type} (enc : TypeId × Value → H) (P : Program) (W : World) (t : TypeId) (ρ : Rep α) (p : α → Prop) : Prop :=
  ∀ fuel cs x, DataW.trod enc P W 0 (fun _ => true) true fuel t cs = some x → ∃ a h, p a ∧ cs = ρ.cells a h ∧ seps (ρ.atoms a h) (ro0 W) own0

theorem slot_ok {P : Program} {t e : TypeId} {r : Reach} {b0 : Nat} {v : Value} (ht : P.underlying t = some (.slice e)) (h : Value.okWide P W r b0 t v) : ∃ A n c, v = .slice A n c ∧ (∀ a, A = some a → a.spot = none) := by
  obtain ⟨A, n, c, rfl⟩ := okWide_slice ht h
  refine ⟨A, n, c, rfl, ?_⟩
  rintro a rfl
  simp only [Value.okWide, ht, Cell.okWide, Cell.ok] at h
  exact h.2.2.2.1

theorem flat_cell {α : Type} {ρ : Rep α} (z : List (α × ρ.V)) {i : Nat} {v : Value} (h : (flat ρ z)[i]? = some v) : ∃ k j x y, z[k]? = some (x, y) ∧ i = k * ρ.sz + j ∧ j < ρ.sz ∧ (ρ.cells x y)[j]? = some v := by
  have hi : i < z.length * ρ.sz := by rw [← flat_length]; exact row_lt h
  have hp := ρ.pos
  have hk : i / ρ.sz < z.length := Nat.div_lt_of_lt_mul (by rw [Nat.mul_comm]; exact hi)
  have hj : i % ρ.sz < ρ.sz := Nat.mod_lt _ hp
  have he : i = i / ρ.sz * ρ.sz + i % ρ.sz := by rw [Nat.mul_comm]; exact (Nat.div_add_mod i ρ.sz).symm
  obtain ⟨⟨x, y⟩, hz'⟩ : ∃ xy, z[i / ρ.sz]? = some xy := ⟨_, List.getElem?_eq_getElem hk⟩
  refine ⟨_, _, x, y, hz', he, hj, ?_⟩
  rw [← flat_get z _ _ x y hz' hj, ← he]; exact h

theorem read_slice {α : Type} {ρ : Rep α} {p : α → Prop} {t e : TypeId} {r : Reach} {b0 : Nat} {v : Value} {d : DataW H} {ps : List MemPlace} (ht : P.underlying t = some (.slice e)) (hsz : P.cellsOf e = ρ.sz) (he : Rd enc P W e ρ p)
    (hok : Value.okWide P W r b0 t v) (h : DataW.Trod enc P W 0 (fun _ => true) true t v d ps) :
    ∃ A n c, ∃ l : List α, v = .slice A n c ∧ n = l.length ∧ n ≤ c ∧ (∀ x ∈ l, p x) ∧ (n ≤ lim → (slAt ρ A n l).h (ro0 W) own0) := by
  obtain ⟨A, n, c, rfl, hspot⟩ := slot_ok ht hok
  obtain ⟨fuel, hf⟩ := h
  rcases DataW.trod_slice ht hf with ⟨hcs, hx⟩ | ⟨a, len, cap, elems, rest, m, _, hcs, hx, hb, hl, hm, hlen, hel, _, _⟩
  · simp only [Value.cells] at hcs
    obtain ⟨rfl, rfl, rfl⟩ : A = none ∧ n = 0 ∧ c = 0 := by simpa using hcs
    exact ⟨none, 0, 0, [], rfl, rfl, Nat.le_refl _, by simp, fun h => ⟨rfl, h, fun _ => rfl, fun a h => by cases h⟩⟩
  · simp only [Value.cells] at hcs
    obtain ⟨rfl, rfl, rfl⟩ : A = some a ∧ n = len ∧ c = cap := by simpa using hcs
    have hs := hspot a rfl
    have each : ∀ i : Fin n, ∃ xy : α × ρ.V, p xy.1 ∧ (∀ j v, (ρ.cells xy.1 xy.2)[j]? = some v → W.cell? ⟨a.block, a.off + (i.1 * ρ.sz + j), none⟩ = some v) ∧ seps (ρ.atoms xy.1 xy.2) (ro0 W) own0 := by
      intro i
      have hi := hel i.1 i.2
      have he' : i.1 < elems.length := by rw [hlen]; exact i.2
      rw [List.getElem?_eq_getElem he', Option.bind_eq_some_iff] at hi
      obtain ⟨cs, hcs, htr⟩ := hi
      obtain ⟨x, y, hp, rfl, hat⟩ := he m cs _ htr
      refine ⟨(x, y), hp, fun j v hv => ?_, hat⟩
      obtain ⟨_, hlc, hc⟩ := World.cells?_some hcs
      have hj := row_lt hv
      rw [hsz] at hc
      have := hc j (by rw [ρ.len] at hj; exact hj)
      rw [hv, eadr_base hs, Addr.add] at this
      split at this
      · rename_i h0; rw [h0, Nat.add_zero]; exact this
      · rw [← Nat.add_assoc]; exact this
    let f : Fin n → α × ρ.V := fun i => (each i).choose
    have hfp : ∀ i, _ := fun i => (each i).choose_spec
    have hget : ∀ (k : Nat) x, (List.ofFn f)[k]? = some x → ∃ hk : k < n, x = f ⟨k, hk⟩ := fun k x hx => by
      have hk := row_lt hx
      simp at hk
      refine ⟨hk, ?_⟩
      rw [List.getElem?_ofFn] at hx
      simpa [hk] using hx.symm
    refine ⟨some a, n, c, (List.ofFn f).map (·.1), rfl, by simp, hl, ?_, fun hlim => ⟨by simp, hlim, fun h => (by cases h), fun a' ha => ?_⟩⟩
    · intro x hx
      obtain ⟨y, hy, rfl⟩ := List.mem_map.1 hx
      obtain ⟨k, hk⟩ := List.getElem?_of_mem hy
      obtain ⟨hk', rfl⟩ := hget k y hk
      exact (hfp ⟨k, hk'⟩).1
    · cases ha
      refine ⟨fun _ => hs, List.ofFn f, rfl, fun i v hv => ?_, fun i x y hx => ?_⟩
      · obtain ⟨k, j, x, y, hz, hi, hj, hv⟩ := flat_cell _ hv
        obtain ⟨hk, hxy⟩ := hget k _ hz
        have := (hfp ⟨k, hk⟩).2.1 j v (by show (ρ.cells (f ⟨k, hk⟩).1 (f ⟨k, hk⟩).2)[j]? = _; rw [← hxy]; exact hv)
        rw [hi]; exact this
      · obtain ⟨hk, hxy⟩ := hget i _ hx
        have := (hfp ⟨i, hk⟩).2.2
        change seps (ρ.atoms (f ⟨i, hk⟩).1 (f ⟨i, hk⟩).2) _ _ at this
        rw [← hxy] at this
        exact this
end
end Go.Sl

/-! Maps: what they hold; looking up, putting in, taking away. -/
set_option linter.unusedVariables false
set_option linter.unusedSectionVars false
set_option linter.unusedSimpArgs false
namespace Go.Sl

/-- Keys of a kind that the model compares at once. -/
structure KR (κ : Type) where
  kd : TypeDesc
  v : κ → Value
  now : ∀ a b, (a = b ∧ Instr.sameNow kd (v a) (v b) = some true) ∨ (a ≠ b ∧ Instr.sameNow kd (v a) (v b) = some false)
  bits : ∀ a, Instr.sameBits 10000 (v a) (v a) = true
  chk : ∀ (P : Program) (t : Nat) (e : Bool) (a : κ) (w : World), P.underlying t = some kd → (Instr.checkKey e 10000 t (v a)).run P w = .ok () w

theorem run_und' {P : Program} {t : Nat} {d : TypeDesc} (h : P.underlying t = some d) (w : World) : (underlying t).run P w = .ok d w := by
  simp [underlying, program, Sem.run, bind, Sem.bind, h, pure]
theorem ba_beq (a b : ByteArray) : (a == b) = decide (a = b) := by
  cases a with | mk x => cases b with | mk y =>
  show (x == y) = _
  by_cases h : x = y
  · subst h; simp
  · have : ¬ (ByteArray.mk x = ByteArray.mk y) := fun e => h (by injection e)
    simp [h]
def KI (k : IntKind) : KR Int where
  kd := .int k
  v := fun n => .int k n
  now := fun a b => by
    by_cases h : a = b
    · left; exact ⟨h, by simp [Instr.sameNow, h]⟩
    · right; exact ⟨h, by simp [Instr.sameNow, h]⟩
  bits := fun a => by simp [Instr.sameBits]
  chk := fun P t e a w h => by
    unfold Instr.checkKey
    simp [Sem.run_bind, run_und' h]
def KS : KR ByteArray where
  kd := .string
  v := fun n => .string n
  now := fun a b => by
    by_cases h : a = b
    · left; exact ⟨h, by simp [Instr.sameNow, ba_beq, h]⟩
    · right; exact ⟨h, by simp [Instr.sameNow, ba_beq, h]⟩
  bits := fun a => by simp [Instr.sameBits, ba_beq]
  chk := fun P t e a w h => by
    unfold Instr.checkKey
    simp [Sem.run_bind, run_und' h]

/-! ### Plain maps -/
section
variable {κ α : Type} [DecidableEq κ]
def mget : List (κ × α) → κ → Option α
  | [], _ => none
  | (k', v) :: l, k => if k' = k then some v else mget l k
def mput : List (κ × α) → κ → α → List (κ × α)
  | [], k, v => [(k, v)]
  | (k', v') :: l, k, v => if k' = k then (k, v) :: l else (k', v') :: mput l k v
def mdel : List (κ × α) → κ → List (κ × α)
  | [], _ => []
  | (k', v') :: l, k => if k' = k then l else (k', v') :: mdel l k
def keysM (l : List (κ × α)) : List κ := l.map (·.1)
theorem mget_none : ∀ {l : List (κ × α)} {k : κ}, (∀ p ∈ l, p.1 ≠ k) → mget l k = none
  | [], _, _ => rfl
  | (k', v) :: l, k, h => by
    simp only [mget]; rw [if_neg (h (k', v) (by simp))]
    exact mget_none fun p hp => h p (by simp [hp])
theorem mget_some : ∀ {l1 l2 : List (κ × α)} {k : κ} {v : α}, (∀ p ∈ l1, p.1 ≠ k) → mget (l1 ++ (k, v) :: l2) k = some v
  | [], l2, k, v, _ => by simp [mget]
  | (k', v') :: l1, l2, k, v, h => by
    simp only [mget, List.cons_append]; rw [if_neg (h (k', v') (by simp))]
    exact mget_some fun p hp => h p (by simp [hp])
theorem mput_new : ∀ {l : List (κ × α)} {k : κ} {v : α}, (∀ p ∈ l, p.1 ≠ k) → mput l k v = l ++ [(k, v)]
  | [], _, _, _ => rfl
  | (k', v') :: l, k, v, h => by
    simp only [mput, List.cons_append]; rw [if_neg (h (k', v') (by simp)), mput_new fun p hp => h p (by simp [hp])]
theorem mput_old : ∀ {l1 l2 : List (κ × α)} {k : κ} {v v' : α}, (∀ p ∈ l1, p.1 ≠ k) → mput (l1 ++ (k, v') :: l2) k v = l1 ++ (k, v) :: l2
  | [], l2, k, v, v', _ => by simp [mput]
  | (k1, v1) :: l1, l2, k, v, v', h => by
    simp only [mput, List.cons_append]; rw [if_neg (h (k1, v1) (by simp)), mput_old fun p hp => h p (by simp [hp])]
theorem mdel_none : ∀ {l : List (κ × α)} {k : κ}, (∀ p ∈ l, p.1 ≠ k) → mdel l k = l
  | [], _, _ => rfl
  | (k', v') :: l, k, h => by
    simp only [mdel]; rw [if_neg (h (k', v') (by simp)), mdel_none fun p hp => h p (by simp [hp])]
theorem mdel_old : ∀ {l1 l2 : List (κ × α)} {k : κ} {v : α}, (∀ p ∈ l1, p.1 ≠ k) → mdel (l1 ++ (k, v) :: l2) k = l1 ++ l2
  | [], l2, k, v, _ => by simp [mdel]
  | (k1, v1) :: l1, l2, k, v, h => by
    simp only [mdel, List.cons_append]; rw [if_neg (h (k1, v1) (by simp)), mdel_old fun p hp => h p (by simp [hp])]
theorem mget_mput (l : List (κ × α)) (k j : κ) (v : α) : mget (mput l k v) j = if j = k then some v else mget l j := by
  induction l with
  | nil => simp only [mput, mget]; by_cases h : k = j <;> simp [h, eq_comm]
  | cons p l ih =>
    obtain ⟨k', v'⟩ := p
    simp only [mput]
    by_cases h : k' = k
    · subst h; rw [if_pos rfl]; simp only [mget]; by_cases hj : k' = j
      · simp [hj]
      · rw [if_neg hj, if_neg (fun e => hj e.symm), if_neg hj]
    · rw [if_neg h]; simp only [mget, ih]
      by_cases hj : k' = j
      · subst hj; simp [h]
      · simp [hj]
theorem mget_mdel {l : List (κ × α)} (hn : (keysM l).Nodup) (k j : κ) : mget (mdel l k) j = if j = k then none else mget l j := by
  induction l with
  | nil => simp [mdel, mget]
  | cons p l ih =>
    obtain ⟨k', v'⟩ := p
    simp only [keysM, List.map_cons, List.nodup_cons] at hn
    simp only [mdel]
    by_cases h : k' = k
    · subst h; rw [if_pos rfl]; simp only [mget]
      by_cases hj : j = k'
      · subst hj; rw [if_pos rfl]; exact mget_none fun p hp he => hn.1 (List.mem_map.2 ⟨p, hp, he⟩)
      · rw [if_neg hj, if_neg (fun e => hj e.symm)]
    · rw [if_neg h]; simp only [mget, ih hn.2]
      by_cases hj : k' = j
      · subst hj; simp [h]
      · simp [hj]
theorem keys_mput (l : List (κ × α)) (k : κ) (v : α) : keysM (mput l k v) = if k ∈ keysM l then keysM l else keysM l ++ [k] := by
  induction l with
  | nil => simp [mput, keysM]
  | cons p l ih =>
    obtain ⟨k', v'⟩ := p
    simp only [mput]
    by_cases h : k' = k
    · subst h; simp [keysM]
    · rw [if_neg h]
      simp only [keysM, List.map_cons, List.mem_cons] at ih ⊢
      rw [ih]
      by_cases hk : k ∈ l.map (·.1)
      · simp [hk]
      · simp [hk]; exact fun e => h e.symm
theorem nodup_mput {l : List (κ × α)} (hn : (keysM l).Nodup) (k : κ) (v : α) : (keysM (mput l k v)).Nodup := by
  rw [keys_mput]
  split
  · exact hn
  · rename_i h
    rw [List.nodup_append]
    exact ⟨hn, by simp, fun a ha b hb => by simp at hb; subst hb; intro e; subst e; exact h ha⟩
theorem mdel_sub : ∀ (l : List (κ × α)) (k : κ), (mdel l k).Sublist l
  | [], _ => List.Sublist.slnil
  | (k', v') :: l, k => by
    simp only [mdel]
    split
    · exact List.sublist_cons_self _ _
    · exact (mdel_sub l k).cons_cons _
theorem nodup_mdel {l : List (κ × α)} (hn : (keysM l).Nodup) (k : κ) : (keysM (mdel l k)).Nodup := hn.sublist ((mdel_sub l k).map _)
theorem mget_isSome {l : List (κ × α)} {k : κ} : (mget l k).isSome = true ↔ k ∈ keysM l := by
  induction l with
  | nil => simp [mget, keysM]
  | cons p l ih =>
    obtain ⟨k', v'⟩ := p
    simp only [mget, keysM, List.map_cons, List.mem_cons]
    by_cases h : k' = k
    · simp [h]
    · rw [if_neg h, ih]; simp only [keysM]; exact ⟨fun h' => .inr h', fun h' => h'.resolve_left (fun e => h e.symm)⟩
end

/-! ### A map in memory -/
section
variable {κ α : Type} [DecidableEq κ]
abbrev ZM (κ : Type) {α : Type} (ρ : Rep α) := (κ × α) × (ρ.V × Nat)
def entM (kr : KR κ) (ρ : Rep α) (p : ZM κ ρ) : MapEntry := { key := kr.v p.1.1, val := ρ.val p.1.2 p.2.1, born := p.2.2 }
/-- A map of one's own. -/
def mpAt (kr : KR κ) (ρ : Rep α) (b : Nat) (l : List (κ × α)) : HP :=
  ⟨fun r o => ∃ (z : List (ZM κ ρ)) (clock : Nat), z.map (·.1) = l ∧ (keysM l).Nodup ∧ ((z.map fun p : ZM κ ρ => p.2.2).Pairwise (· < ·) ∧ ∀ p ∈ z, p.2.2 < clock) ∧ o b 0 = some (.obj (.map (z.map (entM kr ρ)).toArray clock)) ∧ ∀ p ∈ z, seps (ρ.atoms p.1.2 p.2.1) r own0,
   fun r r' o o' hr ho ⟨z, clock, h1, h2, h3, h4, h5⟩ => ⟨z, clock, h1, h2, h3, ho _ _ _ h4, fun p hp => seps_up hr (Own.le_refl _) (h5 p hp)⟩⟩

theorem split_key (ρ : Rep α) (z : List (ZM κ ρ)) (k : κ) : (∀ p ∈ z, p.1.1 ≠ k) ∨ ∃ z1 p z2, z = z1 ++ p :: z2 ∧ (∀ q ∈ z1, q.1.1 ≠ k) ∧ p.1.1 = k := by
  induction z with
  | nil => left; simp
  | cons p z ih =>
    by_cases h : p.1.1 = k
    · right; exact ⟨[], p, z, rfl, by simp, h⟩
    · rcases ih with h' | ⟨z1, q, z2, rfl, h1, h2⟩
      · left; intro q hq
        rcases List.mem_cons.1 hq with rfl | hq
        · exact h
        · exact h' q hq
      · right
        refine ⟨p :: z1, q, z2, rfl, fun r hr => ?_, h2⟩
        rcases List.mem_cons.1 hr with rfl | hr
        · exact h
        · exact h1 r hr
theorem findNow_none {kr : KR κ} {ρ : Rep α} {k : κ} : ∀ {z : List (ZM κ ρ)} {i : Nat}, (∀ p ∈ z, p.1.1 ≠ k) → Instr.findNow kr.kd (kr.v k) (z.map (entM kr ρ)) i = some none
  | [], i, _ => rfl
  | p :: z, i, h => by
    have h1 := h p (by simp)
    have h2 : Instr.sameNow kr.kd (kr.v k) (kr.v p.1.1) = some false := by
      rcases kr.now k p.1.1 with ⟨e, _⟩ | ⟨_, e⟩
      · exact absurd e.symm h1
      · exact e
    simp only [List.map_cons, Instr.findNow, entM, h2]
    exact findNow_none fun q hq => h q (by simp [hq])
theorem findNow_some {kr : KR κ} {ρ : Rep α} {p : ZM κ ρ} {z2 : List (ZM κ ρ)} : ∀ {z1 : List (ZM κ ρ)} {i : Nat}, (∀ q ∈ z1, q.1.1 ≠ p.1.1) → Instr.findNow kr.kd (kr.v p.1.1) ((z1 ++ p :: z2).map (entM kr ρ)) i = some (some (i + z1.length, ρ.val p.1.2 p.2.1))
  | [], i, _ => by
    have h2 : Instr.sameNow kr.kd (kr.v p.1.1) (kr.v p.1.1) = some true := by
      rcases kr.now p.1.1 p.1.1 with ⟨_, e⟩ | ⟨e, _⟩
      · exact e
      · exact absurd rfl e
    simp only [List.nil_append, List.map_cons, Instr.findNow, entM, h2]
    simp
  | q :: z1, i, h => by
    have h2 : Instr.sameNow kr.kd (kr.v p.1.1) (kr.v q.1.1) = some false := by
      rcases kr.now p.1.1 q.1.1 with ⟨e, _⟩ | ⟨_, e⟩
      · exact absurd e.symm (h q (by simp))
      · exact e
    have := findNow_some (kr := kr) (p := p) (z2 := z2) (z1 := z1) (i := i + 1) (fun r hr => h r (by simp [hr]))
    simp only [List.cons_append, List.map_cons, Instr.findNow, entM, h2]
    simp only [List.map_append, List.map_cons] at this
    simp only [List.map_append, List.map_cons]
    rw [show i + (q :: z1).length = i + 1 + z1.length by simp; omega]
    exact this
theorem run_findKey {P : Program} {kr : KR κ} {t : Nat} (ht : P.underlying t = some kr.kd) {k : Value} {es : List MapEntry} {res : Option (Nat × Value)} (h : Instr.findNow kr.kd k es 0 = some res) (w : World) : (Instr.findKey t k es).run P w = .ok res w := by
  unfold Instr.findKey
  simp [Sem.run_bind, run_und' ht, h]
theorem run_getMap {P : Program} {w : World} {b : Nat} {x : Obj} (h : w.heap[b]? = some x) (hx : notCells x) : (getObj b).run P w = .ok x w := by
  cases x <;> first | exact hx.elim | simp [getObj, Sem.run, h]
end

theorem run_setObj_some {P : Program} {w : World} {b : Nat} {x o : Obj} (h : w.heap[b]? = some x) (hx : notCells x) : (setObj b o).run P w = .ok () { w with heap := w.heap.setIfInBounds b o } := by
  cases x <;> first | exact hx.elim | simp [setObj, Sem.run, h]
def kdOf : TK → Option TypeDesc
  | .int k => some (.int k)
  | .str => some .string
  | .bool => some .bool
  | _ => none
theorem kdOf_ok {P : Program} {t : Nat} {ti : TI} (h : ti.ok P t) {d : TypeDesc} (e : kdOf ti.k = some d) : P.underlying t = some d := by
  have hk := h.k
  revert hk e
  cases ti.k <;> simp only [kdOf, TK.ok] <;> intro e hk <;> first | (cases e; done) | (cases e; exact hk)

section
variable {P : Program} [tb : Tab P] {rd : Option Nat} {N : Nat} {T : TT} {L L' L1 : List HP} {Q : Post} {ks : List K}
variable {all : Array Oper} {rest : List Oper} {d : Option Tmp} {ty : TypeId} {pos : String} {aft : Array Edge}
variable {κ α : Type} [DecidableEq κ] {kr : KR κ} {ρ : Rep α}

def lookV (ok : Bool) (v : Value) (is : Bool) : Value := if ok then .tuple #[v, .bool is] else v
theorem rd_lookup {x y : Operand} {t e kt b n1 n2 : Nat} {z0 : Value} {tik tie : TI} {l : List (κ × α)} {key : κ} {ok : Bool} (hx : evO T x = some (.map (some b))) (htk : Take (mpAt kr ρ b l) L L') (hy : evO T y = some (kr.v key))
    (ht : tget tb.tab t = some ⟨.map kt e, n1, n2, z0⟩) (hkt : tget tb.tab kt = some tik) (hkk : kdOf tik.k = some kr.kd) (hte : tget tb.tab e = some tie) :
    Reads P T L ⟨d, .lookup t x y ok, ty, pos, aft, none⟩ (fun v L2 => (∃ u h, mget l key = some u ∧ v = lookV ok (ρ.val u h) true ∧ L2 = ρ.atoms u h ++ L) ∨ (mget l key = none ∧ v = lookV ok tie.zero false ∧ L2 = L)) := by
  intro q hq rr oo F hs
  have hs1 := ((Ent.cons htk.ent).trans Ent.swap) rr oo hs
  obtain ⟨x1, y1, d1, le1, ⟨z, clock, rfl, hn, hb, ho, hm⟩, hL⟩ := hs1
  have hmt := (tab_ok ht).k
  have hkd := kdOf_ok (tab_ok hkt) hkk
  have hobj : ∀ w, Sat w rr oo → w.heap[b]? = some (.map (z.map (entM kr ρ)).toArray clock) := fun w sat => (sat.obj _ _ _ (le1 _ _ _ (Own.le_add_left _ _ _ _ _ ho))).2.1
  simp only [TK.ok] at hmt
  rcases split_key ρ z key with hno | ⟨z1, p, z2, rfl, h1, rfl⟩
  · refine ⟨_, L, .inr ⟨mget_none (fun p hp => by obtain ⟨p', hp', rfl⟩ := List.mem_map.1 hp; exact hno p' hp'), rfl, rfl⟩, hs, fun w sat => ?_⟩
    simp only [execOp, hq _ _ hx, hq _ _ hy, Instr.lookup, Sem.run_bind, run_und hmt, Result.andThen_ok, run_getMap (hobj w sat) trivial, Sem.run_pure, kr.chk P kt _ key _ hkd,
      run_findKey hkd (findNow_none (kr := kr) hno), zero_ok (tab_ok hte)]
    cases ok <;> rfl
  · have hget : mget ((z1 ++ p :: z2).map (·.1)) p.1.1 = some p.1.2 := by
      rw [List.map_append, List.map_cons]
      exact mget_some (k := p.1.1) (v := p.1.2) (fun q hq => by obtain ⟨q', hq', rfl⟩ := List.mem_map.1 hq; exact h1 q' hq')
    refine ⟨_, _, .inl ⟨p.1.2, p.2.1, hget, rfl, rfl⟩, ?_, fun w sat => ?_⟩
    · have hat := hm p (by simp)
      have hA : (mpAt kr ρ b ((z1 ++ p :: z2).map (·.1))).h rr x1 := ⟨_, clock, rfl, hn, hb, ho, hm⟩
      have h7 : seps (big (ρ.atoms p.1.2 p.2.1) :: F :: L) rr oo := ⟨fun _ _ => none, oo, fun _ _ => .inl rfl, none_add, hat, hs⟩
      exact (Ent.swap.trans (Ent.cons ent_big)) rr oo h7
    · have := findNow_some (kr := kr) (p := p) (z2 := z2) (i := 0) h1
      simp only [execOp, hq _ _ hx, hq _ _ hy, Instr.lookup, Sem.run_bind, run_und hmt, Result.andThen_ok, run_getMap (hobj w sat) trivial, Sem.run_pure, kr.chk P kt _ p.1.1 _ hkd,
        run_findKey hkd this]
      cases ok <;> rfl
theorem SO.lookup {x y : Operand} {t e kt b n1 n2 : Nat} {z0 : Value} {tik tie : TI} {l : List (κ × α)} {key : κ} {ok : Bool} (hx : evO T x = some (.map (some b))) (htk : Take (mpAt kr ρ b l) L L') (hy : evO T y = some (kr.v key))
    (ht : tget tb.tab t = some ⟨.map kt e, n1, n2, z0⟩) (hkt : tget tb.tab kt = some tik) (hkk : kdOf tik.k = some kr.kd) (hte : tget tb.tab e = some tie) (hd : dstOk N d = true)
    (yes : ∀ u h, mget l key = some u → SO P rd N all rest (putD d (lookV ok (ρ.val u h) true) T) (ρ.atoms u h ++ L) ks Q) (no : mget l key = none → SO P rd N all rest (putD d (lookV ok tie.zero false) T) L ks Q) :
    SO P rd N all (⟨d, .lookup t x y ok, ty, pos, aft, none⟩ :: rest) T L ks Q :=
  SO.reads (rd_lookup hx htk hy ht hkt hkk hte) rfl rfl hd (by rintro _ _ (⟨u, h, hg, rfl, rfl⟩ | ⟨hg, rfl, rfl⟩) <;> first | exact yes _ _ (by assumption) | exact no (by assumption))
theorem SQ.lookup {RR : TT → List HP → Prop} {x y : Operand} {t e kt b n1 n2 : Nat} {z0 : Value} {tik tie : TI} {l : List (κ × α)} {key : κ} {ok : Bool} (hx : evO T x = some (.map (some b))) (htk : Take (mpAt kr ρ b l) L L') (hy : evO T y = some (kr.v key))
    (ht : tget tb.tab t = some ⟨.map kt e, n1, n2, z0⟩) (hkt : tget tb.tab kt = some tik) (hkk : kdOf tik.k = some kr.kd) (hte : tget tb.tab e = some tie) (hd : dstOk N d = true)
    (yes : ∀ u h, mget l key = some u → SQ P N all rest (putD d (lookV ok (ρ.val u h) true) T) (ρ.atoms u h ++ L) RR) (no : mget l key = none → SQ P N all rest (putD d (lookV ok tie.zero false) T) L RR) :
    SQ P N all (⟨d, .lookup t x y ok, ty, pos, aft, none⟩ :: rest) T L RR :=
  SQ.reads (rd_lookup hx htk hy ht hkt hkk hte) rfl hd (by rintro _ _ (⟨u, h, hg, rfl, rfl⟩ | ⟨hg, rfl, rfl⟩) <;> first | exact yes _ _ (by assumption) | exact no (by assumption))

/-- A map's length. -/
theorem rd_lenMap {x : Operand} {t e kt b n1 n2 : Nat} {z0 : Value} {l : List (κ × α)} (hx : evO T x = some (.map (some b))) (htk : Take (mpAt kr ρ b l) L L')
    (ht : tget tb.tab t = some ⟨.map kt e, n1, n2, z0⟩) :
    Reads P T L ⟨d, .call ⟨.builtin .len, #[x], #[t]⟩, ty, pos, aft, none⟩ (fun v L2 => v = .int .i64 (l.length : Int) ∧ L2 = L) := by
  intro q hq rr oo F hs
  have hs1 := ((Ent.cons htk.ent).trans Ent.swap) rr oo hs
  obtain ⟨x1, y1, d1, le1, ⟨z, clock, rfl, hn, hb, ho, hm⟩, hL⟩ := hs1
  have hmt := (tab_ok ht).k
  simp only [TK.ok] at hmt
  refine ⟨_, L, ⟨rfl, rfl⟩, hs, fun w sat => ?_⟩
  have hobj : w.heap[b]? = some (.map (z.map (entM kr ρ)).toArray clock) := (sat.obj _ _ _ (le1 _ _ _ (Own.le_add_left _ _ _ _ _ ho))).2.1
  simp [execOp, resolve, invoke, builtin, hq _ _ hx, Builtin.len_, Sem.run_bind, run_und hmt, run_getMap hobj trivial]
  rfl
theorem SO.lenMap {x : Operand} {t e kt b n1 n2 : Nat} {z0 : Value} {l : List (κ × α)} (hx : evO T x = some (.map (some b))) (htk : Take (mpAt kr ρ b l) L L')
    (ht : tget tb.tab t = some ⟨.map kt e, n1, n2, z0⟩) (hd : dstOk N d = true) (k : SO P rd N all rest (putD d (.int .i64 (l.length : Int)) T) L ks Q) :
    SO P rd N all (⟨d, .call ⟨.builtin .len, #[x], #[t]⟩, ty, pos, aft, none⟩ :: rest) T L ks Q :=
  SO.reads (rd_lenMap hx htk ht) rfl rfl hd (by rintro _ _ ⟨rfl, rfl⟩; exact k)
theorem SQ.lenMap {RR : TT → List HP → Prop} {x : Operand} {t e kt b n1 n2 : Nat} {z0 : Value} {l : List (κ × α)} (hx : evO T x = some (.map (some b))) (htk : Take (mpAt kr ρ b l) L L')
    (ht : tget tb.tab t = some ⟨.map kt e, n1, n2, z0⟩) (hd : dstOk N d = true) (k : SQ P N all rest (putD d (.int .i64 (l.length : Int)) T) L RR) :
    SQ P N all (⟨d, .call ⟨.builtin .len, #[x], #[t]⟩, ty, pos, aft, none⟩ :: rest) T L RR :=
  SQ.reads (rd_lenMap hx htk ht) rfl hd (by rintro _ _ ⟨rfl, rfl⟩; exact k)

/-- A new map. -/
theorem SO.makeMap {t : Nat} (hd : dstOk N d = true) (kk : ∀ b, SO P rd N all rest (putD d (.map (some b)) T) (mpAt kr ρ b [] :: L) ks Q) : SO P rd N all (⟨d, .makeMap t none, ty, pos, aft, none⟩ :: rest) T L ks Q := by
  refine SO.run (R := fun v L2 => ∃ b, v = .map (some b) ∧ L2 = mpAt kr ρ b [] :: L) rfl rfl hd ?_ (by rintro _ _ ⟨b, rfl, rfl⟩; exact kk b)
  intro q hq F w hst
  refine ⟨_, _, _, .inl rfl, ⟨w.heap.size, rfl, rfl⟩, ?_⟩
  have := hst.allocObj (.map #[] 0) trivial
  refine (this.ent Ent.swap).ent (Ent.cons ?_)
  rintro r o ⟨x, y, d1, le, hA, hL⟩
  exact ⟨x, y, d1, le, ⟨[], 0, rfl, List.nodup_nil, ⟨List.Pairwise.nil, by simp⟩, hA, by simp⟩, hL⟩

/-- The object of a map, for what writes it. -/
theorem map_open {b : Nat} {l : List (κ × α)} {w : World} (h : St w (mpAt kr ρ b l :: L)) : ∃ (z : List (ZM κ ρ)) (clock : Nat), z.map (·.1) = l ∧ (keysM l).Nodup ∧ ((z.map fun p : ZM κ ρ => p.2.2).Pairwise (· < ·) ∧ ∀ p ∈ z, p.2.2 < clock) ∧
    St w (ob b (.map (z.map (entM kr ρ)).toArray clock) :: memA ρ (z.map fun p => (p.1.2, p.2.1)) :: L) := by
  obtain ⟨r, o, s, x, y, d1, le, ⟨z, clock, h1, h2, h3, h4, h5⟩, hL⟩ := h
  refine ⟨z, clock, h1, h2, h3, r, o, s, x, y, d1, le, h4, own0, y, fun _ _ => .inl rfl, none_add, ?_, hL⟩
  intro i u h e
  rw [List.getElem?_map, Option.map_eq_some_iff] at e
  obtain ⟨p, hp, e⟩ := e
  cases e
  exact h5 p (List.mem_of_getElem? hp)
theorem map_shut {b : Nat} {l : List (κ × α)} (z : List (ZM κ ρ)) (clock : Nat) (h1 : z.map (·.1) = l) (h2 : (keysM l).Nodup) (h3 : (z.map fun p : ZM κ ρ => p.2.2).Pairwise (· < ·) ∧ ∀ p ∈ z, p.2.2 < clock) :
    Ent (ob b (.map (z.map (entM kr ρ)).toArray clock) :: memA ρ (z.map fun p => (p.1.2, p.2.1)) :: L) (mpAt kr ρ b l :: L) := by
  rintro r o ⟨x, y, d1, le, h4, x2, y2, d2, le2, h5, hL⟩
  refine ⟨x, y2, fun i j => ?_, fun i j c e => ?_, ⟨z, clock, h1, h2, h3, h4, fun p hp => ?_⟩, hL⟩
  · rcases d1 i j with h | h
    · exact .inl h
    · right
      cases hb : y2 i j with
      | none => rfl
      | some u => have := le2 i j u (Own.le_add_right d2 _ _ _ hb); simp [h] at this
  · rcases Own.add_cases e with e | e
    · exact le _ _ _ (Own.le_add_left _ _ _ _ _ e)
    · exact le _ _ _ (Own.le_add_right d1 _ _ _ (le2 _ _ _ (Own.le_add_right d2 _ _ _ e)))
  · obtain ⟨i, hi⟩ := List.getElem?_of_mem hp
    exact h5 i p.1.2 p.2.1 (by rw [List.getElem?_map, hi]; rfl)

theorem ext_modify {β : Type} (l1 l2 : List β) (p : β) (f : β → β) (n : Nat) (hn : n = l1.length) : (l1 ++ p :: l2).toArray.modify n f = (l1 ++ f p :: l2).toArray := by
  subst hn
  apply Array.ext'
  apply List.ext_getElem?
  intro i
  rw [Array.getElem?_toList, Array.getElem?_modify]
  simp only [List.getElem?_toArray]
  rcases Nat.lt_trichotomy i l1.length with h | h | h
  · rw [if_neg (by omega), List.getElem?_append_left h, List.getElem?_append_left h]
  · subst h; simp
  · rw [if_neg (by omega), List.getElem?_append_right (by omega), List.getElem?_append_right (by omega)]
    obtain ⟨k, hk⟩ : ∃ k, i - l1.length = k + 1 := ⟨i - l1.length - 1, by omega⟩
    rw [hk]; simp
theorem ext_erase {β : Type} (l1 l2 : List β) (p : β) (n : Nat) (hn : n = l1.length) : (l1 ++ p :: l2).toArray.eraseIdxIfInBounds n = (l1 ++ l2).toArray := by
  subst hn
  apply Array.ext'
  simp [List.eraseIdx_append_of_length_le]

theorem stay (kr : KR κ) (a : κ) (w : World) : (Instr.keyThatStays (kr.v a) (kr.v a)).run P w = .ok (kr.v a) w := by
  unfold Instr.keyThatStays
  rw [if_pos (kr.bits a)]; rfl
/-- Put in. -/
theorem SO.mapUpdate {x y v : Operand} {t e kt b n1 n2 : Nat} {z0 : Value} {tik : TI} {l : List (κ × α)} {key : κ} {u : α} {h : ρ.V} (hx : evO T x = some (.map (some b))) (htk : Take (mpAt kr ρ b l) L L') (hy : evO T y = some (kr.v key)) (hv : evO T v = some (ρ.val u h)) (hat : HasAll (ρ.atoms u h) L')
    (ht : tget tb.tab t = some ⟨.map kt e, n1, n2, z0⟩) (hkt : tget tb.tab kt = some tik) (hkk : kdOf tik.k = some kr.kd)
    (k : SO P rd N all rest T (mpAt kr ρ b (mput l key u) :: L') ks Q) : SO P rd N all (⟨none, .mapUpdate t x y v, ty, pos, aft, none⟩ :: rest) T L ks Q := by
  refine SO.run (R := fun _ L2 => L2 = mpAt kr ρ b (mput l key u) :: L') rfl rfl rfl ?_ (by rintro _ _ rfl; exact k)
  intro q hq F w hst
  have h1 : St w (mpAt kr ρ b l :: F :: L') := hst.ent ((Ent.cons htk.ent).trans Ent.swap)
  obtain ⟨z, clock, hl, hn, ⟨hb1, hb2⟩, h2⟩ := map_open h1
  obtain ⟨ho, _⟩ := h2.obj
  have hmt := (tab_ok ht).k
  simp only [TK.ok] at hmt
  have hkd := kdOf_ok (tab_ok hkt) hkk
  -- the atoms of what is put in
  have hatS : ∀ {r o}, seps (memA ρ (z.map fun p => (p.1.2, p.2.1)) :: F :: L') r o → seps (ρ.atoms u h) r own0 := by
    intro r o hs
    obtain ⟨_, y1, _, _, _, _, y2, _, _, _, hL⟩ := hs
    have := (hat.ent (ρ.pers u h)) r y2 hL
    have key : ∀ (A B : List HP) (o : Own), (∀ X ∈ A, Pers X) → seps (A ++ B) r o → seps A r own0 := by
      intro A
      induction A with
      | nil => intros; trivial
      | cons X A ih =>
        rintro B o hp ⟨a, b, d, le, hA, hL⟩
        exact ⟨_, _, fun _ _ => .inl rfl, none_add, hp X (by simp) _ _ hA, ih B b (fun Y hY => hp Y (by simp [hY])) hL⟩
    exact key _ _ _ (ρ.pers u h) this
  have hshut : ∀ (z' : List (ZM κ ρ)) (clock' : Nat), (∀ p ∈ z', p ∈ z ∨ (p.1.2, p.2.1) = ((u, h) : α × ρ.V)) → Ent (ob b (.map (z'.map (entM kr ρ)).toArray clock') :: memA ρ (z.map fun p => (p.1.2, p.2.1)) :: F :: L') (ob b (.map (z'.map (entM kr ρ)).toArray clock') :: memA ρ (z'.map fun p => (p.1.2, p.2.1)) :: F :: L') := by
    intro z' clock' hz'
    refine Ent.cons ?_
    intro r o hs
    have hu := hatS hs
    obtain ⟨x1, y1, d1, le1, hm, hL⟩ := hs
    refine ⟨x1, y1, d1, le1, ?_, hL⟩
    intro i a c e
    rw [List.getElem?_map, Option.map_eq_some_iff] at e
    obtain ⟨p, hp, e⟩ := e
    rcases hz' p (List.mem_of_getElem? hp) with hin | he
    · cases e
      obtain ⟨j, hj⟩ := List.getElem?_of_mem hin
      exact hm j p.1.2 p.2.1 (by rw [List.getElem?_map, hj]; rfl)
    · rw [e] at he; cases he; exact hu
  have hrun : ∀ (res : Option (Nat × Value)), Instr.findNow kr.kd (kr.v key) (z.map (entM kr ρ)) 0 = some res → (execOp q ⟨none, .mapUpdate t x y v, ty, pos, aft, none⟩).run P w =
      (do (match res with
        | some (i, _) => do
          let k' ← Instr.keyThatStays ((((z.map (entM kr ρ)).toArray[i]?).map (·.key)).getD (kr.v key)) (kr.v key)
          setObj b (.map ((z.map (entM kr ρ)).toArray.modify i fun e => { e with key := k', val := ρ.val u h }) clock)
        | none => setObj b (.map ((z.map (entM kr ρ)).toArray.push { key := kr.v key, val := ρ.val u h, born := clock }) (clock + 1))) ; Pure.pure Next.skip : Sem Next).run P w := by
    intro res hres
    simp only [execOp, hq _ _ hx, hq _ _ hy, hq _ _ hv, Instr.mapUpdate, Sem.run_bind, run_und hmt, Result.andThen_ok, run_getMap ho trivial, kr.chk P kt _ key _ hkd, run_findKey hkd hres]
    cases res <;> rfl
  rcases split_key ρ z key with hno | ⟨z1, p, z2, rfl, hz1, rfl⟩
  · -- a new one
    have hrun := hrun none (findNow_none hno)
    have h3 := h2.setObj (z := .map ((z ++ [((key, u), (h, clock))]).map (entM kr ρ)).toArray (clock + 1)) trivial
    refine ⟨undef, _, _, .inr ⟨?_, rfl⟩, rfl, h3.ent (((hshut _ _ ?_).trans (map_shut (l := mput l key u) _ _ ?_ (nodup_mput hn _ _) ?_)).trans Ent.swap)⟩
    · rw [hrun]
      have : (z.map (entM kr ρ)).toArray.push { key := kr.v key, val := ρ.val u h, born := clock } = ((z ++ [((key, u), (h, clock))]).map (entM kr ρ)).toArray := by simp [entM]
      rw [this]
      simp [run_setObj_some ho trivial]
    · intro p hp
      rcases List.mem_append.1 hp with hp | hp
      · exact .inl hp
      · simp at hp; subst hp; exact .inr rfl
    · rw [List.map_append, hl]
      exact (mput_new (fun p hp => by rw [← hl] at hp; obtain ⟨p', hp', rfl⟩ := List.mem_map.1 hp; exact hno p' hp')).symm
    · refine ⟨?_, fun p hp => ?_⟩
      · rw [List.map_append, List.pairwise_append]
        refine ⟨hb1, by simp, fun a ha c hc => ?_⟩
        obtain ⟨p', hp', rfl⟩ := List.mem_map.1 ha
        simp at hc; subst hc; exact hb2 p' hp'
      · rcases List.mem_append.1 hp with hp | hp
        · have := hb2 p hp; omega
        · simp at hp; subst hp; show clock < clock + 1; omega
  · have hrun := hrun _ (findNow_some (p := p) (z2 := z2) hz1)
    have h3 := h2.setObj (z := .map ((z1 ++ ((p.1.1, u), (h, p.2.2)) :: z2).map (entM kr ρ)).toArray clock) trivial
    refine ⟨undef, _, _, .inr ⟨?_, rfl⟩, rfl, h3.ent (((hshut _ _ ?_).trans (map_shut (l := mput l p.1.1 u) _ _ ?_ (nodup_mput hn _ _) ?_)).trans Ent.swap)⟩
    · rw [hrun]
      have hi : (((z1 ++ p :: z2).map (entM kr ρ)).toArray[0 + z1.length]?).map (·.key) = some (kr.v p.1.1) := by
        simp [entM]
      simp only [hi, Option.getD_some]
      have : ((z1 ++ p :: z2).map (entM kr ρ)).toArray.modify (0 + z1.length) (fun e => { e with key := kr.v p.1.1, val := ρ.val u h }) = ((z1 ++ ((p.1.1, u), (h, p.2.2)) :: z2).map (entM kr ρ)).toArray := by
        rw [List.map_append, List.map_cons, ext_modify _ _ _ _ _ (by simp), List.map_append, List.map_cons]
        rfl
      simp only [Sem.run_bind, stay kr p.1.1, Result.andThen_ok, this, run_setObj_some ho trivial]
      rfl
    · intro q hq
      rcases List.mem_append.1 hq with hq | hq
      · exact .inl (by simp [hq])
      · rcases List.mem_cons.1 hq with rfl | hq
        · exact .inr rfl
        · exact .inl (by simp [hq])
    · rw [List.map_append, List.map_cons, ← hl, List.map_append, List.map_cons]
      exact (mput_old (l1 := z1.map (·.1)) (l2 := z2.map (·.1)) (k := p.1.1) (v' := p.1.2) (fun p hp => by obtain ⟨p', hp', rfl⟩ := List.mem_map.1 hp; exact hz1 p' hp')).symm
    · refine ⟨?_, fun q hq => ?_⟩
      · simpa using hb1
      · rcases List.mem_append.1 hq with hq | hq
        · exact hb2 q (by simp [hq])
        · rcases List.mem_cons.1 hq with rfl | hq
          · exact hb2 p (by simp)
          · exact hb2 q (by simp [hq])
/-- Taken away. -/
theorem SO.delete {x y : Operand} {t t2 e kt b n1 n2 : Nat} {z0 : Value} {tik : TI} {l : List (κ × α)} {key : κ} (hx : evO T x = some (.map (some b))) (htk : Take (mpAt kr ρ b l) L L') (hy : evO T y = some (kr.v key))
    (ht : tget tb.tab t = some ⟨.map kt e, n1, n2, z0⟩) (hkt : tget tb.tab kt = some tik) (hkk : kdOf tik.k = some kr.kd) (hd : dstOk N d = true)
    (k : SO P rd N all rest (putD d (.tuple #[]) T) (mpAt kr ρ b (mdel l key) :: L') ks Q) : SO P rd N all (⟨d, .call ⟨.builtin .delete, #[x, y], #[t, t2]⟩, ty, pos, aft, none⟩ :: rest) T L ks Q := by
  refine SO.run (R := fun v L2 => v = .tuple #[] ∧ L2 = mpAt kr ρ b (mdel l key) :: L') rfl rfl hd ?_ (by rintro _ _ ⟨rfl, rfl⟩; exact k)
  intro q hq F w hst
  have h1 : St w (mpAt kr ρ b l :: F :: L') := hst.ent ((Ent.cons htk.ent).trans Ent.swap)
  obtain ⟨z, clock, hl, hn, ⟨hb1, hb2⟩, h2⟩ := map_open h1
  obtain ⟨ho, _⟩ := h2.obj
  have hmt := (tab_ok ht).k
  simp only [TK.ok] at hmt
  have hkd := kdOf_ok (tab_ok hkt) hkk
  have hshut : ∀ (z' : List (ZM κ ρ)) (clock' : Nat), (∀ p ∈ z', p ∈ z) → Ent (ob b (.map (z'.map (entM kr ρ)).toArray clock') :: memA ρ (z.map fun p => (p.1.2, p.2.1)) :: F :: L') (ob b (.map (z'.map (entM kr ρ)).toArray clock') :: memA ρ (z'.map fun p => (p.1.2, p.2.1)) :: F :: L') := by
    intro z' clock' hz'
    refine Ent.cons ?_
    rintro r o ⟨x1, y1, d1, le1, hm, hL⟩
    refine ⟨x1, y1, d1, le1, ?_, hL⟩
    intro i a c e
    rw [List.getElem?_map, Option.map_eq_some_iff] at e
    obtain ⟨p, hp, e⟩ := e
    cases e
    obtain ⟨j, hj⟩ := List.getElem?_of_mem (hz' p (List.mem_of_getElem? hp))
    exact hm j p.1.2 p.2.1 (by rw [List.getElem?_map, hj]; rfl)
  rcases split_key ρ z key with hno | ⟨z1, p, z2, rfl, hz1, rfl⟩
  · have h3 := h2.setObj (z := .map (z.map (entM kr ρ)).toArray clock) trivial
    refine ⟨.tuple #[], _, _, .inl ?_, ⟨rfl, rfl⟩, h3.ent ((map_shut (l := mdel l key) z clock ?_ (nodup_mdel hn _) ⟨hb1, hb2⟩).trans Ent.swap)⟩
    · simp [execOp, resolve, invoke, builtin, hq _ _ hx, hq _ _ hy, Builtin.delete_, run_und hmt, run_getMap ho trivial, kr.chk P kt _ key _ hkd, run_findKey hkd (findNow_none (kr := kr) hno), run_setObj_some ho trivial]
    · rw [hl]; exact (mdel_none (fun p hp => by rw [← hl] at hp; obtain ⟨p', hp', rfl⟩ := List.mem_map.1 hp; exact hno p' hp')).symm
  · have h3 := h2.setObj (z := .map ((z1 ++ z2).map (entM kr ρ)).toArray clock) trivial
    refine ⟨.tuple #[], _, _, .inl ?_, ⟨rfl, rfl⟩, h3.ent (((hshut _ _ ?_).trans (map_shut (l := mdel l p.1.1) (z1 ++ z2) clock ?_ (nodup_mdel hn _) ⟨?_, ?_⟩)).trans Ent.swap)⟩
    · have hf := findNow_some (kr := kr) (p := p) (z2 := z2) (i := 0) hz1
      have he : ((z1 ++ p :: z2).map (entM kr ρ)).toArray.eraseIdxIfInBounds (0 + z1.length) = ((z1 ++ z2).map (entM kr ρ)).toArray := by
        rw [List.map_append, List.map_cons, ext_erase _ _ _ _ (by simp), List.map_append]
      simp only [execOp, resolve, invoke, builtin, Array.map, hq _ _ hx, hq _ _ hy, Sem.run_bind, Sem.run_pure, Result.andThen_ok]
      have : (Builtin.delete_ #[t, t2] ty #[.map (some b), kr.v p.1.1]).run P w = .ok (.tuple #[]) { w with heap := w.heap.setIfInBounds b (.map ((z1 ++ z2).map (entM kr ρ)).toArray clock) } := by
        unfold Builtin.delete_
        simp only [List.getElem?_toArray, List.getElem?_cons_zero, List.getElem?_cons_succ, Sem.run_bind, run_und hmt, Result.andThen_ok, run_getMap ho trivial, kr.chk P kt _ p.1.1 _ hkd, run_findKey hkd hf, he, run_setObj_some ho trivial]
        rfl
      simp [hq _ _ hx, hq _ _ hy, this]
    · intro q hq
      rcases List.mem_append.1 hq with hq | hq
      · simp [hq]
      · simp [hq]
    · rw [List.map_append, ← hl, List.map_append, List.map_cons]
      exact (mdel_old (l1 := z1.map (·.1)) (l2 := z2.map (·.1)) (k := p.1.1) (v := p.1.2) (fun p hp => by obtain ⟨p', hp', rfl⟩ := List.mem_map.1 hp; exact hz1 p' hp')).symm
    · rw [List.map_append, List.map_cons] at hb1
      rw [List.map_append]
      exact hb1.sublist (List.Sublist.append (List.Sublist.refl _) (List.sublist_cons_self _ _))
    · intro q hq
      rcases List.mem_append.1 hq with hq | hq
      · exact hb2 q (by simp [hq])
      · exact hb2 q (by simp [hq])
end
end Go.Sl

/-! Regions whose order is open, whose operations read, make new variables, and end in some that wait for all the others. -/
set_option linter.unusedVariables false
set_option linter.unusedSectionVars false
set_option linter.unusedSimpArgs false
namespace Go.Sl

/-- One value, the world left alone, in every world of a class. -/
def wpStrict (P : Program) (ops : Array Oper) (C : World → Prop) (Q : Act → Prop) : List Oper → Act → Prop
  | [], a => Q a
  | o :: rest, a => if Region.wanted o (yielded ops a.tmps) then ∃ v, (∀ w, C w → (execOp a.eval o).run P w = .ok (.value v) w) ∧ wpStrict P ops C Q rest (a.put o.dst v) else wpStrict P ops C Q rest (a.put o.dst undef)
theorem wpStrict_mono {P : Program} {all : Array Oper} {C : World → Prop} {Q Q' : Act → Prop} (h : ∀ a, Q a → Q' a) : ∀ (ops : List Oper) (a : Act), wpStrict P all C Q ops a → wpStrict P all C Q' ops a
  | [], a, hq => h a hq
  | o :: ops, a, hq => by
    simp only [wpStrict] at hq ⊢
    split
    · rename_i hw; rw [if_pos hw] at hq
      obtain ⟨v, h1, h2⟩ := hq
      exact ⟨v, h1, wpStrict_mono h ops _ h2⟩
    · rename_i hw; rw [if_neg hw] at hq; exact wpStrict_mono h ops _ hq

def SR (P : Program) (N : Nat) (all : Array Oper) (ops : List Oper) (T : TT) (L : List HP) (R : TT → List HP → Prop) : Prop :=
  ∀ r oo F a, seps (F :: L) r oo → Agr N T a → wpStrict P all (fun w => Sat w r oo) (fun a' => a'.defers = a.defers ∧ ∃ T' L', Agr N T' a' ∧ seps (F :: L') r oo ∧ R T' L') ops a

section
variable {P : Program} {rd : Option Nat} {N : Nat} {T : TT} {L L' L1 : List HP} {Q : Post} {ks : List K}
variable {all : Array Oper} {rest : List Oper} {o : Oper} {RR : TT → List HP → Prop}
theorem SR.nil (h : RR T L) : SR P N all [] T L RR := fun r oo F a hs ha => ⟨rfl, T, L, ha, hs, h⟩
theorem SR.reads {R : Value → List HP → Prop} (hr : Reads P T L o R) (hg : o.guard = none) (hd : dstOk N o.dst = true)
    (h : ∀ v L', R v L' → SR P N all rest (Sl.putD o.dst v T) L' RR) : SR P N all (o :: rest) T L RR := by
  intro r oo F a hs ha
  obtain ⟨v, L', hR, hs', hrun⟩ := hr a.eval ha.knows r oo F hs
  simp only [wpStrict, Region.wanted, hg, if_true]
  refine ⟨v, fun w hw => hrun w hw, wpStrict_mono ?_ rest _ (h v L' hR r oo F _ hs' (ha.putD hd v))⟩
  rintro a' ⟨h1, h2⟩; exact ⟨by rw [h1, put_defers_eq], h2⟩
theorem SR.guard {j : Nat} {want : Bool} {t : Nat} {β : Bool} {dst : Option Tmp} {op : Op} {ty : TypeId} {pos : String} {aft : Array Edge}
    (hj : (all[j]?).bind (·.dst) = some t) (ht : T.get t = some (.bool β)) (hd : dstOk N dst = true)
    (yes : β = want → SR P N all (⟨dst, op, ty, pos, aft, none⟩ :: rest) ((t, .bool want) :: T) L RR)
    (no : β = !want → SR P N all rest (Sl.putD dst undef ((t, .bool (!want)) :: T)) L RR) : SR P N all (⟨dst, op, ty, pos, aft, some (j, want)⟩ :: rest) T L RR := by
  intro r oo F a hs ha
  have hy : yielded all a.tmps j = some β := by
    simp only [yielded, hj, Option.bind_some, ha.2 _ _ ht]
  by_cases hb : β = want
  · have hw : Region.wanted (⟨dst, op, ty, pos, aft, some (j, want)⟩ : Oper) (yielded all a.tmps) = true := by simp [Region.wanted, hy, hb]
    have h2 := yes hb r oo F a hs (ha.know (hb ▸ ht))
    simp only [wpStrict, hw, if_true]
    simp only [wpStrict, Region.wanted, if_true] at h2
    exact h2
  · have hw : Region.wanted (⟨dst, op, ty, pos, aft, some (j, want)⟩ : Oper) (yielded all a.tmps) = false := by simp [Region.wanted, hy, hb]
    have hb' : β = !want := by cases β <;> cases want <;> simp_all
    simp only [wpStrict, hw]
    have := no hb' r oo F _ hs ((ha.know (hb' ▸ ht)).putD hd undef)
    exact wpStrict_mono (fun a' ⟨h1, h2⟩ => ⟨by rw [h1, put_defers_eq], h2⟩) rest _ this
theorem SR.guardY {j : Nat} {want : Bool} {t : Nat} {dst : Option Tmp} {op : Op} {ty : TypeId} {pos : String} {aft : Array Edge}
    (hj : (all[j]?).bind (·.dst) = some t) (ht : T.get t = some (.bool want))
    (yes : SR P N all (⟨dst, op, ty, pos, aft, none⟩ :: rest) T L RR) : SR P N all (⟨dst, op, ty, pos, aft, some (j, want)⟩ :: rest) T L RR := by
  intro r oo F a hs ha
  have hy : yielded all a.tmps j = some want := by
    simp only [yielded, hj, Option.bind_some, ha.2 _ _ ht]
  have hw : Region.wanted (⟨dst, op, ty, pos, aft, some (j, want)⟩ : Oper) (yielded all a.tmps) = true := by simp [Region.wanted, hy]
  have h2 := yes r oo F a hs ha
  simp only [wpStrict, hw, if_true]
  simp only [wpStrict, Region.wanted, if_true] at h2
  exact h2
theorem SR.guardN {j : Nat} {want : Bool} {t : Nat} {dst : Option Tmp} {op : Op} {ty : TypeId} {pos : String} {aft : Array Edge}
    (hj : (all[j]?).bind (·.dst) = some t) (ht : T.get t = some (.bool (!want))) (hd : dstOk N dst = true)
    (no : SR P N all rest (Sl.putD dst undef T) L RR) : SR P N all (⟨dst, op, ty, pos, aft, some (j, want)⟩ :: rest) T L RR := by
  intro r oo F a hs ha
  have hy : yielded all a.tmps j = some (!want) := by
    simp only [yielded, hj, Option.bind_some, ha.2 _ _ ht]
  have hw : Region.wanted (⟨dst, op, ty, pos, aft, some (j, want)⟩ : Oper) (yielded all a.tmps) = false := by simp [Region.wanted, hy]
  simp only [wpStrict, hw]
  exact wpStrict_mono (fun a' ⟨h1, h2⟩ => ⟨by rw [h1, put_defers_eq], h2⟩) rest _ (no r oo F _ hs (ha.putD hd undef))
theorem SR.guardYP {j : Nat} {want : Bool} {t : Nat} {β : Bool} {dst : Option Tmp} {op : Op} {ty : TypeId} {pos : String} {aft : Array Edge}
    (hj : (all[j]?).bind (·.dst) = some t) (ht : T.get t = some (.bool β)) (hb : β = want)
    (yes : SR P N all (⟨dst, op, ty, pos, aft, none⟩ :: rest) ((t, .bool want) :: T) L RR) : SR P N all (⟨dst, op, ty, pos, aft, some (j, want)⟩ :: rest) T L RR := by
  subst hb
  exact fun r oo F a hs ha => (SR.guardY (T := (t, .bool β) :: T) hj (by rw [TT.get_cons, if_pos rfl]) yes) r oo F a hs (ha.know ht)
theorem SR.guardNP {j : Nat} {want : Bool} {t : Nat} {β : Bool} {dst : Option Tmp} {op : Op} {ty : TypeId} {pos : String} {aft : Array Edge}
    (hj : (all[j]?).bind (·.dst) = some t) (ht : T.get t = some (.bool β)) (hd : dstOk N dst = true) (hb : β = !want)
    (no : SR P N all rest (Sl.putD dst undef ((t, .bool (!want)) :: T)) L RR) : SR P N all (⟨dst, op, ty, pos, aft, some (j, want)⟩ :: rest) T L RR := by
  subst hb
  exact fun r oo F a hs ha => (SR.guardN (T := (t, .bool (!want)) :: T) hj (by rw [TT.get_cons, if_pos rfl]) hd no) r oo F a hs (ha.know ht)
end

/-! ### The order -/
def pick (l : List Oper) : List Nat → List Oper
  | [] => []
  | i :: is => match l[i]? with
    | some o => o :: pick l is
    | none => pick l is
def dstAt (l : List Oper) (i : Nat) : Option Tmp := (l[i]?).bind (·.dst)
def aftAt (l : List Oper) (i : Nat) : List Nat := match l[i]? with
  | some o => aft o
  | none => []
def looksOf (l : List Oper) (i : Nat) : List Nat := match l[i]? with
  | some o => o.looksAt l.toArray
  | none => []
/-- Does each wait for none but those ahead of it? -/
def ordPre (l : List Oper) : List Nat → List Nat → Bool
  | _, [] => true
  | done, i :: is => subN (aftAt l i) done && ordPre l (i :: done) is
/-- Does each look at no slot of one of 'pre' that it does not wait for? -/
def looksOk (l : List Oper) (pre : List Nat) : List Nat → Bool
  | [] => true
  | i :: is => ((looksOf l i).all fun d => pre.all fun k => !((dstAt l k).any (Nat.beq d)) || (aftAt l i).elem k) && looksOk l pre is
def allocTy : Oper → Option Nat
  | ⟨_, .alloc t, _, _, _, none⟩ => some t
  | _ => none
def allocZ (tab : List TI) (l : List Oper) (i : Nat) : Option (List Value) := match l[i]? with
  | some o => match allocTy o with
    | some t => match tget tab t with
      | some ti => some ti.zero.cells.toList
      | none => none
    | none => none
  | none => none
def zerosAt (tab : List TI) (l : List Oper) (i : Nat) : List Value := (allocZ tab l i).getD []
/-- All that is waited for. -/
def clo (l : List Oper) : Nat → List Nat → List Nat
  | 0, is => is
  | n + 1, is => clo l n ((is.flatMap (aftAt l)).foldl (fun acc j => if acc.elem j then acc else j :: acc) is)
def chainOk (l : List Oper) : Nat → List Nat → Bool
  | r, [] => !(aftAt l r).elem r
  | r, r2 :: rs => !(aftAt l r).elem r && (r2 :: rs).all (fun k => !(aftAt l r).elem k) && (aftAt l r2).elem r && chainOk l r2 rs
def tailOk (l : List Oper) (pre : List Nat) : List Nat → Bool
  | [] => true
  | r :: rs => subN pre (clo l l.length (aftAt l r)) && chainOk l r rs
def coversN (n : Nat) (is : List Nat) : Bool := (List.range n).all fun i => is.elem i
/-- Operations that look at no world at all. -/
def pureKind (l : List Oper) (i : Nat) : Bool := match l[i]? with
  | some ⟨_, .extract _ _, _, _, _, none⟩ => true
  | some ⟨_, .move _, _, _, _, none⟩ => true
  | some ⟨_, .assign _, _, _, _, none⟩ => true
  | _ => false
def lateOk (l : List Oper) (ps rs : List Nat) : Bool := ps.all fun p => pureKind l p && (ps ++ rs).all fun j => Nat.beq j p || (aftAt l p).elem j || (aftAt l j).elem p || (match l[p]? with
  | some op => match l[j]? with
    | some oj => op.apart l.toArray oj
    | none => true
  | none => false)
def without (is ps : List Nat) : List Nat := is.filter fun i => !ps.elem i
def mixOk (N : Nat) (tab : List TI) (l : List Oper) (qs als ps rs : List Nat) : Bool :=
  noDefer l && Region.noSelect l.toArray && nodupN (qs ++ als ++ rs) && coversN l.length (qs ++ als ++ rs) && ((qs ++ als ++ rs).all fun i => Nat.blt i l.length) && ordPre l [] (qs ++ als) && looksOk l (qs ++ als) qs && (als.all fun i => (allocZ tab l i).isSome) && tailOk l (without (qs ++ als) ps) rs && lateOk l ps rs && subN ps qs && (rs.all fun i => (aftAt l i).all fun j => Nat.blt j l.length) &&
  nodupN ((qs ++ als).filterMap (dstAt l)) && ltAll N ((qs ++ als).filterMap (dstAt l))

section
variable {P : Program} {N : Nat} {l : List Oper} {C : World → Prop}
/-- What an operation gives there. -/
def YS (P : Program) (ops : Array Oper) (C : World → Prop) (o : Oper) (v : Value) (a : Act) : Prop :=
  (Region.wanted o (yielded ops a.tmps) = true ∧ ∀ w, C w → (execOp a.eval o).run P w = .ok (.value v) w) ∨ (Region.wanted o (yielded ops a.tmps) = false ∧ v = undef)
def actN (l : List Oper) (vals : Nat → Value) : List Nat → Act → Act
  | [], a => a
  | i :: is, a => actN l vals is (a.put (dstAt l i) (vals i))
theorem actN_congr {vals vals' : Nat → Value} : ∀ (is : List Nat) (a : Act), (∀ i ∈ is, vals i = vals' i) → actN l vals is a = actN l vals' is a
  | [], _, _ => rfl
  | i :: is, a, h => by
    simp only [actN]; rw [h i (by simp)]
    exact actN_congr is _ fun j hj => h j (by simp [hj])
theorem strict_vals {QQ : Act → Prop} : ∀ (is : List Nat) (a : Act), is.Nodup → (∀ i ∈ is, i < l.length) → wpStrict P l.toArray C QQ (pick l is) a →
    ∃ vals : Nat → Value, (∀ s i t, is = s ++ i :: t → ∀ o, l[i]? = some o → YS P l.toArray C o (vals i) (actN l vals s a)) ∧ QQ (actN l vals is a)
  | [], a, _, _, h => ⟨fun _ => undef, fun s i t e => by simp at e, h⟩
  | i :: is, a, hn, hl, h => by
    obtain ⟨o, ho⟩ : ∃ o, l[i]? = some o := ⟨_, List.getElem?_eq_getElem (hl i (by simp))⟩
    rw [List.nodup_cons] at hn
    simp only [pick, ho, wpStrict] at h
    have hd : dstAt l i = o.dst := by simp [dstAt, ho]
    obtain ⟨v, hy, h2⟩ : ∃ v, YS P l.toArray C o v a ∧ wpStrict P l.toArray C QQ (pick l is) (a.put o.dst v) := by
      split at h
      · rename_i hw
        obtain ⟨v, h1, h2⟩ := h
        exact ⟨v, .inl ⟨hw, h1⟩, h2⟩
      · rename_i hw
        exact ⟨undef, .inr ⟨by simpa using hw, rfl⟩, h⟩
    obtain ⟨vals', h3, h4⟩ := strict_vals is _ hn.2 (fun j hj => hl j (by simp [hj])) h2
    let vals : Nat → Value := fun j => if j = i then v else vals' j
    have hsame : ∀ s : List Nat, (∀ j ∈ s, j ∈ is) → ∀ a, actN l vals s a = actN l vals' s a := fun s hs a => actN_congr s a fun j hj => by
      have : j ≠ i := fun e => hn.1 (e ▸ hs j hj)
      simp [vals, this]
    have hvi : vals i = v := by simp [vals]
    refine ⟨vals, fun s j t e o' ho' => ?_, ?_⟩
    · cases s with
      | nil =>
        simp only [List.nil_append, List.cons.injEq] at e
        obtain ⟨rfl, rfl⟩ := e
        rw [ho] at ho'; cases ho'
        rw [hvi]; exact hy
      | cons k s =>
        simp only [List.cons_append, List.cons.injEq] at e
        obtain ⟨rfl, rfl⟩ := e
        simp only [actN, hd, hvi]
        rw [hsame s (fun j hj => by simp [hj])]
        have hj : j ≠ i := fun e => hn.1 (by rw [← e]; simp)
        have : vals j = vals' j := by simp [vals, hj]
        rw [this]
        exact h3 s j t rfl o' ho'
    · simp only [actN, hd, hvi]
      rw [hsame is (fun j hj => hj)]
      exact h4

theorem actN_size {vals : Nat → Value} : ∀ (is : List Nat) (a : Act), (actN l vals is a).tmps.size = a.tmps.size
  | [], _ => rfl
  | i :: is, a => by
    simp only [actN]; rw [actN_size is]
    cases dstAt l i <;> simp [Act.put]
theorem put_get {a : Act} {d : Option Tmp} {v : Value} {j : Nat} (h : d ≠ some j) : (a.put d v).tmps[j]? = a.tmps[j]? := by
  cases d with
  | none => rfl
  | some d =>
    have : d ≠ j := fun e => h (by rw [e])
    simp only [Act.put]; rw [Array.getElem?_setIfInBounds_ne this]
theorem put_self {a : Act} {d : Nat} {v : Value} (h : d < a.tmps.size) : (a.put (some d) v).tmps[d]? = some v := by
  simp [Act.put, h]
theorem actN_other {vals : Nat → Value} {d : Nat} : ∀ (is : List Nat) (a : Act), (∀ i ∈ is, dstAt l i ≠ some d) → (actN l vals is a).tmps[d]? = a.tmps[d]?
  | [], _, _ => rfl
  | i :: is, a, h => by
    simp only [actN]
    rw [actN_other is _ (fun j hj => h j (by simp [hj])), put_get (h i (by simp))]
theorem actN_own {vals : Nat → Value} {d : Nat} : ∀ (is : List Nat) (a : Act) (i : Nat), i ∈ is → dstAt l i = some d → (∀ j ∈ is, dstAt l j = some d → j = i) → is.Nodup → d < a.tmps.size → (actN l vals is a).tmps[d]? = some (vals i)
  | [], _, _, h, _, _, _, _ => by cases h
  | k :: is, a, i, hi, hd, hu, hn, hlt => by
    simp only [actN]
    rw [List.nodup_cons] at hn
    rcases List.mem_cons.1 hi with rfl | hi'
    · rw [actN_other is _ (fun j hj e => hn.1 (by rw [← hu j (by simp [hj]) e]; exact hj)), hd, put_self hlt]
    · exact actN_own is _ i hi' hd (fun j hj => hu j (by simp [hj])) hn.2 (by cases dstAt l k <;> simpa [Act.put] using hlt)

/-- Two acts that agree on what an operation looks at. -/
theorem YS.congr {o : Oper} {v : Value} {a a' : Act} {ops : Array Oper} (hs : ∀ cs b, o.op ≠ .select cs b) (h : ∀ d ∈ o.looksAt ops, a'.tmps[d]? = a.tmps[d]?) (hy : YS P ops C o v a) : YS P ops C o v a' := by
  have he : execOp a'.eval o = execOp a.eval o := execOp_congr o hs fun x hx => by
    cases x with
    | tmp t =>
      have := h t (List.mem_append_left _ (List.mem_filterMap.2 ⟨.tmp t, by simpa using hx, rfl⟩))
      simp [Act.eval, Array.getD_eq_getD_getElem?, this]
    | const u => rfl
    | global g => rfl
    | func f => rfl
  have hw : Region.wanted o (yielded ops a'.tmps) = Region.wanted o (yielded ops a.tmps) := by
    unfold Region.wanted
    cases hg : o.guard with
    | none => rfl
    | some gw =>
      obtain ⟨g, want⟩ := gw
      have hy : yielded ops a'.tmps g = yielded ops a.tmps g := by
        unfold yielded
        cases ht : (ops[g]?).bind (·.dst) with
        | none => rfl
        | some t =>
          have := h t (by simp [Oper.looksAt, hg, ht])
          simp only [Option.bind_some, this]
      simp only [hy]
  unfold YS at *
  rw [he, hw]; exact hy
end
section
variable {P : Program} {rd : Option Nat} {ops : Array Oper} {Q : Exit → Act → World → Prop} {md : Region.Mode}
/-- It gives its value in whatever world. -/
abbrev YA (P : Program) (ops : Array Oper) (o : Oper) (v : Value) (a : Act) : Prop := YS P ops (fun _ => True) o v a
theorem YA.same {o : Oper} {v : Value} {a a' : Act} (hy : YA P ops o v a) (he : execOp a'.eval o = execOp a.eval o) (hw : Region.wanted o (yielded ops a'.tmps) = Region.wanted o (yielded ops a.tmps)) : YA P ops o v a' := by
  unfold YA YS at *; rw [he, hw]; exact hy
theorem YA.wpOp {i : Nat} {o : Oper} {v : Value} {a : Act} (hn : notDefer o.op = true) (hi : ops[i]? = some o) (hy : YA P ops o v a) {K : Act → World → Prop} {w : World} (h : K (a.put o.dst v) w) : wpOpIn (FW rd) 0 P ops Q i K a w := by
  unfold wpOpIn
  simp only [hi]
  rcases hy with ⟨hw, hv⟩ | ⟨hw, rfl⟩
  · rw [if_pos hw]
    refine ⟨fun _ _ => trivial, ?_⟩
    rw [Oper.semAt_eq _ _ _ (notDefer_spec hn), hv w trivial]
    exact h
  · rw [if_neg (by rw [hw]; simp)]
    exact ⟨fun _ _ => trivial, h⟩
theorem wpOpIn_putS {j : Nat} {oi oj : Oper} {v : Value} (hn : notDefer oj.op = true) (hj : ops[j]? = some oj) (hap : oi.apart ops oj = true)
    (hsi : ∀ cs b, oi.op ≠ .select cs b) (hsj : ∀ cs b, oj.op ≠ .select cs b)
    (hQ : ∀ c a w, Q (.panic c) (a.put oi.dst v) w → Q (.panic c) a w) {K : Act → World → Prop} {a : Act} {w : World}
    (hy : YA P ops oi v a) (h : wpOpIn (FW rd) 0 P ops Q j K (a.put oi.dst v) w) :
    wpOpIn (FW rd) 0 P ops Q j (fun a' w' => YA P ops oi v a' ∧ K (a'.put oi.dst v) w') a w := by
  obtain ⟨h1, h2, h3⟩ := Oper.apart_spec hap
  have keep : ∀ (a : Act), YA P ops oi v a → ∀ u, YA P ops oi v (a.put oj.dst u) := fun a hy u =>
    hy.same (execOp_put oi hsi a oj.dst u h3) (wanted_put oi a oj.dst u h3)
  have keepD : ∀ d, YA P ops oi v { a with defers := d :: a.defers } := fun d => hy.same rfl rfl
  unfold wpOpIn at *
  simp only [hj] at *
  rw [wanted_put oj a oi.dst v h1] at h
  split
  · rename_i hw
    rw [if_pos hw] at h
    unfold Oper.wpIn at *
    refine ⟨fun _ _ => trivial, ?_⟩
    have h := h.2
    rw [Oper.semAt_eq _ _ _ (notDefer_spec hn), execOp_put oj hsj a oi.dst v h1] at h
    rw [Oper.semAt_eq _ _ _ (notDefer_spec hn)]
    generalize (execOp a.eval oj).run P w = r at *
    cases r with
    | ok x w' =>
      cases x <;> simp only [Oper.uponIn] at h ⊢
      case value u => exact ⟨keep a hy u, by rw [← Act.put_comm a v u h2]; exact h⟩
      case skip => exact ⟨keep a hy _, by rw [← Act.put_comm a v undef h2]; exact h⟩
      case defer d =>
        refine ⟨keep _ (keepD d) _, ?_⟩
        rw [← Act.put_comm _ v undef h2, ← Act.put_defers]
        exact h
      case enter f args =>
        refine ⟨h.1, CallsIn.mono h.2 fun e w'' he => ?_⟩
        cases e with
        | returned u => exact ⟨keep a hy u, by rw [← Act.put_comm a v u h2]; exact he⟩
        | panicked c => exact hQ _ _ _ he
        | outgrown => exact he
      case row row args => exact ⟨h.1, RowsIn.mono h.2 fun u w'' he => ⟨keep a hy u, by rw [← Act.put_comm a v u h2]; exact he⟩⟩
      case round l f tmps assign body =>
        refine ⟨h.1, RoundIn.mono h.2 fun e w'' he => ?_⟩
        cases e with
        | returned u => exact ⟨keep a hy u, by rw [← Act.put_comm a v u h2]; exact he⟩
        | panicked c => exact hQ _ _ _ he
        | outgrown => exact he
    | halt x w' =>
      cases x <;> simp only [Oper.uponIn] at h ⊢
      case panic u => exact hQ _ _ _ h
  · rename_i hw
    rw [if_neg hw] at h
    exact ⟨fun _ _ => trivial, keep a hy _, by rw [← Act.put_comm a v undef h2]; exact h.2⟩
theorem wpAnyIn_firstS {i : Nat} {oi : Oper} {v : Value} (hnd : ∀ (i : Nat) (o : Oper), ops[i]? = some o → notDefer o.op = true) (hi : ops[i]? = some oi) (hsel : ∀ (j : Nat) (o : Oper) cs b, ops[j]? = some o → o.op ≠ .select cs b)
    (hQ : ∀ c a w, Q (.panic c) (a.put oi.dst v) w → Q (.panic c) a w) :
    ∀ (fuel : Nat) (listed : Array Bool) (a : Act) (w : World),
      (∀ j oj, ops[j]? = some oj → j ≠ i → listed.getD j true = false → (∀ e ∈ oj.after, Region.binds md e = true → e.on ≠ i) → oi.apart ops oj = true) →
      i ∈ Region.ready md ops listed → YA P ops oi v a →
      wpAnyIn (FW rd) 0 P md ops Q fuel (listed.setIfInBounds i true) (a.put oi.dst v) w → wpAnyIn (FW rd) 0 P md ops Q (fuel + 1) listed a w := by
  intro fuel
  induction fuel with
  | zero =>
    intro listed a w _ hr hy H
    refine ⟨fun h => (by rw [h] at hr; cases hr), fun j hj => ?_⟩
    by_cases hji : j = i
    · subst hji; exact hy.wpOp (hnd _ _ hi) hi H
    · have := ready_mono hj hji
      rw [H.1] at this
      cases this
  | succ fuel ih =>
    intro listed a w hfree hr hy H
    refine ⟨fun h => (by rw [h] at hr; cases hr), fun j hj => ?_⟩
    by_cases hji : j = i
    · subst hji; exact hy.wpOp (hnd _ _ hi) hi H
    · have h1 := H.2 j (ready_mono hj hji)
      obtain ⟨hjun, oj, hoj, hall⟩ := mem_ready.1 hj
      have hnot : ∀ e ∈ oj.after, Region.binds md e = true → e.on ≠ i := fun e he hb heq => by
        have h1 := hall e he hb
        have h0 := (mem_ready.1 hr).1
        rw [heq] at h1
        rcases Nat.lt_or_ge i listed.size with h' | h'
        · simp [h'] at h0 h1; rw [h0] at h1; cases h1
        · simp [Array.getElem?_eq_none h'] at h1
      have h2 := wpOpIn_putS (hnd _ _ hoj) hoj (hfree j oj hoj hji hjun hnot) (fun cs b => hsel i oi cs b hi) (fun cs b => hsel j oj cs b hoj) hQ hy h1
      have hfree' : ∀ k ok, ops[k]? = some ok → k ≠ i → (listed.setIfInBounds j true).getD k true = false →
          (∀ e ∈ ok.after, Region.binds md e = true → e.on ≠ i) → oi.apart ops ok = true := fun k ok hk hki hun hno => by
        refine hfree k ok hk hki ?_ hno
        by_cases hjk : j = k
        · subst hjk; exact hjun
        · rw [getD_set_ne true hjk] at hun; exact hun
      refine wpOpIn_mono (fun a' w' h3 => ih (listed.setIfInBounds j true) a' w' hfree' (ready_mono hr (Ne.symm hji)) h3.1 ?_) h2
      rw [Array.setIfInBounds_comm _ _ hji]
      exact h3.2
end
/-- What looks at no world gives its value in each. -/
theorem pure_all {P : Program} {l : List Oper} {i : Nat} {o : Oper} {v : Value} {a : Act} {w0 : World} {C : World → Prop} (hp : pureKind l i = true) (ho : l[i]? = some o) (hw0 : C w0) (hy : YS P l.toArray C o v a) : YA P l.toArray o v a := by
  rcases hy with ⟨hw, hrun⟩ | h
  · left
    refine ⟨hw, fun w _ => ?_⟩
    have h0 := hrun w0 hw0
    unfold pureKind at hp
    rw [ho] at hp
    split at hp
    · rename_i heq
      obtain rfl := Option.some.inj heq
      simp only [execOp] at h0 ⊢
      revert h0
      unfold Instr.extract
      split
      · split
        · intro h0
          simp [Sem.run] at h0 ⊢
          exact h0
        · intro h0; simp [Sem.run] at h0
      · intro h0; simp [Sem.run] at h0
    · rename_i heq
      obtain rfl := Option.some.inj heq
      simp only [execOp] at h0 ⊢
      simp [Sem.run] at h0 ⊢
      exact h0
    · rename_i heq
      obtain rfl := Option.some.inj heq
      simp only [execOp] at h0 ⊢
      simp [Sem.run] at h0 ⊢
      exact h0
    · cases hp
  · exact .inr h
section
variable {P : Program} [tb : Tab P] {rd : Option Nat} {N : Nat} {l : List Oper} {qs als rs : List Nat}

theorem ordPre_spec : ∀ {is done : List Nat}, ordPre l done is = true → ∀ s i t, is = s ++ i :: t → ∀ j ∈ aftAt l i, j ∈ s ∨ j ∈ done
  | [], _, _, s, i, t, e, _, _ => by simp at e
  | k :: is, done, h, s, i, t, e, j, hj => by
    simp only [ordPre, Bool.and_eq_true] at h
    cases s with
    | nil =>
      simp only [List.nil_append, List.cons.injEq] at e
      obtain ⟨rfl, rfl⟩ := e
      exact .inr (subN_ok h.1 j hj)
    | cons k' s =>
      simp only [List.cons_append, List.cons.injEq] at e
      obtain ⟨rfl, rfl⟩ := e
      rcases ordPre_spec h.2 s i t rfl j hj with h' | h'
      · exact .inl (by simp [h'])
      · rcases List.mem_cons.1 h' with rfl | h'
        · exact .inl (by simp)
        · exact .inr h'
theorem looksOk_spec {pre : List Nat} : ∀ {is : List Nat}, looksOk l pre is = true → ∀ i ∈ is, ∀ d ∈ looksOf l i, ∀ k ∈ pre, dstAt l k = some d → k ∈ aftAt l i
  | [], _, i, h, _, _, _, _, _ => by cases h
  | k' :: is, h, i, hi, d, hd, k, hk, e => by
    simp only [looksOk, Bool.and_eq_true] at h
    rcases List.mem_cons.1 hi with rfl | hi
    · have h1 := List.all_eq_true.1 (List.all_eq_true.1 h.1 d hd) k hk
      rw [e] at h1
      simpa using h1
    · exact looksOk_spec h.2 i hi d hd k hk e
theorem foldl_mem : ∀ (js acc : List Nat) (x : Nat), x ∈ js.foldl (fun acc j => if acc.elem j then acc else j :: acc) acc → x ∈ acc ∨ x ∈ js
  | [], acc, x, h => .inl h
  | j :: js, acc, x, h => by
    simp only [List.foldl_cons] at h
    rcases foldl_mem js _ x h with h | h
    · split at h
      · exact .inl h
      · rcases List.mem_cons.1 h with rfl | h
        · exact .inr (by simp)
        · exact .inl h
    · exact .inr (by simp [h])
theorem clo_sub {p : Nat → Prop} (hc : ∀ i, p i → ∀ j ∈ aftAt l i, p j) : ∀ (n : Nat) (is : List Nat), (∀ i ∈ is, p i) → ∀ j ∈ clo l n is, p j
  | 0, is, h, j, hj => h j hj
  | n + 1, is, h, j, hj => by
    simp only [clo] at hj
    refine clo_sub hc n _ (fun i hi => ?_) j hj
    rcases foldl_mem _ _ i hi with hi | hi
    · exact h i hi
    · obtain ⟨k, hk, hki⟩ := List.mem_flatMap.1 hi
      exact hc k (h k hk) i hki
theorem aft_mem {i j : Nat} {o : Oper} (ho : l[i]? = some o) : j ∈ aftAt l i ↔ ∃ e ∈ o.after, Region.binds .any e = true ∧ e.on = j := by
  simp only [aftAt, ho, aft, List.mem_map, List.mem_filter]
  constructor
  · rintro ⟨e, ⟨he, hb⟩, rfl⟩; exact ⟨e, by simpa using he, hb, rfl⟩
  · rintro ⟨e, he, hb, rfl⟩; exact ⟨e, ⟨by simpa using he, hb⟩, rfl⟩
theorem ready_iff {i : Nat} {listed : Array Bool} (hs : listed.size = l.length) : i ∈ Region.ready .any l.toArray listed ↔ i < l.length ∧ listed.getD i false = false ∧ ∀ j ∈ aftAt l i, listed.getD j false = true := by
  rw [mem_ready]
  constructor
  · rintro ⟨h1, o, ho, h2⟩
    have hi : i < l.length := by have := (Array.getElem?_eq_some_iff.1 ho).1; simpa using this
    refine ⟨hi, (by rw [← getD_tf (by omega)]; exact h1), fun j hj => ?_⟩
    obtain ⟨e, he, hb, rfl⟩ := (aft_mem (by simpa using ho)).1 hj
    exact h2 e he hb
  · rintro ⟨hi, h1, h2⟩
    exact ⟨(by rw [getD_tf (by omega)]; exact h1), l[i], (by simp [hi]), fun e he hb => h2 _ ((aft_mem (o := l[i]) (by simp [hi])).2 ⟨e, he, hb, rfl⟩)⟩

/-- The last operations come one by one. -/
theorem tail_run {QQ : Exit → Act → World → Prop} : ∀ (rs : List Nat) (fuel : Nat) (listed : Array Bool) (a : Act) (w : World), listed.size = l.length → (∀ i, i < l.length → (listed.getD i false = false ↔ i ∈ rs)) → (∀ i ∈ rs, i < l.length) → (∀ i ∈ rs, ∀ j ∈ aftAt l i, j < l.length) → rs.Nodup → (∀ r rs', rs = r :: rs' → chainOk l r rs' = true) → rs.length ≤ fuel →
    wpListIn (FW rd) 0 P l.toArray QQ (pick l rs) a w → wpAnyIn (FW rd) 0 P .any l.toArray QQ fuel listed a w
  | [], fuel, listed, a, w, hs, hl, _, _, _, _, _, h => by
    have hr : Region.ready .any l.toArray listed = [] := by
      cases hh : Region.ready .any l.toArray listed with
      | nil => rfl
      | cons i r =>
        have hi : i ∈ Region.ready .any l.toArray listed := by rw [hh]; simp
        obtain ⟨h1, h2, _⟩ := (ready_iff hs).1 hi
        have := (hl i h1).1 h2
        cases this
    exact wpAnyIn_done hr h fuel
  | r :: rs, 0, listed, a, w, _, _, _, _, _, _, hf, _ => by simp at hf
  | r :: rs, fuel + 1, listed, a, w, hs, hl, hlt, haf, hn, hch, hf, h => by
    have hch1 := hch r rs rfl
    rw [List.nodup_cons] at hn
    have hrlt := hlt r (by simp)
    obtain ⟨o, ho⟩ : ∃ o, l[r]? = some o := ⟨_, List.getElem?_eq_getElem hrlt⟩
    have hself : ∀ k ∈ r :: rs, k ∉ aftAt l r := by
      intro k hk
      cases rs with
      | nil =>
        simp only [chainOk] at hch1
        simp at hk; subst hk; simpa using hch1
      | cons r2 rs =>
        simp only [chainOk, Bool.and_eq_true] at hch1
        obtain ⟨⟨⟨h1, h2⟩, _⟩, _⟩ := hch1
        rcases List.mem_cons.1 hk with rfl | hk
        · simpa using h1
        · have := List.all_eq_true.1 h2 k hk
          simpa using this
    have hready : r ∈ Region.ready .any l.toArray listed := (ready_iff hs).2 ⟨hrlt, (hl r hrlt).2 (by simp), fun j hj => by
      cases hb : listed.getD j false with
      | true => rfl
      | false => exact absurd hj (hself j ((hl j (haf r (by simp) j hj)).1 hb))⟩
    have honly : ∀ i ∈ Region.ready .any l.toArray listed, i = r := by
      intro i hi
      obtain ⟨h1, h2, h3⟩ := (ready_iff hs).1 hi
      have hmem := (hl i h1).1 h2
      -- who waits for another one of them does not come up
      have key : ∀ (r : Nat) (rs : List Nat), chainOk l r rs = true → i ∈ rs → ∃ p ∈ r :: rs, p ∈ aftAt l i := by
        intro r rs
        induction rs generalizing r with
        | nil => intro _ h; cases h
        | cons r2 rs ih =>
          intro hc hi
          simp only [chainOk, Bool.and_eq_true] at hc
          rcases List.mem_cons.1 hi with rfl | hi
          · exact ⟨r, by simp, by simpa using hc.1.2⟩
          · obtain ⟨p, hp, hpa⟩ := ih r2 hc.2 hi
            exact ⟨p, by simp [hp], hpa⟩
      rcases List.mem_cons.1 hmem with rfl | hmem
      · rfl
      · obtain ⟨p, hp, hpa⟩ := key r rs hch1 hmem
        have h4 := h3 p hpa
        have h5 := (hl p (by exact hlt p hp)).2 hp
        rw [h5] at h4; cases h4
    refine ⟨fun h0 => (by rw [h0] at hready; cases hready), fun i hi => ?_⟩
    obtain rfl := honly i hi
    have hnext : ∀ a' w', wpListIn (FW rd) 0 P l.toArray QQ (pick l rs) a' w' → wpAnyIn (FW rd) 0 P .any l.toArray QQ fuel (listed.setIfInBounds i true) a' w' := fun a' w' h' => by
      refine tail_run rs fuel _ a' w' (by simp [hs]) (fun k hk => ?_) (fun k hk => hlt k (by simp [hk])) (fun k hk => haf k (by simp [hk])) hn.2 (fun r' rs' e => ?_) (by simp at hf; omega) h'
      · by_cases hki : i = k
        · subst hki
          simp only [hs, hk, Array.getD_eq_getD_getElem?, Array.getElem?_setIfInBounds_self_of_lt (show i < listed.size by omega), Option.getD_some]
          simp [hn.1]
        · rw [getD_set_ne false hki, hl k hk]
          simp only [List.mem_cons]; exact ⟨fun h => h.resolve_left (fun e => hki e.symm), .inr⟩
      · subst e
        simp only [chainOk, Bool.and_eq_true] at hch1
        exact hch1.2
    simp only [pick, ho, wpListIn] at h
    unfold wpOpIn
    simp only [List.getElem?_toArray, ho]
    split
    · rename_i hw; rw [if_pos hw] at h
      exact Oper.wpIn_mono hnext h
    · rename_i hw; rw [if_neg hw] at h
      exact ⟨h.1, hnext _ _ h.2⟩

theorem nodup_le : ∀ {a b : List Nat}, a.Nodup → (∀ i ∈ a, i ∈ b) → a.length ≤ b.length
  | [], _, _, _ => by simp
  | x :: a, b, hn, h => by
    rw [List.nodup_cons] at hn
    have h1 := nodup_le (a := a) (b := b.erase x) hn.2 fun i hi => by
      have : i ≠ x := fun e => hn.1 (e ▸ hi)
      exact (List.mem_erase_of_ne this).2 (h i (by simp [hi]))
    have h2 := List.length_erase_of_mem (h x (by simp))
    have h3 : 0 < b.length := List.length_pos_of_mem (h x (by simp))
    simp only [List.length_cons]; omega
theorem pin_swap {w : World} {r : Ro} {oo : Own} {A M : List HP} (h : St w (pin r oo :: A)) (hs : seps M r oo) : St w (big M :: A) := by
  obtain ⟨r', o', s, a, b, d, le, ⟨h1, h2⟩, hA⟩ := h
  exact ⟨r', o', s, a, b, d, le, seps_up h1 h2 hs, hA⟩
theorem pin_sat {w : World} {r : Ro} {oo : Own} {A : List HP} (h : St w (pin r oo :: A)) : Sat w r oo := by
  obtain ⟨r', o', s', a1, b1, d1, le1, ⟨h1, h2⟩, _⟩ := h
  have s2 := s'.weaken (Own.le_trans h2 (Own.le_trans (Own.le_add_left a1 b1) le1))
  exact ⟨fun i j v e => s2.ro _ _ _ (h1.le _ _ _ e), s2.val, s2.obj, fun i j v c e e' => s2.dis _ _ _ _ (h1.le _ _ _ e) e', h1.bs ▸ s2.below, fun i j c e => h1.bs ▸ s2.low i j c e, s2.pl⟩
def valOf (als : List Nat) (vals : Nat → Value) (bs : Nat → Nat) (k : Nat) : Value := if k ∈ als then .pointer (some ⟨bs k, 0, none⟩) else vals k
def mixL (tab : List TI) (l : List Oper) (listed : Array Bool) (bs : Nat → Nat) (k : Nat) : HP := if listed.getD k false = true then pts (bs k) 0 (zerosAt tab l k) else emp
structure MixInv (tab : List TI) (N : Nat) (l : List Oper) (qs als : List Nat) (vals : Nat → Value) (a0 : Act) (X : HP) (listed : Array Bool) (a : Act) (w : World) : Prop where
  lsize : listed.size = l.length
  only : ∀ i, listed.getD i false = true → i ∈ qs ++ als
  closed : ∀ i, listed.getD i false = true → ∀ j ∈ aftAt l i, listed.getD j false = true
  dfr : a.defers = a0.defers
  size : a.tmps.size = N
  mem : ∃ bs : Nat → Nat, (∀ k d, k ∈ qs ++ als → listed.getD k false = true → dstAt l k = some d → a.tmps[d]? = some (valOf als vals bs k)) ∧
    (∀ d, (∀ k ∈ qs ++ als, listed.getD k false = true → dstAt l k ≠ some d) → a.tmps[d]? = a0.tmps[d]?) ∧ St w (X :: als.map (mixL tab l listed bs))

theorem ent_mapset {f f' : Nat → HP} {i : Nat} : ∀ {als : List Nat}, i ∈ als → als.Nodup → (∀ k, k ≠ i → f' k = f k) → Ent (f' i :: als.map f) (als.map f')
  | [], h, _, _ => by cases h
  | k :: als, h, hn, hf => by
    rw [List.nodup_cons] at hn
    simp only [List.map_cons]
    by_cases hk : k = i
    · subst hk
      have : als.map f = als.map f' := List.map_congr_left fun j hj => (hf j (fun e => hn.1 (e ▸ hj))).symm
      rw [this]
      exact Ent.swap.trans Ent.drop
    · have h' : i ∈ als := by
        rcases List.mem_cons.1 h with e | h
        · exact absurd e.symm hk
        · exact h
      rw [hf k hk]
      exact Ent.swap.trans (Ent.cons (ent_mapset h' hn.2 hf))
theorem getD_set_self {listed : Array Bool} {i : Nat} (h : i < listed.size) : (listed.setIfInBounds i true).getD i false = true := by simp [h]
theorem getD_lt {listed : Array Bool} {i : Nat} (h : listed.getD i false = true) : i < listed.size := by
  rcases Nat.lt_or_ge i listed.size with h' | h'
  · exact h'
  · simp [Array.getElem?_eq_none h'] at h
theorem dst_uniq : ∀ {pre : List Nat}, (pre.filterMap (dstAt l)).Nodup → ∀ i ∈ pre, ∀ j ∈ pre, ∀ d, dstAt l i = some d → dstAt l j = some d → pre.Nodup → i = j
  | [], _, i, h, _, _, _, _, _, _ => by cases h
  | k :: pre, hn, i, hi, j, hj, d, h1, h2, hnd => by
    rw [List.nodup_cons] at hnd
    have hn' : (pre.filterMap (dstAt l)).Nodup := by
      simp only [List.filterMap_cons] at hn
      split at hn
      · exact hn
      · exact (List.nodup_cons.1 hn).2
    have hk : ∀ x ∈ pre, dstAt l k = some d → dstAt l x = some d → False := fun x hx e1 e2 => by
      simp only [List.filterMap_cons, e1, List.nodup_cons] at hn
      exact hn.1 (List.mem_filterMap.2 ⟨x, hx, e2⟩)
    rcases List.mem_cons.1 hi with rfl | hi
    · rcases List.mem_cons.1 hj with rfl | hj
      · rfl
      · exact (hk j hj h1 h2).elim
    · rcases List.mem_cons.1 hj with e | hj
      · subst e; exact (hk i (by assumption) h2 h1).elim
      · exact dst_uniq hn' i hi j hj d h1 h2 hnd.2

/-- **A region whose order is open: operations that read ('qs'), new variables ('als'), then those that wait for all of them ('rs').** -/
theorem SK.regionM {T : TT} {L : List HP} {Q : Post} {ks : List K} {id : Nat} (qs als ps rs : List Nat) (hm : P.follows .mixedOrders = true) (hok : mixOk N tb.tab l qs als ps rs = true) (hnp : ∀ c T L, Q (.panic c) T L → False)
    (h : SR P N l.toArray (pick l qs) T L (fun T' L' => ∀ bs : Nat → Nat, SO P rd N l.toArray (pick l rs) (als.foldr (fun k T => putD (dstAt l k) (.pointer (some ⟨bs k, 0, none⟩)) T) T') ((als.map fun k => pts (bs k) 0 (zerosAt tb.tab l k)) ++ L') ks Q)) :
    SK P rd N (.code (.region id l.toArray true) :: ks) T L Q := by
  simp only [mixOk, Bool.and_eq_true] at hok
  obtain ⟨⟨⟨⟨⟨⟨⟨⟨⟨⟨⟨⟨⟨hnd, hsel⟩, hnod⟩, hcov⟩, hlt⟩, hord⟩, hlooks⟩, hals⟩, htail⟩, hlate⟩, hpsq⟩, haft⟩, hdst⟩, hdN⟩ := hok
  have hnodN := nodupN_ok hnod
  have hdstN := nodupN_ok hdst
  have hltN : ∀ i ∈ qs ++ als ++ rs, i < l.length := fun i hi => by have := List.all_eq_true.1 hlt i hi; simpa [Nat.blt_eq] using this
  have hpreN : (qs ++ als).Nodup := (List.nodup_append.1 hnodN).1
  have hqsN : qs.Nodup := (List.nodup_append.1 hpreN).1
  have halsN : als.Nodup := (List.nodup_append.1 hpreN).2.1
  have hrsN : rs.Nodup := (List.nodup_append.1 hnodN).2.1
  have hqa : ∀ k ∈ qs, k ∉ als := fun k h1 h2 => (List.nodup_append.1 hpreN).2.2 k h1 k h2 rfl
  have hprs : ∀ k ∈ qs ++ als, k ∉ rs := fun k h1 h2 => (List.nodup_append.1 hnodN).2.2 k h1 k h2 rfl
  have hcovN : ∀ i, i < l.length → i ∈ qs ++ als ++ rs := fun i hi => by have := List.all_eq_true.1 hcov i (by simp [hi]); simpa using this
  have hselN := Region.noSelect_spec hsel
  have hpsQ : ∀ i ∈ ps, i ∈ qs := subN_ok hpsq
  have hpure : ∀ i ∈ ps, pureKind l i = true := fun i hi => by
    have h1 := List.all_eq_true.1 hlate i hi
    simp only [Bool.and_eq_true] at h1
    exact h1.1
  have hndN : ∀ (i : Nat) (o : Oper), l[i]? = some o → notDefer o.op = true := fun i o ho => List.all_eq_true.1 hnd o (List.mem_of_getElem? ho)
  have hdltN : ∀ k d, k ∈ qs ++ als → dstAt l k = some d → d < N := fun k d hk hd => ltAll_ok hdN d (List.mem_filterMap.2 ⟨k, hk, hd⟩)
  rw [SK_code]
  intro G a0 w ok
  obtain ⟨D, hD, r, oo, s, hs⟩ := ok.mem
  obtain ⟨vals, hys, hfin⟩ := strict_vals qs a0 hqsN (fun i hi => hltN i (by simp [hi])) (h r oo _ a0 hs ⟨ok.size, ok.get⟩)
  refine wpIn_region_any hm ?_
  -- all of 'pre' is there: the rest
  have hrest : ∀ (fuel : Nat) (listed : Array Bool) (a : Act) (w : World), (unl l.length listed).length ≤ fuel → MixInv tb.tab N l qs als vals a0 (pin r oo) listed a w → (∀ i ∈ qs ++ als, listed.getD i false = true) →
      wpAnyIn (FW rd) 0 P .any l.toArray (lift G N (postK P rd N ks Q)) fuel listed a w := by
    intro fuel listed a w hf inv hall
    obtain ⟨bs, hown, hoth, hst⟩ := inv.mem
    refine tail_run rs fuel listed a w inv.lsize (fun i hi => ⟨fun h0 => ?_, fun h0 => ?_⟩) (fun i hi => hltN i (by simp [hi])) ?_ hrsN (fun r' rs' e => ?_) ?_ ?_
    · rcases List.mem_append.1 (hcovN i hi) with h1 | h1
      · rw [hall i h1] at h0; cases h0
      · exact h1
    · cases hb : listed.getD i false with
      | false => rfl
      | true => exact _root_.absurd h0 (hprs i (inv.only i hb))
    · intro i hi j hj
      have := List.all_eq_true.1 (List.all_eq_true.1 haft i hi) j hj
      simpa [Nat.blt_eq] using this
    · subst e
      simp only [tailOk, Bool.and_eq_true] at htail
      exact htail.2
    · refine Nat.le_trans ?_ hf
      refine nodup_le hrsN fun i hi => ?_
      simp only [unl, List.mem_filter, List.mem_range]
      refine ⟨hltN i (by simp [hi]), ?_⟩
      have h1 : listed.getD i false = false := by
        cases hb : listed.getD i false with
        | false => rfl
        | true => exact _root_.absurd hi (hprs i (inv.only i hb))
      rw [getD_tf (by rw [inv.lsize]; exact hltN i (by simp [hi])), h1]; rfl
    · obtain ⟨h1, T', L', hagr, hs', hso⟩ := hfin
      have hso := hso bs
      refine hso G a w ⟨inv.size, ?_, D, by rw [inv.dfr, hD], ?_⟩
      · -- the slots
        have hsame : ∀ d, (∀ k ∈ als, dstAt l k ≠ some d) → a.tmps[d]? = (actN l vals qs a0).tmps[d]? := by
          intro d hd
          by_cases hex : ∃ k ∈ qs, dstAt l k = some d
          · obtain ⟨k, hk, hkd⟩ := hex
            rw [hown k d (by simp [hk]) (hall k (by simp [hk])) hkd]
            rw [actN_own qs a0 k hk hkd (fun j hj hjd => dst_uniq hdstN j (by simp [hj]) k (by simp [hk]) d hjd hkd hpreN) hqsN (by rw [ok.size]; exact hdltN k d (by simp [hk]) hkd)]
            simp [valOf, hqa k hk]
          · rw [hoth d (fun k hk _ e => ?_), actN_other qs a0 (fun i hi e => hex ⟨i, hi, e⟩)]
            rcases List.mem_append.1 hk with hk | hk
            · exact hex ⟨k, hk, e⟩
            · exact hd k hk e
        have key : ∀ (asl : List Nat), (∀ k ∈ asl, k ∈ als) → ∀ i v, (asl.foldr (fun k T => Sl.putD (dstAt l k) (.pointer (some ⟨bs k, 0, none⟩)) T) T').get i = some v → (∃ k ∈ asl, dstAt l k = some i ∧ v = .pointer (some ⟨bs k, 0, none⟩)) ∨ (T'.get i = some v ∧ ∀ k ∈ asl, dstAt l k ≠ some i) := by
          intro asl
          induction asl with
          | nil => intro _ i v h; exact .inr ⟨h, by simp⟩
          | cons k asl ih =>
            intro hka i v h
            simp only [List.foldr_cons] at h
            cases hd : dstAt l k with
            | none =>
              rw [hd] at h
              rcases ih (fun j hj => hka j (by simp [hj])) i v h with ⟨j, hj, h1⟩ | ⟨h1, h2⟩
              · exact .inl ⟨j, by simp [hj], h1⟩
              · refine .inr ⟨h1, fun j hj => ?_⟩
                rcases List.mem_cons.1 hj with rfl | hj
                · rw [hd]; simp
                · exact h2 j hj
            | some d =>
              rw [hd] at h
              simp only [Sl.putD] at h
              rw [TT.get_cons] at h
              split at h
              · rename_i hdi; subst hdi; cases h
                exact .inl ⟨k, by simp, hd, rfl⟩
              · rename_i hdi
                rcases ih (fun j hj => hka j (by simp [hj])) i v h with ⟨j, hj, h1⟩ | ⟨h1, h2⟩
                · exact .inl ⟨j, by simp [hj], h1⟩
                · refine .inr ⟨h1, fun j hj => ?_⟩
                  rcases List.mem_cons.1 hj with rfl | hj
                  · rw [hd]; simpa using hdi
                  · exact h2 j hj
        intro i v hv
        rcases key als (fun k hk => hk) i v hv with ⟨k, hk, hkd, rfl⟩ | ⟨hv, hno⟩
        · rw [hown k i (by simp [hk]) (hall k (by simp [hk])) hkd]
          simp [valOf, hk]
        · rw [hsame i hno]; exact hagr.2 i v hv
      · -- the memory
        have hmap : als.map (mixL tb.tab l listed bs) = als.map fun k => pts (bs k) 0 (zerosAt tb.tab l k) := List.map_congr_left fun k hk => by simp [mixL, hall k (by simp [hk])]
        rw [hmap] at hst
        have h2 := pin_swap hst hs'
        refine h2.ent ?_
        refine (ent_big (A := big (G :: D.map mkA) :: L')).trans ?_
        exact Ent.cons ent_app_comm
  -- on the way
  have hway : ∀ (fuel : Nat) (listed : Array Bool) (a : Act) (w : World), (unl l.length listed).length ≤ fuel → MixInv tb.tab N l qs als vals a0 (pin r oo) listed a w →
      wpAnyIn (FW rd) 0 P .any l.toArray (lift G N (postK P rd N ks Q)) fuel listed a w := by
    intro fuel
    induction fuel with
    | zero =>
      intro listed a w hf inv
      refine hrest 0 listed a w hf inv fun i hi => ?_
      have h0 : unl l.length listed = [] := List.length_eq_zero_iff.1 (by omega)
      have hil := hltN i (by simp only [List.mem_append] at hi ⊢; exact .inl hi)
      cases hb : listed.getD i false with
      | true => rfl
      | false =>
        have : i ∈ unl l.length listed := by
          simp only [unl, List.mem_filter, List.mem_range]
          exact ⟨hil, by rw [getD_tf (by rw [inv.lsize]; exact hil), hb]; rfl⟩
        rw [h0] at this; cases this
    | succ fuel ih =>
      intro listed a w hf inv
      by_cases hall : ∀ i ∈ qs ++ als, listed.getD i false = true
      · exact hrest _ listed a w hf inv hall
      -- the first one that is not there comes up
      have hfirst : ∃ i, i ∈ Region.ready .any l.toArray listed ∧ i ∈ qs ++ als ∧ listed.getD i false = false := by
        have key : ∀ (t s : List Nat), qs ++ als = s ++ t → (∀ i ∈ s, listed.getD i false = true) → ∃ i, i ∈ Region.ready .any l.toArray listed ∧ i ∈ qs ++ als ∧ listed.getD i false = false := by
          intro t
          induction t with
          | nil =>
            intro s e h1
            rw [List.append_nil] at e
            exact _root_.absurd (fun i hi => h1 i (e ▸ hi)) hall
          | cons i t iht =>
            intro s e h1
            cases hb : listed.getD i false with
            | true =>
              refine iht (s ++ [i]) (by rw [e]; simp) fun j hj => ?_
              rcases List.mem_append.1 hj with hj | hj
              · exact h1 j hj
              · simp at hj; subst hj; exact hb
            | false =>
              have hi : i ∈ qs ++ als := by rw [e]; simp
              refine ⟨i, (ready_iff inv.lsize).2 ⟨hltN i (by simp only [List.mem_append] at hi ⊢; exact .inl hi), hb, fun j hj => ?_⟩, hi, hb⟩
              rcases ordPre_spec hord s i t e j hj with h2 | h2
              · exact h1 j h2
              · cases h2
        exact key _ [] rfl (by simp)
      -- it is none of the last
      have hpre : (∃ k ∈ qs ++ als, k ∉ ps ∧ listed.getD k false = false) → ∀ i, i ∈ Region.ready .any l.toArray listed → i ∈ qs ++ als := by
        intro hsome i hi
        obtain ⟨hil, hiu, hia⟩ := (ready_iff inv.lsize).1 hi
        rcases List.mem_append.1 (hcovN i hil) with h1 | h1
        · exact h1
        exfalso
        have key : ∀ (rs : List Nat), tailOk l (without (qs ++ als) ps) rs = true → (∀ k ∈ rs, listed.getD k false = false) → i ∈ rs → False := by
          intro rs htl hun hir
          cases rs with
          | nil => cases hir
          | cons r rs =>
            simp only [tailOk, Bool.and_eq_true] at htl
            rcases List.mem_cons.1 hir with rfl | hir'
            · obtain ⟨k, hk, hkp, hku⟩ := hsome
              have := clo_sub (p := fun j => listed.getD j false = true) inv.closed _ _ hia k (subN_ok htl.1 k (by unfold without; rw [List.mem_filter]; exact ⟨hk, by simpa using hkp⟩))
              rw [hku] at this; cases this
            · have key2 : ∀ (r : Nat) (rs : List Nat), chainOk l r rs = true → i ∈ rs → ∃ p ∈ r :: rs, p ∈ aftAt l i := by
                intro r rs
                induction rs generalizing r with
                | nil => intro _ h; cases h
                | cons r2 rs ih2 =>
                  intro hc hi
                  simp only [chainOk, Bool.and_eq_true] at hc
                  rcases List.mem_cons.1 hi with rfl | hi
                  · exact ⟨r, by simp, by simpa using hc.1.2⟩
                  · obtain ⟨p, hp, hpa⟩ := ih2 r2 hc.2 hi
                    exact ⟨p, by simp [hp], hpa⟩
              obtain ⟨p, hp, hpa⟩ := key2 r rs htl.2 hir'
              have := hia p hpa
              rw [hun p hp] at this; cases this
        refine key rs htail (fun k hk => ?_) h1
        cases hb : listed.getD k false with
        | false => rfl
        | true => exact _root_.absurd hk (hprs k (inv.only k hb))
      have hone : ∀ i, i ∈ Region.ready .any l.toArray listed → i ∈ qs ++ als → wpOpIn (FW rd) 0 P l.toArray (lift G N (postK P rd N ks Q)) i (wpAnyIn (FW rd) 0 P .any l.toArray (lift G N (postK P rd N ks Q)) fuel (listed.setIfInBounds i true)) a w ∧
          (i ∈ ps → ∃ o, l[i]? = some o ∧ YA P l.toArray o (vals i) a ∧ wpAnyIn (FW rd) 0 P .any l.toArray (lift G N (postK P rd N ks Q)) fuel (listed.setIfInBounds i true) (a.put o.dst (vals i)) w) := by
        intro i hi hpre
        obtain ⟨hil, hiu, hia⟩ := (ready_iff inv.lsize).1 hi
        obtain ⟨o, ho⟩ : ∃ o, l[i]? = some o := ⟨_, List.getElem?_eq_getElem hil⟩
        obtain ⟨bs, hown, hoth, hst⟩ := inv.mem
        have hsat : Sat w r oo := pin_sat hst
        have hdo : dstAt l i = o.dst := by simp [dstAt, ho]
        have hunl : (unl l.length (listed.setIfInBounds i true)).length ≤ fuel := by
          have : i ∈ unl l.length listed := by
            simp only [unl, List.mem_filter, List.mem_range]
            exact ⟨hil, by rw [getD_tf (by rw [inv.lsize]; exact hil), hiu]; rfl⟩
          have := unl_set this
          omega
        have hls : ∀ k, (listed.setIfInBounds i true).getD k false = true ↔ k = i ∨ listed.getD k false = true := fun k => by
          by_cases hk : i = k
          · subst hk
            rw [getD_set_self (by rw [inv.lsize]; exact hil)]; simp
          · rw [getD_set_ne false hk]
            exact ⟨.inr, fun h => h.resolve_left (fun e => hk e.symm)⟩
        -- the invariant behind it
        have hinv : ∀ (v : Value) (w' : World) (bs' : Nat → Nat), (∀ k, k ≠ i → bs' k = bs k) → v = valOf als vals bs' i → St w' (pin r oo :: als.map (mixL tb.tab l (listed.setIfInBounds i true) bs')) →
            MixInv tb.tab N l qs als vals a0 (pin r oo) (listed.setIfInBounds i true) (a.put o.dst v) w' := by
          intro v w' bs' hbs hv hst'
          have hval : ∀ k, k ≠ i → valOf als vals bs' k = valOf als vals bs k := fun k hk => by simp [valOf, hbs k hk]
          refine ⟨by simp [inv.lsize], fun k hk => ?_, fun k hk j hj => ?_, by rw [put_defers_eq]; exact inv.dfr, ?_, bs', fun k d hk hkl hkd => ?_, fun d hd => ?_, hst'⟩
          · rcases (hls k).1 hk with rfl | hk
            · exact hpre
            · exact inv.only k hk
          · rw [hls]; right
            rcases (hls k).1 hk with rfl | hk
            · exact hia j hj
            · exact inv.closed k hk j hj
          · cases o.dst <;> simp [Act.put, inv.size]
          · by_cases hki : k = i
            · subst hki
              rw [hdo] at hkd
              rw [hkd, put_self (by rw [inv.size]; exact hdltN k d hk (by rw [hdo]; exact hkd)), hv]
            · have hkl' := ((hls k).1 hkl).resolve_left hki
              rw [put_get (fun e => hki (dst_uniq hdstN k hk i hpre d hkd (by rw [hdo]; exact e) hpreN)), hown k d hk hkl' hkd, hval k hki]
          · have h1 := hd i hpre ((hls i).2 (.inl rfl))
            rw [put_get (by rw [← hdo]; exact h1)]
            exact hoth d fun k hk hkl => hd k hk ((hls k).2 (.inr hkl))
        have hmix : ∀ (bs' : Nat → Nat) (k : Nat), k ≠ i → bs' k = bs k → mixL tb.tab l (listed.setIfInBounds i true) bs' k = mixL tb.tab l listed bs k := fun bs' k hk hb => by
          simp only [mixL, hb, getD_set_ne false (fun e : i = k => hk e.symm)]
        rcases List.mem_append.1 hpre with hq | hal
        · -- it reads
          obtain ⟨sA, tA, hsplit⟩ := List.append_of_mem hq
          have hy0 := hys sA i tA hsplit o ho
          have hy : YS P l.toArray (fun w => Sat w r oo) o (vals i) a := by
            refine YS.congr (hselN i o · · (by simpa using ho)) (fun d hd => ?_) hy0
            have hdl : d ∈ looksOf l i := by simp only [looksOf, ho]; exact hd
            by_cases hex : ∃ k ∈ qs ++ als, dstAt l k = some d
            · obtain ⟨k, hk, hkd⟩ := hex
              have hka := looksOk_spec hlooks i hq d hdl k hk hkd
              have hks : k ∈ sA := by
                rcases ordPre_spec hord sA i (tA ++ als) (by rw [hsplit]; simp) k hka with h1 | h1
                · exact h1
                · cases h1
              have hkq : k ∈ qs := by rw [hsplit]; simp [hks]
              rw [hown k d hk (hia k hka) hkd]
              have hsN : sA.Nodup := by rw [hsplit] at hqsN; exact (List.nodup_append.1 hqsN).1
              rw [actN_own sA a0 k hks hkd (fun j hj hjd => dst_uniq hdstN j (by rw [hsplit]; simp [hj]) k hk d hjd hkd hpreN) hsN (by rw [ok.size]; exact hdltN k d hk hkd)]
              simp [valOf, hqa k hkq]
            · rw [hoth d (fun k hk _ e => hex ⟨k, hk, e⟩), actN_other sA a0 (fun k hk e => hex ⟨k, by rw [hsplit]; simp [hk], e⟩)]
          have hvi : valOf als vals bs i = vals i := by simp [valOf, hqa i hq]
          have hst' : St w (pin r oo :: als.map (mixL tb.tab l (listed.setIfInBounds i true) bs)) := by
            have : als.map (mixL tb.tab l (listed.setIfInBounds i true) bs) = als.map (mixL tb.tab l listed bs) := List.map_congr_left fun k hk => hmix bs k (fun e => hqa i hq (e ▸ hk)) rfl
            rw [this]; exact hst
          refine ⟨?_, fun hip => ⟨o, ho, pure_all (hpure i hip) ho hsat hy, ih _ _ _ hunl (hinv (vals i) w bs (fun _ _ => rfl) hvi.symm hst')⟩⟩
          unfold wpOpIn
          simp only [List.getElem?_toArray, ho]
          rcases hy with ⟨hw, hrun⟩ | ⟨hw, hv⟩
          · rw [if_pos hw]
            refine ⟨fun _ _ => trivial, ?_⟩
            rw [Oper.semAt_eq _ _ _ (notDefer_spec (hndN i o ho)), hrun w hsat]
            exact ih _ _ _ hunl (hinv (vals i) w bs (fun _ _ => rfl) hvi.symm hst')
          · rw [if_neg (by rw [hw]; simp)]
            refine ⟨fun _ _ => trivial, ?_⟩
            rw [← hv]
            exact ih _ _ _ hunl (hinv (vals i) w bs (fun _ _ => rfl) hvi.symm hst')
        · -- a new variable
          refine ⟨?_, fun hip => _root_.absurd hal (hqa i (hpsQ i hip))⟩
          unfold wpOpIn
          simp only [List.getElem?_toArray, ho]
          have hz := List.all_eq_true.1 hals i hal
          obtain ⟨t, ti, hop, hti, hzz, hgu⟩ : ∃ t ti, o.op = .alloc t ∧ tget tb.tab t = some ti ∧ zerosAt tb.tab l i = ti.zero.cells.toList ∧ o.guard = none := by
            unfold zerosAt
            simp only [allocZ, ho] at hz ⊢
            cases ht : allocTy o with
            | none => rw [ht] at hz; cases hz
            | some t =>
              rw [ht] at hz
              cases htt : tget tb.tab t with
              | none => simp only [htt] at hz; cases hz
              | some ti =>
                refine ⟨t, ti, ?_, htt, by simp [htt], ?_⟩
                · unfold allocTy at ht; split at ht
                  · cases ht; rfl
                  · cases ht
                · unfold allocTy at ht; split at ht
                  · rfl
                  · cases ht
          have hw : Region.wanted o (yielded l.toArray a.tmps) = true := by simp [Region.wanted, hgu]
          rw [if_pos hw]
          refine ⟨fun _ _ => trivial, ?_⟩
          have hrun : (execOp a.eval o).run P w = .ok (.value (.pointer (some ⟨w.heap.size, 0, none⟩))) { w with heap := w.heap.push (.cells ti.zero.cells t) } := by
            unfold execOp
            rw [hop]
            simp only [Instr.alloc, Sem.run_bind, zero_ok (tab_ok hti), Result.andThen_ok, newVar, newRow]
            rfl
          rw [Oper.semAt_eq _ _ _ (notDefer_spec (hndN i o ho)), hrun]
          let bs' : Nat → Nat := fun k => if k = i then w.heap.size else bs k
          have hbs' : bs' i = w.heap.size := by simp [bs']
          have hbo : ∀ k, k ≠ i → bs' k = bs k := fun k hk => by simp [bs', hk]
          refine ih _ _ _ hunl (hinv _ _ bs' hbo (by simp [valOf, hal, hbs']) ?_)
          have h3 := hst.alloc ti.zero.cells t
          refine h3.ent (Ent.swap.trans (Ent.cons ?_))
          have hfi : mixL tb.tab l (listed.setIfInBounds i true) bs' i = pts w.heap.size 0 ti.zero.cells.toList := by
            simp only [mixL, (hls i).2 (.inl rfl), if_true, hbs', hzz]
          rw [← hfi]
          exact ent_mapset hal halsN fun k hk => hmix bs' k hk (hbo k hk)
      by_cases hsome : ∃ k ∈ qs ++ als, k ∉ ps ∧ listed.getD k false = false
      · refine ⟨fun h0 => ?_, fun i hi => (hone i hi (hpre hsome i hi)).1⟩
        obtain ⟨i, hi, _⟩ := hfirst; rw [h0] at hi; cases hi
      · obtain ⟨i, hi, hiq, hiu⟩ := hfirst
        have hip : i ∈ ps := Classical.byContradiction fun hn => hsome ⟨i, hiq, hn, hiu⟩
        obtain ⟨o, ho, hya, hnx⟩ := (hone i hi hiq).2 hip
        refine wpAnyIn_firstS (fun k ok hk => hndN k ok (by simpa using hk)) (by simpa using ho) hselN (fun c a' w' hq => ?_) fuel listed a w (fun j oj hj hji hun hno => ?_) hi hya hnx
        · obtain ⟨T', L', hok', hq'⟩ := hq
          exact (hnp c T' L' hq').elim
        · have hjl : l[j]? = some oj := by simpa using hj
          have hjlt : j < l.length := row_lt hjl
          have hun' : listed.getD j false = false := by rw [← getD_tf (by rw [inv.lsize]; exact hjlt)]; exact hun
          have hjm : j ∈ ps ++ rs := by
            rcases List.mem_append.1 (hcovN j hjlt) with h1 | h1
            · exact List.mem_append.2 (.inl (Classical.byContradiction fun hn => hsome ⟨j, h1, hn, hun'⟩))
            · exact List.mem_append.2 (.inr h1)
          have h1 := List.all_eq_true.1 hlate i hip
          simp only [Bool.and_eq_true] at h1
          have h2 := List.all_eq_true.1 h1.2 j hjm
          simp only [Bool.or_eq_true, ho, hjl] at h2
          rcases h2 with ((h2 | h2) | h2) | h2
          · exact _root_.absurd (Nat.eq_of_beq_eq_true h2) hji
          · have h3 := ((ready_iff inv.lsize).1 hi).2.2 j (by simpa using h2)
            rw [hun'] at h3; cases h3
          · obtain ⟨e, he, hb, heq⟩ := (aft_mem hjl).1 (by simpa using h2)
            exact _root_.absurd heq (hno e he hb)
          · exact h2
  refine hway _ _ _ _ ?_ ⟨by simp, fun i hi => ?_, fun i hi => ?_, rfl, ok.size, fun _ => 0, fun k d _ hk => ?_, fun d _ => rfl, ?_⟩
  · refine Nat.le_trans (List.length_filter_le _ _) (by simp)
  · rw [getD_rep] at hi; cases hi
  · rw [getD_rep] at hi; cases hi
  · rw [getD_rep] at hk; cases hk
  · have hmap : als.map (mixL tb.tab l (Array.replicate l.toArray.size false) fun _ => 0) = als.map fun _ => emp := List.map_congr_left fun k hk => by simp only [mixL, getD_rep]; rfl
    rw [hmap]
    have hs0 : Sat { w with drawn := w.drawn + 1 } r oo := ⟨s.ro, s.val, s.obj, s.dis, s.below.drew, s.low, s.pl⟩
    refine ⟨r, oo, hs0, oo, own0, fun _ _ => .inr rfl, fun i j c e => ?_, ⟨Ro.le_refl _, Own.le_refl _⟩, ?_⟩
    · rcases Own.add_cases e with e | e
      · exact e
      · cases e
    · have : ∀ (is : List Nat), seps (is.map fun _ => emp) r own0 := by
        intro is
        induction is with
        | nil => trivial
        | cons i is ihh => exact ⟨own0, own0, fun _ _ => .inl rfl, none_add, trivial, ihh⟩
      exact this als
end
end Go.Sl

/-! The rules of reading, for regions with new variables. -/
set_option linter.unusedVariables false
set_option linter.unusedSectionVars false
set_option linter.unusedSimpArgs false
namespace Go.Sl
section
variable {P : Program} [tb : Tab P] {rd : Option Nat} {N : Nat} {T : TT} {L L' L1 L2 : List HP} {Q : Post} {ks : List K}
variable {all : Array Oper} {rest : List Oper} {o : Oper} {d : Option Tmp} {ty : TypeId} {pos : String} {aft : Array Edge}
variable {α : Type} {ρ : Rep α}
theorem SR.pure {v : Value} {RR : TT → List HP → Prop} (hg : o.guard = none) (h : pureOp tb.tab T o.op = some v) (hd : dstOk N o.dst = true)
    (k : SR P N all rest (putD o.dst v T) L RR) : SR P N all (o :: rest) T L RR := SR.reads (reads_pure h) hg hd (by rintro _ _ ⟨rfl, rfl⟩; exact k)
theorem SR.load {RR : TT → List HP → Prop} {x : Operand} {t b off o' : Nat} {vs : List Value} {ti : TI} (hx : evO T x = some (.pointer (some ⟨b, off, none⟩))) (htk : Take (pts b o' vs) L L')
    (ht : tget tb.tab t = some ti) (ho : Nat.ble o' off = true) (hp : packOk ti (cut vs (off - o') ti.size)) (hd : dstOk N d = true)
    (k : SR P N all rest (putD d (packV ti (cut vs (off - o') ti.size)) T) L RR) : SR P N all (⟨d, .load t x, ty, pos, aft, none⟩ :: rest) T L RR :=
  SR.reads (rd_load hx htk ht ho hp) rfl hd (by rintro _ _ ⟨rfl, rfl⟩; exact k)
theorem SR.loadR {RR : TT → List HP → Prop} {x : Operand} {t b off o' : Nat} {vs : List Value} {ti : TI} (hx : evO T x = some (.pointer (some ⟨b, off, none⟩))) (htk : Take (rod b o' vs) L L')
    (ht : tget tb.tab t = some ti) (ho : Nat.ble o' off = true) (hp : packOk ti (cut vs (off - o') ti.size)) (hd : dstOk N d = true)
    (k : SR P N all rest (putD d (packV ti (cut vs (off - o') ti.size)) T) L RR) : SR P N all (⟨d, .load t x, ty, pos, aft, none⟩ :: rest) T L RR :=
  SR.reads (rd_loadR hx htk ht ho hp) rfl hd (by rintro _ _ ⟨rfl, rfl⟩; exact k)
theorem SR.field {RR : TT → List HP → Prop} {x : Operand} {t i off : Nat} {cs : List Value} {fs : List (Nat × Nat)} {n1 n2 : Nat} {z : Value} {tf : Nat} {ti : TI} (hx : evO T x = some (.agg cs.toArray))
    (ht : tget tb.tab t = some ⟨.st fs, n1, n2, z⟩) (hf : fs[i]? = some (off, tf)) (hti : tget tb.tab tf = some ti) (hp : packOk ti (cut cs off ti.size)) (hd : dstOk N d = true)
    (k : SR P N all rest (putD d (packV ti (cut cs off ti.size)) T) L RR) : SR P N all (⟨d, .field t x i, ty, pos, aft, none⟩ :: rest) T L RR :=
  SR.reads (rd_field hx ht hf hti hp) rfl hd (by rintro _ _ ⟨rfl, rfl⟩; exact k)
theorem SR.build {RR : TT → List HP → Prop} {t : Nat} {ps : List (Nat × Operand)} {fs : List (Nat × Nat)} {n1 n2 : Nat} {z : Value} {r : List Value}
    (ht : tget tb.tab t = some ⟨.st fs, n1, n2, z⟩) (ha : allTab tb.tab fs = true) (hb : buildV tb.tab fs T z.cells.toList ps = some r) (hd : dstOk N d = true)
    (k : SR P N all rest (putD d (.agg r.toArray) T) L RR) : SR P N all (⟨d, .build t ps.toArray, ty, pos, aft, none⟩ :: rest) T L RR :=
  SR.reads (rd_build ht ha hb) rfl hd (by rintro _ _ ⟨rfl, rfl⟩; exact k)
theorem SR.index {RR : TT → List HP → Prop} {x y : Operand} {t e : Nat} {sz n1 n2 b1 : Nat} {z z2 : Value} {ke : TK} {A : Option Addr} {n c i : Nat} {k : IntKind} {j : Int} {l : List α} (hx : evO T x = some (.slice A n c)) (hy : evO T y = some (.int k j))
    (hh : Has (slAt ρ A n l) L) (ht : tget tb.tab t = some ⟨.sl e, n1, n2, z⟩) (hte : tget tb.tab e = some ⟨ke, sz, b1, z2⟩) (hj : Int.ofNat i = j) (hd : dstOk N d = true) (hi : i < n)
    (kk : ∀ v, l[i]? = some v → SR P N all rest (putD d (.pointer (some (eadr A i sz 0))) T) L RR) : SR P N all (⟨d, .indexAddr t x y, ty, pos, aft, none⟩ :: rest) T L RR :=
  SR.reads (rd_index hx hy hh ht hte hj hi) rfl hd (by rintro _ _ ⟨rfl, rfl, u, hu⟩; exact kk u hu)
theorem SR.indexW {RR : TT → List HP → Prop} {x y : Operand} {t e : Nat} {sz n1 n2 b1 : Nat} {z z2 : Value} {ke : TK} {A : Option Addr} {n c c' i : Nat} {k : IntKind} {j : Int} {l : List α} {w' : Bool} (hx : evO T x = some (.slice A n c)) (hy : evO T y = some (.int k j))
    (hh : Take (sqAt w' ρ A n c' l) L L') (ht : tget tb.tab t = some ⟨.sl e, n1, n2, z⟩) (hte : tget tb.tab e = some ⟨ke, sz, b1, z2⟩) (hj : Int.ofNat i = j) (hd : dstOk N d = true) (hi : i < n)
    (kk : ∀ v, l[i]? = some v → SR P N all rest (putD d (.pointer (some (eadr A i sz 0))) T) L RR) : SR P N all (⟨d, .indexAddr t x y, ty, pos, aft, none⟩ :: rest) T L RR :=
  SR.reads (rd_indexW hx hy hh ht hte hj hi) rfl hd (by rintro _ _ ⟨rfl, rfl, u, hu⟩; exact kk u hu)
theorem SR.efield {RR : TT → List HP → Prop} {x : Operand} {t f : Nat} {A : Option Addr} {i sz o off tf n1 n2 s1 s2 : Nat} {z z2 : Value} {k2 : TK} {fs : List (Nat × Nat)} (hx : evO T x = some (.pointer (some (eadr A i sz o))))
    (ht : tget tb.tab t = some ⟨.st fs, n1, n2, z⟩) (hf : fs[f]? = some (off, tf)) (htf : tget tb.tab tf = some ⟨k2, s1 + 1, s2, z2⟩) (hd : dstOk N d = true)
    (kk : SR P N all rest (putD d (.pointer (some (eadr A i sz (o + off)))) T) L RR) : SR P N all (⟨d, .fieldAddr t x f, ty, pos, aft, none⟩ :: rest) T L RR :=
  SR.reads (rd_efield hx ht hf htf) rfl hd (by rintro _ _ ⟨rfl, rfl⟩; exact kk)
theorem SR.eload {RR : TT → List HP → Prop} {x : Operand} {t : Nat} {ti : TI} {A : Option Addr} {n i sz o : Nat} {l : List α} {u : α} (hx : evO T x = some (.pointer (some (eadr A i sz o)))) (hh : Has (slAt ρ A n l) L) (hu : l[i]? = some u)
    (ht : tget tb.tab t = some ti) (hsz : Nat.beq ρ.sz sz = true) (hp : ∀ h, packOk ti (cut (ρ.cells u h) o ti.size)) (hd : dstOk N d = true)
    (kk : ∀ h, SR P N all rest (putD d (packV ti (cut (ρ.cells u h) o ti.size)) T) (ρ.atoms u h ++ L) RR) : SR P N all (⟨d, .load t x, ty, pos, aft, none⟩ :: rest) T L RR :=
  SR.reads (rd_eload hx hh hu ht hsz hp) rfl hd (by rintro _ _ ⟨h, rfl, rfl⟩; exact kk h)
theorem SR.slice {RR : TT → List HP → Prop} {x : Operand} {lo hi : Option Operand} {A : Option Addr} {n c i j t e sz n1 n2 b1 : Nat} {z z2 : Value} {ke : TK} {l : List α} (hx : evO T x = some (.slice A n c)) {vl vh : Option Value} {k1 k2 : IntKind}
    (hlo : evOo T lo = some vl) (hhi : evOo T hi = some vh)
    (hh : Has (slAt ρ A n l) L) (ht : tget tb.tab t = some ⟨.sl e, n1, n2, z⟩) (hte : tget tb.tab e = some ⟨ke, sz, b1, z2⟩) (hsz : Nat.beq ρ.sz sz = true) (hd : dstOk N d = true) (hl : vl = some (.int k1 i) ∨ (vl = none ∧ i = 0)) (hv : vh = some (.int k2 j) ∨ (vh = none ∧ j = n)) (h1 : i ≤ j) (h2 : j ≤ n) (h3 : n ≤ c)
    (kk : ∀ A' c', j - i ≤ c' → SR P N all rest (putD d (.slice A' (j - i) c') T) (slAt ρ A' (j - i) ((l.drop i).take (j - i)) :: L) RR) : SR P N all (⟨d, .slice t x lo hi none, ty, pos, aft, none⟩ :: rest) T L RR :=
  SR.reads (rd_slice hx hlo hhi hh ht hte hsz hl hv h1 h2 h3) rfl hd (by rintro _ _ ⟨A', c', hc, rfl, rfl⟩; exact kk A' c' hc)
theorem SR.pure2 {v : Value} {RR : TT → List HP → Prop} (hg : o.guard = none) (h : pureOp2 tb.tab T o.op = some v) (hd : dstOk N o.dst = true)
    (k : SR P N all rest (putD o.dst v T) L RR) : SR P N all (o :: rest) T L RR := SR.reads (reads_pure2 h) hg hd (by rintro _ _ ⟨rfl, rfl⟩; exact k)
theorem SR.eloadW {RR : TT → List HP → Prop} {ty : TypeId} {pos : String} {aft : Array Edge} {d : Option Tmp} {α : Type} {ρ : Rep α} {x : Operand} {t : Nat} {ti : TI} {A : Option Addr} {n i sz : Nat} {l : List α} {u : α} (hx : evO T x = some (.pointer (some (eadr A i sz 0)))) (hh : Has (slAt ρ A n l) L) (hu : l[i]? = some u)
    (ht : tget tb.tab t = some ti) (hsz : Nat.beq ρ.sz sz = true) (hk : ti.k.agg = ρ.agg) (h2 : Nat.beq ti.size ρ.sz = true) (hd : dstOk N d = true)
    (kk : ∀ h, SR P N all rest (putD d (ρ.val u h) T) (ρ.atoms u h ++ L) RR) : SR P N all (⟨d, .load t x, ty, pos, aft, none⟩ :: rest) T L RR :=
  SR.eload hx hh hu ht hsz (fun h => (whole hk h2).2) hd (fun h => by rw [(whole hk h2).1]; exact kk h)
theorem SR.loadW {RR : TT → List HP → Prop} {ty : TypeId} {pos : String} {aft : Array Edge} {d : Option Tmp} {x : Operand} {t b off : Nat} {v : Value} {ti : TI} (hx : evO T x = some (.pointer (some ⟨b, off, none⟩))) (htk : Take (pts b off v.cells.toList) L L')
    (ht : tget tb.tab t = some ti) (h1 : ti.k.agg = true) (h2 : isAggV v = true) (h3 : Nat.beq v.cells.toList.length ti.size = true) (hd : dstOk N d = true)
    (k : SR P N all rest (putD d v T) L RR) : SR P N all (⟨d, .load t x, ty, pos, aft, none⟩ :: rest) T L RR :=
  SR.load hx htk ht (by simp) (wholeV h1 h2 h3 off).2 hd (by rw [(wholeV h1 h2 h3 off).1]; exact k)
end
section
variable {P : Program} [tb : Tab P] {rd : Option Nat} {N : Nat} {T : TT} {L L' L1 : List HP} {Q : Post} {ks : List K}
variable {all : Array Oper} {rest : List Oper} {d : Option Tmp} {ty : TypeId} {pos : String} {aft : Array Edge}
variable {κ α : Type} [DecidableEq κ] {kr : KR κ} {ρ : Rep α}
theorem SR.lookup {RR : TT → List HP → Prop} {x y : Operand} {t e kt b n1 n2 : Nat} {z0 : Value} {tik tie : TI} {l : List (κ × α)} {key : κ} {ok : Bool} (hx : evO T x = some (.map (some b))) (htk : Take (mpAt kr ρ b l) L L') (hy : evO T y = some (kr.v key))
    (ht : tget tb.tab t = some ⟨.map kt e, n1, n2, z0⟩) (hkt : tget tb.tab kt = some tik) (hkk : kdOf tik.k = some kr.kd) (hte : tget tb.tab e = some tie) (hd : dstOk N d = true)
    (yes : ∀ u h, mget l key = some u → SR P N all rest (putD d (lookV ok (ρ.val u h) true) T) (ρ.atoms u h ++ L) RR) (no : mget l key = none → SR P N all rest (putD d (lookV ok tie.zero false) T) L RR) :
    SR P N all (⟨d, .lookup t x y ok, ty, pos, aft, none⟩ :: rest) T L RR :=
  SR.reads (rd_lookup hx htk hy ht hkt hkk hte) rfl hd (by rintro _ _ (⟨u, h, hg, rfl, rfl⟩ | ⟨hg, rfl, rfl⟩) <;> first | exact yes _ _ (by assumption) | exact no (by assumption))
theorem SR.lenMap {RR : TT → List HP → Prop} {x : Operand} {t e kt b n1 n2 : Nat} {z0 : Value} {l : List (κ × α)} (hx : evO T x = some (.map (some b))) (htk : Take (mpAt kr ρ b l) L L')
    (ht : tget tb.tab t = some ⟨.map kt e, n1, n2, z0⟩) (hd : dstOk N d = true) (k : SR P N all rest (putD d (.int .i64 (l.length : Int)) T) L RR) :
    SR P N all (⟨d, .call ⟨.builtin .len, #[x], #[t]⟩, ty, pos, aft, none⟩ :: rest) T L RR :=
  SR.reads (rd_lenMap hx htk ht) rfl hd (by rintro _ _ ⟨rfl, rfl⟩; exact k)
end

section
variable {P : Program} [tb : Tab P] {rd : Option Nat} {N : Nat} {l : List Oper} {T : TT} {L : List HP} {Q : Post} {ks : List K} {id : Nat}
/-- No new variable; one. -/
theorem SK.regionM0 (id : Nat) (qs ps rs : List Nat) (hm : P.follows .mixedOrders = true) (hok : mixOk N tb.tab l qs [] ps rs = true) (hnp : ∀ c T L, Q (.panic c) T L → False)
    (h : SR P N l.toArray (pick l qs) T L (fun T' L' => SO P rd N l.toArray (pick l rs) T' L' ks Q)) : SK P rd N (.code (.region id l.toArray true) :: ks) T L Q :=
  SK.regionM qs [] ps rs hm hok hnp (fun r oo F a hs ha => wpStrict_mono (fun a' h' => ⟨h'.1, h'.2.choose, h'.2.choose_spec.choose, h'.2.choose_spec.choose_spec.1, h'.2.choose_spec.choose_spec.2.1, fun _ => h'.2.choose_spec.choose_spec.2.2⟩) _ a (h r oo F a hs ha))
theorem SK.regionM1 (id : Nat) (qs : List Nat) (k : Nat) (ps rs : List Nat) (hm : P.follows .mixedOrders = true) (hok : mixOk N tb.tab l qs [k] ps rs = true) (hnp : ∀ c T L, Q (.panic c) T L → False)
    (h : SR P N l.toArray (pick l qs) T L (fun T' L' => ∀ b : Nat, SO P rd N l.toArray (pick l rs) (putD (dstAt l k) (.pointer (some ⟨b, 0, none⟩)) T') (pts b 0 (zerosAt tb.tab l k) :: L') ks Q)) : SK P rd N (.code (.region id l.toArray true) :: ks) T L Q :=
  SK.regionM qs [k] ps rs hm hok hnp (fun r oo F a hs ha => wpStrict_mono (fun a' h' => ⟨h'.1, h'.2.choose, h'.2.choose_spec.choose, h'.2.choose_spec.choose_spec.1, h'.2.choose_spec.choose_spec.2.1, fun bs => h'.2.choose_spec.choose_spec.2.2 (bs k)⟩) _ a (h r oo F a hs ha))
end

/-! A guard that stands on nothing. -/
def noBool : Value → Bool
  | .bool _ => false
  | _ => true
theorem yield_none {all : Array Oper} {tmps : Array Value} {j t : Nat} {v : Value} (hj : (all[j]?).bind (·.dst) = some t) (ht : tmps[t]? = some v) (hv : noBool v = true) : yielded all tmps j = none := by
  simp only [yielded, hj, Option.bind_some, ht]
  cases v <;> first | (cases hv; done) | rfl
section
variable {P : Program} {rd : Option Nat} {N : Nat} {T : TT} {L : List HP} {Q : Post} {ks : List K} {all : Array Oper} {rest : List Oper} {RR : TT → List HP → Prop}
theorem SO.guardU {j : Nat} {want : Bool} {t : Nat} {v : Value} {dst : Option Tmp} {op : Op} {ty : TypeId} {pos : String} {aft : Array Edge}
    (hj : (all[j]?).bind (·.dst) = some t) (ht : T.get t = some v) (hv : noBool v = true) (hd : dstOk N dst = true)
    (no : SO P rd N all rest (putD dst undef T) L ks Q) : SO P rd N all (⟨dst, op, ty, pos, aft, some (j, want)⟩ :: rest) T L ks Q := by
  intro F a w ok
  have hy := yield_none hj (ok.get _ _ ht) hv
  have hw : Region.wanted (⟨dst, op, ty, pos, aft, some (j, want)⟩ : Oper) (yielded all a.tmps) = false := by simp [Region.wanted, hy]
  simp only [wpListIn, hw]
  exact ⟨fun _ _ => trivial, no F _ _ (ok.putD hd undef)⟩
theorem SQ.guardU {j : Nat} {want : Bool} {t : Nat} {v : Value} {dst : Option Tmp} {op : Op} {ty : TypeId} {pos : String} {aft : Array Edge}
    (hj : (all[j]?).bind (·.dst) = some t) (ht : T.get t = some v) (hv : noBool v = true) (hd : dstOk N dst = true)
    (no : SQ P N all rest (putD dst undef T) L RR) : SQ P N all (⟨dst, op, ty, pos, aft, some (j, want)⟩ :: rest) T L RR := by
  intro r oo F a hs ha
  have hy := yield_none hj (ha.2 _ _ ht) hv
  have hw : Region.wanted (⟨dst, op, ty, pos, aft, some (j, want)⟩ : Oper) (yielded all a.tmps) = false := by simp [Region.wanted, hy]
  simp only [wpQuiet, hw]
  exact wpQuiet_mono (fun a' ⟨h1, h2⟩ => ⟨by rw [h1, put_defers_eq], h2⟩) rest _ (no r oo F _ hs (ha.putD hd undef))
theorem SR.guardU {j : Nat} {want : Bool} {t : Nat} {v : Value} {dst : Option Tmp} {op : Op} {ty : TypeId} {pos : String} {aft : Array Edge}
    (hj : (all[j]?).bind (·.dst) = some t) (ht : T.get t = some v) (hv : noBool v = true) (hd : dstOk N dst = true)
    (no : SR P N all rest (putD dst undef T) L RR) : SR P N all (⟨dst, op, ty, pos, aft, some (j, want)⟩ :: rest) T L RR := by
  intro r oo F a hs ha
  have hy := yield_none hj (ha.2 _ _ ht) hv
  have hw : Region.wanted (⟨dst, op, ty, pos, aft, some (j, want)⟩ : Oper) (yielded all a.tmps) = false := by simp [Region.wanted, hy]
  simp only [wpStrict, hw]
  exact wpStrict_mono (fun a' ⟨h1, h2⟩ => ⟨by rw [h1, put_defers_eq], h2⟩) rest _ (no r oo F _ hs (ha.putD hd undef))
end
end Go.Sl

/-! Ranges over functions whose leaving knows the round. -/
set_option linter.unusedVariables false
set_option linter.unusedSectionVars false
namespace Go.Sl
section
variable {P : Program} {rd : Option Nat} {N : Nat} {T : TT} {L L1 : List HP} {Q : Post} {ks : List K}
/-- The ways on behind a range over a function. -/
theorem SK.rangeI_core {α : Type} {e : Enc α} {xs : List α} {pers K0 Ke : List HP} {Kb : Nat → List HP} {f : FuncId} {caps : Array Value} (it : Iter P f caps.toList e xs pers K0 Kb Ke)
    (Y : Type) (LJ : Nat → List HP) (LX : Nat → Y → List HP) (cX : Y → Code) {fx : Operand} {ps : List Nat} {asg body : Code} (hf : evO T fx = some (.func (.func f) #[] caps)) (hp : HasAll pers L) (ho : Takes (LJ 0 ++ K0) L L1)
    (hps : ltAll N ps = true) (hlen : ∀ x h, Nat.beq (e.args x h).length ps.length = true)
    (round : ∀ (i : Nat) (x : α) (h : e.V) (l : Nat) (R : Loop), xs[i]? = some x →
      SK P (some l) N [.code asg, .inv (fun T' L' => SK P (some l) N [.code body] T' (busyA l R :: L') (roundQ l R (LJ (i + 1)) Y (LX i) cX))] (zipT ps (e.args x h) T) (e.atoms x h ++ LJ i) (fun _ _ _ => False))
    (done : SK P rd N ks T (LJ xs.length ++ (Ke ++ L1)) Q)
    (stop : ∀ (y : Y) (i : Nat), i < xs.length → SK P rd N (.code (cX y) :: ks) T (LX i y ++ (Kb i ++ L1)) Q)
    -- how the record is laid
    {G : HP} {a : Act} {w : World} (ok : Ok G N T L a w)
    (enter : ∀ fn, ∃ (l : Nat) (mk : List Deferred) (w1 : World) (R : Loop) (D : List Nat),
      (Instr.enterLoop fn a.tmps ps.toArray asg body rd).run P w = .ok (l, mk) w1 ∧ mk ++ a.defers = D.map mark ∧ R.params = ps.toArray ∧ R.assign = asg ∧ R.body = body ∧ R.tmps = a.tmps ∧ R.state = .ready ∧ R.pending = none ∧
      St w1 (big (G :: D.map mkA) :: ob l (.loop R) :: L)) :
    (Code.rangeFunc fx ps.toArray asg body).wpIn (FW rd) 0 P (lift G N (postK P rd N ks Q)) a w := by
  refine wpIn_rangeFunc fun fn hfn => ?_
  obtain ⟨l, mk, w1, R, D, hr, hmk, hR1, hR2, hR3, hR4, hR5, hR6, hst⟩ := enter fn
  have hkn := ok.knows
  -- the iterator, called with this loop's yield
  let J : Nat → HP := fun i => big (ob l (.loop R) :: LJ i)
  let Jx : Nat → HP := fun i => ex fun y : Y => big (ob l (.loop { R with state := .done, pending := some (cX y) }) :: LX i y)
  have hit := it l J Jx (fun i x h hx => by
    have := yield_does (P := P) (N := N) (T := T) (e := e) (x := x) (h := h) (LI := LJ i) (LN := LJ (i + 1)) (LX := LX i) (cX := cX) hR1 hR2 hR3 hR4 hR5 hR6 ok.get ok.size hps (hlen x h) (round i x h l R hx)
    exact this)
  -- what is handed over, and what not
  have hst1 : St w1 (big (big (G :: D.map mkA) :: L1) :: (pers ++ (J 0 :: K0))) := by
    refine hst.ent ?_
    have e1 : Ent L (pers ++ ((LJ 0 ++ K0) ++ L1)) := (hp.ent hit.hpers).trans (Ent.app ho.ent)
    refine (Ent.cons (Ent.cons e1)).trans ?_
    -- [M, ob] ++ pers ++ LJ0 ++ K0 ++ L1
    have e2 : Ent (ob l (.loop R) :: (pers ++ ((LJ 0 ++ K0) ++ L1))) (L1 ++ (pers ++ (J 0 :: K0))) := by
      have e3 : Ent (ob l (.loop R) :: (pers ++ ((LJ 0 ++ K0) ++ L1))) (pers ++ (ob l (.loop R) :: ((LJ 0 ++ K0) ++ L1))) := ent_of_swap
      refine e3.trans ?_
      have e4 : Ent (ob l (.loop R) :: ((LJ 0 ++ K0) ++ L1)) ((J 0 :: K0) ++ L1) := by
        rw [List.append_assoc]
        exact big_ent (A := ob l (.loop R) :: LJ 0) (L := K0 ++ L1)
      refine (Ent.app e4).trans ?_
      rw [← List.append_assoc]
      exact ent_app_comm
    refine (Ent.cons e2).trans ?_
    exact big_ent (A := big (G :: D.map mkA) :: L1)
  refine ⟨l, mk, w1, { target := .fn (.func f) caps, args := #[] ++ #[yv l] }, w1, f, #[yv l] ++ caps, w1, hr, ?_, fun _ _ => trivial, ?_, fun h => by simp [Fence.wide] at h, ?_⟩
  · simp only [resolve, hkn _ _ hf]
    simp [Act.eval, Deferred.ofValue]
  · have := hit.entry (#[yv l] ++ caps) w1
    simpa [invoke] using this
  · have hc := hit.calls _ w1 hst1
    have hargs : (yv l :: caps.toList).toArray = #[yv l] ++ caps := by cases caps; simp
    rw [hargs, ← callsIn_wide (n := 0)] at hc
    refine ⟨trivial, fun cs hroom => ?_⟩
    obtain ⟨ee, w', fr, ⟨o, ho', rfl, hs⟩, rest⟩ := hc.2 cs hroom
    refine ⟨.returned (.tuple #[]), w', fr, ?_, rest⟩
    -- behind the call
    have fin : ∀ (R' : Loop) (L' : List HP), R'.state ≠ .busy → St w' (big (big (G :: D.map mkA) :: L1) :: ob l (.loop R') :: L') →
        ∃ w4, (Instr.endLoop l).run P w' = .ok R'.pending w4 ∧ St w4 (big (G :: D.map mkA) :: (L' ++ L1)) := by
      intro R' L' hb hs
      have h1 : St w' (ob l (.loop R') :: big (big (G :: D.map mkA) :: L1) :: L') := hs.ent Ent.swap
      obtain ⟨hl, _⟩ := h1.obj
      refine ⟨_, ?_, ((h1.setObj (z := .loop { R' with state := .exhausted }) trivial).ent Ent.drop).ent ?_⟩
      · simp only [Instr.endLoop, Sem.run_bind, run_getLoop hl, Result.andThen_ok]
        have : (R'.state == LoopState.busy) = false := by cases hh : R'.state <;> simp_all
        simp only [this, Bool.false_eq_true, if_false, Sem.run_pure, Sem.run_bind, run_setLoop hl, Result.andThen_ok]
      · refine (ent_big (A := big (G :: D.map mkA) :: L1) (L := L')).trans ?_
        exact Ent.cons ent_app_comm
    cases o with
    | none =>
      have h2 : St w' (big (big (G :: D.map mkA) :: L1) :: ob l (.loop R) :: (LJ xs.length ++ Ke)) := by
        refine hs.ent (Ent.cons ?_)
        exact ent_big (A := ob l (.loop R) :: LJ xs.length) (L := Ke)
      obtain ⟨w4, hr4, hs4⟩ := fin R _ (by rw [hR5]; simp) h2
      refine ⟨none, w4, by rw [hr4, hR6], ?_⟩
      rw [List.append_assoc] at hs4
      exact ⟨T, _, ⟨ok.size, ok.get, D, by rw [← hmk], hs4⟩, done⟩
    | some i =>
      have h2 := hs.ent Ent.swap
      obtain ⟨y, h2⟩ := St.ex h2
      have h3 : St w' (big (big (G :: D.map mkA) :: L1) :: ob l (.loop { R with state := .done, pending := some (cX y) }) :: (LX i y ++ Kb i)) := by
        refine (h2.ent Ent.swap).ent (Ent.cons ?_)
        exact ent_big (A := ob l (.loop { R with state := .done, pending := some (cX y) }) :: LX i y) (L := Kb i)
      obtain ⟨w4, hr4, hs4⟩ := fin _ _ (by simp) h3
      refine ⟨some (cX y), w4, hr4, ?_⟩
      rw [List.append_assoc] at hs4
      exact (SK_code.1 (stop y i (ho' i rfl))) G _ w4 ⟨ok.size, ok.get, D, by rw [← hmk], hs4⟩

/-- A range over a function, not in the body of another one. -/
theorem SK.rangeI {α : Type} {e : Enc α} {xs : List α} {pers K0 Ke : List HP} {Kb : Nat → List HP} {f : FuncId} {caps : Array Value} (it : Iter P f caps.toList e xs pers K0 Kb Ke)
    (Y : Type) (LJ : Nat → List HP) (LX : Nat → Y → List HP) (cX : Y → Code) {fx : Operand} {ps : List Nat} {asg body : Code} (hf : evO T fx = some (.func (.func f) #[] caps)) (hp : HasAll pers L) (ho : Takes (LJ 0 ++ K0) L L1)
    (hps : ltAll N ps = true) (hlen : ∀ x h, Nat.beq (e.args x h).length ps.length = true)
    (round : ∀ (i : Nat) (x : α) (h : e.V) (l : Nat) (R : Loop), xs[i]? = some x →
      SK P (some l) N [.code asg, .inv (fun T' L' => SK P (some l) N [.code body] T' (busyA l R :: L') (roundQ l R (LJ (i + 1)) Y (LX i) cX))] (zipT ps (e.args x h) T) (e.atoms x h ++ LJ i) (fun _ _ _ => False))
    (done : SK P none N ks T (LJ xs.length ++ (Ke ++ L1)) Q)
    (stop : ∀ (y : Y) (i : Nat), i < xs.length → SK P none N (.code (cX y) :: ks) T (LX i y ++ (Kb i ++ L1)) Q) :
    SK P none N (.code (.rangeFunc fx ps.toArray asg body) :: ks) T L Q := by
  rw [SK_code]
  intro G a w ok
  refine SK.rangeI_core it Y LJ LX cX hf hp ho hps hlen round done stop ok fun fn => ?_
  obtain ⟨D, hD, hm⟩ := ok.mem
  have h1 := hm.allocObj (.deferred (some [])) trivial
  have h2 := h1.allocObj (.loop { state := .ready, pending := none, fn := fn, tmps := a.tmps, params := ps.toArray, assign := asg, body := body, defers := w.heap.size }) trivial
  refine ⟨_, _, _, { state := .ready, pending := none, fn := fn, tmps := a.tmps, params := ps.toArray, assign := asg, body := body, defers := w.heap.size }, w.heap.size :: D, by simp only [Instr.enterLoop, newObj, bind, Sem.bind, Sem.run, pure]; rfl, ?_, rfl, rfl, rfl, rfl, rfl, rfl, h2.ent ?_⟩
  · rw [hD]; rfl
  · -- the mark's block goes to the marks
    refine Ent.swap.trans ?_
    have : Ent (ob w.heap.size (.deferred (some [])) :: big (G :: D.map mkA) :: L) (big (G :: (w.heap.size :: D).map mkA) :: L) := by
      refine (Ent.cons ent_big).trans ?_
      show Ent (mkA w.heap.size :: G :: (D.map mkA ++ L)) _
      refine Ent.swap.trans ?_
      exact big_ent (A := G :: (w.heap.size :: D).map mkA)
    refine (Ent.cons (Ent.refl _)).trans ?_
    refine Ent.swap.trans ?_
    refine (Ent.cons this).trans Ent.swap

/-- A range over a function in the body of another one. -/
theorem SK.rangeNI {α : Type} {e : Enc α} {xs : List α} {pers K0 Ke : List HP} {Kb : Nat → List HP} {f : FuncId} {caps : Array Value} (it : Iter P f caps.toList e xs pers K0 Kb Ke)
    (Y : Type) (LJ : Nat → List HP) (LX : Nat → Y → List HP) (cX : Y → Code) {l₀ : Nat} {R₀ : Loop} {L₀ : List HP} (h₀ : Take (busyA l₀ R₀) L L₀) {fx : Operand} {ps : List Nat} {asg body : Code} (hf : evO T fx = some (.func (.func f) #[] caps)) (hp : HasAll pers L) (ho : Takes (LJ 0 ++ K0) L L1)
    (hps : ltAll N ps = true) (hlen : ∀ x h, Nat.beq (e.args x h).length ps.length = true)
    (round : ∀ (i : Nat) (x : α) (h : e.V) (l : Nat) (R : Loop), xs[i]? = some x →
      SK P (some l) N [.code asg, .inv (fun T' L' => SK P (some l) N [.code body] T' (busyA l R :: L') (roundQ l R (LJ (i + 1)) Y (LX i) cX))] (zipT ps (e.args x h) T) (e.atoms x h ++ LJ i) (fun _ _ _ => False))
    (done : SK P (some l₀) N ks T (LJ xs.length ++ (Ke ++ L1)) Q)
    (stop : ∀ (y : Y) (i : Nat), i < xs.length → SK P (some l₀) N (.code (cX y) :: ks) T (LX i y ++ (Kb i ++ L1)) Q) :
    SK P (some l₀) N (.code (.rangeFunc fx ps.toArray asg body) :: ks) T L Q := by
  rw [SK_code]
  intro G a w ok
  refine SK.rangeI_core it Y LJ LX cX hf hp ho hps hlen round done stop ok fun fn => ?_
  obtain ⟨D, hD, hm⟩ := ok.mem
  obtain ⟨hl, _⟩ := ((hm.ent (Ent.cons h₀.ent)).ent Ent.swap).obj
  have h2 := hm.allocObj (.loop { state := .ready, pending := none, fn := fn, tmps := a.tmps, params := ps.toArray, assign := asg, body := body, defers := R₀.defers }) trivial
  refine ⟨_, _, _, { state := .ready, pending := none, fn := fn, tmps := a.tmps, params := ps.toArray, assign := asg, body := body, defers := R₀.defers }, D, by simp only [Instr.enterLoop, Sem.run_bind, run_getLoop hl, Result.andThen_ok, newObj, Sem.run, Sem.run_pure]; rfl, ?_, rfl, rfl, rfl, rfl, rfl, rfl, h2.ent Ent.swap⟩
  rw [← hD]; rfl
end
end Go.Sl

/-! How plain data lie in cells. -/
set_option linter.unusedVariables false
namespace Go.Sl
/-- Whole numbers of a kind. -/
def RK (k : IntKind) : Rep Int where
  V := Unit
  sz := 1
  agg := false
  cells := fun x _ => [.int k x]
  atoms := fun _ _ => []
  len := fun _ _ => rfl
  pers := fun _ _ _ h => by cases h
  pos := by decide
  sc := fun _ => rfl
  one := fun _ _ v h => by simp at h; subst h; rfl
  wit := fun _ h => h ()
abbrev RI : Rep Int := RK .i64
abbrev RU : Rep Int := RK .u8
def RB : Rep Bool where
  V := Unit
  sz := 1
  agg := false
  cells := fun x _ => [.bool x]
  atoms := fun _ _ => []
  len := fun _ _ => rfl
  pers := fun _ _ _ h => by cases h
  pos := by decide
  sc := fun _ => rfl
  one := fun _ _ v h => by simp at h; subst h; rfl
  wit := fun _ h => h ()
def RS : Rep ByteArray where
  V := Unit
  sz := 1
  agg := false
  cells := fun x _ => [.string x]
  atoms := fun _ _ => []
  len := fun _ _ => rfl
  pers := fun _ _ _ h => by cases h
  pos := by decide
  sc := fun _ => rfl
  one := fun _ _ v h => by simp at h; subst h; rfl
  wit := fun _ h => h ()
/-- A slice within a value: its place, its room. -/
abbrev Pl := Option Addr × Nat
/-- A record. -/
structure Rc where
  site : Int
  seq : Int
  dep : List Int
  key : ByteArray
  val : ByteArray
  deriving DecidableEq
def RRec : Rep Rc where
  V := Pl
  sz := 5
  agg := true
  cells := fun e h => [.int .i64 e.site, .int .i64 e.seq, .slice h.1 e.dep.length h.2, .string e.key, .string e.val]
  atoms := fun e h => [slAt RI h.1 e.dep.length e.dep, pr (e.dep.length ≤ h.2)]
  len := fun _ _ => rfl
  pers := fun e h A hA => by
    simp only [List.mem_cons, List.mem_nil_iff, or_false] at hA
    rcases hA with rfl | rfl
    · exact pers_slAt _ _ _ _
    · exact pers_pr _
  pos := by decide
  sc := fun h => by cases h
  one := fun _ _ v h => by
    simp only [List.mem_cons, List.mem_nil_iff, or_false] at h
    rcases h with rfl | rfl | rfl | rfl | rfl <;> rfl
  wit := fun _ h => h (none, 0)
def bE : ByteArray := ⟨#[]⟩
def rc0 : Rc := ⟨0, 0, [], bE, bE⟩
instance : Triv (pr (([] : List Int).length ≤ 0)) := ⟨fun _ _ => Nat.le_refl 0⟩
theorem Has.pr {p : Prop} {L : List HP} (h : p) : Has (Sl.pr p) L := @Has.triv _ _ ⟨fun _ _ => h⟩
theorem wrap_id {n : Int} (h1 : -9223372036854775808 ≤ n) (h2 : n < 9223372036854775808) : IntKind.i64.wrap n = n := by
  simp only [IntKind.wrap, IntKind.bits, IntKind.signed]; simp; omega
theorem wrap_nat {i : Nat} (h : i < lim) : IntKind.i64.wrap ((i : Int) + 1) = ((i + 1 : Nat) : Int) := by
  have : (i : Int) < 2147483648 := by unfold lim at h; omega
  rw [wrap_id (by omega) (by omega)]; omega

/-! ### Vectors -/
def getI (l : List Int) (i : Int) : Int := if i < 0 then 0 else l.getD i.toNat 0
def vecBad : List Int → Int
  | [] => 0
  | x :: xs => if x < 0 then 1 else if 1048576 < x then 4 else vecBad xs
/-- What is wrong with a vector of so many sites. -/
def checkV (l : List Int) (m : Int) : Int := if m < 1 ∨ 8 < m then 1 else if m < l.length then 4 else vecBad l
/-- The numbers that are not nought, with their places. -/
def nzF : Nat → List Int → List (Nat × Int)
  | _, [] => []
  | i, x :: xs => if x = 0 then nzF (i + 1) xs else (i, x) :: nzF (i + 1) xs
theorem nzF_app : ∀ (a b : List Int) (i : Nat), nzF i (a ++ b) = nzF i a ++ nzF (i + a.length) b
  | [], b, i => by simp [nzF]
  | x :: a, b, i => by
    simp only [List.cons_append, nzF, nzF_app a b (i + 1), List.length_cons]
    rw [show i + 1 + a.length = i + (a.length + 1) by omega]
    split <;> rfl
theorem nzF_take {l : List Int} {i : Nat} {x : Int} (h : l[i]? = some x) : nzF 0 (l.take (i + 1)) = nzF 0 (l.take i) ++ nzF i [x] := by
  have hl : i < l.length := (List.getElem?_eq_some_iff.1 h).1
  have : l.take (i + 1) = l.take i ++ [x] := by rw [List.take_add_one, h]; rfl
  rw [this, nzF_app, List.length_take, Nat.min_eq_left (by omega), Nat.zero_add]
theorem nzF_get {l : List Int} {i : Nat} {x : Int} (h : l[i]? = some x) (hs : x ≠ 0) : (nzF 0 l)[(nzF 0 (l.take i)).length]? = some (i, x) := by
  have hl : i < l.length := (List.getElem?_eq_some_iff.1 h).1
  have e : l = l.take i ++ l.drop i := by simp
  have d : l.drop i = x :: l.drop (i + 1) := by rw [List.drop_eq_getElem_cons hl]; congr 1; exact (List.getElem?_eq_some_iff.1 h).2
  have : nzF 0 l = nzF 0 (l.take i) ++ nzF i (l.drop i) := by
    conv => lhs; rw [e]
    rw [nzF_app, List.length_take, Nat.min_eq_left (by omega), Nat.zero_add]
  rw [this, List.getElem?_append_right (Nat.le_refl _), Nat.sub_self, d, nzF, if_neg hs]
  rfl
def badNz : List (Nat × Int) → Int
  | [] => 0
  | (_, x) :: xs => if x < 0 then 1 else if 1048576 < x then 4 else badNz xs
theorem bad_nz : ∀ (l : List Int) (i : Nat), badNz (nzF i l) = vecBad l
  | [], _ => rfl
  | x :: xs, i => by
    simp only [nzF, vecBad]
    by_cases h : x = 0
    · subst h; simp [bad_nz xs]
    · rw [if_neg h]; simp only [badNz, bad_nz xs]
theorem badNz_take : ∀ (xs : List (Nat × Int)) (i : Nat), badNz (xs.take i) = 0 → ∀ p, xs[i]? = some p → badNz xs = if p.2 < 0 then 1 else if 1048576 < p.2 then 4 else badNz (xs.drop (i + 1))
  | [], i, _, p, h => by simp at h
  | (j, x) :: xs, 0, _, p, h => by simp at h; subst h; simp [badNz]
  | (j, x) :: xs, i + 1, h0, p, h => by
    simp only [List.take_succ_cons, badNz] at h0
    simp only [badNz]
    by_cases h1 : x < 0
    · simp [h1] at h0
    · by_cases h2 : 1048576 < x
      · simp [h1, h2] at h0
      · simp only [h1, h2, if_false] at h0 ⊢
        have := badNz_take xs i h0 p (by simpa using h)
        simpa using this
theorem badNz_step {xs : List (Nat × Int)} {i : Nat} {p : Nat × Int} (h : xs[i]? = some p) (h0 : badNz (xs.take i) = 0) (h1 : ¬ p.2 < 0) (h2 : ¬ 1048576 < p.2) : badNz (xs.take (i + 1)) = 0 := by
  have e : (xs.take (i + 1))[i]? = some p := by rw [List.getElem?_take_of_lt (by omega)]; exact h
  have h3 : (xs.take (i + 1)).take i = xs.take i := by rw [List.take_take, Nat.min_eq_left (by omega)]
  have := badNz_take (xs.take (i + 1)) i (by rw [h3]; exact h0) p e
  rw [this, if_neg h1, if_neg h2]
  have : (xs.take (i + 1)).drop (i + 1) = [] := by simp
  rw [this]; rfl
/-- What an iterator over a vector hands over. -/
def ENz : Enc (Nat × Int) where
  V := Unit
  args := fun x _ => [.int .i64 (x.1 : Int), .int .i64 x.2]
  atoms := fun _ _ => []
  pers := fun _ _ _ h => by cases h
end Go.Sl

/-! Strings: their bytes. -/
set_option linter.unusedVariables false
set_option linter.unusedSectionVars false
set_option linter.unusedSimpArgs false
namespace Go.Sl

theorem St.allocF {w : World} {L : List HP} (h : St w L) (cs : Array Value) (t : TypeId) (lo hi : Nat) (hlo : cs.size ≤ lo) : St { w with heap := w.heap.push (.cells cs t (lo, hi)) } (pts w.heap.size 0 cs.toList :: L) := by
  obtain ⟨r, o, s, hL⟩ := h
  obtain ⟨n1, n2⟩ := sat_new s
  let x : Own := fun i j => if i = w.heap.size then (cs.toList[j]?).map .val else none
  have dx : x.disj o := fun i j => by
    by_cases hi : i = w.heap.size
    · right
      subst hi
      cases ho : o w.heap.size j with
      | none => rfl
      | some c => exact (n1 _ _ ho).elim
    · left; simp [x, hi]
  have s' := sat_push s (.cells cs t (lo, hi))
  have hself : ({ w with heap := w.heap.push (.cells cs t (lo, hi)) } : World).heap[w.heap.size]? = some (.cells cs t (lo, hi)) := by simp
  have hlow : ∀ k l c, x.add o k l = some c → r.bs.heap.size ≤ k := fun k l c e => by
    rcases Own.add_cases e with e | e
    · simp only [x] at e
      split at e
      · rename_i hk; rw [hk]; exact s.below.size
      · cases e
    · exact s.low _ _ _ e
  refine ⟨r, x.add o, ⟨s'.ro, fun i j v e => ?_, fun i j z e => ?_, fun i j v c e e' => ?_, s'.below, hlow, fun i j e => ?_⟩, x, o, dx, Own.le_refl _, ?_, hL⟩
  · rcases Own.add_cases e with e | e
    · by_cases hi' : i = w.heap.size
      · subst hi'
        simp only [x, if_true, Option.map_eq_some_iff] at e
        obtain ⟨u, hu, e⟩ := e
        cases e
        have hj := row_lt hu
        refine ⟨?_, ?_⟩
        · unfold World.cell?; simp only [hself]; simpa using hu
        · unfold World.frozen?; simp only [hself]
          simp at hj
          have : ¬ lo ≤ j := by omega
          simp [this]
      · simp [x, hi'] at e
    · exact s'.val _ _ _ e
  · rcases Own.add_cases e with e | e
    · simp only [x] at e
      split at e
      · simp only [Option.map_eq_some_iff] at e
        obtain ⟨u, hu, e⟩ := e; cases e
      · simp at e
    · exact s'.obj _ _ _ e
  · rcases Own.add_cases e' with e' | e'
    · by_cases hi' : i = w.heap.size
      · subst hi'; exact n2 _ _ e
      · simp [x, hi'] at e'
    · exact s.dis _ _ _ _ e e'
  · rcases Own.add_cases e with e | e
    · simp only [x] at e
      split at e
      · simp only [Option.map_eq_some_iff] at e
        obtain ⟨u, hu, e⟩ := e; cases e
      · simp at e
    · exact s'.pl _ _ e
  · intro i v hv
    simp only [x, if_true, Nat.zero_add, hv, Option.map_some]

/-- A string's bytes. -/
def bytesI (s : ByteArray) : List Int := s.data.toList.map fun b => (b.toNat : Int)
theorem bytesI_len (s : ByteArray) : (bytesI s).length = s.size := (List.length_map _).trans Array.length_toList
theorem bytesI_bd {s : ByteArray} {i : Nat} {v : Int} (h : (bytesI s)[i]? = some v) : 0 ≤ v ∧ v < 256 := by
  unfold bytesI at h
  rw [List.getElem?_map, Option.map_eq_some_iff] at h
  obtain ⟨b, _, rfl⟩ := h
  have := b.toNat_lt
  omega

section
variable {P : Program} [tb : Tab P] {rd : Option Nat} {N : Nat} {T : TT} {L L' L1 : List HP} {Q : Post} {ks : List K}
variable {all : Array Oper} {rest : List Oper} {d : Option Tmp} {ty : TypeId} {pos : String} {aft : Array Edge}
/-- A string's bytes as a slice. -/
theorem SO.bytesOf {x : Operand} {t t2 e n1 n2 n3 n4 n5 n6 : Nat} {z0 z1 z2 : Value} {s : ByteArray} (hx : evO T x = some (.string s)) (ht : tget tb.tab t = some ⟨.str, n1, n2, z0⟩) (ht2 : tget tb.tab t2 = some ⟨.sl e, n3, n4, z1⟩) (hte : tget tb.tab e = some ⟨.int .u8, n5, n6, z2⟩)
    (hs : s.size ≤ lim) (hd : dstOk N d = true) (kk : ∀ b c, s.size ≤ c → SO P rd N all rest (putD d (.slice (some ⟨b, 0, none⟩) s.size c) T) (sqAt true RU (some ⟨b, 0, none⟩) s.size c (bytesI s) :: L) ks Q) :
    SO P rd N all (⟨d, .convert t t2 x, ty, pos, aft, none⟩ :: rest) T L ks Q := by
  refine SO.run (R := fun v L2 => ∃ b c, s.size ≤ c ∧ v = .slice (some ⟨b, 0, none⟩) s.size c ∧ L2 = sqAt true RU (some ⟨b, 0, none⟩) s.size c (bytesI s) :: L) rfl rfl hd ?_ (by rintro _ _ ⟨b, c, hc, rfl, rfl⟩; exact kk b c hc)
  intro q hq F w hst
  have h1 := (tab_ok ht).k
  have h2 := (tab_ok ht2).k
  have h3 := (tab_ok hte).k
  simp only [TK.ok] at h1 h2 h3
  have hrun := run_bytes_of_string w t t2 e s h1 h2 h3
  have hcap : s.size ≤ grownCap w s.size 0 e := by
    simp only [grownCap, Question.cut]; omega
  have hst2 := (hst.drew (w.drawn + 1)).allocF (bytesRow s (grownCap w s.size 0 e)) e (bytesRow s (grownCap w s.size 0 e)).size ((bytesRow s (grownCap w s.size 0 e)).size + 1) (Nat.le_refl _)
  refine ⟨_, _, _, .inl ?_, ⟨w.heap.size, grownCap w s.size 0 e, hcap, rfl, rfl⟩, hst2.ent ?_⟩
  · simp only [execOp, hq _ _ hx, Sem.run_bind, hrun, Result.andThen_ok]
    rfl
  · have hl : (bytesRow s (grownCap w s.size 0 e)).toList = flat RU ((bytesI s).map fun v => (v, ())) ++ List.replicate (grownCap w s.size 0 e - s.size) (.int .u8 0) := by
      have : ∀ (l : List UInt8), flat RU ((l.map fun b => (b.toNat : Int)).map fun v => (v, ())) = l.map fun b => Value.int .u8 b.toNat := by
        intro l
        induction l with
        | nil => rfl
        | cons b l ih => simp only [List.map_cons, flat, ih]; rfl
      unfold bytesI
      rw [this]
      unfold bytesRow
      rw [Array.toList_append, Array.toList_map, Array.toList_replicate]
    rw [hl]
    refine (pts_split).trans ?_
    have hfl : (flat RU ((bytesI s).map fun v => (v, ()))).length = s.size * 1 := by
      rw [flat_length, List.length_map, bytesI_len]; rfl
    rw [hfl]
    have hm : ∀ (M : List HP), Ent M (memA RU ((bytesI s).map fun v => (v, ())) :: M) := fun M r o h => ⟨own0, o, fun _ _ => .inl rfl, none_add, fun i u y e => trivial, h⟩
    refine (Ent.cons (Ent.cons (hm _))).trans ?_
    exact (sq_shut (w := true) (ρ := RU) (a := ⟨w.heap.size, 0, none⟩) (l := bytesI s) (bytesI_len s).symm hs hcap rfl (by rw [List.map_map]; exact List.map_id _) (by rw [List.length_replicate]; exact (Nat.mul_one _).symm)).trans Ent.swap
/-- The same, for one who only reads them. -/
theorem SO.bytesOfR {x : Operand} {t t2 e n1 n2 n3 n4 n5 n6 : Nat} {z0 z1 z2 : Value} {s : ByteArray} (hx : evO T x = some (.string s)) (ht : tget tb.tab t = some ⟨.str, n1, n2, z0⟩) (ht2 : tget tb.tab t2 = some ⟨.sl e, n3, n4, z1⟩) (hte : tget tb.tab e = some ⟨.int .u8, n5, n6, z2⟩)
    (hs : s.size ≤ lim) (hd : dstOk N d = true) (kk : ∀ b c, s.size ≤ c → SO P rd N all rest (putD d (.slice (some ⟨b, 0, none⟩) s.size c) T) (slAt RU (some ⟨b, 0, none⟩) s.size (bytesI s) :: L) ks Q) :
    SO P rd N all (⟨d, .convert t t2 x, ty, pos, aft, none⟩ :: rest) T L ks Q :=
  SO.bytesOf hx ht ht2 hte hs hd fun b c hc => SO.shift (fun F w hst => ((((hst.ent Ent.swap).shut).ent (sl_of_sq.trans (Ent.cons Ent.drop))).ent Ent.swap)) (kk b c hc)
end
end Go.Sl

/-! From a contract of the library's shelf to one of the walk. -/
set_option linter.unusedVariables false
set_option linter.unusedSectionVars false
namespace Go.Sl
open Go.RowKit

/-- What a world's heap holds, a later one holds. -/
theorem Sat.grow {w w' : World} {r : Ro} {o : Own} (s : Sat w r o) (hb : Below w.heap.size w w') : Sat w' r o := by
  have hlt : ∀ {i j v}, w.cell? ⟨i, j, none⟩ = some v → i < w.heap.size := fun {i j v} h => by
    obtain ⟨c, e, f, hh, _⟩ := cell_block h
    exact (Array.getElem?_eq_some_iff.1 hh).1
  refine ⟨fun i j v e => ?_, fun i j v e => ?_, fun i j x e => ?_, s.dis, s.below.trans (hb.mono s.below.size), s.low, fun i j e => ?_⟩
  · have := s.ro i j v e
    rw [hb.cell (p := ⟨i, j, none⟩) (hlt this)]; exact this
  · obtain ⟨h1, h2⟩ := s.val i j v e
    have := hlt h1
    exact ⟨by rw [hb.cell (p := ⟨i, j, none⟩) this]; exact h1, by rw [hb.frozen (p := ⟨i, j, none⟩) this]; exact h2⟩
  · obtain ⟨h0, h1, h2⟩ := s.obj i j x e
    exact ⟨h0, by rw [hb.block i (Array.getElem?_eq_some_iff.1 h1).1]; exact h1, h2⟩
  · obtain ⟨c, t, f, h1, h2, h3⟩ := s.pl i j e
    have hi := (Array.getElem?_eq_some_iff.1 h1).1
    exact ⟨c, t, f, by rw [hb.block i hi]; exact h1, h2, by rw [hb.frozen (p := ⟨i, j, none⟩) hi]; exact h3⟩
theorem St.grow {w w' : World} {L : List HP} (h : St w L) (hb : Below w.heap.size w w') : St w' L :=
  let ⟨r, o, s, x⟩ := h
  ⟨r, o, s.grow hb, x⟩

/-- What is so of the world at the start, and of each later one. -/
def start (p : World → Prop) : HP := ⟨fun r _ => p r.bs, fun r r' o o' hr _ h => by rw [hr.bs]; exact h⟩
theorem pers_start (p : World → Prop) : Pers (start p) := fun _ _ h => h
/-- Go's two tables for reading runes. -/
def tabsP (g3 g4 : Nat) (w : World) : Prop := Lib.Utf8Tabs g3 g4 w ∧ g3 < w.heap.size ∧ g4 < w.heap.size
def tabs (g3 g4 : Nat) : HP := start (tabsP g3 g4)
theorem pers_tabs (g3 g4 : Nat) : Pers (tabs g3 g4) := pers_start _
theorem tabs_at {g3 g4 : Nat} {w : World} {L : List HP} (h : St w (tabs g3 g4 :: L)) : Lib.Utf8Tabs g3 g4 w := by
  obtain ⟨r, o, s, a, b, d, le, ⟨⟨h1, h2⟩, h3, h4⟩, hL⟩ := h
  have hc : ∀ g c, g < r.bs.heap.size → w.cell? ⟨g, c, none⟩ = r.bs.cell? ⟨g, c, none⟩ := fun g c hg => s.below.cell (p := ⟨g, c, none⟩) hg
  exact ⟨fun c hc' => by rw [hc g3 c h3]; exact h1 c hc', fun i hi => by rw [hc g4 _ h4, hc g4 _ h4]; exact h2 i hi⟩

/-- A contract of the shelf. -/
theorem Does.ofCalls {P : Program} {f : FuncId} {args : List Value} {pers : List HP} {v : Value} (he : ∀ vs w, (callFunc f vs).run P w = .ok (.enter f vs) w) (hp : ∀ A ∈ pers, Pers A)
    (h : ∀ F w, St w (F :: pers) → Calls P f args.toArray w fun e w' => e = .returned v ∧ Below w.heap.size w w') : Does P f args pers [] Unit (fun _ => True) (fun _ => v) (fun _ => []) :=
  ⟨he, hp, fun F w hst => by
    rw [List.append_nil] at hst
    refine (h F w hst).mono ?_
    rintro e w' ⟨rfl, hb⟩
    exact ⟨(), trivial, rfl, (hst.grow hb).ent (Ent.cons ent_nil)⟩⟩
/-- What a contract pays to the shelf. -/
theorem Does.grows {P : Program} {g : Nat} {lb : List Value} {p : Nat → Bool} (h : ∀ x : Nat, x ≤ 1114111 → Does P g (.int .i32 (x : Int) :: lb) [] [] Unit (fun _ => True) (fun _ => .bool (p x)) (fun _ => [])) (w : World) : Go.Proofs.PredGrows P g lb.toArray p w := by
  intro W x hx _
  have := (h x hx).law W (fun A hA => by cases hA)
  have e : #[Go.Proofs.encR x] ++ lb.toArray = (Value.int .i32 (x : Int) :: lb).toArray := by
    simp [Go.Proofs.encR]
  rw [e]; exact this
end Go.Sl

/-! Contracts that ask for less. -/
set_option linter.unusedVariables false
namespace Go.Sl
theorem Does.pers' {P : Program} {f : FuncId} {args : List Value} {pers pers' own : List HP} {X : Type} {ok : X → Prop} {ret : X → Value} {out : X → List HP} (h : Does P f args pers own X ok ret out) (hp : ∀ A ∈ pers', Pers A) (ha : HasAll pers pers') : Does P f args pers' own X ok ret out :=
  ⟨h.entry, hp, fun F w hst => h.calls F w (hst.ent (Ent.cons (by
    have h1 : Ent pers' (pers ++ pers') := ha.ent h.hpers
    have h2 : Ent (pers' ++ own) ((pers ++ pers') ++ own) := (ent_app_comm.trans (Ent.app h1)).trans ent_app_comm
    refine h2.trans ?_
    rw [List.append_assoc]
    refine Ent.app ?_
    have : ∀ (A B : List HP), Ent (A ++ B) B := by
      intro A B
      induction A with
      | nil => exact Ent.refl _
      | cons a A ih => exact Ent.drop.trans ih
    exact this _ _)))⟩
end Go.Sl

set_option linter.unusedVariables false
namespace Go.Sl
open Go.ChangeShapes Go.WideShapes Go.RowKit
theorem rd_bool {H : Type} {enc : TypeId × Value → H} {P : Program} {W : World} {t : TypeId} (ht : P.underlying t = some .bool) : Rd enc P W t RB (fun _ => True) := fun fuel cs x h => by
  obtain ⟨b, rfl, _⟩ := DataW.trod_bool ht h
  exact ⟨b, (), trivial, rfl, trivial⟩
theorem rd_u8 {H : Type} {enc : TypeId × Value → H} {P : Program} {W : World} {t : TypeId} (ht : P.underlying t = some (.int .u8)) : Rd enc P W t RU (fun n => 0 ≤ n ∧ n ≤ 255) := fun fuel cs x h => by
  obtain ⟨n, rfl, _, hw⟩ := DataW.trod_int ht h
  exact ⟨n, (), bounds_u8 hw, rfl, trivial⟩
end Go.Sl

/-! Texts, plainly: numbers in decimal, parts between a byte, what stands ahead of the first. -/
set_option linter.unusedVariables false
set_option linter.unusedSimpArgs false
namespace Go.Sl
abbrev Tx := List UInt8
def isDig (b : UInt8) : Bool := decide (48 ≤ b.toNat) && decide (b.toNat ≤ 57)
/-- A decimal without leading noughts, of any size. -/
def canD (l : Tx) : Bool := match l with
  | [] => false
  | b :: r => (b :: r).all isDig && (!decide (b = 48) || r.isEmpty)
def stepV (a : Nat) (b : UInt8) : Nat := 10 * a + (b.toNat - 48)
def valF (a : Nat) (l : Tx) : Nat := l.foldl stepV a
/-- Its number. -/
def valD (l : Tx) : Nat := valF 0 l
theorem stepV_le (a : Nat) (b : UInt8) : a ≤ stepV a b := by unfold stepV; omega
theorem valF_mono (l : Tx) : ∀ a : Nat, a ≤ valF a l := by
  induction l with
  | nil => exact fun a => Nat.le_refl a
  | cons b r ih => exact fun a => Nat.le_trans (stepV_le a b) (ih (stepV a b))
theorem valF_app (l m : Tx) (a : Nat) : valF a (l ++ m) = valF (valF a l) m := by
  unfold valF; rw [List.foldl_append]
/-- Where a byte stands first. -/
def bef (c : UInt8) (l : Tx) : Tx := l.takeWhile fun b => !decide (b = c)
def behd (c : UInt8) (l : Tx) : Tx := (l.dropWhile fun b => !decide (b = c)).drop 1
def hasC (c : UInt8) (l : Tx) : Bool := l.any fun b => decide (b = c)
theorem bef_aft {c : UInt8} : ∀ {l : Tx}, hasC c l = true → l = bef c l ++ c :: behd c l
  | [], h => by cases h
  | b :: l, h => by
    unfold hasC at h
    simp only [List.any_cons, Bool.or_eq_true, decide_eq_true_eq] at h
    unfold bef behd
    by_cases hb : b = c
    · subst hb; simp
    · have hl : hasC c l = true := by
        rcases h with h | h
        · exact absurd h hb
        · exact h
      have ih := bef_aft hl
      unfold bef behd at ih
      simp only [List.takeWhile_cons, List.dropWhile_cons, hb, decide_false, Bool.not_false, if_true, List.cons_append]
      rw [← ih]
theorem bef_no {c : UInt8} {l : Tx} : hasC c (bef c l) = false := by
  unfold hasC bef
  rw [Bool.eq_false_iff]
  intro h
  obtain ⟨b, hb, he⟩ := List.any_eq_true.1 h
  have := List.all_eq_true.1 (List.all_takeWhile (l := l) (p := fun b => !decide (b = c))) b hb
  simp at this he
  exact this he
theorem bef_app {c : UInt8} : ∀ {a m : Tx}, hasC c a = false → bef c (a ++ c :: m) = a ∧ behd c (a ++ c :: m) = m
  | [], m, _ => by simp [bef, behd]
  | b :: a, m, h => by
    unfold hasC at h
    simp only [List.any_cons, Bool.or_eq_false_iff, decide_eq_false_iff_not] at h
    obtain ⟨h1, h2⟩ := bef_app (c := c) (a := a) (m := m) h.2
    unfold bef at h1 ⊢; unfold behd at h2 ⊢
    simp only [List.cons_append, List.takeWhile_cons, List.dropWhile_cons, h.1, decide_false, Bool.not_false, if_true]
    exact ⟨by rw [h1], h2⟩
/-- Parts between a byte. -/
def partsC (c : UInt8) : Tx → List Tx
  | [] => [[]]
  | b :: l => if b = c then [] :: partsC c l else match partsC c l with
    | p :: ps => (b :: p) :: ps
    | [] => [[b]]
theorem partsC_ne (c : UInt8) : ∀ l, partsC c l ≠ []
  | [] => by simp [partsC]
  | b :: l => by
    simp only [partsC]
    split
    · simp
    · split <;> simp
end Go.Sl

/-! Names: letters and digits alone. -/
set_option linter.unusedVariables false
set_option linter.unusedSimpArgs false
namespace Go.Sl
open Go.Lib
def nameR (x : Nat) : Bool := (decide (97 ≤ x) && decide (x ≤ 122)) || (decide (48 ≤ x) && decide (x ≤ 57))
theorem nameR_lt {x : Nat} (h : nameR x = true) : x < 128 := by
  simp [nameR] at h; omega
def nameOk (s : ByteArray) : Bool := s.data.toList.all fun b => nameR b.toNat

/-- A rune below 128 is its byte. -/
theorem decode_small {s : ByteArray} {i : Nat} (h : (Utf8.decode s i).1 < 128) : Utf8.decode s i = ((s.get! i).toNat, 1) := by
  unfold Utf8.decode at h ⊢
  simp only [Nat.add_zero] at h ⊢
  split at h
  · rename_i h0; rw [if_pos h0]
  · exfalso
    split at h
    · split at h
      · rename_i hc; simp only at h hc; omega
      · simp [Utf8.runeError] at h
    · split at h
      · split at h
        · rename_i hc; simp only [Bool.and_eq_true, decide_eq_true_eq] at h hc; omega
        · simp [Utf8.runeError] at h
      · split at h
        · split at h
          · rename_i hc; simp only [Bool.and_eq_true, decide_eq_true_eq] at h hc; omega
          · simp [Utf8.runeError] at h
        · simp [Utf8.runeError] at h
theorem decode_byte {s : ByteArray} {i : Nat} (h : (s.get! i).toNat < 128) : Utf8.decode s i = ((s.get! i).toNat, 1) := by
  unfold Utf8.decode
  simp only [Nat.add_zero]
  rw [if_pos h]
theorem name_decode (s : ByteArray) (i : Nat) : nameR (Utf8.decode s i).1 = nameR (s.get! i).toNat := by
  by_cases h : (s.get! i).toNat < 128
  · rw [decode_byte h]
  · have h1 : nameR (s.get! i).toNat = false := by
      cases hb : nameR (s.get! i).toNat with
      | false => rfl
      | true => exact absurd (nameR_lt hb) h
    rw [h1]
    cases hb : nameR (Utf8.decode s i).1 with
    | false => rfl
    | true =>
      have := decode_small (nameR_lt hb)
      rw [this] at hb
      exact absurd (nameR_lt hb) h
theorem len_data (s : ByteArray) : s.data.toList.length = s.size := Array.length_toList
theorem get_data (s : ByteArray) (i : Nat) : s.get! i = s.data.toList.getD i 0 := by
  show s.data[i]! = _
  simp [Array.getElem!_eq_getD, Array.getD_eq_getD_getElem?, List.getD, default]

theorem left_none (s : ByteArray) : ∀ (f pos : Nat), s.size ≤ pos + f → (idxFuncFrom nameR false s f pos = -1 ↔ ∀ k, pos ≤ k → k < s.size → nameR (s.get! k).toNat = true)
  | 0, pos, h => ⟨fun _ k h1 h2 => by omega, fun _ => rfl⟩
  | f + 1, pos, h => by
    unfold idxFuncFrom
    by_cases hp : pos < s.size
    · rw [if_pos hp]
      cases hn : nameR (Utf8.decode s pos).1 with
      | false =>
        rw [if_pos rfl]
        refine ⟨fun h => by omega, fun h => ?_⟩
        have := h pos (Nat.le_refl _) hp
        rw [← name_decode, hn] at this; cases this
      | true =>
        rw [if_neg (by simp)]
        have hd := decode_small (nameR_lt hn)
        rw [hd]
        have ih := left_none s f (pos + 1) (by omega)
        show idxFuncFrom nameR false s f (pos + 1) = -1 ↔ _
        rw [ih]
        refine ⟨fun h k h1 h2 => ?_, fun h k h1 h2 => h k (by omega) h2⟩
        rcases Nat.lt_or_ge pos k with h3 | h3
        · exact h k h3 h2
        · have : k = pos := by omega
          subst this
          rw [name_decode] at hn; exact hn
    · rw [if_neg hp]
      exact ⟨fun _ k h1 h2 => by omega, fun _ => rfl⟩
theorem left_at (s : ByteArray) : ∀ (f pos : Nat), idxFuncFrom nameR false s f pos ≠ -1 → ∃ i : Nat, idxFuncFrom nameR false s f pos = (i : Int) ∧ i < s.size ∧ nameR (s.get! i).toNat = false
  | 0, pos, h => absurd rfl h
  | f + 1, pos, h => by
    unfold idxFuncFrom at h ⊢
    by_cases hp : pos < s.size
    · rw [if_pos hp] at h ⊢
      cases hn : nameR (Utf8.decode s pos).1 with
      | false => rw [if_pos rfl]; exact ⟨pos, rfl, hp, by rw [← name_decode]; exact hn⟩
      | true =>
        rw [hn, if_neg (by simp)] at h
        rw [if_neg (by simp)]
        exact left_at s f _ h
    · rw [if_neg hp] at h; exact absurd rfl h
theorem last_small {l : List UInt8} (h : nameR (decodeLastL l).1 = true) (hl : l ≠ []) : decodeLastL l = ((l.getD (l.length - 1) 0).toNat, 1) := by
  unfold decodeLastL at h ⊢
  rw [if_neg hl] at h ⊢
  by_cases h1 : (l.getD (l.length - 1) 0).toNat < 128
  · rw [if_pos h1]
  · exfalso
    rw [if_neg h1] at h
    simp only at h
    split at h
    · rename_i h2
      have h3 := nameR_lt h
      unfold decodeL at h3 h2
      have h4 := decode_small h3
      rw [h4] at h2 h3
      simp only at h2 h3
      rw [get_data] at h3
      apply h1
      have h5 : lastStart l = l.length - 1 := by omega
      simp only [List.toList_toArray] at h3
      rw [h5] at h3
      simpa [List.getD, List.getElem?_drop] using h3
    · have := nameR_lt h
      simp [Utf8.runeError] at this
theorem last_none (s : ByteArray) : ∀ (f i : Nat), i ≤ f → i ≤ s.size → lastIdxFuncFrom nameR false s f i = -1 → ∀ k, k < i → nameR (s.get! k).toNat = true
  | 0, i, h, _, _ => fun k hk => by omega
  | f + 1, i, h, hi, he => by
    intro k hk
    unfold lastIdxFuncFrom at he
    have hpos : 0 < i := by omega
    rw [if_pos hpos] at he
    have hlen : (s.data.toList.take i).length = i := by
      rw [List.length_take, len_data]; omega
    have hne : s.data.toList.take i ≠ [] := by intro h0; rw [h0] at hlen; simp at hlen; omega
    cases hn : nameR (decodeLastL (s.data.toList.take i)).1 with
    | false => rw [hn, if_pos rfl] at he; omega
    | true =>
      rw [hn, if_neg (by simp)] at he
      have hd := last_small hn hne
      rw [hd] at he hn
      simp only at he hn
      rw [hlen] at hn
      have hlast : nameR (s.get! (i - 1)).toNat = true := by
        rw [get_data]
        have : (s.data.toList.take i).getD (i - 1) 0 = s.data.toList.getD (i - 1) 0 := by
          simp only [List.getD]; rw [List.getElem?_take_of_lt (by omega)]
        rw [this] at hn; exact hn
      rcases Nat.lt_or_ge k (i - 1) with h3 | h3
      · exact last_none s f (i - 1) (by omega) (by omega) he k h3
      · have : k = i - 1 := by omega
        subst this; exact hlast
theorem nameOk_iff (s : ByteArray) : nameOk s = true ↔ ∀ k, k < s.size → nameR (s.get! k).toNat = true := by
  unfold nameOk
  rw [List.all_eq_true]
  constructor
  · intro h k hk
    rw [get_data]
    have hk' : k < s.data.toList.length := by rw [len_data]; exact hk
    have : s.data.toList.getD k 0 = s.data.toList[k] := by rw [List.getD, List.getElem?_eq_getElem hk']; rfl
    rw [this]; exact h _ (List.getElem_mem hk')
  · intro h b hb
    obtain ⟨k, hk⟩ := List.getElem?_of_mem hb
    have hk' := (List.getElem?_eq_some_iff.1 hk).1
    have := h k (by rw [← len_data]; exact hk')
    rw [get_data, List.getD, hk] at this
    exact this
theorem size_extract (s : ByteArray) (i j : Nat) : (s.extract i j).size = min j s.size - i := by
  simp [ByteArray.size_extract]
theorem extract_get (s : ByteArray) (i k : Nat) (h : i + k < s.size) : (s.extract i s.size).get! k = s.get! (i + k) := by
  rw [get_data, get_data]
  have : (s.extract i s.size).data.toList = s.data.toList.drop i := by
    rw [ByteArray.data_extract, Array.toList_extract, List.extract_eq_take_drop]
    rw [List.take_of_length_le]
    rw [List.length_drop, len_data]; omega
  rw [this]; simp only [List.getD, List.getElem?_drop]
theorem empty_of_size {s : ByteArray} (h : s.size = 0) : s = ⟨#[]⟩ := by
  cases s with | mk d =>
  have : d = #[] := Array.eq_empty_of_size_eq_zero h
  rw [this]
/-- What strings.TrimFunc leaves of a name. -/
theorem trim_name (s : ByteArray) : eqS (Lib.trimF nameR s) ⟨#[]⟩ = nameOk s := by
  rw [Bool.eq_iff_iff, eqS_iff]
  by_cases hl : idxFunc nameR false s = -1
  · have h1 : Lib.trimLeftF nameR s = ⟨#[]⟩ := by unfold Lib.trimLeftF; rw [if_pos hl]
    have h2 : nameOk s = true := (nameOk_iff s).2 fun k hk => (left_none s s.size 0 (by omega)).1 hl k (Nat.zero_le _) hk
    rw [h2]
    refine ⟨fun _ => rfl, fun _ => ?_⟩
    unfold Lib.trimF
    rw [h1]
    exact empty_of_size (by unfold Lib.trimRightF; rw [size_extract]; show min _ 0 - 0 = 0; omega)
  · obtain ⟨i, hi, his, hin⟩ := left_at s s.size 0 hl
    have h2 : ¬ nameOk s = true := fun h => by
      have := (nameOk_iff s).1 h i his
      rw [hin] at this; cases this
    refine ⟨fun h => ?_, fun h => absurd h h2⟩
    exfalso
    have h1 : Lib.trimLeftF nameR s = s.extract i s.size := by
      unfold Lib.trimLeftF
      rw [if_neg hl]
      have : idxFunc nameR false s = (i : Int) := hi
      rw [this]; rfl
    unfold Lib.trimF at h
    rw [h1] at h
    have hts : (s.extract i s.size).size = s.size - i := by rw [size_extract]; omega
    have ht0 : nameR ((s.extract i s.size).get! 0).toNat = false := by rw [extract_get s i 0 (by omega)]; exact hin
    revert h hts ht0
    generalize s.extract i s.size = t
    intro h hts ht0
    have htpos : 0 < t.size := by omega
    have hne : ¬ lastIdxFunc nameR false t = -1 := fun he => by
      have := last_none t t.size t.size (Nat.le_refl _) (Nat.le_refl _) he 0 htpos
      rw [this] at ht0; cases ht0
    have hge : 0 ≤ lastIdxFunc nameR false t := by
      rcases lastIdxFuncFrom_range nameR false t t.size t.size with h3 | h3
      · exact absurd h3 hne
      · exact h3.1
    have hsz : (Lib.trimRightF nameR t).size = 0 := by rw [h]; rfl
    unfold Lib.trimRightF at hsz
    rw [size_extract] at hsz
    have hend : Lib.rightEndF nameR t = 0 := by omega
    unfold Lib.rightEndF at hend
    rw [if_pos hge] at hend
    have hj : (lastIdxFunc nameR false t).toNat = 0 := by omega
    rw [hj] at hend
    have hw : (decodeGoB (t.extract 0 t.size)).2 = 0 := by omega
    unfold decodeGoB at hw
    rw [if_neg (by rw [size_extract]; omega)] at hw
    have := Lib.width_pos (t.extract 0 t.size) 0
    omega
end Go.Sl

/-! What is wrong with a record. -/
namespace Go.Sl
def valOk (s : ByteArray) : Bool := (bytesI s).all fun c => decide (33 ≤ c) && decide (c ≤ 126)
def checkR (r : Rc) (m : Int) : Int :=
  if m < 1 ∨ 8 < m ∨ r.site < 0 ∨ m ≤ r.site ∨ r.seq < 1 ∨ 1048576 < r.seq then 1
  else if checkV r.dep m ≠ 0 then checkV r.dep m
  else if r.seq ≤ getI r.dep r.site then 13
  else if r.key.size < 1 ∨ 8 < r.key.size ∨ nameOk r.key = false then 3
  else if valOk r.val = false then 2
  else if 16 < r.val.size then 4 else 0
end Go.Sl

/-! Books, plainly: cells that rise by their keys. -/
set_option linter.unusedVariables false
set_option linter.unusedSimpArgs false
namespace Go.Sl
open Go.Lib (compareBytes)
theorem cmpL_self : ∀ a : List UInt8, compareBytes a a = 0
  | [] => rfl
  | x :: a => by simp [compareBytes, UInt8.lt_irrefl, cmpL_self a]
theorem cmpL_neg : ∀ a b : List UInt8, compareBytes b a = - compareBytes a b
  | [], [] => rfl
  | [], _ :: _ => rfl
  | _ :: _, [] => rfl
  | x :: a, y :: b => by
    simp only [compareBytes]
    by_cases h1 : x < y
    · have h2 : ¬ y < x := fun h => UInt8.lt_irrefl x (UInt8.lt_trans h1 h)
      simp [h1, h2]
    · by_cases h2 : y < x
      · simp [h1, h2]
      · simp only [h1, h2, if_false]; exact cmpL_neg a b
theorem cmpL_val : ∀ a b : List UInt8, compareBytes a b = -1 ∨ compareBytes a b = 0 ∨ compareBytes a b = 1
  | [], [] => by simp [compareBytes]
  | [], _ :: _ => by simp [compareBytes]
  | _ :: _, [] => by simp [compareBytes]
  | x :: a, y :: b => by
    simp only [compareBytes]
    split
    · simp
    · split
      · simp
      · exact cmpL_val a b
theorem cmpL_zero : ∀ {a b : List UInt8}, compareBytes a b = 0 → a = b
  | [], [], _ => rfl
  | [], _ :: _, h => by simp [compareBytes] at h
  | _ :: _, [], h => by simp [compareBytes] at h
  | x :: a, y :: b, h => by
    simp only [compareBytes] at h
    split at h
    · simp at h
    · split at h
      · simp at h
      · rename_i h1 h2
        have : x = y := UInt8.le_antisymm (UInt8.not_lt.1 h2) (UInt8.not_lt.1 h1)
        rw [this, cmpL_zero h]
theorem cmpL_trans : ∀ {a b c : List UInt8}, compareBytes a b = -1 → compareBytes b c = -1 → compareBytes a c = -1
  | [], [], _, h, _ => by simp [compareBytes] at h
  | _ :: _, [], _, h, _ => by simp [compareBytes] at h
  | [], _ :: _, [], _, h => by simp [compareBytes] at h
  | [], _ :: _, _ :: _, _, _ => rfl
  | _ :: _, _ :: _, [], _, h => by simp [compareBytes] at h
  | x :: a, y :: b, z :: c, h1, h2 => by
    simp only [compareBytes] at h1 h2 ⊢
    by_cases hxy : x < y
    · by_cases hyz : y < z
      · rw [if_pos (UInt8.lt_trans hxy hyz)]
      · by_cases hzy : z < y
        · simp [hyz, hzy] at h2
        · have : y = z := UInt8.le_antisymm (UInt8.not_lt.1 hzy) (UInt8.not_lt.1 hyz)
          rw [← this, if_pos hxy]
    · by_cases hyx : y < x
      · simp [hxy, hyx] at h1
      · have hxy2 : x = y := UInt8.le_antisymm (UInt8.not_lt.1 hyx) (UInt8.not_lt.1 hxy)
        subst hxy2
        simp only [UInt8.lt_irrefl, if_false] at h1
        by_cases hxz : x < z
        · rw [if_pos hxz]
        · by_cases hzx : z < x
          · simp [hxz, hzx] at h2
          · simp only [hxz, hzx, if_false] at h2 ⊢
            exact cmpL_trans h1 h2
def cmpB (a b : ByteArray) : Int := compareBytes a.data.toList b.data.toList
theorem cmpB_self (a : ByteArray) : cmpB a a = 0 := cmpL_self _
theorem cmpB_zero {a b : ByteArray} (h : cmpB a b = 0) : a = b := by
  have := cmpL_zero h
  cases a; cases b
  simp only at this
  rw [Array.toList_inj.1 this]
theorem cmpB_neg (a b : ByteArray) : cmpB b a = - cmpB a b := cmpL_neg _ _
theorem cmpB_lt {a b : ByteArray} : cmpB a b < 0 ↔ cmpB a b = -1 := by rcases cmpL_val a.data.toList b.data.toList with h | h | h <;> (unfold cmpB; rw [h]; decide)
theorem cmpB_trans {a b c : ByteArray} (h1 : cmpB a b < 0) (h2 : cmpB b c < 0) : cmpB a c < 0 := cmpB_lt.2 (cmpL_trans (cmpB_lt.1 h1) (cmpB_lt.1 h2))
/-- What a key holds, and who said so. -/
structure Cl where
  key : ByteArray
  val : ByteArray
  site : Int
  seq : Int
  deriving DecidableEq
def RCl : Rep Cl where
  V := Unit
  sz := 4
  agg := true
  cells := fun e _ => [.string e.key, .string e.val, .int .i64 e.site, .int .i64 e.seq]
  atoms := fun _ _ => []
  len := fun _ _ => rfl
  pers := fun _ _ _ h => by cases h
  pos := by decide
  sc := fun h => by cases h
  one := fun _ _ v h => by
    simp only [List.mem_cons, List.mem_nil_iff, or_false] at h
    rcases h with rfl | rfl | rfl | rfl <;> rfl
  wit := fun _ h => h ()
/-- Rising by the keys. -/
def ris (b : List Cl) : Prop := b.Pairwise fun x y => cmpB x.key y.key < 0
/-- Where a key is, or would be. -/
def posB (b : List Cl) (k : ByteArray) : Nat := (b.takeWhile fun x => decide (cmpB x.key k < 0)).length
def hasB (b : List Cl) (k : ByteArray) : Bool := (b[posB b k]?).any fun x => decide (cmpB x.key k = 0)
def putB (b : List Cl) (c : Cl) : List Cl := if hasB b c.key = true then b.set (posB b c.key) c else b.take (posB b c.key) ++ c :: b.drop (posB b c.key)
theorem posB_le (b : List Cl) (k : ByteArray) : posB b k ≤ b.length := by
  unfold posB
  exact (List.takeWhile_prefix _).length_le
theorem posB_lt : ∀ {b : List Cl} {k : ByteArray} {i : Nat} {x : Cl}, i < posB b k → b[i]? = some x → cmpB x.key k < 0
  | [], k, i, x, h, e => by simp at e
  | y :: b, k, i, x, h, e => by
    unfold posB at h
    rw [List.takeWhile_cons] at h
    split at h
    · rename_i hy
      cases i with
      | zero => simp at e; subst e; exact of_decide_eq_true hy
      | succ i => exact posB_lt (b := b) (i := i) (by unfold posB; simpa using h) (by simpa using e)
    · simp at h
theorem posB_ge : ∀ {b : List Cl} {k : ByteArray} {i : Nat} {x : Cl}, ris b → posB b k ≤ i → b[i]? = some x → ¬ cmpB x.key k < 0
  | [], k, i, x, _, h, e => by simp at e
  | y :: b, k, i, x, hr, h, e => by
    obtain ⟨h1, h2⟩ := List.pairwise_cons.1 hr
    unfold posB at h
    rw [List.takeWhile_cons] at h
    split at h
    · rename_i hy
      cases i with
      | zero => simp at h
      | succ i => exact posB_ge (b := b) (i := i) h2 (by unfold posB; simpa using h) (by simpa using e)
    · rename_i hy
      have hy' : ¬ cmpB y.key k < 0 := by simpa using hy
      cases i with
      | zero => simp at e; subst e; exact hy'
      | succ i =>
        intro hx
        have hyx := h1 x (List.mem_of_getElem? (by simpa using e))
        exact hy' (cmpB_trans hyx hx)
end Go.Sl

/-! Books, plainly: a cell put in, step by step; what a key holds. -/
set_option linter.unusedVariables false
set_option linter.unusedSimpArgs false
namespace Go.Sl
def insB : List Cl → Cl → List Cl
  | [], c => [c]
  | x :: b, c => if cmpB x.key c.key < 0 then x :: insB b c else if cmpB x.key c.key = 0 then c :: b else c :: x :: b
def getB (b : List Cl) (k : ByteArray) : Option Cl := b.find? fun x => decide (x.key = k)
theorem posB_nil (k : ByteArray) : posB [] k = 0 := rfl
theorem posB_cons (x : Cl) (b : List Cl) (k : ByteArray) : posB (x :: b) k = if cmpB x.key k < 0 then posB b k + 1 else 0 := by
  unfold posB
  rw [List.takeWhile_cons]
  by_cases h : cmpB x.key k < 0
  · simp [h]
  · simp [h]
theorem hasB_cons (x : Cl) (b : List Cl) (k : ByteArray) : hasB (x :: b) k = if cmpB x.key k < 0 then hasB b k else decide (cmpB x.key k = 0) := by
  unfold hasB
  rw [posB_cons]
  by_cases h : cmpB x.key k < 0
  · simp [h]
  · simp [h]
theorem putB_ins : ∀ (b : List Cl) (c : Cl), putB b c = insB b c
  | [], c => by simp [putB, insB, hasB, posB]
  | x :: b, c => by
    have ih := putB_ins b c
    unfold putB at ih ⊢
    rw [posB_cons, hasB_cons]
    simp only [insB]
    by_cases h : cmpB x.key c.key < 0
    · simp only [h, if_true]
      rw [← ih]
      split
      · simp
      · simp
    · simp only [h, if_false]
      by_cases h0 : cmpB x.key c.key = 0
      · simp [h0]
      · simp [h0]
theorem cmpB_eq {a b : ByteArray} : cmpB a b = 0 ↔ a = b := ⟨cmpB_zero, fun h => by rw [h]; exact cmpB_self b⟩
theorem cmpB_gt {a b : ByteArray} (h1 : ¬ cmpB a b < 0) (h2 : cmpB a b ≠ 0) : cmpB b a < 0 := by rw [cmpB_neg a b]; omega
theorem insB_mem : ∀ {b : List Cl} {c x : Cl}, x ∈ insB b c → x = c ∨ x ∈ b
  | [], c, x, h => by simp [insB] at h; exact .inl h
  | y :: b, c, x, h => by
    simp only [insB] at h
    split at h
    · rcases List.mem_cons.1 h with h | h
      · exact .inr (by simp [h])
      · rcases insB_mem h with h | h
        · exact .inl h
        · exact .inr (by simp [h])
    · split at h
      · rcases List.mem_cons.1 h with h | h
        · exact .inl h
        · exact .inr (by simp [h])
      · rcases List.mem_cons.1 h with h | h
        · exact .inl h
        · exact .inr h
theorem insB_ris : ∀ {b : List Cl} {c : Cl}, ris b → ris (insB b c)
  | [], c, _ => by simp [insB, ris]
  | y :: b, c, h => by
    obtain ⟨h1, h2⟩ := List.pairwise_cons.1 h
    simp only [insB]
    split
    · rename_i hy
      refine List.pairwise_cons.2 ⟨fun x hx => ?_, insB_ris h2⟩
      rcases insB_mem hx with rfl | hx
      · exact hy
      · exact h1 x hx
    · rename_i hy
      split
      · rename_i h0
        refine List.pairwise_cons.2 ⟨fun x hx => ?_, h2⟩
        rw [← cmpB_zero h0]; exact h1 x hx
      · rename_i h0
        refine List.pairwise_cons.2 ⟨fun x hx => ?_, h⟩
        rcases List.mem_cons.1 hx with rfl | hx
        · exact cmpB_gt hy h0
        · exact cmpB_trans (cmpB_gt hy h0) (h1 x hx)
theorem insB_len : ∀ {b : List Cl} {c : Cl}, (insB b c).length ≤ b.length + 1
  | [], c => by simp [insB]
  | y :: b, c => by
    have := insB_len (b := b) (c := c)
    simp only [insB]
    split
    · simp; omega
    · split <;> simp
theorem insB_len2 : ∀ {b : List Cl} {c : Cl}, b.length ≤ (insB b c).length
  | [], c => by simp [insB]
  | y :: b, c => by
    have := insB_len2 (b := b) (c := c)
    simp only [insB]
    split
    · simp; omega
    · split <;> simp
theorem getB_none_of {b : List Cl} {k : ByteArray} (h : ∀ x ∈ b, cmpB k x.key < 0) : getB b k = none := by
  unfold getB
  rw [List.find?_eq_none]
  intro x hx he
  have := h x hx
  have e : x.key = k := of_decide_eq_true he
  rw [e, cmpB_self] at this
  exact absurd this (by decide)
theorem getB_insB : ∀ {b : List Cl} {c : Cl} {k : ByteArray}, ris b → getB (insB b c) k = if c.key = k then some c else getB b k
  | [], c, k, _ => by
    simp only [insB, getB, List.find?_cons, List.find?_nil]
    by_cases h : c.key = k <;> simp [h]
  | y :: b, c, k, h => by
    obtain ⟨h1, h2⟩ := List.pairwise_cons.1 h
    have ih := getB_insB (b := b) (c := c) (k := k) h2
    unfold getB at ih ⊢
    simp only [insB]
    split
    · rename_i hy
      simp only [List.find?_cons]
      by_cases hk : y.key = k
      · have : c.key ≠ k := fun e => by rw [hk, e, cmpB_self] at hy; exact absurd hy (by decide)
        simp [hk, this]
      · simp only [hk, decide_false]
        exact ih
    · rename_i hy
      split
      · rename_i h0
        have e := cmpB_zero h0
        simp only [List.find?_cons]
        by_cases hk : c.key = k
        · simp [hk]
        · simp [hk, e]
      · rename_i h0
        simp only [List.find?_cons]
        by_cases hk : c.key = k
        · simp [hk]
        · simp [hk]
theorem posB_getB : ∀ {b : List Cl} {k : ByteArray}, ris b → getB b k = if hasB b k = true then b[posB b k]? else none
  | [], k, _ => by simp [getB, hasB, posB]
  | y :: b, k, h => by
    obtain ⟨h1, h2⟩ := List.pairwise_cons.1 h
    have ih := posB_getB (b := b) (k := k) h2
    rw [posB_cons, hasB_cons]
    unfold getB at ih ⊢
    rw [List.find?_cons]
    by_cases hy : cmpB y.key k < 0
    · have hk : y.key ≠ k := fun e => by rw [e, cmpB_self] at hy; exact absurd hy (by decide)
      simp only [hk, decide_false, hy, if_true]
      rw [ih]; simp
    · by_cases h0 : cmpB y.key k = 0
      · have hk := cmpB_zero h0
        simp [hk, hy, h0, cmpB_self]
      · have hk : y.key ≠ k := fun e => by rw [e, cmpB_self] at h0; exact h0 rfl
        have := getB_none_of (b := b) (k := k) (fun x hx => cmpB_trans (cmpB_gt hy h0) (h1 x hx))
        unfold getB at this
        simp [hk, hy, h0, this]
theorem getB_mem {b : List Cl} {x : Cl} (h : ris b) (hx : x ∈ b) : getB b x.key = some x := by
  induction b with
  | nil => cases hx
  | cons y b ih =>
    obtain ⟨h1, h2⟩ := List.pairwise_cons.1 h
    unfold getB at ih ⊢
    rw [List.find?_cons]
    rcases List.mem_cons.1 hx with rfl | hx
    · simp
    · have := h1 x hx
      have hk : y.key ≠ x.key := fun e => by rw [e, cmpB_self] at this; exact absurd this (by decide)
      simp only [hk, decide_false]
      exact ih h2 hx
theorem getB_some {b : List Cl} {k : ByteArray} {x : Cl} (h : getB b k = some x) : x ∈ b ∧ x.key = k := by
  unfold getB at h
  exact ⟨List.mem_of_find?_eq_some h, by have := List.find?_some h; exact of_decide_eq_true this⟩
/-- Rising books of which each key holds the same are the same. -/
theorem books_ext : ∀ {a b : List Cl}, ris a → ris b → (∀ k, getB a k = getB b k) → a = b
  | [], [], _, _, _ => rfl
  | [], y :: b, _, _, h => by
    have := h y.key
    simp [getB] at this
  | x :: a, [], _, _, h => by
    have := h x.key
    simp [getB] at this
  | x :: a, y :: b, ha, hb, h => by
    obtain ⟨a1, a2⟩ := List.pairwise_cons.1 ha
    obtain ⟨b1, b2⟩ := List.pairwise_cons.1 hb
    have hx := h x.key
    rw [getB_mem ha (by simp)] at hx
    have hy := h y.key
    rw [getB_mem hb (by simp)] at hy
    have ex := (getB_some hx.symm).1
    have ey := (getB_some hy).1
    have exy : x = y := by
      rcases List.mem_cons.1 ex with e | e
      · exact e
      · rcases List.mem_cons.1 ey with e' | e'
        · exact e'.symm
        · have h3 := b1 x e
          have h4 := a1 y e'
          have := cmpB_trans h3 h4
          rw [cmpB_self] at this
          exact absurd this (by decide)
    subst exy
    congr 1
    refine books_ext a2 b2 fun k => ?_
    by_cases hk : x.key = k
    · subst hk
      rw [getB_none_of a1, getB_none_of b1]
    · have := h k
      unfold getB at this ⊢
      simpa [List.find?_cons, hk] using this
/-- Many put in, one by one. -/
def putsB (b : List Cl) (l : List Cl) : List Cl := l.foldl putB b
theorem putsB_ris : ∀ {l b : List Cl}, ris b → ris (putsB b l)
  | [], b, h => h
  | c :: l, b, h => by
    show ris (putsB (putB b c) l)
    rw [putB_ins]; exact putsB_ris (insB_ris h)
theorem putsB_app (b : List Cl) (l m : List Cl) : putsB b (l ++ m) = putsB (putsB b l) m := by simp [putsB]
theorem putsB_mem : ∀ {l b : List Cl} {x : Cl}, x ∈ putsB b l → x ∈ l ∨ x ∈ b
  | [], b, x, h => .inr h
  | c :: l, b, x, h => by
    rcases putsB_mem (l := l) (b := putB b c) h with h | h
    · exact .inl (by simp [h])
    · rw [putB_ins] at h
      rcases insB_mem h with h | h
      · exact .inl (by simp [h])
      · exact .inr h
theorem putsB_len : ∀ {l b : List Cl}, (putsB b l).length ≤ b.length + l.length
  | [], b => by simp [putsB]
  | c :: l, b => by
    have := putsB_len (l := l) (b := putB b c)
    have h2 := insB_len (b := b) (c := c)
    rw [← putB_ins] at h2
    show (putsB (putB b c) l).length ≤ _
    simp; omega
/-- What a key holds is the last one's. -/
theorem getB_puts : ∀ {l b : List Cl} {k : ByteArray}, ris b → getB (putsB b l) k = (l.reverse.find? fun x => decide (x.key = k)).or (getB b k)
  | [], b, k, _ => by simp [putsB]
  | c :: l, b, k, h => by
    have := getB_puts (l := l) (b := putB b c) (k := k) (by rw [putB_ins]; exact insB_ris h)
    show getB (putsB (putB b c) l) k = _
    rw [this, putB_ins, getB_insB h, List.reverse_cons, List.find?_append]
    by_cases hk : c.key = k
    · simp [hk]
    · simp [hk]
end Go.Sl

/-! The filter, plainly. -/
set_option linter.unusedVariables false
set_option linter.unusedSimpArgs false
namespace Go.Sl
structure FS where
  site : Int
  room : Int
  next : Int
  held : List (Int × Rc)
def putF (s : FS) (r : Rc) : Int × FS :=
  if checkR r 8 ≠ 0 then (checkR r 8, s)
  else if r.site ≠ s.site then (1, s)
  else if (mget s.held r.seq).isSome = true ∨ r.seq < s.next then (5, s)
  else if s.room ≤ r.seq - s.next then (6, s)
  else (0, { s with held := mput s.held r.seq r })
def firstF (s : FS) : Rc := (mget s.held s.next).getD rc0
def hasF (s : FS) : Bool := (mget s.held s.next).isSome
def stepF (s : FS) : FS := { s with next := s.next + 1, held := mdel s.held s.next }
def afterF (s : FS) : Nat → FS
  | 0 => s
  | i + 1 => stepF (afterF s i)
def rdyF : Nat → FS → List Rc
  | 0, _ => []
  | n + 1, s => match mget s.held s.next with
    | none => []
    | some r => r :: rdyF n (stepF s)
/-- What is ready. -/
def readyF (s : FS) : List Rc := rdyF s.held.length s
def resetF (s : FS) (n : Int) : Int × FS := if n < 1 ∨ 1048577 < n then (1, s) else (0, { s with next := n, held := [] })

theorem mdel_len {κ α : Type} [DecidableEq κ] : ∀ (l : List (κ × α)) (k : κ), (mget l k).isSome = true → (mdel l k).length + 1 = l.length
  | [], k, h => by simp [mget] at h
  | (k', v) :: l, k, h => by
    simp only [mget] at h
    simp only [mdel]
    by_cases hk : k' = k
    · rw [if_pos hk]; rfl
    · rw [if_neg hk] at h ⊢
      have := mdel_len l k h
      simp only [List.length_cons]; omega
theorem after_stepF (s : FS) : ∀ i, afterF (stepF s) i = afterF s (i + 1)
  | 0 => rfl
  | i + 1 => by simp only [afterF, after_stepF s i]
theorem rdyF_get : ∀ (n : Nat) (s : FS) (i : Nat), s.held.length ≤ n → ((rdyF n s)[i]? = mget (afterF s i).held (afterF s i).next ∨ (rdyF n s).length < i)
  | 0, s, i, h => by
    have h0 : s.held = [] := List.length_eq_zero_iff.1 (by omega)
    cases i with
    | zero => left; simp [rdyF, afterF, h0, mget]
    | succ i => right; simp [rdyF]
  | n + 1, s, i, h => by
    simp only [rdyF]
    cases hg : mget s.held s.next with
    | none =>
      cases i with
      | zero => left; simp [afterF, hg]
      | succ i => right; simp
    | some r =>
      have hl := mdel_len s.held s.next (by rw [hg]; rfl)
      cases i with
      | zero => left; simp [afterF, hg]
      | succ i =>
        have := rdyF_get n (stepF s) i (by simp only [stepF]; omega)
        rw [after_stepF] at this
        rcases this with h1 | h1
        · left; simpa using h1
        · right; simp only [List.length_cons]; omega
theorem ready_get (s : FS) (i : Nat) (hi : i ≤ (readyF s).length) : (readyF s)[i]? = mget (afterF s i).held (afterF s i).next := by
  rcases rdyF_get s.held.length s i (Nat.le_refl _) with h | h
  · exact h
  · exact absurd hi (by unfold readyF; omega)
theorem after_next (s : FS) : ∀ i, (afterF s i).next = s.next + i
  | 0 => by simp [afterF]
  | i + 1 => by simp only [afterF, stepF, after_next s i]; omega
theorem rdyF_len : ∀ (n : Nat) (s : FS), (rdyF n s).length ≤ n
  | 0, s => by simp [rdyF]
  | n + 1, s => by
    simp only [rdyF]
    cases mget s.held s.next with
    | none => simp
    | some r => have := rdyF_len n (stepF s); simp only [List.length_cons]; omega
theorem ready_len (s : FS) : (readyF s).length ≤ s.held.length := rdyF_len _ _
theorem after_site (s : FS) : ∀ i, (afterF s i).site = s.site ∧ (afterF s i).room = s.room
  | 0 => ⟨rfl, rfl⟩
  | i + 1 => by simp only [afterF, stepF]; exact after_site s i
/-- A filter in memory. -/
def fAt (b mb : Nat) (s : FS) : List HP := [pts b 0 [.int .i64 s.site, .int .i64 s.room, .int .i64 s.next, .map (some mb)], mpAt (KI .i64) RRec mb s.held]
def bK : ByteArray := ⟨#[107]⟩
def rk (n : Int) : Rc := ⟨1, n, [], bK, bE⟩
def ERec : Enc Rc where
  V := Pl
  args := fun r h => [RRec.val r h]
  atoms := fun r h => RRec.atoms r h
  pers := fun r h => RRec.pers r h
theorem rk_check (n : Int) (h1 : 1 ≤ n) (h2 : n ≤ 1048576) : checkR (rk n) 8 = 0 := by
  unfold checkR rk
  rw [if_neg (by simp; omega)]
  rw [if_neg (by simp [checkV, vecBad])]
  rw [if_neg (by simp [getI]; omega)]
  rw [if_neg (show ¬ (bK.size < 1 ∨ 8 < bK.size ∨ nameOk bK = false) by decide), if_neg (show ¬ valOk bE = false by decide), if_neg (show ¬ 16 < bE.size by decide)]
theorem checkR_zero {r : Rc} (h : checkR r 8 = 0) : 0 ≤ r.site ∧ r.site < 8 ∧ 1 ≤ r.seq ∧ r.seq ≤ 1048576 := by
  unfold checkR at h
  split at h
  · omega
  · rename_i h1; omega
end Go.Sl

/-! What ranges over books and records hand over. -/
set_option linter.unusedVariables false
namespace Go.Sl
/-- Records with their places. -/
def ENum : Enc (Rc × Nat) where
  V := Pl
  args := fun x h => [.int .i64 (x.2 : Int), RRec.val x.1 h]
  atoms := fun x h => RRec.atoms x.1 h
  pers := fun x h => RRec.pers x.1 h
/-- Keys with their values. -/
def EKV : Enc Cl where
  V := Unit
  args := fun x _ => [.string x.key, .string x.val]
  atoms := fun _ _ => []
  pers := fun _ _ _ h => by cases h
theorem num_get {l : List Rc} {i : Nat} {r : Rc} (h : l[i]? = some r) : l.zipIdx[i]? = some (r, i) := by
  rw [List.getElem?_zipIdx, h]; simp
theorem num_of {l : List Rc} {i : Nat} {x : Rc × Nat} (h : l.zipIdx[i]? = some x) : l[i]? = some x.1 ∧ x.2 = i := by
  rw [List.getElem?_zipIdx] at h
  cases hl : l[i]? with
  | none => rw [hl] at h; cases h
  | some r => rw [hl] at h; simp at h; subst h; exact ⟨rfl, rfl⟩
/-- A book's words. -/
def wordsB (l : List Cl) : List ByteArray := l.flatMap fun c => [c.key, c.val]
theorem wordsB_len : ∀ l : List Cl, (wordsB l).length = 2 * l.length
  | [] => rfl
  | c :: l => by
    have := wordsB_len l
    simp only [wordsB, List.flatMap_cons, List.length_append, List.length_cons, List.length_nil] at this ⊢
    omega
theorem wordsB_step {l : List Cl} {i : Nat} {c : Cl} (h : l[i]? = some c) : wordsB (l.take (i + 1)) = wordsB (l.take i) ++ [c.key, c.val] := by
  rw [List.take_add_one, h]
  simp [wordsB]
/-- A record's cell. -/
def clOf (r : Rc) : Cl := ⟨r.key, r.val, r.site, r.seq⟩
/-- The book so far. -/
def bookAt (b : List Cl) (l : List Rc) (i : Nat) : List Cl := putsB b ((l.take i).map clOf)
theorem bookAt_step {b : List Cl} {l : List Rc} {i : Nat} {r : Rc} (h : l[i]? = some r) : bookAt b l (i + 1) = putB (bookAt b l i) (clOf r) := by
  unfold bookAt
  rw [List.take_add_one, h, List.map_append, putsB_app]; rfl
theorem bookAt_ris {b : List Cl} (h : ris b) (l : List Rc) (i : Nat) : ris (bookAt b l i) := putsB_ris h
theorem bookAt_len (b : List Cl) (l : List Rc) (i : Nat) : (bookAt b l i).length ≤ b.length + l.length := by
  have := putsB_len (l := (l.take i).map clOf) (b := b)
  simp only [List.length_map, List.length_take] at this
  unfold bookAt; omega
/-- A slice that a cell names, and that is read alone. -/
def bookJ (bx : Nat) (l : List Cl) : HP := some1 (fun z : Pl => True) (fun z => [pts bx 0 [.slice z.1 l.length z.2], slAt RCl z.1 l.length l])
/-- Words that are gathered. -/
def wordJ (bx : Nat) (l : List ByteArray) : HP := some1 (fun z : Pl => True) (fun z => [pts bx 0 [.slice z.1 l.length z.2], sqAt false RS z.1 l.length z.2 l])
end Go.Sl

/-! What the document's checks tell, plainly. -/
set_option linter.unusedVariables false
set_option linter.unusedSimpArgs false
namespace Go.Sl
theorem wrapn {i : Nat} (h : i ≤ lim) : IntKind.i64.wrap ((i : Int) + 1) = ((i + 1 : Nat) : Int) := by
  have : (i : Int) ≤ 2147483648 := by unfold lim at h; omega
  rw [wrap_id (by omega) (by omega)]; omega
theorem getI_nat (l : List Int) (i : Nat) : getI l (i : Int) = l.getD i 0 := by
  unfold getI; rw [if_neg (by omega)]; simp
def covI (a b : List Int) : Bool := (List.range (max a.length b.length)).all fun i => decide (getI b i ≤ getI a i)
theorem covI_true {a b : List Int} (h : ∀ j : Nat, j < max a.length b.length → getI b j ≤ getI a j) : covI a b = true := by
  unfold covI
  rw [List.all_eq_true]
  intro i hi
  exact decide_eq_true (h i (by simpa using hi))
theorem covI_false {a b : List Int} {j : Nat} (hj : j < max a.length b.length) (h : getI a j < getI b j) : covI a b = false := by
  unfold covI
  rw [Bool.eq_false_iff]
  intro ha
  have := List.all_eq_true.1 ha j (by simpa using hj)
  simp at this
  omega
def sameV (a b : List Int) : Bool := covI a b && covI b a
def sameR (r s : Rc) : Bool := decide (r.site = s.site) && decide (r.seq = s.seq) && sameV r.dep s.dep && eqS r.key s.key && eqS r.val s.val
theorem covI_refl (a : List Int) : covI a a = true := covI_true fun _ _ => Int.le_refl _
theorem sameR_refl (r : Rc) : sameR r r = true := by
  have : ∀ s : ByteArray, eqS s s = true := fun s => eqS_iff.2 rfl
  simp [sameR, sameV, covI_refl, this]
def cellBad (k v : ByteArray) : Int := if k.size < 1 ∨ 8 < k.size ∨ nameOk k = false then 3 else if valOk v = false then 2 else if 16 < v.size then 4 else 0
theorem checkR_cell (r : Rc) (m : Int) : checkR r m = if m < 1 ∨ 8 < m ∨ r.site < 0 ∨ m ≤ r.site ∨ r.seq < 1 ∨ 1048576 < r.seq then 1
    else if checkV r.dep m ≠ 0 then checkV r.dep m
    else if r.seq ≤ getI r.dep r.site then 13 else cellBad r.key r.val := by
  unfold checkR cellBad; rfl
def nameI (v : Int) : Bool := (decide (97 ≤ v) && decide (v ≤ 122)) || (decide (48 ≤ v) && decide (v ≤ 57))
theorem nameOk_bytes (s : ByteArray) : nameOk s = (bytesI s).all nameI := by
  unfold nameOk bytesI
  rw [List.all_map]
  congr 1
  funext b
  unfold nameR nameI
  simp only [Function.comp_apply]
  congr 1 <;> congr 1 <;> (apply decide_eq_decide.2; omega)
theorem all_take_step {l : List Int} {p : Int → Bool} {i : Nat} {v : Int} (h : (l.take i).all p = true) (hv : l[i]? = some v) (hp : p v = true) : (l.take (i + 1)).all p = true := by
  rw [List.take_add_one, hv, List.all_append, h]; simp [hp]
theorem all_take_all {l : List Int} {p : Int → Bool} {i : Nat} (h : (l.take i).all p = true) (hi : l.length ≤ i) : l.all p = true := by
  rwa [List.take_of_length_le hi] at h
theorem all_not {l : List Int} {p : Int → Bool} {i : Nat} {v : Int} (hv : l[i]? = some v) (hp : p v = false) : l.all p = false := by
  rw [Bool.eq_false_iff]
  intro h
  have := List.all_eq_true.1 h v (List.mem_of_getElem? hv)
  rw [hp] at this; cases this
theorem vecBad_step : ∀ {l : List Int} {i : Nat} {v : Int}, vecBad (l.take i) = 0 → l[i]? = some v → ¬ v < 0 → ¬ 1048576 < v → vecBad (l.take (i + 1)) = 0
  | [], i, v, _, h, _, _ => by simp at h
  | x :: l, 0, v, _, h, h1, h2 => by simp at h; subst h; simp [vecBad, h1, h2]
  | x :: l, i + 1, v, h0, h, h1, h2 => by
    simp only [List.take_succ_cons, vecBad] at h0 ⊢
    split
    · rename_i hx; simp [hx] at h0
    · rename_i hx
      split
      · rename_i hx2; simp [hx, hx2] at h0
      · rename_i hx2
        simp only [hx, hx2, if_false] at h0
        exact vecBad_step h0 (by simpa using h) h1 h2
theorem vecBad_at : ∀ {l : List Int} {i : Nat} {v : Int}, vecBad (l.take i) = 0 → l[i]? = some v → (v < 0 → vecBad l = 1) ∧ (¬ v < 0 → 1048576 < v → vecBad l = 4)
  | [], i, v, _, h => by simp at h
  | x :: l, 0, v, _, h => by
    simp at h; subst h
    exact ⟨fun h1 => by simp [vecBad, h1], fun h1 h2 => by simp [vecBad, h1, h2]⟩
  | x :: l, i + 1, v, h0, h => by
    simp only [List.take_succ_cons, vecBad] at h0
    split at h0
    · cases h0
    · rename_i hx
      split at h0
      · cases h0
      · rename_i hx2
        have := vecBad_at h0 (by simpa using h)
        simp only [vecBad, hx, hx2, if_false]
        exact this
end Go.Sl

/-! Division of whole numbers of any kind; slots renamed. -/
set_option linter.unusedVariables false
set_option linter.unusedSectionVars false
namespace Go.Sl
section
variable {P : Program} [tb : Tab P] {rd : Option Nat} {N : Nat} {T T' : TT} {L : List HP} {Q : Post} {ks : List K}
variable {all : Array Oper} {rest : List Oper} {d : Option Tmp} {ty : TypeId} {pos : String} {aft : Array Edge} {RR : TT → List HP → Prop}
theorem reads_div {op : BinOp} {t cx : Nat} {x y : Operand} {k : IntKind} {a b : Int} {v : Value} (hx : evO T x = some (.int k a)) (hy : evO T y = some (.int k b)) (h : divV op k a b = some v) : Reads P T L ⟨d, .binOp op t x y cx, ty, pos, aft, none⟩ (fun u L' => u = v ∧ L' = L) := by
  intro q hq r oo F hst
  refine ⟨v, L, ⟨rfl, rfl⟩, hst, fun w _ => ?_⟩
  have h1 : (eqGuard op t x y (.int k a) (.int k b)).run P w = .ok () w := by
    unfold divV at h
    split at h <;> first | (cases h; done) | (unfold eqGuard; simp)
  simp only [execOp, hq _ _ hx, hq _ _ hy, Sem.run_bind, h1, Result.andThen_ok, divV_ok h t w]
  rfl
theorem SO.div {op : BinOp} {t cx : Nat} {x y : Operand} {k : IntKind} {a b : Int} {v : Value} (hx : evO T x = some (.int k a)) (hy : evO T y = some (.int k b)) (h : divV op k a b = some v) (hd : dstOk N d = true)
    (kk : SO P rd N all rest (putD d v T) L ks Q) : SO P rd N all (⟨d, .binOp op t x y cx, ty, pos, aft, none⟩ :: rest) T L ks Q :=
  SO.reads (reads_div hx hy h) rfl rfl hd (by rintro _ _ ⟨rfl, rfl⟩; exact kk)
theorem SQ.div {op : BinOp} {t cx : Nat} {x y : Operand} {k : IntKind} {a b : Int} {v : Value} (hx : evO T x = some (.int k a)) (hy : evO T y = some (.int k b)) (h : divV op k a b = some v) (hd : dstOk N d = true)
    (kk : SQ P N all rest (putD d v T) L RR) : SQ P N all (⟨d, .binOp op t x y cx, ty, pos, aft, none⟩ :: rest) T L RR :=
  SQ.reads (reads_div hx hy h) rfl hd (by rintro _ _ ⟨rfl, rfl⟩; exact kk)
theorem SR.div {op : BinOp} {t cx : Nat} {x y : Operand} {k : IntKind} {a b : Int} {v : Value} (hx : evO T x = some (.int k a)) (hy : evO T y = some (.int k b)) (h : divV op k a b = some v) (hd : dstOk N d = true)
    (kk : SR P N all rest (putD d v T) L RR) : SR P N all (⟨d, .binOp op t x y cx, ty, pos, aft, none⟩ :: rest) T L RR :=
  SR.reads (reads_div hx hy h) rfl hd (by rintro _ _ ⟨rfl, rfl⟩; exact kk)
theorem rem_ne {k : IntKind} {a b : Int} (hb : b ≠ 0) : divV .rem k a b = some (.int k (a.tmod b)) := if_neg hb
theorem quo_ne {k : IntKind} {a b : Int} (hb : b ≠ 0) : divV .quo k a b = some (.int k (k.wrap (a.tdiv b))) := if_neg hb
theorem SO.setT {ops : List Oper} (T' : TT) (h : Sub T T') (k : SO P rd N all ops T' L ks Q) : SO P rd N all ops T L ks Q :=
  fun F a w ok => k F a w (ok.sub h)
theorem SK.setT {c : Code} (T' : TT) (h : Sub T T') (k : SK P rd N (.code c :: ks) T' L Q) : SK P rd N (.code c :: ks) T L Q := by
  rw [SK_code] at k ⊢
  exact fun F a w ok => k F a w (ok.sub h)
end
end Go.Sl

/-! Regions whose order is open: one chain of operations that do something, and any that only read, walked in one order. -/
set_option linter.unusedVariables false
set_option linter.unusedSectionVars false
set_option linter.unusedSimpArgs false
namespace Go.Sl

/-- Operations one behind the other; 'fork': either may come. -/
inductive XO where
  | nil
  | item (k : Nat) (o : Oper) (t : XO)
  | fork (x y : XO)
inductive XT where
  | nil
  | item (k i : Nat) (t : XT)
  | fork (x y : XT)
/-- 0: it reads alone; 1: a link of the chain; 2: a link that waits for all ahead of it. -/
def wpX (P : Program) (rd : Option Nat) (all : Array Oper) (Q : Exit → Act → World → Prop) : XO → (World → Prop) → Act → World → Prop
  | .nil, _, a, w => Q .normal a w
  | .item k o rest, C, a, w => if Region.wanted o (yielded all a.tmps) = true then
      (match k with
        | 0 => ∃ v, (∀ w', C w' → (execOp a.eval o).run P w' = .ok (.value v) w') ∧ wpX P rd all Q rest C (a.put o.dst v) w
        | k + 1 => o.wpIn (FW rd) 0 P a w (fun a' w' => ∃ C' : World → Prop, C' w' ∧ (k = 1 ∨ ∀ u, C' u → C u) ∧ wpX P rd all Q rest C' a' w') Q)
    else wpX P rd all Q rest C (a.put o.dst undef) w
  | .fork x y, C, a, w => wpX P rd all Q x C a w ∧ wpX P rd all Q y C a w
def pickK (l : List Oper) : XT → XO
  | .nil => .nil
  | .item k i t => match l[i]? with
    | some o => .item k o (pickK l t)
    | none => pickK l t
  | .fork x y => .fork (pickK l x) (pickK l y)
def paths : XT → List (List (Nat × Nat))
  | .nil => [[]]
  | .item k i t => (paths t).map fun p => (k, i) :: p
  | .fork x y => paths x ++ paths y
def fpath : XT → List (Nat × Nat)
  | .nil => []
  | .item k i t => (k, i) :: fpath t
  | .fork x _ => fpath x
def heads : XT → List Nat
  | .nil => []
  | .item _ i _ => [i]
  | .fork x y => heads x ++ heads y
def cloA (l : List Oper) (i : Nat) : List Nat := clo l l.length (aftAt l i)
def tailX (l : List Oper) : List Nat → List (Nat × Nat) → Bool
  | _, [] => true
  | pre, (k, i) :: rest => (!Nat.beq k 2 || subN pre (cloA l i)) && tailX l (i :: pre) rest
/-- Do all others wait for one of the heads? -/
def nodeOk (l : List Oper) (t : XT) : Bool := (fpath t).all fun x => (heads t).elem x.2 || (heads t).any fun c => (cloA l x.2).elem c
def okT (l : List Oper) : Bool → XT → Bool
  | f, .nil => !f
  | f, .item k i t => (bif Nat.beq k 0 then !f else (f || nodeOk l (.item k i t))) && okT l false t
  | f, .fork x y => (f || nodeOk l (.fork x y)) && okT l true x && okT l true y
def looksX (l : List Oper) (ord : List (Nat × Nat)) : Bool :=
  ord.all fun x => (looksOf l x.2).all fun d => ord.all fun y => !((dstAt l y.2).any (Nat.beq d)) || (cloA l x.2).elem y.2 || (!Nat.beq y.1 0 && (cloA l y.2).elem x.2)
def pathOk (N : Nat) (l : List Oper) (ord : List (Nat × Nat)) : Bool :=
  nodupN (ord.map (·.2)) && coversN l.length (ord.map (·.2)) && ((ord.map (·.2)).all fun i => Nat.blt i l.length) && ordPre l [] (ord.map (·.2)) && tailX l [] ord && looksX l ord &&
  nodupN ((ord.map (·.2)).filterMap (dstAt l)) && ltAll N ((ord.map (·.2)).filterMap (dstAt l))
def canOk (N : Nat) (l : List Oper) (t : XT) : Bool := noDefer l && Region.noSelect l.toArray && (paths t).all (pathOk N l) && okT l false t

section
variable {P : Program} {rd : Option Nat} {N : Nat} {l : List Oper} {Q : Exit → Act → World → Prop} {ord : List (Nat × Nat)}

theorem YS.wpOp {i : Nat} {o : Oper} {v : Value} {a : Act} {C : World → Prop} {ops : Array Oper} (hn : notDefer o.op = true) (hi : ops[i]? = some o) (hy : YS P ops C o v a) {K : Act → World → Prop} {w : World} (hw : C w) (h : K (a.put o.dst v) w) : wpOpIn (FW rd) 0 P ops Q i K a w := by
  unfold wpOpIn
  simp only [hi]
  rcases hy with ⟨hw1, hv⟩ | ⟨hw1, rfl⟩
  · rw [if_pos hw1]
    refine ⟨fun _ _ => trivial, ?_⟩
    rw [Oper.semAt_eq _ _ _ (notDefer_spec hn), hv w hw]
    exact h
  · rw [if_neg (by rw [hw1]; simp)]
    exact ⟨fun _ _ => trivial, h⟩
theorem YS.mono {o : Oper} {v : Value} {a : Act} {C C' : World → Prop} {ops : Array Oper} (h : ∀ w, C' w → C w) (hy : YS P ops C o v a) : YS P ops C' o v a := by
  rcases hy with ⟨h1, h2⟩ | h
  · exact .inl ⟨h1, fun w hw => h2 w (h w hw)⟩
  · exact .inr h
theorem looks_eval {o : Oper} {a a' : Act} {ops : Array Oper} (hs : ∀ cs b, o.op ≠ .select cs b) (h : ∀ d ∈ o.looksAt ops, a'.tmps[d]? = a.tmps[d]?) : execOp a'.eval o = execOp a.eval o ∧ Region.wanted o (yielded ops a'.tmps) = Region.wanted o (yielded ops a.tmps) := by
  constructor
  · exact execOp_congr o hs fun x hx => by
      cases x with
      | tmp t =>
        have := h t (List.mem_append_left _ (List.mem_filterMap.2 ⟨.tmp t, by simpa using hx, rfl⟩))
        simp [Act.eval, Array.getD_eq_getD_getElem?, this]
      | const u => rfl
      | global g => rfl
      | func f => rfl
  · unfold Region.wanted
    cases hg : o.guard with
    | none => rfl
    | some gw =>
      obtain ⟨g, want⟩ := gw
      have hy : yielded ops a'.tmps g = yielded ops a.tmps g := by
        unfold yielded
        cases ht : (ops[g]?).bind (·.dst) with
        | none => rfl
        | some t =>
          have := h t (by simp [Oper.looksAt, hg, ht])
          simp only [Option.bind_some, this]
      simp only [hy]
theorem wpIn_transfer {o : Oper} {a b : Act} {w : World} {K : Act → World → Prop} (hn : notDefer o.op = true) (he : execOp a.eval o = execOp b.eval o) (hQ : ∀ c a w, Q (.panic c) a w → False) (h : o.wpIn (FW rd) 0 P b w K Q) :
    o.wpIn (FW rd) 0 P a w (fun a' w' => ∃ v b', K b' w' ∧ a'.tmps = (a.put o.dst v).tmps ∧ b'.tmps = (b.put o.dst v).tmps ∧ (a.defers = b.defers → a'.defers = b'.defers)) Q := by
  unfold Oper.wpIn at *
  refine ⟨fun _ _ => trivial, ?_⟩
  have h := h.2
  rw [Oper.semAt_eq _ _ _ (notDefer_spec hn), ← he] at h
  rw [Oper.semAt_eq _ _ _ (notDefer_spec hn)]
  have key : ∀ v w', K (b.put o.dst v) w' → ∃ v' b', K b' w' ∧ (a.put o.dst v).tmps = (a.put o.dst v').tmps ∧ b'.tmps = (b.put o.dst v').tmps ∧ (a.defers = b.defers → (a.put o.dst v).defers = b'.defers) := fun v w' hk => ⟨v, _, hk, rfl, rfl, fun e => by rw [put_defers_eq, put_defers_eq, e]⟩
  generalize (execOp a.eval o).run P w = r at *
  cases r with
  | ok x w' =>
    cases x <;> simp only [Oper.uponIn] at h ⊢
    case value u => exact key _ _ h
    case skip => exact key _ _ h
    case defer d => exact ⟨undef, _, h, by cases o.dst <;> rfl, by cases o.dst <;> rfl, fun e => by rw [put_defers_eq, put_defers_eq]; simp [e]⟩
    case enter f args =>
      refine ⟨h.1, CallsIn.mono h.2 fun e w'' he => ?_⟩
      cases e with
      | returned u => exact key _ _ he
      | panicked c => exact (hQ _ _ _ he).elim
      | outgrown => exact he
    case row row args => exact ⟨h.1, RowsIn.mono h.2 fun u w'' he => key _ _ he⟩
    case round l f tmps assign body =>
      refine ⟨h.1, RoundIn.mono h.2 fun e w'' he => ?_⟩
      cases e with
      | returned u => exact key _ _ he
      | panicked c => exact (hQ _ _ _ he).elim
      | outgrown => exact he
  | halt x w' =>
    cases x <;> simp only [Oper.uponIn] at h ⊢
    case panic u => exact (hQ _ _ _ h).elim

structure XInv (P : Program) (N : Nat) (l : List Oper) (ord pre its : List (Nat × Nat)) (U : List Nat) (C : World → Prop) (b : Act) (listed : Array Bool) (a : Act) (w : World) (W : Prop) : Prop where
  split : ord = pre ++ its
  lsize : listed.size = l.length
  closed : ∀ i, listed.getD i false = true → ∀ j ∈ aftAt l i, listed.getD j false = true
  lst : ∀ i, listed.getD i false = true ↔ i ∈ pre.map (·.2) ∧ i ∉ U
  usub : ∀ q ∈ U, (0, q) ∈ pre
  world : C w
  wp : W
  dfr : a.defers = b.defers
  size : a.tmps.size = N
  bsize : b.tmps.size = N
  agr : ∀ d, (∀ q ∈ U, dstAt l q ≠ some d) → a.tmps[d]? = b.tmps[d]?
  ys : ∀ q ∈ U, ∃ o v, l[q]? = some o ∧ YS P l.toArray C o v b ∧ ∀ d, o.dst = some d → b.tmps[d]? = some v

/-- What 'canOk' tells. -/
structure XOk (N : Nat) (l : List Oper) (ord : List (Nat × Nat)) : Prop where
  nd : ∀ (i : Nat) (o : Oper), l[i]? = some o → notDefer o.op = true
  sel : ∀ (i : Nat) (o : Oper) cs b, l[i]? = some o → o.op ≠ .select cs b
  nod : (ord.map (·.2)).Nodup
  cov : ∀ i, i < l.length → i ∈ ord.map (·.2)
  lt : ∀ i ∈ ord.map (·.2), i < l.length
  pre : ∀ s i t, ord.map (·.2) = s ++ i :: t → ∀ j ∈ aftAt l i, j ∈ s
  tail : tailX l [] ord = true
  looks : ∀ x ∈ ord, ∀ y ∈ ord, ∀ d ∈ looksOf l x.2, dstAt l y.2 = some d → y.2 ∈ cloA l x.2 ∨ (y.1 ≠ 0 ∧ x.2 ∈ cloA l y.2)
  dst : ((ord.map (·.2)).filterMap (dstAt l)).Nodup
  dlt : ∀ d ∈ (ord.map (·.2)).filterMap (dstAt l), d < N

theorem pathOk_ok (hd : noDefer l = true) (hs : Region.noSelect l.toArray = true) (h : pathOk N l ord = true) : XOk N l ord := by
  simp only [pathOk, Bool.and_eq_true] at h
  obtain ⟨⟨⟨⟨⟨⟨⟨h3, h4⟩, h5⟩, h6⟩, h7⟩, h8⟩, h9⟩, h10⟩ := h
  have hsel := Region.noSelect_spec hs
  refine ⟨fun i o ho => List.all_eq_true.1 hd o (List.mem_of_getElem? ho), fun i o cs b ho => hsel i o cs b (by simpa using ho), nodupN_ok h3, fun i hi => ?_, fun i hi => ?_, fun s i t e j hj => ?_, h7, fun x hx y hy d hd e => ?_, nodupN_ok h9, ltAll_ok h10⟩
  · have := List.all_eq_true.1 h4 i (by simp [hi]); simpa using this
  · have := List.all_eq_true.1 h5 i hi; simpa [Nat.blt_eq] using this
  · rcases ordPre_spec h6 s i t e j hj with h | h
    · exact h
    · cases h
  · have h := List.all_eq_true.1 (List.all_eq_true.1 (List.all_eq_true.1 h8 x hx) d hd) y hy
    rw [e] at h
    simp only [Option.any_some, Nat.beq_refl, Bool.not_true, Bool.false_or, Bool.or_eq_true, Bool.and_eq_true, Bool.not_eq_true', List.elem_eq_mem, decide_eq_true_eq] at h
    rcases h with h | ⟨h, h'⟩
    · exact .inl h
    · refine .inr ⟨fun e => ?_, h'⟩
      rw [e] at h; simp at h

variable {W W' : Prop} {pre its : List (Nat × Nat)} {U : List Nat} {C : World → Prop} {b : Act} {listed : Array Bool} {a : Act} {w : World}
/-- What is ahead of one holds all it waits for. -/
theorem XOk.clo_pre (x : XOk N l ord) {s t : List Nat} {i : Nat} (e : ord.map (·.2) = s ++ i :: t) : ∀ j ∈ cloA l i, j ∈ s := by
  unfold cloA
  refine clo_sub (p := fun j => j ∈ s) (fun j hj k hk => ?_) _ _ (fun j hj => x.pre s i t e j hj)
  obtain ⟨s1, s2, rfl⟩ := List.append_of_mem hj
  have := x.pre s1 j (s2 ++ i :: t) (by rw [e]; simp) k hk
  simp [this]
theorem XOk.clo_not (x : XOk N l ord) {s t : List Nat} {i : Nat} (e : ord.map (·.2) = s ++ i :: t) {j : Nat} (hj : j ∈ i :: t) : j ∉ cloA l i := fun h => by
  have h1 := x.clo_pre e j h
  have h2 := x.nod
  rw [e] at h2
  exact (List.nodup_append.1 h2).2.2 j h1 j hj rfl
theorem XOk.dst_ne (x : XOk N l ord) {i j : Nat} (hi : i ∈ ord.map (·.2)) (hj : j ∈ ord.map (·.2)) (hne : i ≠ j) {d : Nat} (h : dstAt l i = some d) : dstAt l j ≠ some d := fun h' =>
  hne (dst_uniq x.dst i hi j hj d h h' x.nod)
theorem XOk.dst_lt (x : XOk N l ord) {i d : Nat} (hi : i ∈ ord.map (·.2)) (h : dstAt l i = some d) : d < N := x.dlt d (List.mem_filterMap.2 ⟨i, hi, h⟩)
theorem looksOf_eq {i : Nat} {o : Oper} (ho : l[i]? = some o) : looksOf l i = o.looksAt l.toArray := by simp [looksOf, ho]
theorem dstAt_eq {i : Nat} {o : Oper} (ho : l[i]? = some o) : dstAt l i = o.dst := by simp [dstAt, ho]
theorem XOk.get (x : XOk N l ord) {i : Nat} (hi : i ∈ ord.map (·.2)) : ∃ o, l[i]? = some o := ⟨_, List.getElem?_eq_getElem (x.lt i hi)⟩
theorem YS.same {o : Oper} {v : Value} {a a' : Act} {ops : Array Oper} {C : World → Prop} (hs : ∀ cs b, o.op ≠ .select cs b) (h : ∀ d ∈ o.looksAt ops, a'.tmps[d]? = a.tmps[d]?) (hy : YS P ops C o v a) : YS P ops C o v a' := hy.congr hs h

/-- The next one in the order reads alone: as if it were done. -/
theorem XInv.advance (x : XOk N l ord) {q : Nat} {o : Oper} {v : Value} (ho : l[q]? = some o) (hys : YS P l.toArray C o v b) (hW' : W') (h : XInv P N l ord pre ((0, q) :: its) U C b listed a w W) : XInv P N l ord (pre ++ [(0, q)]) its (q :: U) C (b.put o.dst v) listed a w W' := by
  have hsp := h.split
  have hq : q ∈ ord.map (·.2) := by rw [hsp]; simp
  have hsp2 : ord.map (·.2) = pre.map (·.2) ++ q :: its.map (·.2) := by rw [hsp]; simp
  have hqpre : q ∉ pre.map (·.2) := fun hm => by
    have := x.nod
    rw [hsp2] at this
    exact (List.nodup_append.1 this).2.2 q hm q (by simp) rfl
  have hU : ∀ k ∈ U, k ∈ pre.map (·.2) := fun k hk => List.mem_map.2 ⟨_, h.usub k hk, rfl⟩
  have hd : dstAt l q = o.dst := dstAt_eq ho
  -- who looks at its slot
  have hlook : ∀ k ∈ q :: U, ∀ d ∈ looksOf l k, o.dst ≠ some d := by
    intro k hk d hdk e
    have hk0 : (0, k) ∈ ord := by
      rcases List.mem_cons.1 hk with rfl | hk
      · rw [hsp]; simp
      · rw [hsp]; simp [h.usub k hk]
    rcases x.looks (0, k) hk0 (0, q) (by rw [hsp]; simp) d hdk (by rw [hd]; exact e) with h1 | ⟨h1, _⟩
    · rcases List.mem_cons.1 hk with rfl | hk
      · exact x.clo_not hsp2 (by simp) h1
      · obtain ⟨s, t, hst⟩ := List.append_of_mem (hU k hk)
        have := x.clo_pre (s := s) (i := k) (t := t ++ q :: its.map (·.2)) (by rw [hsp2, hst]; simp) q h1
        exact hqpre (by rw [hst]; simp [this])
    · exact h1 rfl
  refine ⟨by rw [hsp]; simp, h.lsize, h.closed, fun i => ?_, fun k hk => ?_, h.world, hW', by rw [put_defers_eq]; exact h.dfr, h.size, ?_, fun d hdU => ?_, fun k hk => ?_⟩
  · rw [h.lst i]
    simp only [List.map_append, List.map_cons, List.map_nil, List.mem_append, List.mem_singleton, List.mem_cons, not_or]
    constructor
    · rintro ⟨h1, h2⟩; exact ⟨.inl h1, fun e => hqpre (e ▸ h1), h2⟩
    · rintro ⟨h1 | h1, h2, h3⟩
      · exact ⟨h1, h3⟩
      · exact absurd h1 (by simpa using h2)
  · rcases List.mem_cons.1 hk with rfl | hk
    · simp
    · simp [h.usub k hk]
  · have := h.bsize; cases o.dst <;> simpa [Act.put] using this
  · rw [h.agr d fun k hk => hdU k (by simp [hk]), put_get]
    rw [← hd]; exact hdU q (by simp)
  · rcases List.mem_cons.1 hk with rfl | hk
    · refine ⟨o, v, ho, hys.same (fun cs b => x.sel _ o cs b ho) (fun d hd2 => put_get ?_), fun d e => ?_⟩
      · exact hlook k (by simp) d (by rw [looksOf_eq ho]; exact hd2)
      · rw [e]; exact put_self (by rw [h.bsize]; exact x.dst_lt hq (hd.trans e))
    · obtain ⟨o', v', ho', hy', hv'⟩ := h.ys k hk
      refine ⟨o', v', ho', hy'.same (fun cs b => x.sel _ o' cs b ho') (fun d hd2 => put_get ?_), fun d e => ?_⟩
      · exact hlook k (by simp [hk]) d (by rw [looksOf_eq ho']; exact hd2)
      · rw [put_get]
        · exact hv' d e
        · rw [← hd]
          refine x.dst_ne (i := k) (by rw [hsp2]; simp only [List.mem_append]; exact .inl (hU k hk)) hq (fun e => hqpre (e ▸ hU k hk)) (by rw [dstAt_eq ho']; exact e)

theorem tail_spec {i : Nat} {t : List (Nat × Nat)} : ∀ {s : List (Nat × Nat)} {acc : List Nat}, tailX l acc (s ++ (2, i) :: t) = true → (∀ j ∈ acc, j ∈ cloA l i) ∧ ∀ j ∈ s.map (·.2), j ∈ cloA l i
  | [], acc, h => by
    simp only [List.nil_append, tailX, Bool.and_eq_true] at h
    have h2 := h.1
    simp only [Nat.beq_refl, Bool.not_true, Bool.false_or] at h2
    exact ⟨fun j hj => subN_ok h2 j hj, fun j hj => by simp at hj⟩
  | (k', i') :: s, acc, h => by
    simp only [List.cons_append, tailX, Bool.and_eq_true] at h
    obtain ⟨h1, h2⟩ := tail_spec h.2
    refine ⟨fun j hj => h1 j (by simp [hj]), fun j hj => ?_⟩
    rw [List.map_cons] at hj
    rcases List.mem_cons.1 hj with rfl | hj
    · exact h1 _ (by simp)
    · exact h2 j hj
theorem clo_listed {i : Nat} (hc : ∀ i, listed.getD i false = true → ∀ j ∈ aftAt l i, listed.getD j false = true) (ha : ∀ j ∈ aftAt l i, listed.getD j false = true) : ∀ j ∈ cloA l i, listed.getD j false = true :=
  clo_sub (p := fun j => listed.getD j false = true) hc _ _ ha
theorem listed_set {i j : Nat} (hi : i < listed.size) : (listed.setIfInBounds i true).getD j false = true ↔ j = i ∨ listed.getD j false = true := by
  by_cases h : i = j
  · subst h; simp [getD_set_self hi]
  · rw [getD_set_ne false h]
    exact ⟨.inr, fun h' => h'.resolve_left (fun e => h e.symm)⟩
theorem closed_set {i : Nat} (hi : i < listed.size) (hc : ∀ i, listed.getD i false = true → ∀ j ∈ aftAt l i, listed.getD j false = true) (ha : ∀ j ∈ aftAt l i, listed.getD j false = true) :
    ∀ k, (listed.setIfInBounds i true).getD k false = true → ∀ j ∈ aftAt l k, (listed.setIfInBounds i true).getD j false = true := fun k hk j hj => by
  rw [listed_set hi] at hk ⊢
  rcases hk with rfl | hk
  · exact .inr (ha j hj)
  · exact .inr (hc k hk j hj)
/-- What the two acts agree on. -/
theorem XInv.look (x : XOk N l ord) (h : XInv P N l ord pre its U C b listed a w W) {kk j : Nat} (hj : (kk, j) ∈ ord) (hr : ∀ i ∈ aftAt l j, listed.getD i false = true) {o : Oper} (ho : l[j]? = some o) : ∀ d ∈ o.looksAt l.toArray, a.tmps[d]? = b.tmps[d]? := by
  intro d hd
  refine h.agr d fun q hq e => ?_
  have hq0 : (0, q) ∈ ord := by rw [h.split]; simp [h.usub q hq]
  rcases x.looks (kk, j) hj (0, q) hq0 d (by rw [looksOf_eq ho]; exact hd) e with h1 | ⟨h1, _⟩
  · have := clo_listed h.closed hr q h1
    exact ((h.lst q).1 this).2 hq
  · exact h1 rfl
theorem XInv.finU (x : XOk N l ord) (h : XInv P N l ord pre its U C b listed a w W) {j : Nat} (hj : j ∈ U) (hr : ∀ i ∈ aftAt l j, listed.getD i false = true) {o : Oper} {v : Value} (ho : l[j]? = some o) (hv : ∀ d, o.dst = some d → b.tmps[d]? = some v) :
    XInv P N l ord pre its (U.filter (· ≠ j)) C b (listed.setIfInBounds j true) (a.put o.dst v) w W := by
  have hj0 : (0, j) ∈ ord := by rw [h.split]; simp [h.usub j hj]
  have hjo : j ∈ ord.map (·.2) := List.mem_map.2 ⟨_, hj0, rfl⟩
  have hjl : j < listed.size := by rw [h.lsize]; exact x.lt j hjo
  have hd : dstAt l j = o.dst := dstAt_eq ho
  refine ⟨h.split, by simp [h.lsize], closed_set hjl h.closed hr, fun i => ?_, fun q hq => h.usub q (List.mem_filter.1 hq).1, h.world, h.wp, by rw [put_defers_eq]; exact h.dfr, ?_, h.bsize, fun d hdU => ?_, fun q hq => h.ys q (List.mem_filter.1 hq).1⟩
  · rw [listed_set hjl, h.lst i]
    simp only [List.mem_filter, decide_not, Bool.not_eq_true', decide_eq_false_iff_not, not_and, Decidable.not_not]
    constructor
    · rintro (rfl | ⟨h1, h2⟩)
      · exact ⟨List.mem_map.2 ⟨_, h.usub _ hj, rfl⟩, fun _ => rfl⟩
      · exact ⟨h1, fun h3 => absurd h3 h2⟩
    · rintro ⟨h1, h2⟩
      by_cases hi : i = j
      · exact .inl hi
      · exact .inr ⟨h1, fun h3 => hi (h2 h3)⟩
  · have := h.size; cases o.dst <;> simpa [Act.put] using this
  · by_cases hdj : o.dst = some d
    · rw [hdj, put_self (by rw [h.size]; exact x.dst_lt hjo (hd.trans hdj)), hv d hdj]
    · rw [put_get hdj]
      refine h.agr d fun q hq => ?_
      by_cases hqj : q = j
      · subst hqj; rw [hd]; exact hdj
      · exact hdU q (List.mem_filter.2 ⟨hq, by simpa using hqj⟩)
theorem XInv.stepU (x : XOk N l ord) (h : XInv P N l ord pre its U C b listed a w W) {j : Nat} (hj : j ∈ U) (hr : ∀ i ∈ aftAt l j, listed.getD i false = true) {K : Act → World → Prop}
    (hK : ∀ o v, l[j]? = some o → (∀ d, o.dst = some d → b.tmps[d]? = some v) → K (a.put o.dst v) w) : wpOpIn (FW rd) 0 P l.toArray Q j K a w := by
  obtain ⟨o, v, ho, hy, hv⟩ := h.ys j hj
  have hj0 : (0, j) ∈ ord := by rw [h.split]; simp [h.usub j hj]
  have hya := hy.same (a' := a) (fun cs b => x.sel _ o cs b ho) (h.look x hj0 hr ho)
  exact hya.wpOp (x.nd j o ho) (by simpa using ho) h.world (hK o v ho hv)
theorem XInv.finC (x : XOk N l ord) {k c : Nat} (h : XInv P N l ord pre ((k + 1, c) :: its) U C b listed a w W) (hr : ∀ i ∈ aftAt l c, listed.getD i false = true) {o : Oper} (ho : l[c]? = some o)
    {v : Value} {a' b' : Act} {w' : World} {C' : World → Prop} (hC' : C' w') (hCC : k = 1 ∨ ∀ u, C' u → C u) (hwp : W') (hta : a'.tmps = (a.put o.dst v).tmps) (htb : b'.tmps = (b.put o.dst v).tmps) (hdf : a'.defers = b'.defers) :
    XInv P N l ord (pre ++ [(k + 1, c)]) its U C' b' (listed.setIfInBounds c true) a' w' W' := by
  have hsp := h.split
  have hc0 : (k + 1, c) ∈ ord := by rw [hsp]; simp
  have hc : c ∈ ord.map (·.2) := List.mem_map.2 ⟨_, hc0, rfl⟩
  have hsp2 : ord.map (·.2) = pre.map (·.2) ++ c :: its.map (·.2) := by rw [hsp]; simp
  have hcl : c < listed.size := by rw [h.lsize]; exact x.lt c hc
  have hd : dstAt l c = o.dst := dstAt_eq ho
  have hcpre : c ∉ pre.map (·.2) := fun hm => by
    have := x.nod
    rw [hsp2] at this
    exact (List.nodup_append.1 this).2.2 c hm c (by simp) rfl
  have hU : ∀ q ∈ U, q ∈ pre.map (·.2) := fun q hq => List.mem_map.2 ⟨_, h.usub q hq, rfl⟩
  refine ⟨by rw [hsp]; simp, by simp [h.lsize], closed_set hcl h.closed hr, fun i => ?_, fun q hq => by simp [h.usub q hq], hC', hwp, hdf, ?_, ?_, fun d hdU => ?_, fun q hq => ?_⟩
  · rw [listed_set hcl, h.lst i]
    simp only [List.map_append, List.map_cons, List.map_nil, List.mem_append, List.mem_singleton]
    constructor
    · rintro (rfl | ⟨h1, h2⟩)
      · exact ⟨.inr (by simp), fun h3 => hcpre (hU _ h3)⟩
      · exact ⟨.inl h1, h2⟩
    · rintro ⟨h1 | h1, h2⟩
      · exact .inr ⟨h1, h2⟩
      · exact .inl (by simpa using h1)
  · rw [hta]; have := h.size; cases o.dst <;> simpa [Act.put] using this
  · rw [htb]; have := h.bsize; cases o.dst <;> simpa [Act.put] using this
  · rw [hta, htb]
    by_cases hdc : o.dst = some d
    · have hlt := x.dst_lt hc (hd.trans hdc)
      rw [hdc, put_self (by rw [h.size]; exact hlt), put_self (by rw [h.bsize]; exact hlt)]
    · rw [put_get hdc, put_get hdc]
      exact h.agr d hdU
  · rcases hCC with hk | hCC
    · -- it waits for all: none is left
      exfalso
      subst hk
      have ht := x.tail
      rw [hsp] at ht
      have h1 := (tail_spec ht).2 q (hU q hq)
      have h2 := clo_listed h.closed hr q h1
      exact ((h.lst q).1 h2).2 hq
    · obtain ⟨o', v', ho', hy', hv'⟩ := h.ys q hq
      have hq0 : (0, q) ∈ ord := by rw [hsp]; simp [h.usub q hq]
      refine ⟨o', v', ho', (hy'.mono hCC).same (fun cs b => x.sel _ o' cs b ho') (fun d hd2 => ?_), fun d e => ?_⟩
      · rw [htb, put_get]
        rw [← hd]
        intro e
        rcases x.looks (0, q) hq0 (k + 1, c) hc0 d (by rw [looksOf_eq ho']; exact hd2) e with h1 | ⟨_, h1⟩
        · obtain ⟨s, t, hst⟩ := List.append_of_mem (hU q hq)
          have := x.clo_pre (s := s) (i := q) (t := t ++ c :: its.map (·.2)) (by rw [hsp2, hst]; simp) c h1
          exact hcpre (by rw [hst]; simp [this])
        · have h2 := clo_listed h.closed hr q h1
          exact ((h.lst q).1 h2).2 hq
      · rw [htb, put_get]
        · exact hv' d e
        · rw [← hd]
          exact x.dst_ne (i := q) (by rw [hsp2]; simp only [List.mem_append]; exact .inl (hU q hq)) hc (fun e => hcpre (e ▸ hU q hq)) (by rw [dstAt_eq ho']; exact e)
theorem unl_lt {i : Nat} (hs : listed.size = l.length) (hi : i < l.length) (h : listed.getD i false = false) : (unl l.length (listed.setIfInBounds i true)).length < (unl l.length listed).length :=
  unl_set (by simp only [unl, List.mem_filter, List.mem_range]; exact ⟨hi, by rw [getD_tf (by omega), h]; rfl⟩)
theorem XInv.allDone (x : XOk N l ord) (h : XInv P N l ord pre its U C b listed a w W) (hall : ∀ i, i < l.length → listed.getD i false = true) : its = [] ∧ a = b := by
  have hU : U = [] := by
    cases hu : U with
    | nil => rfl
    | cons q t =>
      have hq : q ∈ U := by rw [hu]; simp
      have := hall q (x.lt q (by rw [h.split]; exact List.mem_map.2 ⟨(0, q), by simp [h.usub q hq], rfl⟩))
      exact absurd hq ((h.lst q).1 this).2
  refine ⟨?_, ?_⟩
  · cases hh : its with
    | nil => rfl
    | cons p t =>
      obtain ⟨k, c⟩ := p
      have hs := h.split
      rw [hh] at hs
      have hc := hall c (x.lt c (by rw [hs]; simp))
      have h4 := ((h.lst c).1 hc).1
      have h5 := x.nod
      rw [hs] at h5
      simp only [List.map_append, List.map_cons] at h5
      exact ((List.nodup_append.1 h5).2.2 c h4 c (by simp) rfl).elim
  · have h1 : a.tmps = b.tmps := Array.ext_getElem? fun i => h.agr i (by rw [hU]; simp)
    have h2 := h.dfr
    cases a; cases b
    simp only at h1 h2
    rw [h1, h2]

/-! ### Trees -/
theorem fpath_mem : ∀ t : XT, fpath t ∈ paths t
  | .nil => by simp [fpath, paths]
  | .item k i t => by simp [fpath, paths, fpath_mem t]
  | .fork x y => by simp [fpath, paths, fpath_mem x]
theorem okT_nil : ∀ {t : XT} {f : Bool}, okT l f t = true → fpath t = [] → t = .nil ∧ f = false
  | .nil, f, h, _ => by simpa [okT] using h
  | .item k i t, f, _, h => by simp [fpath] at h
  | .fork x y, f, h, e => by
    simp only [okT, Bool.and_eq_true] at h
    have := okT_nil h.1.2 e
    simp at this
def TInv (P : Program) (rd : Option Nat) (N : Nat) (l : List Oper) (Q : Exit → Act → World → Prop) (t : XT) (pre : List (Nat × Nat)) (U : List Nat) (C : World → Prop) (b : Act) (listed : Array Bool) (a : Act) (w : World) : Prop :=
  wpX P rd l.toArray Q (pickK l t) C b w ∧ ∀ p ∈ paths t, XOk N l (pre ++ p) ∧ XInv P N l (pre ++ p) pre p U C b listed a w True
theorem app_one (pre : List (Nat × Nat)) (x : Nat × Nat) (p : List (Nat × Nat)) : pre ++ x :: p = (pre ++ [x]) ++ p := by simp
theorem TInv.settle : ∀ (t : XT) (pre : List (Nat × Nat)) (U : List Nat) (b : Act), okT l false t = true → TInv P rd N l Q t pre U C b listed a w →
    ∃ t' pre' U' b', okT l false t' = true ∧ TInv P rd N l Q t' pre' U' C b' listed a w ∧ (∀ i t2, t' ≠ .item 0 i t2)
  | .nil, pre, U, b, ho, h => ⟨.nil, pre, U, b, ho, h, fun i t2 e => by cases e⟩
  | .fork x y, pre, U, b, ho, h => ⟨.fork x y, pre, U, b, ho, h, fun i t2 e => by cases e⟩
  | .item (k + 1) i t, pre, U, b, ho, h => ⟨.item (k + 1) i t, pre, U, b, ho, h, fun i t2 e => by cases e⟩
  | .item 0 q t, pre, U, b, ho, h => by
    simp only [okT, Bool.and_eq_true] at ho
    obtain ⟨hw, hp⟩ := h
    have h0 := hp _ (fpath_mem (.item 0 q t))
    obtain ⟨o, hoq⟩ := h0.1.get (i := q) (by simp [fpath])
    simp only [pickK, hoq, wpX] at hw
    obtain ⟨v, hys, hw'⟩ : ∃ v, YS P l.toArray C o v b ∧ wpX P rd l.toArray Q (pickK l t) C (b.put o.dst v) w := by
      split at hw
      · rename_i hw1
        obtain ⟨v, h1, h2⟩ := hw
        exact ⟨v, .inl ⟨hw1, h1⟩, h2⟩
      · rename_i hw1
        exact ⟨undef, .inr ⟨by simpa using hw1, rfl⟩, hw⟩
    refine TInv.settle t (pre ++ [(0, q)]) (q :: U) (b.put o.dst v) ho.2 ⟨hw', fun p hpt => ?_⟩
    have h1 := hp ((0, q) :: p) (List.mem_map.2 ⟨p, hpt, rfl⟩)
    rw [app_one] at h1
    exact ⟨h1.1, h1.2.advance h1.1 hoq hys trivial⟩
theorem TInv.descend {j : Nat} : ∀ (t : XT) (f : Bool), okT l f t = true → (∀ i t2, t ≠ .item 0 i t2) → TInv P rd N l Q t pre U C b listed a w → j ∈ heads t → ∃ k t', TInv P rd N l Q (.item (k + 1) j t') pre U C b listed a w ∧ okT l false t' = true
  | .nil, f, _, _, _, hj => by simp [heads] at hj
  | .item 0 i t, f, _, hn, _, _ => (hn i t rfl).elim
  | .item (k + 1) i t, f, ho, _, h, hj => by
    simp only [heads, List.mem_singleton] at hj
    subst hj
    simp only [okT, Bool.and_eq_true] at ho
    exact ⟨k, t, h, ho.2⟩
  | .fork x y, f, ho, _, h, hj => by
    simp only [okT, Bool.and_eq_true] at ho
    have hn : ∀ t, okT l true t = true → ∀ i t2, t ≠ .item 0 i t2 := by
      rintro t ht i t2 rfl
      simp [okT] at ht
    simp only [heads, List.mem_append] at hj
    rcases hj with hj | hj
    · exact TInv.descend x true ho.1.2 (hn x ho.1.2) ⟨h.1.1, fun p hp => h.2 p (by simp [paths, hp])⟩ hj
    · exact TInv.descend y true ho.2 (hn y ho.2) ⟨h.1.2, fun p hp => h.2 p (by simp [paths, hp])⟩ hj
theorem node_of_ok {t : XT} (ho : okT l false t = true) (hn : ∀ i t2, t ≠ .item 0 i t2) : nodeOk l t = true := by
  cases t with
  | nil => rfl
  | item k i t =>
    cases k with
    | zero => exact (hn i t rfl).elim
    | succ k =>
      simp only [okT, Bool.and_eq_true, Bool.false_or] at ho
      exact ho.1
  | fork x y =>
    simp only [okT, Bool.and_eq_true, Bool.false_or] at ho
    exact ho.1.1
theorem heads_fpath : ∀ {t : XT} {c : Nat}, c ∈ heads t → ∃ p ∈ paths t, c ∈ p.map (·.2)
  | .nil, c, h => by simp [heads] at h
  | .item k i t, c, h => by
    simp only [heads, List.mem_singleton] at h
    subst h
    exact ⟨_, fpath_mem (.item k c t), by simp [fpath]⟩
  | .fork x y, c, h => by
    simp only [heads, List.mem_append] at h
    rcases h with h | h
    · obtain ⟨p, h1, h2⟩ := heads_fpath h; exact ⟨p, by simp [paths, h1], h2⟩
    · obtain ⟨p, h1, h2⟩ := heads_fpath h; exact ⟨p, by simp [paths, h1], h2⟩
/-- **One walk for each order of the chain's links serves every order.** -/
theorem TInv.run (hQ : ∀ c a w, Q (.panic c) a w → False) : ∀ (fuel : Nat) (t : XT) (pre : List (Nat × Nat)) (U : List Nat) (C : World → Prop) (b : Act) (listed : Array Bool) (a : Act) (w : World), (unl l.length listed).length ≤ fuel → okT l false t = true → TInv P rd N l Q t pre U C b listed a w →
    wpAnyIn (FW rd) 0 P .any l.toArray Q fuel listed a w := by
  intro fuel
  have fin : ∀ (t : XT) (pre : List (Nat × Nat)) (U : List Nat) (C : World → Prop) (b : Act) (listed : Array Bool) (a : Act) (w : World), okT l false t = true → TInv P rd N l Q t pre U C b listed a w → (∀ i, i < l.length → listed.getD i false = true) → Q .normal a w := by
    intro t pre U C b listed a w ho inv hall
    obtain ⟨x, h⟩ := inv.2 _ (fpath_mem t)
    obtain ⟨h1, h2⟩ := h.allDone x hall
    obtain ⟨h3, _⟩ := okT_nil ho h1
    have hw := inv.1
    rw [h3] at hw
    rw [h2]
    exact hw
  induction fuel with
  | zero =>
    intro t pre U C b listed a w hf ho inv
    have inv0 := (inv.2 _ (fpath_mem t)).2
    have hall : ∀ i, i < l.length → listed.getD i false = true := fun i hi => by
      cases hb : listed.getD i false with
      | true => rfl
      | false => have := unl_lt inv0.lsize hi hb; omega
    have hr : Region.ready .any l.toArray listed = [] := by
      cases hh : Region.ready .any l.toArray listed with
      | nil => rfl
      | cons i r =>
        have hi : i ∈ Region.ready .any l.toArray listed := by rw [hh]; simp
        obtain ⟨h1, h2, _⟩ := (ready_iff inv0.lsize).1 hi
        rw [hall i h1] at h2; cases h2
    exact ⟨hr, fin t pre U C b listed a w ho inv hall⟩
  | succ fuel ih =>
    intro t pre U C b listed a w hf ho inv
    obtain ⟨x0, inv0⟩ := inv.2 _ (fpath_mem t)
    refine ⟨fun hr => ?_, fun j hj => ?_⟩
    · -- none is ready: all is done
      refine fin t pre U C b listed a w ho inv fun i hi => ?_
      have key : ∀ (s2 s : List Nat), (pre ++ fpath t).map (·.2) = s ++ s2 → (∀ i ∈ s, listed.getD i false = true) → ∀ i ∈ s2, listed.getD i false = true := by
        intro s2
        induction s2 with
        | nil => intro s _ _ i h; cases h
        | cons k s2 iht =>
          intro s e hs i hi
          have hk : listed.getD k false = true := by
            cases hb : listed.getD k false with
            | true => rfl
            | false =>
              have : k ∈ Region.ready .any l.toArray listed := (ready_iff inv0.lsize).2 ⟨x0.lt k (by rw [e]; simp), hb, fun j hj => hs j (x0.pre s k s2 e j hj)⟩
              rw [hr] at this; cases this
          rcases List.mem_cons.1 hi with rfl | hi
          · exact hk
          · refine iht (s ++ [k]) (by rw [e]; simp) (fun i hi => ?_) i hi
            rcases List.mem_append.1 hi with hi | hi
            · exact hs i hi
            · simp at hi; subst hi; exact hk
      exact key _ [] rfl (by simp) i (x0.cov i hi)
    · obtain ⟨hjl, hju, hja⟩ := (ready_iff inv0.lsize).1 hj
      obtain ⟨t', pre', U', b', ho', inv', hn⟩ := TInv.settle t pre U b ho inv
      obtain ⟨x1, inv1⟩ := inv'.2 _ (fpath_mem t')
      have hlt := unl_lt inv0.lsize hjl hju
      have hjn : ¬ (j ∈ pre'.map (·.2) ∧ j ∉ U') := fun h => by rw [(inv1.lst j).2 h] at hju; cases hju
      by_cases hjU : j ∈ U'
      · refine inv1.stepU x1 hjU hja fun o v hoj hv => ih t' pre' (U'.filter (· ≠ j)) C b' _ _ _ (by omega) ho' ⟨inv'.1, fun p hp => ⟨(inv'.2 p hp).1, (inv'.2 p hp).2.finU (inv'.2 p hp).1 hjU hja hoj hv⟩⟩
      · by_cases hjh : j ∈ heads t'
        · obtain ⟨k, t2, inv2, ho2⟩ := TInv.descend t' false ho' hn inv' hjh
          obtain ⟨x2, inv3⟩ := inv2.2 _ (fpath_mem (.item (k + 1) j t2))
          have hc0 : (k + 1, j) ∈ pre' ++ fpath (.item (k + 1) j t2) := by simp [fpath]
          obtain ⟨o, hoj⟩ := x2.get (i := j) (List.mem_map.2 ⟨_, hc0, rfl⟩)
          have hlk := inv3.look x2 hc0 hja hoj
          obtain ⟨he, hw⟩ := looks_eval (a := b') (a' := a) (fun cs b => x2.sel _ o cs b hoj) hlk
          have hwp := inv2.1
          simp only [pickK, hoj, wpX] at hwp
          have next : ∀ (v : Value) (a2 b2 : Act) (w2 : World) (C' : World → Prop), C' w2 → (k = 1 ∨ ∀ u, C' u → C u) → wpX P rd l.toArray Q (pickK l t2) C' b2 w2 → a2.tmps = (a.put o.dst v).tmps → b2.tmps = (b'.put o.dst v).tmps → a2.defers = b2.defers →
              wpAnyIn (FW rd) 0 P .any l.toArray Q fuel (listed.setIfInBounds j true) a2 w2 := by
            intro v a2 b2 w2 C' h1 h2 h3 h4 h5 h6
            refine ih t2 (pre' ++ [(k + 1, j)]) U' C' b2 _ _ _ (by omega) ho2 ⟨h3, fun p hp => ?_⟩
            have h7 := inv2.2 ((k + 1, j) :: p) (List.mem_map.2 ⟨p, hp, rfl⟩)
            rw [app_one] at h7
            exact ⟨h7.1, h7.2.finC h7.1 hja hoj h1 h2 trivial h4 h5 h6⟩
          unfold wpOpIn
          simp only [List.getElem?_toArray, hoj]
          rw [hw]
          split
          · rename_i hw1
            rw [if_pos hw1] at hwp
            refine Oper.wpIn_mono ?_ (wpIn_transfer (x2.nd j o hoj) he hQ hwp)
            rintro a2 w2 ⟨v, b2, ⟨C', h1, h2, h3⟩, hta, htb, hdf⟩
            exact next v a2 b2 w2 C' h1 h2 h3 hta htb (hdf inv3.dfr)
          · rename_i hw1
            rw [if_neg hw1] at hwp
            exact ⟨fun _ _ => trivial, next undef _ _ w C inv3.world (.inr fun _ h => h) hwp rfl rfl (by rw [put_defers_eq, put_defers_eq]; exact inv3.dfr)⟩
        · exfalso
          have hjo := x1.cov j hjl
          have hjf : j ∈ (fpath t').map (·.2) := by
            simp only [List.map_append, List.mem_append] at hjo
            rcases hjo with h1 | h1
            · exact absurd ⟨h1, hjU⟩ hjn
            · exact h1
          obtain ⟨y, hy, rfl⟩ := List.mem_map.1 hjf
          have h2 := List.all_eq_true.1 (node_of_ok ho' hn) y hy
          simp only [Bool.or_eq_true, List.elem_eq_mem, decide_eq_true_eq, List.any_eq_true] at h2
          rcases h2 with h2 | ⟨c, hc, hcc⟩
          · exact hjh h2
          · have h3 := clo_listed inv1.closed hja c hcc
            obtain ⟨p, hp, hcp⟩ := heads_fpath hc
            obtain ⟨x4, inv4⟩ := inv'.2 p hp
            have h4 := ((inv4.lst c).1 h3).1
            have h5 := x4.nod
            simp only [List.map_append] at h5
            exact (List.nodup_append.1 h5).2.2 c h4 c hcp rfl
end
end Go.Sl

/-! The rules of regions of open order with a chain. -/
set_option linter.unusedVariables false
set_option linter.unusedSectionVars false
set_option linter.unusedSimpArgs false
namespace Go.Sl
section
variable (P : Program) (rd : Option Nat) (N : Nat)
/-- 'B': what is read alone, by any of them; 'E': what the chain has. -/
def SX (all : Array Oper) (its : XO) (T : TT) (B E : List HP) (ks : List K) (Q : Post) : Prop :=
  ∀ (G : HP) (r : Ro) (oB : Own) (a : Act) (w : World), seps (G :: B) r oB → Ok (pin r oB) N T E a w → wpX P rd all (lift G N (postK P rd N ks Q)) its (fun w => Sat w r oB) a w
/-- Just behind a link. -/
def SY (all : Array Oper) (its : XO) (T : TT) (B E : List HP) (ks : List K) (Q : Post) : Prop :=
  ∀ (G : HP) (r : Ro) (oB : Own) (a : Act) (w : World), seps (G :: B) r oB → Ok (pin r oB) N T E a w → ∃ C : World → Prop, C w ∧ (∀ u, C u → Sat u r oB) ∧ wpX P rd all (lift G N (postK P rd N ks Q)) its C a w
end
/-- The second list is what the first one tells for good. -/
inductive PersSub : List HP → List HP → Prop
  | nil : PersSub [] []
  | keep {A : HP} {L M : List HP} (h : Pers A) (t : PersSub L M) : PersSub (A :: L) (A :: M)
  | skip {A : HP} {L M : List HP} (t : PersSub L M) : PersSub (A :: L) M
/-- Without some that are told for good. -/
inductive DropP : List HP → List HP → Prop
  | nil : DropP [] []
  | skip {A : HP} {L M : List HP} (h : Pers A) (t : DropP L M) : DropP (A :: L) M
  | keep {A : HP} {L M : List HP} (t : DropP L M) : DropP (A :: L) (A :: M)
theorem PersSub.s {α : Type} {ρ : Rep α} {A : Option Addr} {n : Nat} {l : List α} {L M : List HP} (t : PersSub L M) : PersSub (slAt ρ A n l :: L) (slAt ρ A n l :: M) := .keep (pers_slAt _ _ _ _) t
theorem PersSub.t {g h : Nat} {L M : List HP} (t : PersSub L M) : PersSub (tabs g h :: L) (tabs g h :: M) := .keep (pers_tabs _ _) t
theorem PersSub.p {p : Prop} {L M : List HP} (t : PersSub L M) : PersSub (pr p :: L) (pr p :: M) := .keep (pers_pr _) t
theorem PersSub.r {b off : Nat} {vs : List Value} {L M : List HP} (t : PersSub L M) : PersSub (rod b off vs :: L) (rod b off vs :: M) := .keep (pers_rod _ _ _) t
theorem DropP.s {α : Type} {ρ : Rep α} {A : Option Addr} {n : Nat} {l : List α} {L M : List HP} (t : DropP L M) : DropP (slAt ρ A n l :: L) M := .skip (pers_slAt _ _ _ _) t
theorem DropP.t {g h : Nat} {L M : List HP} (t : DropP L M) : DropP (tabs g h :: L) M := .skip (pers_tabs _ _) t
theorem DropP.p {p : Prop} {L M : List HP} (t : DropP L M) : DropP (pr p :: L) M := .skip (pers_pr _) t
theorem DropP.r {b off : Nat} {vs : List Value} {L M : List HP} (t : DropP L M) : DropP (rod b off vs :: L) M := .skip (pers_rod _ _ _) t
theorem DropP.ent {L M : List HP} (h : DropP L M) : Ent L M := by
  induction h with
  | nil => exact Ent.refl _
  | skip _ _ ih => exact Ent.drop.trans ih
  | keep _ ih => exact Ent.cons ih
theorem PersSub.all {L M : List HP} (h : PersSub L M) : ∀ A ∈ M, Pers A := by
  induction h with
  | nil => intro A h; cases h
  | keep h _ ih => exact all_cons h ih
  | skip _ ih => exact ih
theorem PersSub.told {L M : List HP} (h : PersSub L M) : ∀ {r : Ro} {o : Own}, seps L r o → ∀ A ∈ M, A.h r own0 := by
  induction h with
  | nil => intro r o _ A h; cases h
  | keep hp _ ih =>
    rintro r o ⟨a, b, d, le, hA, hL⟩
    exact all_cons (hp r a hA) (ih hL)
  | skip _ ih =>
    rintro r o ⟨a, b, d, le, hA, hL⟩
    exact ih hL
theorem seps_more {M B : List HP} {r : Ro} {o : Own} (hM : ∀ A ∈ M, A.h r own0) (h : seps B r o) : seps (M ++ B) r o := by
  induction M with
  | nil => exact h
  | cons A M ih => exact ⟨own0, o, fun _ _ => .inl rfl, none_add, hM A (by simp), ih fun C hC => hM C (by simp [hC])⟩
theorem sat_le {w : World} {r r' : Ro} {o : Own} (h : r.le r') (s : Sat w r' o) : Sat w r o :=
  ⟨fun i j v e => s.ro _ _ _ (h.le _ _ _ e), s.val, s.obj, fun i j v c e e' => s.dis _ _ _ _ (h.le _ _ _ e) e', h.bs ▸ s.below, fun i j c e => h.bs ▸ s.low i j c e, s.pl⟩

section
variable {P : Program} [tb : Tab P] {rd : Option Nat} {N : Nat} {T : TT} {B E E' L M : List HP} {Q : Post} {ks : List K}
variable {all : Array Oper} {rest : XO} {o : Oper}

theorem ok_unpin {G : HP} {r : Ro} {oB : Own} {a : Act} {w : World} (hs : seps (G :: B) r oB) (ok : Ok (pin r oB) N T E a w) : Ok G N T (E ++ B) a w := by
  obtain ⟨h1, h2, D, hD, hst⟩ := ok
  refine ⟨h1, h2, D, hD, ?_⟩
  have h3 : St w (pin r oB :: (D.map mkA ++ E)) := hst.ent (ent_big (A := pin r oB :: D.map mkA))
  have h4 := pin_swap h3 hs
  refine h4.ent ?_
  refine (ent_big (A := G :: B)).trans ?_
  have e1 : Ent (B ++ (D.map mkA ++ E)) ((D.map mkA ++ E) ++ B) := ent_app_comm
  rw [List.append_assoc] at e1
  exact (Ent.cons e1).trans (big_ent (A := G :: D.map mkA))
theorem ok_sat {r : Ro} {oB : Own} {a : Act} {w : World} (ok : Ok (pin r oB) N T E a w) : Sat w r oB := by
  obtain ⟨h1, h2, D, hD, hst⟩ := ok
  exact pin_sat (hst.ent (ent_big (A := pin r oB :: D.map mkA)))

theorem SX.nil (hd : DropP E E') (h : SK P rd N ks T (E' ++ B) Q) : SX P rd N all .nil T B E ks Q := fun G r oB a w hs ok => by
  have := ok_unpin hs (ok.ent hd.ent)
  exact ⟨T, E' ++ B, this, h⟩
def all2 : XO → Bool
  | .nil => true
  | .item k _ t => Nat.beq k 2 && all2 t
  | .fork _ _ => false
def opsX : XO → List Oper
  | .nil => []
  | .item _ o t => o :: opsX t
  | .fork _ _ => []
theorem SX.tail {its : XO} (hk : all2 its = true) (hd : DropP E E') (h : SO P rd N all (opsX its) T (E' ++ B) ks Q) : SX P rd N all its T B E ks Q := by
  intro G r oB a w hs ok
  have h1 := h G a w (ok_unpin hs (ok.ent hd.ent))
  have h2 := ok_sat ok
  have key : ∀ (its : XO) (C : World → Prop) (a : Act) (w : World), all2 its = true → wpListIn (FW rd) 0 P all (lift G N (postK P rd N ks Q)) (opsX its) a w → wpX P rd all (lift G N (postK P rd N ks Q)) its C a w := by
    intro its
    induction its with
    | nil => intro C a w _ h; simpa [wpX, wpListIn, opsX] using h
    | fork _ _ _ _ => intro C a w h; cases h
    | item k o its ih =>
      intro C a w hk h
      simp only [all2, Bool.and_eq_true] at hk
      obtain rfl : k = 2 := Nat.eq_of_beq_eq_true hk.1
      simp only [opsX, wpListIn] at h
      simp only [wpX]
      split
      · rename_i hw
        rw [if_pos hw] at h
        exact Oper.wpIn_mono (fun a' w' h' => ⟨fun _ => True, trivial, by simp, ih _ a' w' hk.2 h'⟩) h
      · rename_i hw
        rw [if_neg hw] at h
        exact ih _ _ _ hk.2 h.2
  exact key its _ a w hk h1
/-- Either may come. -/
theorem SX.fork {x y : XO} (h1 : SX P rd N all x T B E ks Q) (h2 : SX P rd N all y T B E ks Q) : SX P rd N all (.fork x y) T B E ks Q := fun G r oB a w hs ok => ⟨h1 G r oB a w hs ok, h2 G r oB a w hs ok⟩
theorem SY.go (h : SX P rd N all rest T B E ks Q) : SY P rd N all rest T B E ks Q := fun G r oB a w hs ok => ⟨fun w => Sat w r oB, ok_sat ok, fun _ h => h, h G r oB a w hs ok⟩
/-- What is told for good is told to the readers, too. -/
theorem SY.share {X X' : List HP} (hX : PersSub X X') (h : SY P rd N all rest T (X' ++ B) (X ++ E) ks Q) : SY P rd N all rest T B (X ++ E) ks Q := by
  intro G r oB a w hs ok
  obtain ⟨h1, h2, D, hD, hst⟩ := ok
  have h3 : St w (pin r oB :: (D.map mkA ++ (X ++ E))) := hst.ent (ent_big (A := pin r oB :: D.map mkA))
  have e1 := ent_app_comm (A := D.map mkA) (B := X ++ E)
  rw [List.append_assoc] at e1
  obtain ⟨r', o', s, x, y, d, le, ⟨hr, ho⟩, hy⟩ := h3.ent (Ent.cons e1)
  have hX0 : seps X r' y := by
    have : ∀ (X R : List HP) (r : Ro) (y : Own), seps (X ++ R) r y → seps X r y := by
      intro X R
      induction X with
      | nil => intros; trivial
      | cons A X ih => rintro r y ⟨a1, b1, d1, le1, hA, hL⟩; exact ⟨a1, b1, d1, le1, hA, ih _ _ hL⟩
    exact this _ _ _ _ hy
  have htold := hX.told hX0
  have hs' : seps (G :: (X' ++ B)) r' oB := by
    obtain ⟨a1, b1, d1, le1, hG, hB⟩ := seps_up hr (Own.le_refl _) hs
    exact ⟨a1, b1, d1, le1, hG, seps_more htold hB⟩
  have hst' : St w (pin r' oB :: (X ++ (E ++ D.map mkA))) := ⟨r', o', s, x, y, d, le, ⟨Ro.le_refl _, ho⟩, hy⟩
  have e2 := ent_app_comm (A := X ++ E) (B := D.map mkA)
  rw [List.append_assoc] at e2
  obtain ⟨C, hC, hCC, hwp⟩ := h G r' oB a w hs' ⟨h1, h2, D, hD, (hst'.ent (Ent.cons e2)).ent (big_ent (A := pin r' oB :: D.map mkA))⟩
  exact ⟨C, hC, fun u hu => sat_le hr (hCC u hu), hwp⟩
theorem SY.shareGo {X X' : List HP} (hX : PersSub X X') (h : SX P rd N all rest T (X' ++ B) (X ++ E) ks Q) : SY P rd N all rest T B (X ++ E) ks Q := SY.share hX (SY.go h)
/-- What the readers are told for good is told to the chain, too. -/
theorem SX.copy {M : List HP} {its : XO} (hM : ∀ A ∈ M, Pers A) (h : SX P rd N all its T (M ++ B) (M ++ E) ks Q) : SX P rd N all its T (M ++ B) E ks Q := by
  intro G r oB a w hs ok
  refine h G r oB a w hs ?_
  obtain ⟨h1, h2, D, hD, hst⟩ := ok
  refine ⟨h1, h2, D, hD, ?_⟩
  have htold : ∀ A ∈ M, A.h r own0 := by
    obtain ⟨_, y, _, _, _, hB⟩ := hs
    clear h hst
    revert hM hB
    generalize y = z
    induction M generalizing z with
    | nil => intro _ _ A hA; cases hA
    | cons A M ih =>
      rintro hM ⟨a1, b1, _, _, hA, hB⟩
      exact all_cons (hM A (by simp) r a1 hA) (ih b1 (fun C hC => hM C (by simp [hC])) hB)
  have h3 : St w (pin r oB :: (D.map mkA ++ E)) := hst.ent (ent_big (A := pin r oB :: D.map mkA))
  obtain ⟨r', o', s, x, y, d, le, ⟨hr, ho⟩, hy⟩ := h3
  have hy2 : seps (M ++ (D.map mkA ++ E)) r' y := seps_more (fun A hA => A.up _ _ _ _ hr (Own.le_refl _) (htold A hA)) hy
  have h4 : St w (pin r oB :: (M ++ (D.map mkA ++ E))) := ⟨r', o', s, x, y, d, le, ⟨hr, ho⟩, hy2⟩
  refine h4.ent ?_
  have e1 : Ent (M ++ (D.map mkA ++ E)) (D.map mkA ++ (M ++ E)) := by
    have h5 := ent_app_comm (A := M) (B := D.map mkA ++ E)
    rw [List.append_assoc] at h5
    exact h5.trans (Ent.app ent_app_comm)
  exact (Ent.cons e1).trans (big_ent (A := pin r oB :: D.map mkA))
theorem SY.ent (e : Ent E E') (h : SY P rd N all rest T B E' ks Q) : SY P rd N all rest T B E ks Q := fun G r oB a w hs ok => h G r oB a w hs (ok.ent e)
theorem SY.shift (hs : ∀ F w, St w (F :: E) → St w (F :: E')) (h : SY P rd N all rest T B E' ks Q) : SY P rd N all rest T B E ks Q := fun G r oB a w hs' ok =>
  h G r oB a w hs' ⟨ok.size, ok.get, let ⟨D, h1, h2⟩ := ok.mem; ⟨D, h1, hs _ _ h2⟩⟩
theorem SY.setT (T' : TT) (hT : Sub T T') (h : SY P rd N all rest T' B E ks Q) : SY P rd N all rest T B E ks Q := fun G r oB a w hs ok => h G r oB a w hs (ok.sub hT)
theorem SX.setT (T' : TT) (hT : Sub T T') (h : SX P rd N all rest T' B E ks Q) : SX P rd N all rest T B E ks Q := fun G r oB a w hs ok => h G r oB a w hs (ok.sub hT)
theorem SY.know {p : Prop} (hp : ∀ r o, seps E r o → p) (k : p → SY P rd N all rest T B E ks Q) : SY P rd N all rest T B E ks Q := fun G r oB a w hs ok => by
  obtain ⟨D, hD, r', o', s, x, y, d, le, _, hL⟩ := ok.mem
  exact k (hp r' y hL) G r oB a w hs ok
theorem SY.openPr {p : Prop} (hh : Take (pr p) E E') (h : p → SY P rd N all rest T B E' ks Q) : SY P rd N all rest T B E ks Q := fun G r oB a w hs ok => by
  obtain ⟨D, hD, r', o', s, x, y, d, le, _, hL⟩ := ok.mem
  obtain ⟨_, _, _, _, hp, _⟩ := hh.ent r' y hL
  exact h hp G r oB a w hs (ok.ent hh.drop)
theorem wpIn_swap {o : Oper} {a : Act} {w : World} {K K' : Act → World → Prop} {Q1 Q2 : Exit → Act → World → Prop} (hn : notDefer o.op = true) (hQ : ∀ c a w, Q1 (.panic c) a w → False) (hO : LetsOut Q1 → False) (hK : ∀ a w, K a w → K' a w) (h : o.wpIn (FW rd) 0 P a w K Q1) : o.wpIn (FW rd) 0 P a w K' Q2 := by
  unfold Oper.wpIn at *
  refine ⟨fun _ _ => trivial, ?_⟩
  have h := h.2
  rw [Oper.semAt_eq _ _ _ (notDefer_spec hn)] at h ⊢
  generalize (execOp a.eval o).run P w = r at *
  cases r with
  | ok x w' =>
    cases x <;> simp only [Oper.uponIn] at h ⊢
    case value u => exact hK _ _ h
    case skip => exact hK _ _ h
    case defer d => exact hK _ _ h
    case enter f args =>
      refine ⟨h.1, CallsIn.mono h.2 fun e w'' he => ?_⟩
      cases e with
      | returned u => exact hK _ _ he
      | panicked c => exact (hQ _ _ _ he).elim
      | outgrown => exact (hO he).elim
    case row row args => exact ⟨h.1, RowsIn.mono h.2 fun u w'' he => hK _ _ he⟩
    case round l f tmps assign body =>
      refine ⟨h.1, RoundIn.mono h.2 fun e w'' he => ?_⟩
      cases e with
      | returned u => exact hK _ _ he
      | panicked c => exact (hQ _ _ _ he).elim
      | outgrown => exact (hO he).elim
  | halt x w' =>
    cases x <;> simp only [Oper.uponIn] at h ⊢
    case panic u => exact (hQ _ _ _ h).elim
/-- A link of the chain: as anywhere. -/
theorem SX.step {k : Nat} (hg : o.guard = none) (hn : notDefer o.op = true) (h : SO P rd N all [o] T E [.inv fun T' E' => SY P rd N all rest T' B E' ks Q] (fun _ _ _ => False)) : SX P rd N all (.item (k + 1) o rest) T B E ks Q := by
  intro G r oB a w hs ok
  have h1 := h (pin r oB) a w ok
  simp only [wpListIn, wpX, Region.wanted, hg, if_true] at h1 ⊢
  refine wpIn_swap hn ?_ ?_ ?_ h1
  · rintro c a' w' ⟨T', L', _, hq⟩; exact hq.elim
  · rintro ⟨a', w', T', L', _, hq⟩; exact hq.elim
  · rintro a' w' ⟨T', E', ok', hq⟩
    simp only [postK] at hq
    rw [SK] at hq
    obtain ⟨C, hC, hCC, hwp⟩ := hq G r oB a' w' hs ok'
    exact ⟨C, hC, .inr hCC, hwp⟩
theorem SK.invY {ks' : List K} {Q0 : Post} (h : SY P rd N all rest T B E ks Q) : SK P rd N (.inv (fun T' E' => SY P rd N all rest T' B E' ks Q) :: ks') T E Q0 := SK.inv h
theorem SX.reads {R : Value → List HP → Prop} (hr : Reads P T B o R) (hg : o.guard = none) (hd : dstOk N o.dst = true)
    (h : ∀ v B', R v B' → SX P rd N all rest (putD o.dst v T) B' E ks Q) : SX P rd N all (.item 0 o rest) T B E ks Q := by
  intro G r oB a w hs ok
  obtain ⟨v, B', hR, hs', hrun⟩ := hr a.eval ok.knows r oB G hs
  simp only [wpX, Region.wanted, hg, if_true]
  exact ⟨v, hrun, h v B' hR G r oB _ w hs' (ok.putD hd v)⟩
theorem SX.guard {k : Nat} {j : Nat} {want : Bool} {t : Nat} {β : Bool} {dst : Option Tmp} {op : Op} {ty : TypeId} {pos : String} {aft : Array Edge}
    (hj : (all[j]?).bind (·.dst) = some t) (ht : T.get t = some (.bool β)) (hd : dstOk N dst = true)
    (yes : β = want → SX P rd N all (.item k ⟨dst, op, ty, pos, aft, none⟩ rest) ((t, .bool want) :: T) B E ks Q)
    (no : β = !want → SX P rd N all rest (putD dst undef ((t, .bool (!want)) :: T)) B E ks Q) : SX P rd N all (.item k ⟨dst, op, ty, pos, aft, some (j, want)⟩ rest) T B E ks Q := by
  intro G r oB a w hs ok
  have hy : yielded all a.tmps j = some β := by
    simp only [yielded, hj, Option.bind_some, ok.get _ _ ht]
  by_cases hb : β = want
  · have hw : Region.wanted (⟨dst, op, ty, pos, aft, some (j, want)⟩ : Oper) (yielded all a.tmps) = true := by simp [Region.wanted, hy, hb]
    have h2 := yes hb G r oB a w hs (ok.know (hb ▸ ht))
    simp only [wpX, hw, if_true]
    simp only [wpX, Region.wanted, if_true] at h2
    exact h2
  · have hw : Region.wanted (⟨dst, op, ty, pos, aft, some (j, want)⟩ : Oper) (yielded all a.tmps) = false := by simp [Region.wanted, hy, hb]
    have hb' : β = !want := by cases β <;> cases want <;> simp_all
    simp only [wpX, hw]
    exact no hb' G r oB _ w hs ((ok.know (hb' ▸ ht)).putD hd undef)
theorem SX.guardY {k : Nat} {j : Nat} {want : Bool} {t : Nat} {dst : Option Tmp} {op : Op} {ty : TypeId} {pos : String} {aft : Array Edge}
    (hj : (all[j]?).bind (·.dst) = some t) (ht : T.get t = some (.bool want))
    (yes : SX P rd N all (.item k ⟨dst, op, ty, pos, aft, none⟩ rest) T B E ks Q) : SX P rd N all (.item k ⟨dst, op, ty, pos, aft, some (j, want)⟩ rest) T B E ks Q := by
  intro G r oB a w hs ok
  have hy : yielded all a.tmps j = some want := by
    simp only [yielded, hj, Option.bind_some, ok.get _ _ ht]
  have hw : Region.wanted (⟨dst, op, ty, pos, aft, some (j, want)⟩ : Oper) (yielded all a.tmps) = true := by simp [Region.wanted, hy]
  have h2 := yes G r oB a w hs ok
  simp only [wpX, hw, if_true]
  simp only [wpX, Region.wanted, if_true] at h2
  exact h2
theorem SX.guardN {k : Nat} {j : Nat} {want : Bool} {t : Nat} {dst : Option Tmp} {op : Op} {ty : TypeId} {pos : String} {aft : Array Edge}
    (hj : (all[j]?).bind (·.dst) = some t) (ht : T.get t = some (.bool (!want))) (hd : dstOk N dst = true)
    (no : SX P rd N all rest (putD dst undef T) B E ks Q) : SX P rd N all (.item k ⟨dst, op, ty, pos, aft, some (j, want)⟩ rest) T B E ks Q := by
  intro G r oB a w hs ok
  have hy : yielded all a.tmps j = some (!want) := by
    simp only [yielded, hj, Option.bind_some, ok.get _ _ ht]
  have hw : Region.wanted (⟨dst, op, ty, pos, aft, some (j, want)⟩ : Oper) (yielded all a.tmps) = false := by simp [Region.wanted, hy]
  simp only [wpX, hw]
  exact no G r oB _ w hs (ok.putD hd undef)
theorem SX.guardU {k : Nat} {j : Nat} {want : Bool} {t : Nat} {v : Value} {dst : Option Tmp} {op : Op} {ty : TypeId} {pos : String} {aft : Array Edge}
    (hj : (all[j]?).bind (·.dst) = some t) (ht : T.get t = some v) (hv : noBool v = true) (hd : dstOk N dst = true)
    (no : SX P rd N all rest (putD dst undef T) B E ks Q) : SX P rd N all (.item k ⟨dst, op, ty, pos, aft, some (j, want)⟩ rest) T B E ks Q := by
  intro G r oB a w hs ok
  have hy := yield_none hj (ok.get _ _ ht) hv
  have hw : Region.wanted (⟨dst, op, ty, pos, aft, some (j, want)⟩ : Oper) (yielded all a.tmps) = false := by simp [Region.wanted, hy]
  simp only [wpX, hw]
  exact no G r oB _ w hs (ok.putD hd undef)
theorem SX.guardYP {k : Nat} {j : Nat} {want : Bool} {t : Nat} {β : Bool} {dst : Option Tmp} {op : Op} {ty : TypeId} {pos : String} {aft : Array Edge}
    (hj : (all[j]?).bind (·.dst) = some t) (ht : T.get t = some (.bool β)) (hb : β = want)
    (yes : SX P rd N all (.item k ⟨dst, op, ty, pos, aft, none⟩ rest) ((t, .bool want) :: T) B E ks Q) : SX P rd N all (.item k ⟨dst, op, ty, pos, aft, some (j, want)⟩ rest) T B E ks Q := by
  subst hb
  exact fun G r oB a w hs ok => (SX.guardY (T := (t, .bool β) :: T) hj (by rw [TT.get_cons, if_pos rfl]) yes) G r oB a w hs (ok.know ht)
theorem SX.guardNP {k : Nat} {j : Nat} {want : Bool} {t : Nat} {β : Bool} {dst : Option Tmp} {op : Op} {ty : TypeId} {pos : String} {aft : Array Edge}
    (hj : (all[j]?).bind (·.dst) = some t) (ht : T.get t = some (.bool β)) (hd : dstOk N dst = true) (hb : β = !want)
    (no : SX P rd N all rest (putD dst undef ((t, .bool (!want)) :: T)) B E ks Q) : SX P rd N all (.item k ⟨dst, op, ty, pos, aft, some (j, want)⟩ rest) T B E ks Q := by
  subst hb
  exact fun G r oB a w hs ok => (SX.guardN (T := (t, .bool (!want)) :: T) hj (by rw [TT.get_cons, if_pos rfl]) hd no) G r oB a w hs (ok.know ht)
/-- **A region of open order with a chain.** 'Ps': what is told for good, for the chain too; 'Own0': what the chain has. -/
theorem SK.regionX {l : List Oper} {L0 Ps : List HP} (id : Nat) (ord : XT) (E0 : List HP) (hE : Takes E0 L L0) (hP : PersSub L0 Ps) (hm : P.follows .mixedOrders = true) (hok : canOk N l ord = true) (hnp : ∀ c T L, Q (.panic c) T L → False)
    (h : SX P rd N l.toArray (pickK l ord) T L0 (E0 ++ Ps) ks Q) : SK P rd N (.code (.region id l.toArray true) :: ks) T L Q := by
  rw [SK_code]
  intro G a0 w ok
  simp only [canOk, Bool.and_eq_true] at hok
  obtain ⟨⟨⟨hok1, hok2⟩, hok3⟩, hok4⟩ := hok
  obtain ⟨D, hD, hst⟩ := ok.mem
  -- what the readers have is laid apart
  have h1 : St w (D.map mkA ++ (E0 ++ (G :: L0))) := by
    have h2 : St w ((G :: D.map mkA) ++ L) := hst.ent (ent_big (A := G :: D.map mkA))
    have h3 : St w ((G :: D.map mkA) ++ (E0 ++ L0)) := h2.ent (Ent.app hE.ent)
    refine h3.ent ?_
    have e1 := ent_app_comm (A := [G]) (B := D.map mkA ++ (E0 ++ L0))
    simp only [List.append_assoc, List.cons_append, List.nil_append] at e1 ⊢
    refine e1.trans (Ent.app (Ent.app ?_))
    exact (ent_app_comm (A := L0) (B := [G])).trans (Ent.refl _)
  obtain ⟨r, oo, s, hs⟩ := h1
  have hsplit : ∀ (A B : List HP) (r : Ro) (o : Own), seps (A ++ B) r o → ∃ x y, Own.disj x y ∧ Own.le (x.add y) o ∧ seps A r x ∧ seps B r y := by
    intro A B r
    induction A with
    | nil => intro o h; exact ⟨own0, o, fun _ _ => .inl rfl, none_add, trivial, h⟩
    | cons A As ih =>
      rintro o ⟨p, q, d, le, hA, hq⟩
      have := (big_ent (A := A :: As) (L := B)) r o ⟨p, q, d, le, hA, hq⟩
      obtain ⟨x, y, d', le', hx, hy⟩ := this
      exact ⟨x, y, d', le', hx, hy⟩
  have hs2 : seps ((D.map mkA ++ E0) ++ (G :: L0)) r oo := by rw [List.append_assoc]; exact hs
  obtain ⟨x1, oB, d1, le1, hE0, hB⟩ := hsplit _ _ r oo hs2
  have hpin : St w (pin r oB :: (D.map mkA ++ E0)) := by
    have h5 : seps ((D.map mkA ++ E0) ++ [pin r oB]) r oo := by
      have : ∀ (A : List HP) (x y o : Own), Own.disj x y → Own.le (x.add y) o → seps A r x → y = oB → seps (A ++ [pin r oB]) r o := by
        intro A x y o d le hA hy
        subst hy
        have := (ent_big (A := A) (L := [pin r y])) r o ⟨x, y, d, le, hA, y, own0, fun _ _ => .inr rfl, (fun i j c e => by
          rcases Own.add_cases e with e | e
          · exact e
          · cases e), ⟨Ro.le_refl _, Own.le_refl _⟩, trivial⟩
        exact this
      exact this _ x1 oB oo d1 le1 hE0 rfl
    exact St.ent (ent_app_comm (B := [pin r oB])) ⟨r, oo, s, h5⟩
  have htold := hP.told (r := r) (o := oB) (by obtain ⟨_, _, d, le, _, h⟩ := hB; exact seps_up (Ro.le_refl _) (Own.le_trans (Own.le_add_right d) le) h)
  have hst2 : St w (big (pin r oB :: D.map mkA) :: (E0 ++ Ps)) := by
    obtain ⟨r', o', s', p, q, d, le, ⟨hr, ho⟩, hq⟩ := hpin
    have hq2 : seps (Ps ++ (D.map mkA ++ E0)) r' q := seps_more (fun A hA => A.up _ _ _ _ hr (Own.le_refl _) (htold A hA)) hq
    have h6 : St w (pin r oB :: (Ps ++ (D.map mkA ++ E0))) := ⟨r', o', s', p, q, d, le, ⟨hr, ho⟩, hq2⟩
    refine h6.ent ?_
    have e1 := ent_app_comm (A := Ps) (B := D.map mkA ++ E0)
    rw [List.append_assoc] at e1
    exact (Ent.cons e1).trans (big_ent (A := pin r oB :: D.map mkA))
  refine wpIn_region_any hm ?_
  have hdrew : St { w with drawn := w.drawn + 1 } (big (pin r oB :: D.map mkA) :: (E0 ++ Ps)) := hst2.drew _
  have ok2 : Ok (pin r oB) N T (E0 ++ Ps) a0 { w with drawn := w.drawn + 1 } := ⟨ok.size, ok.get, D, hD, hdrew⟩
  have hw := h G r oB a0 _ hB ok2
  refine TInv.run (fun c a w ⟨T, L, _, hq⟩ => hnp c T L hq) _ ord [] [] _ a0 _ a0 _ ?_ hok4 ⟨hw, fun p hp => ⟨pathOk_ok hok1 hok2 (List.all_eq_true.1 hok3 p hp), ?_⟩⟩
  · refine Nat.le_trans (List.length_filter_le _ _) (by simp)
  · refine ⟨rfl, by simp, fun i h => ?_, fun i => ?_, fun q h => (by cases h), ok_sat ok2, trivial, rfl, ok.size, ok.size, fun _ _ => rfl, fun q h => by cases h⟩
    · rw [getD_rep] at h; cases h
    · rw [getD_rep]; simp
/-- What a region comes to, told once for all ways through it. -/
theorem SK.cutJ {c : Code} {X : Type} (TX : X → TT) (LX : X → List HP) (hq : ∀ id T L, Q (.exit id) T L → False) (h : SK P rd N [.code c, .inv fun T' L' => ∃ x : X, Sub T' (TX x) ∧ Ent L' (LX x)] T L Q) (k : ∀ x, ∀ T' L', Sub T' (TX x) → Ent L' (LX x) → SK P rd N ks T' L' Q) : SK P rd N (.code c :: ks) T L Q := by
  rw [SK_code] at h ⊢
  intro F a w ok
  refine wpIn_mono (h F a w ok) ?_
  rintro e a' w' ⟨T', L', ok', hp⟩
  refine ⟨T', L', ok', ?_⟩
  cases e with
  | normal =>
    simp only [postK] at hp ⊢
    rw [SK] at hp
    obtain ⟨x, h1, h2⟩ := hp
    exact k x T' L' h1 h2
  | exit id =>
    simp only [postK, findK] at hp
    exact (hq id T' L' hp).elim
  | ret => exact hp
  | goto l => exact hp
  | panic ch => exact hp
  | outgrown => exact hp
end
end Go.Sl

/-! The rules of reading, for regions with a chain. -/
set_option linter.unusedVariables false
set_option linter.unusedSectionVars false
set_option linter.unusedSimpArgs false
namespace Go.Sl
section
variable {P : Program} [tb : Tab P] {rd : Option Nat} {N : Nat} {T : TT} {L L' L1 L2 E : List HP} {Q : Post} {ks : List K}
variable {all : Array Oper} {rest : XO} {o : Oper} {d : Option Tmp} {ty : TypeId} {pos : String} {aft : Array Edge}
variable {α : Type} {ρ : Rep α}
theorem SX.pure {v : Value} (hg : o.guard = none) (h : pureOp tb.tab T o.op = some v) (hd : dstOk N o.dst = true)
    (k : SX P rd N all rest (putD o.dst v T) L E ks Q) : SX P rd N all (.item 0 o rest) T L E ks Q := SX.reads (reads_pure h) hg hd (by rintro _ _ ⟨rfl, rfl⟩; exact k)
theorem SX.load {x : Operand} {t b off o' : Nat} {vs : List Value} {ti : TI} (hx : evO T x = some (.pointer (some ⟨b, off, none⟩))) (htk : Take (pts b o' vs) L L')
    (ht : tget tb.tab t = some ti) (ho : Nat.ble o' off = true) (hp : packOk ti (cut vs (off - o') ti.size)) (hd : dstOk N d = true)
    (k : SX P rd N all rest (putD d (packV ti (cut vs (off - o') ti.size)) T) L E ks Q) : SX P rd N all (.item 0 ⟨d, .load t x, ty, pos, aft, none⟩ rest) T L E ks Q :=
  SX.reads (rd_load hx htk ht ho hp) rfl hd (by rintro _ _ ⟨rfl, rfl⟩; exact k)
theorem SX.loadR {x : Operand} {t b off o' : Nat} {vs : List Value} {ti : TI} (hx : evO T x = some (.pointer (some ⟨b, off, none⟩))) (htk : Take (rod b o' vs) L L')
    (ht : tget tb.tab t = some ti) (ho : Nat.ble o' off = true) (hp : packOk ti (cut vs (off - o') ti.size)) (hd : dstOk N d = true)
    (k : SX P rd N all rest (putD d (packV ti (cut vs (off - o') ti.size)) T) L E ks Q) : SX P rd N all (.item 0 ⟨d, .load t x, ty, pos, aft, none⟩ rest) T L E ks Q :=
  SX.reads (rd_loadR hx htk ht ho hp) rfl hd (by rintro _ _ ⟨rfl, rfl⟩; exact k)
theorem SX.field {x : Operand} {t i off : Nat} {cs : List Value} {fs : List (Nat × Nat)} {n1 n2 : Nat} {z : Value} {tf : Nat} {ti : TI} (hx : evO T x = some (.agg cs.toArray))
    (ht : tget tb.tab t = some ⟨.st fs, n1, n2, z⟩) (hf : fs[i]? = some (off, tf)) (hti : tget tb.tab tf = some ti) (hp : packOk ti (cut cs off ti.size)) (hd : dstOk N d = true)
    (k : SX P rd N all rest (putD d (packV ti (cut cs off ti.size)) T) L E ks Q) : SX P rd N all (.item 0 ⟨d, .field t x i, ty, pos, aft, none⟩ rest) T L E ks Q :=
  SX.reads (rd_field hx ht hf hti hp) rfl hd (by rintro _ _ ⟨rfl, rfl⟩; exact k)
theorem SX.build {t : Nat} {ps : List (Nat × Operand)} {fs : List (Nat × Nat)} {n1 n2 : Nat} {z : Value} {r : List Value}
    (ht : tget tb.tab t = some ⟨.st fs, n1, n2, z⟩) (ha : allTab tb.tab fs = true) (hb : buildV tb.tab fs T z.cells.toList ps = some r) (hd : dstOk N d = true)
    (k : SX P rd N all rest (putD d (.agg r.toArray) T) L E ks Q) : SX P rd N all (.item 0 ⟨d, .build t ps.toArray, ty, pos, aft, none⟩ rest) T L E ks Q :=
  SX.reads (rd_build ht ha hb) rfl hd (by rintro _ _ ⟨rfl, rfl⟩; exact k)
theorem SX.index {x y : Operand} {t e : Nat} {sz n1 n2 b1 : Nat} {z z2 : Value} {ke : TK} {A : Option Addr} {n c i : Nat} {k : IntKind} {j : Int} {l : List α} (hx : evO T x = some (.slice A n c)) (hy : evO T y = some (.int k j))
    (hh : Has (slAt ρ A n l) L) (ht : tget tb.tab t = some ⟨.sl e, n1, n2, z⟩) (hte : tget tb.tab e = some ⟨ke, sz, b1, z2⟩) (hj : Int.ofNat i = j) (hd : dstOk N d = true) (hi : i < n)
    (kk : ∀ v, l[i]? = some v → SX P rd N all rest (putD d (.pointer (some (eadr A i sz 0))) T) L E ks Q) : SX P rd N all (.item 0 ⟨d, .indexAddr t x y, ty, pos, aft, none⟩ rest) T L E ks Q :=
  SX.reads (rd_index hx hy hh ht hte hj hi) rfl hd (by rintro _ _ ⟨rfl, rfl, u, hu⟩; exact kk u hu)
theorem SX.indexW {x y : Operand} {t e : Nat} {sz n1 n2 b1 : Nat} {z z2 : Value} {ke : TK} {A : Option Addr} {n c c' i : Nat} {k : IntKind} {j : Int} {l : List α} {w' : Bool} (hx : evO T x = some (.slice A n c)) (hy : evO T y = some (.int k j))
    (hh : Take (sqAt w' ρ A n c' l) L L') (ht : tget tb.tab t = some ⟨.sl e, n1, n2, z⟩) (hte : tget tb.tab e = some ⟨ke, sz, b1, z2⟩) (hj : Int.ofNat i = j) (hd : dstOk N d = true) (hi : i < n)
    (kk : ∀ v, l[i]? = some v → SX P rd N all rest (putD d (.pointer (some (eadr A i sz 0))) T) L E ks Q) : SX P rd N all (.item 0 ⟨d, .indexAddr t x y, ty, pos, aft, none⟩ rest) T L E ks Q :=
  SX.reads (rd_indexW hx hy hh ht hte hj hi) rfl hd (by rintro _ _ ⟨rfl, rfl, u, hu⟩; exact kk u hu)
theorem SX.efield {x : Operand} {t f : Nat} {A : Option Addr} {i sz o off tf n1 n2 s1 s2 : Nat} {z z2 : Value} {k2 : TK} {fs : List (Nat × Nat)} (hx : evO T x = some (.pointer (some (eadr A i sz o))))
    (ht : tget tb.tab t = some ⟨.st fs, n1, n2, z⟩) (hf : fs[f]? = some (off, tf)) (htf : tget tb.tab tf = some ⟨k2, s1 + 1, s2, z2⟩) (hd : dstOk N d = true)
    (kk : SX P rd N all rest (putD d (.pointer (some (eadr A i sz (o + off)))) T) L E ks Q) : SX P rd N all (.item 0 ⟨d, .fieldAddr t x f, ty, pos, aft, none⟩ rest) T L E ks Q :=
  SX.reads (rd_efield hx ht hf htf) rfl hd (by rintro _ _ ⟨rfl, rfl⟩; exact kk)
theorem SX.eload {x : Operand} {t : Nat} {ti : TI} {A : Option Addr} {n i sz o : Nat} {l : List α} {u : α} (hx : evO T x = some (.pointer (some (eadr A i sz o)))) (hh : Has (slAt ρ A n l) L) (hu : l[i]? = some u)
    (ht : tget tb.tab t = some ti) (hsz : Nat.beq ρ.sz sz = true) (hp : ∀ h, packOk ti (cut (ρ.cells u h) o ti.size)) (hd : dstOk N d = true)
    (kk : ∀ h, SX P rd N all rest (putD d (packV ti (cut (ρ.cells u h) o ti.size)) T) (ρ.atoms u h ++ L) (ρ.atoms u h ++ E) ks Q) : SX P rd N all (.item 0 ⟨d, .load t x, ty, pos, aft, none⟩ rest) T L E ks Q :=
  SX.reads (rd_eload hx hh hu ht hsz hp) rfl hd (by rintro _ _ ⟨h, rfl, rfl⟩; exact SX.copy (ρ.pers u h) (kk h))
theorem SX.slice {x : Operand} {lo hi : Option Operand} {A : Option Addr} {n c i j t e sz n1 n2 b1 : Nat} {z z2 : Value} {ke : TK} {l : List α} (hx : evO T x = some (.slice A n c)) {vl vh : Option Value} {k1 k2 : IntKind}
    (hlo : evOo T lo = some vl) (hhi : evOo T hi = some vh)
    (hh : Has (slAt ρ A n l) L) (ht : tget tb.tab t = some ⟨.sl e, n1, n2, z⟩) (hte : tget tb.tab e = some ⟨ke, sz, b1, z2⟩) (hsz : Nat.beq ρ.sz sz = true) (hd : dstOk N d = true) (hl : vl = some (.int k1 i) ∨ (vl = none ∧ i = 0)) (hv : vh = some (.int k2 j) ∨ (vh = none ∧ j = n)) (h1 : i ≤ j) (h2 : j ≤ n) (h3 : n ≤ c)
    (kk : ∀ A' c', j - i ≤ c' → SX P rd N all rest (putD d (.slice A' (j - i) c') T) (slAt ρ A' (j - i) ((l.drop i).take (j - i)) :: L) (slAt ρ A' (j - i) ((l.drop i).take (j - i)) :: E) ks Q) : SX P rd N all (.item 0 ⟨d, .slice t x lo hi none, ty, pos, aft, none⟩ rest) T L E ks Q :=
  SX.reads (rd_slice hx hlo hhi hh ht hte hsz hl hv h1 h2 h3) rfl hd (by rintro _ _ ⟨A', c', hc, rfl, rfl⟩; exact SX.copy (M := [_]) (all_cons (pers_slAt _ _ _ _) all_nil) (kk A' c' hc))
theorem SX.pure2 {v : Value} (hg : o.guard = none) (h : pureOp2 tb.tab T o.op = some v) (hd : dstOk N o.dst = true)
    (k : SX P rd N all rest (putD o.dst v T) L E ks Q) : SX P rd N all (.item 0 o rest) T L E ks Q := SX.reads (reads_pure2 h) hg hd (by rintro _ _ ⟨rfl, rfl⟩; exact k)
theorem SX.eloadW {ty : TypeId} {pos : String} {aft : Array Edge} {d : Option Tmp} {α : Type} {ρ : Rep α} {x : Operand} {t : Nat} {ti : TI} {A : Option Addr} {n i sz : Nat} {l : List α} {u : α} (hx : evO T x = some (.pointer (some (eadr A i sz 0)))) (hh : Has (slAt ρ A n l) L) (hu : l[i]? = some u)
    (ht : tget tb.tab t = some ti) (hsz : Nat.beq ρ.sz sz = true) (hk : ti.k.agg = ρ.agg) (h2 : Nat.beq ti.size ρ.sz = true) (hd : dstOk N d = true)
    (kk : ∀ h, SX P rd N all rest (putD d (ρ.val u h) T) (ρ.atoms u h ++ L) (ρ.atoms u h ++ E) ks Q) : SX P rd N all (.item 0 ⟨d, .load t x, ty, pos, aft, none⟩ rest) T L E ks Q :=
  SX.eload hx hh hu ht hsz (fun h => (whole hk h2).2) hd (fun h => by rw [(whole hk h2).1]; exact kk h)
theorem SX.loadW {ty : TypeId} {pos : String} {aft : Array Edge} {d : Option Tmp} {x : Operand} {t b off : Nat} {v : Value} {ti : TI} (hx : evO T x = some (.pointer (some ⟨b, off, none⟩))) (htk : Take (pts b off v.cells.toList) L L')
    (ht : tget tb.tab t = some ti) (h1 : ti.k.agg = true) (h2 : isAggV v = true) (h3 : Nat.beq v.cells.toList.length ti.size = true) (hd : dstOk N d = true)
    (k : SX P rd N all rest (putD d v T) L E ks Q) : SX P rd N all (.item 0 ⟨d, .load t x, ty, pos, aft, none⟩ rest) T L E ks Q :=
  SX.load hx htk ht (by simp) (wholeV h1 h2 h3 off).2 hd (by rw [(wholeV h1 h2 h3 off).1]; exact k)
end
section
variable {P : Program} [tb : Tab P] {rd : Option Nat} {N : Nat} {T : TT} {L L' L1 E : List HP} {Q : Post} {ks : List K}
variable {all : Array Oper} {rest : XO} {d : Option Tmp} {ty : TypeId} {pos : String} {aft : Array Edge}
variable {κ α : Type} [DecidableEq κ] {kr : KR κ} {ρ : Rep α}
theorem SX.lookup {x y : Operand} {t e kt b n1 n2 : Nat} {z0 : Value} {tik tie : TI} {l : List (κ × α)} {key : κ} {ok : Bool} (hx : evO T x = some (.map (some b))) (htk : Take (mpAt kr ρ b l) L L') (hy : evO T y = some (kr.v key))
    (ht : tget tb.tab t = some ⟨.map kt e, n1, n2, z0⟩) (hkt : tget tb.tab kt = some tik) (hkk : kdOf tik.k = some kr.kd) (hte : tget tb.tab e = some tie) (hd : dstOk N d = true)
    (yes : ∀ u h, mget l key = some u → SX P rd N all rest (putD d (lookV ok (ρ.val u h) true) T) (ρ.atoms u h ++ L) (ρ.atoms u h ++ E) ks Q) (no : mget l key = none → SX P rd N all rest (putD d (lookV ok tie.zero false) T) L E ks Q) :
    SX P rd N all (.item 0 ⟨d, .lookup t x y ok, ty, pos, aft, none⟩ rest) T L E ks Q :=
  SX.reads (rd_lookup hx htk hy ht hkt hkk hte) rfl hd (by rintro _ _ (⟨u, h, hg, rfl, rfl⟩ | ⟨hg, rfl, rfl⟩) <;> first | exact SX.copy (ρ.pers _ _) (yes _ _ (by assumption)) | exact no (by assumption))
theorem SX.lenMap {x : Operand} {t e kt b n1 n2 : Nat} {z0 : Value} {l : List (κ × α)} (hx : evO T x = some (.map (some b))) (htk : Take (mpAt kr ρ b l) L L')
    (ht : tget tb.tab t = some ⟨.map kt e, n1, n2, z0⟩) (hd : dstOk N d = true) (k : SX P rd N all rest (putD d (.int .i64 (l.length : Int)) T) L E ks Q) :
    SX P rd N all (.item 0 ⟨d, .call ⟨.builtin .len, #[x], #[t]⟩, ty, pos, aft, none⟩ rest) T L E ks Q :=
  SX.reads (rd_lenMap hx htk ht) rfl hd (by rintro _ _ ⟨rfl, rfl⟩; exact k)
end
section
variable {P : Program} [tb : Tab P] {rd : Option Nat} {N : Nat} {T : TT} {L E : List HP} {Q : Post} {ks : List K} {all : Array Oper} {rest : XO} {d : Option Tmp} {ty : TypeId} {pos : String} {aft : Array Edge}
theorem SX.div {op : BinOp} {t cx : Nat} {x y : Operand} {k : IntKind} {a b : Int} {v : Value} (hx : evO T x = some (.int k a)) (hy : evO T y = some (.int k b)) (h : divV op k a b = some v) (hd : dstOk N d = true)
    (kk : SX P rd N all rest (putD d v T) L E ks Q) : SX P rd N all (.item 0 ⟨d, .binOp op t x y cx, ty, pos, aft, none⟩ rest) T L E ks Q :=
  SX.reads (reads_div hx hy h) rfl hd (by rintro _ _ ⟨rfl, rfl⟩; exact kk)
end
end Go.Sl
