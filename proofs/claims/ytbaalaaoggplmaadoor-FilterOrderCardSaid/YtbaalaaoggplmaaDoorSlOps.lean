/- A part of a proof: a walk over the model by a small separation logic. -/
import Derived.Test.YtbaalaaoggplmaaDoorSlCore
import Derived.Laws.World
import Derived.Laws.Strings
/-! Operations that need no memory. -/
set_option linter.unusedVariables false
set_option linter.unusedSectionVars false
namespace Go.Sl

/-- A type, as the walk asks of it. -/
inductive TK where
  | int (k : IntKind)
  | bool
  | str
  | ptr
  | sl (e : Nat)
  | arr (n e : Nat)
  | map (k e : Nat)
  | fn
  | st (fs : List (Nat × Nat))
  | other
structure TI where
  k : TK
  size : Nat
  bytes : Nat
  zero : Value

def TK.ok (P : Program) (t : Nat) : TK → Prop
  | .int k => P.underlying t = some (.int k)
  | .bool => P.underlying t = some .bool
  | .str => P.underlying t = some .string
  | .ptr => ∃ e, P.underlying t = some (.pointer e)
  | .sl e => P.underlying t = some (.slice e)
  | .arr n e => P.underlying t = some (.array n e)
  | .map k e => P.underlying t = some (.map k e)
  | .fn => ∃ a b c, P.underlying t = some (.func a b c)
  | .st fs => ∃ F, P.underlying t = some (.struct F) ∧ F.toList.map (fun f => (f.offset, f.type)) = fs
  | .other => ∃ d, P.underlying t = some d ∧ (match d with | .struct _ => False | .array _ _ => False | _ => True)
def TK.agg : TK → Bool
  | .st _ => true
  | .arr _ _ => true
  | _ => false
structure TI.ok (P : Program) (t : Nat) (ti : TI) : Prop where
  k : ti.k.ok P t
  info : ∃ i, P.info? t = some i ∧ i.size = ti.size ∧ i.bytes = ti.bytes ∧ i.zero = some ti.zero

theorem info_of {P : Program} {t : Nat} {i : TypeInfo} {a b : Nat} {z : Value} (h : P.types[t]? = some i) (h1 : i.size = a) (h2 : i.bytes = b) (h3 : i.zero = some z) :
    ∃ i, P.info? t = some i ∧ i.size = a ∧ i.bytes = b ∧ i.zero = some z := ⟨i, by
    unfold Tables.info?; simp [h]
    intro hle; have := (Array.getElem?_eq_some_iff.1 h).1; omega, h1, h2, h3⟩

/-- The types of a program. -/
class Tab (P : Program) where
  tab : List TI
  ok : ∀ (t : Nat) (ti : TI), tab[t]? = some ti → ti.ok P t

def tget : List TI → Nat → Option TI
  | [], _ => none
  | x :: _, 0 => some x
  | _ :: l, n + 1 => tget l n
theorem tget_eq : ∀ (l : List TI) (n : Nat), tget l n = l[n]?
  | [], n => by simp [tget]
  | x :: l, 0 => by simp [tget]
  | x :: l, n + 1 => by simp [tget, tget_eq l n]

section
variable {P : Program} [tb : Tab P]

theorem tab_ok {t : Nat} {ti : TI} (h : tget tb.tab t = some ti) : ti.ok P t := tb.ok t ti (by rw [← tget_eq]; exact h)

theorem run_und {t : Nat} {d : TypeDesc} (h : P.underlying t = some d) (w : World) : (underlying t).run P w = .ok d w := by
  simp [underlying, program, Sem.run, bind, Sem.bind, h, pure]
theorem und_ok {t : Nat} {ti : TI} (h : ti.ok P t) : ∃ d, P.underlying t = some d := by
  have hk := h.k
  cases hkk : ti.k <;> simp only [hkk, TK.ok] at hk
  case ptr => obtain ⟨e, hk⟩ := hk; exact ⟨_, hk⟩
  case fn => obtain ⟨e, f, g, hk⟩ := hk; exact ⟨_, hk⟩
  case st => obtain ⟨e, hk, _⟩ := hk; exact ⟨_, hk⟩
  case other => obtain ⟨e, hk, hm⟩ := hk; exact ⟨_, hk⟩
  all_goals exact ⟨_, hk⟩
theorem isAgg_ok {t : Nat} {ti : TI} (h : ti.ok P t) (w : World) : (isAgg t).run P w = .ok ti.k.agg w := by
  have hk := h.k
  simp only [isAgg]
  rw [Sem.run_bind]
  cases hkk : ti.k <;> simp only [hkk, TK.ok] at hk
  case ptr => obtain ⟨e, hk⟩ := hk; rw [run_und hk]; rfl
  case fn => obtain ⟨e, f, g, hk⟩ := hk; rw [run_und hk]; rfl
  case st => obtain ⟨e, hk, _⟩ := hk; rw [run_und hk]; rfl
  case other => obtain ⟨e, hk, hm⟩ := hk; rw [run_und hk]; cases e <;> first | exact hm.elim | rfl
  all_goals (rw [run_und hk]; rfl)
theorem sizeOf_ok {t : Nat} {ti : TI} (h : ti.ok P t) (w : World) : (sizeOf t).run P w = .ok ti.size w := by
  obtain ⟨i, hi, hs, _⟩ := h.info
  simp [sizeOf, typeInfo, program, Sem.run, bind, Sem.bind, hi, pure, hs]
theorem zero_ok {t : Nat} {ti : TI} (h : ti.ok P t) (w : World) : (zeroValue t).run P w = .ok ti.zero w := by
  obtain ⟨i, hi, _, _, hz⟩ := h.info
  simp [zeroValue, typeInfo, program, Sem.run, bind, Sem.bind, hi, pure, hz]
theorem info_ok {t : Nat} {ti : TI} (h : ti.ok P t) (w : World) : ∃ i, (typeInfo t).run P w = .ok i w ∧ i.bytes = ti.bytes := by
  obtain ⟨i, hi, _, hb, hz⟩ := h.info
  exact ⟨i, by simp [typeInfo, program, Sem.run, bind, Sem.bind, hi, pure], hb⟩

def eqS (a b : ByteArray) : Bool := decide (a.data.toList = b.data.toList)
theorem eqS_iff {a b : ByteArray} : eqS a b = true ↔ a = b := by
  unfold eqS
  constructor
  · intro h
    have h := of_decide_eq_true h
    cases a with | mk x => cases b with | mk y =>
      simp at h; rw [h]
  · intro h; subst h; simp
theorem toList_eq (a b : ByteArray) : (a.toList == b.toList) = eqS a b := by
  rw [ByteArray.toList_eq, ByteArray.toList_eq]; unfold eqS
  rw [Bool.eq_iff_iff, beq_iff_eq, decide_eq_true_iff]

def intBin (op : BinOp) (k : IntKind) (a b : Int) : Option Value :=
  match op with
  | .add => some (.int k (k.wrap (a + b)))
  | .sub => some (.int k (k.wrap (a - b)))
  | .mul => some (.int k (k.wrap (a * b)))
  | .lss => some (.bool (decide (a < b)))
  | .leq => some (.bool (decide (a ≤ b)))
  | .gtr => some (.bool (decide (b < a)))
  | .geq => some (.bool (decide (b ≤ a)))
  | .eql => some (.bool (decide (a = b)))
  | .neq => some (.bool (!decide (a = b)))
  | _ => none
def strBin (op : BinOp) (a b : ByteArray) : Option Value :=
  match op with
  | .eql => some (.bool (eqS a b))
  | .neq => some (.bool (!eqS a b))
  | _ => none
def binV (op : BinOp) : Value → Value → Option Value
  | .int .i64 a, .int .i64 b => intBin op .i64 a b
  | .int .u8 a, .int .u8 b => intBin op .u8 a b
  | .int .i32 a, .int .i32 b => intBin op .i32 a b
  | .int .u16 a, .int .u16 b => intBin op .u16 a b
  | .int .u32 a, .int .u32 b => intBin op .u32 a b
  | .int .u64 a, .int .u64 b => intBin op .u64 a b
  | .string a, .string b => strBin op a b
  | _, _ => none

/-- What an operation that asks of no memory gives. -/
def pureOp (tab : List TI) (T : TT) : Op → Option Value
  | .move x => evO T x
  | .assign x => evO T x
  | .pick c a b => match evO T c with
    | some (.bool true) => evO T a
    | some (.bool false) => evO T b
    | _ => none
  | .binOp op _ x y _ => match evO T x with
    | some u => match evO T y with
      | some v => binV op u v
      | none => none
    | none => none
  | .unOp .not _ x => match evO T x with
    | some (.bool b) => some (.bool (!b))
    | _ => none
  | .unOp .neg _ x => match evO T x with
    | some (.int k n) => some (.int k (k.wrap (0 - n)))
    | _ => none
  | .convert src dst x => match tget tab src with
    | some _ => match evO T x with
      | some (.int _ n) => match tget tab dst with
        | some ⟨.int k, _, _, _⟩ => some (.int k (k.wrap n))
        | _ => none
      | some (.string s) => match tget tab dst with
        | some ⟨.str, _, _, _⟩ => some (.string s)
        | _ => none
      | _ => none
    | none => none
  | .nilCheck x => match evO T x with
    | some (.pointer (some a)) => some (.pointer (some a))
    | some (.func (.func f) a b) => some (.func (.func f) a b)
    | some (.func (.yield f) a b) => some (.func (.yield f) a b)
    | _ => none
  | .makeFunc fn first cap => match first.toList with
    | [] => match evs T cap.toList with
      | some vs => some (.func fn #[] vs.toArray)
      | none => none
    | _ => none
  | .extract x i => match evO T x with
    | some (.tuple vs) => vs.toList[i]?
    | _ => none
  | .call ⟨.builtin .len, args, tys⟩ => match args.toList with
    | [x] => match evO T x with
      | some (.slice _ n _) => match tys.toList with
        | [t] => match tget tab t with
          | some ⟨.sl _, _, _, _⟩ => some (.int .i64 n)
          | _ => none
        | _ => none
      | some (.string s) => match tys.toList with
        | [t] => match tget tab t with
          | some ⟨.str, _, _, _⟩ => some (.int .i64 s.size)
          | _ => none
        | _ => none
      | _ => none
    | _ => none
  | .fieldAddr t x i => match evO T x with
    | some (.pointer (some ⟨b, off, none⟩)) => match tget tab t with
      | some ⟨.st fs, _, _, _⟩ => match fs[i]? with
        | some (o, ty) => match tget tab ty with
          | some ⟨_, _ + 1, _, _⟩ => some (.pointer (some ⟨b, off + o, none⟩))
          | _ => none
        | none => none
      | _ => none
    | _ => none
  | _ => none

theorem run_asBool (b : Bool) (w : World) : (asBool (.bool b)).run P w = .ok b w := rfl

theorem eqGuard_ok {op : BinOp} {t : TypeId} {x y : Operand} {a b : Value} {v : Value} (h : binV op a b = some v) (w : World) : (eqGuard op t x y a b).run P w = .ok () w := by
  unfold eqGuard
  split <;> cases a <;> cases b <;> first | (simp [binV] at h; done) | simp

theorem binV_ok {op : BinOp} {t : TypeId} {a b v : Value} (h : binV op a b = some v) (w : World) : (binOp op t a b).run P w = .ok v w := by
  unfold binV at h
  split at h
  case h_7 a b =>
    unfold strBin at h
    split at h
    · cases h; simp only [binOp, Op.stringOp, toList_eq]; rfl
    · cases h; simp only [binOp, Op.stringOp, toList_eq]; rfl
    · cases h
  case h_8 => cases h
  all_goals
    unfold intBin at h
    split at h <;> first
      | (cases h; done)
      | (cases h; simp only [binOp, ne_eq, not_true_eq_false, if_false, Op.intArith, Op.intCmp]; first
          | rfl
          | (rename_i a b; by_cases hab : a = b <;> simp [hab, pure, Sem.run]))

theorem get1 {α : Type} {a : Array α} {x : α} (h : a.toList = [x]) : a = #[x] := by cases a; simp_all

theorem reads_pure {T : TT} {L : List HP} {o : Oper} {v : Value} (h : pureOp tb.tab T o.op = some v) : Reads P T L o (fun u L' => u = v ∧ L' = L) := by
  intro ρ hρ r oo F hst
  suffices hs : ∀ w, (execOp ρ o).run P w = .ok (.value v) w from ⟨v, L, ⟨rfl, rfl⟩, hst, fun w _ => hs w⟩
  intro w
  obtain ⟨dst, op, ty, pos, aft, g⟩ := o
  simp only at h
  unfold pureOp at h
  split at h
  case h_1 x => simp only [execOp, hρ _ _ h]; rfl
  case h_2 x => simp only [execOp, hρ _ _ h]; rfl
  case h_3 c a b =>
    split at h
    · rename_i hc; simp only [execOp, hρ _ _ hc, hρ _ _ h]; rfl
    · rename_i hc; simp only [execOp, hρ _ _ hc, hρ _ _ h]; rfl
    · cases h
  case h_4 op _ x y _ =>
    split at h
    · rename_i u hu
      split at h
      · rename_i u' hu'
        simp [execOp, hρ _ _ hu, hρ _ _ hu', eqGuard_ok h, binV_ok h]
      · cases h
    · cases h
  case h_5 =>
    split at h
    · rename_i hx; cases h; simp [execOp, hρ _ _ hx, Op.unary]
    · cases h
  case h_6 =>
    split at h
    · rename_i hx; cases h; simp [execOp, hρ _ _ hx, Op.unary, Op.intArith]
    · cases h
  case h_7 src dst x =>
    split at h
    case h_2 => cases h
    rename_i tsrc hsrc
    obtain ⟨dsrc, hds⟩ := und_ok (tab_ok hsrc)
    split at h
    · rename_i k n hx
      split at h
      · rename_i kk z1 z2 z3 ht
        cases h
        have := (tab_ok ht).k
        simp only [TK.ok] at this
        simp only [execOp, convert, hρ _ _ hx, Sem.run_bind, Sem.run_pure, run_und this, run_und hds, Result.andThen_ok]
        cases dsrc <;> simp [Conv.intToInt]
      · cases h
    · rename_i s hx
      split at h
      · rename_i z1 z2 z3 ht
        cases h
        have := (tab_ok ht).k
        simp only [TK.ok] at this
        simp only [execOp, convert, hρ _ _ hx, Sem.run_bind, Sem.run_pure, run_und this, run_und hds, Result.andThen_ok]
        all_goals (cases dsrc <;> simp)
      · cases h
    · cases h
  case h_8 x =>
    split at h
    · rename_i a hx; cases h; simp only [execOp, hρ _ _ hx]; rfl
    · rename_i f a b hx; cases h; simp only [execOp, hρ _ _ hx]; rfl
    · rename_i f a b hx; cases h; simp only [execOp, hρ _ _ hx]; rfl
    · cases h
  case h_9 fn first cap =>
    split at h
    · rename_i hfirst
      have hf : first = #[] := by cases first; subst hfirst; rfl
      subst hf
      split at h
      · rename_i vs hvs
        cases h
        have := hρ.evs hvs
        have h2 : cap.map ρ = vs.toArray := by rw [← this]; cases cap; simp
        simp [execOp, h2, Instr.makeFunc]
      · cases h
    · cases h
  case h_10 x i =>
    split at h
    · rename_i vs hx
      have h' : vs[i]? = some v := by simpa using h
      simp [execOp, hρ _ _ hx, Instr.extract, h']
    · cases h
  case h_11 args tys =>
    split at h
    · rename_i x hargs
      have ha := get1 hargs
      subst ha
      split at h
      · rename_i a n c hx
        split at h
        · rename_i t htys
          have hb := get1 htys
          subst hb
          split at h
          · rename_i e z1 z2 z3 ht
            cases h
            have := (tab_ok ht).k
            simp only [TK.ok] at this
            simp [execOp, resolve, invoke, builtin, Builtin.len_, hρ _ _ hx, run_und this, goInt]
          · cases h
        · cases h
      · rename_i s hx
        split at h
        · rename_i t htys
          have hb := get1 htys
          subst hb
          split at h
          · rename_i z1 z2 z3 ht
            cases h
            have := (tab_ok ht).k
            simp only [TK.ok] at this
            simp [execOp, resolve, invoke, builtin, Builtin.len_, hρ _ _ hx, run_und this, goInt]
          · cases h
        · cases h
      · cases h
    · cases h
  case h_12 t x i =>
    split at h
    · rename_i b off hx
      split at h
      · rename_i fs z1 z2 z3 ht
        split at h
        · rename_i oo ty' hi
          split at h
          · rename_i kk sz z4 z5 hty
            cases h
            have := (tab_ok ht).k
            simp only [TK.ok] at this
            obtain ⟨F, hF, hm⟩ := this
            have hf : ∃ f, F[i]? = some f ∧ f.offset = oo ∧ f.type = ty' := by
              rw [← hm] at hi
              simp only [List.getElem?_map, Option.map_eq_some_iff] at hi
              obtain ⟨f, h1, h2⟩ := hi
              cases h2
              exact ⟨f, by simpa using h1, rfl, rfl⟩
            obtain ⟨f, hf1, hf2, hf3⟩ := hf
            have hs := sizeOf_ok (tab_ok hty)
            simp only at hs
            subst hf2 hf3
            simp [execOp, Instr.fieldAt, hρ _ _ hx, run_und hF, hf1, Instr.sureAddr, fieldPlace, hs, Addr.add]
          · cases h
        · cases h
      · cases h
    · cases h
  case h_13 => cases h
end
end Go.Sl
