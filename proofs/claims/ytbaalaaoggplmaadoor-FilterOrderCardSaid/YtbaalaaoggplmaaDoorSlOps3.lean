/- A part of a proof: a walk over the model by a small separation logic. -/
import Derived.Test.YtbaalaaoggplmaaDoorSlMixR
/-! Division of whole numbers of any kind; slots renamed. -/
set_option linter.unusedVariables false
set_option linter.unusedSectionVars false
namespace Go.Sl
section
variable {P : Program} [tb : Tab P] {rd : Option Nat} {N : Nat} {T T' : TT} {L : List HP} {Q : Post} {ks : List K}
variable {all : Array Oper} {rest : List Oper} {d : Option Tmp} {ty : TypeId} {pos : String} {aft : Array Edge} {RR : TT → List HP → Prop}
theorem reads_div {op : BinOp} {t cx : Nat} {x y : Operand} {k : IntKind} {a b : Int} {v : Value} (hx : evO T x = some (.int k a)) (hy : evO T y = some (.int k b)) (h : divV op k a b = some v) : Reads P T L ⟨d, .binOp op t x y cx, ty, pos, aft, none⟩ (fun u L' => u = v ∧ L' = L) := by
  intro q hq r oo F hst
  refine ⟨v, L, ⟨rfl, rfl⟩, hst, fun w _ => ?_⟩
  have h1 : (eqGuard op t x y (.int k a) (.int k b)).run P w = .ok () w := by
    unfold divV at h
    split at h <;> first | (cases h; done) | (unfold eqGuard; simp)
  simp only [execOp, hq _ _ hx, hq _ _ hy, Sem.run_bind, h1, Result.andThen_ok, divV_ok h t w]
  rfl
theorem SO.div {op : BinOp} {t cx : Nat} {x y : Operand} {k : IntKind} {a b : Int} {v : Value} (hx : evO T x = some (.int k a)) (hy : evO T y = some (.int k b)) (h : divV op k a b = some v) (hd : dstOk N d = true)
    (kk : SO P rd N all rest (putD d v T) L ks Q) : SO P rd N all (⟨d, .binOp op t x y cx, ty, pos, aft, none⟩ :: rest) T L ks Q :=
  SO.reads (reads_div hx hy h) rfl rfl hd (by rintro _ _ ⟨rfl, rfl⟩; exact kk)
theorem SQ.div {op : BinOp} {t cx : Nat} {x y : Operand} {k : IntKind} {a b : Int} {v : Value} (hx : evO T x = some (.int k a)) (hy : evO T y = some (.int k b)) (h : divV op k a b = some v) (hd : dstOk N d = true)
    (kk : SQ P N all rest (putD d v T) L RR) : SQ P N all (⟨d, .binOp op t x y cx, ty, pos, aft, none⟩ :: rest) T L RR :=
  SQ.reads (reads_div hx hy h) rfl hd (by rintro _ _ ⟨rfl, rfl⟩; exact kk)
theorem SR.div {op : BinOp} {t cx : Nat} {x y : Operand} {k : IntKind} {a b : Int} {v : Value} (hx : evO T x = some (.int k a)) (hy : evO T y = some (.int k b)) (h : divV op k a b = some v) (hd : dstOk N d = true)
    (kk : SR P N all rest (putD d v T) L RR) : SR P N all (⟨d, .binOp op t x y cx, ty, pos, aft, none⟩ :: rest) T L RR :=
  SR.reads (reads_div hx hy h) rfl hd (by rintro _ _ ⟨rfl, rfl⟩; exact kk)
theorem rem_ne {k : IntKind} {a b : Int} (hb : b ≠ 0) : divV .rem k a b = some (.int k (a.tmod b)) := if_neg hb
theorem quo_ne {k : IntKind} {a b : Int} (hb : b ≠ 0) : divV .quo k a b = some (.int k (k.wrap (a.tdiv b))) := if_neg hb
theorem SO.setT {ops : List Oper} (T' : TT) (h : Sub T T') (k : SO P rd N all ops T' L ks Q) : SO P rd N all ops T L ks Q :=
  fun F a w ok => k F a w (ok.sub h)
theorem SK.setT {c : Code} (T' : TT) (h : Sub T T') (k : SK P rd N (.code c :: ks) T' L Q) : SK P rd N (.code c :: ks) T L Q := by
  rw [SK_code] at k ⊢
  exact fun F a w ok => k F a w (ok.sub h)
end
end Go.Sl
