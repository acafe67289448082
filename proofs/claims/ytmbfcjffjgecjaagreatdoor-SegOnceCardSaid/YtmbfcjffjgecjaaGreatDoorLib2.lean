/- A part of a proof: a walk over the model by a small separation logic. -/
import Derived.Test.YtmbfcjffjgecjaaGreatDoorLib1
import Derived.Laws.StructEq
import Derived.Lib.ItoaNum
import Derived.Lib.AtoiAll
import Derived.Lib.IndexMore
import Derived.Lib.Split
import Derived.Lib.SlTrimSet
import Derived.Lib.Join
import Derived.Laws.Externs
import GoSem.Extern.MapsClone
import Derived.Lib.Overlaps
import Derived.Laws.IdiomRangeMap
import Derived.Sort.Grow
import Derived.Test.YtmbfcjffjgecjaaGreatDoorLib0
/-! Strings: their bytes one by one, joined, compared, cut. -/
set_option linter.unusedVariables false
set_option linter.unusedSectionVars false
set_option linter.unusedSimpArgs false
namespace Go.Sl
def ltS (a b : ByteArray) : Bool := Op.bytesLess a.data.toList b.data.toList
def cmpS (op : BinOp) (a b : ByteArray) : Option Bool := match op with
  | .lss => some (ltS a b)
  | .leq => some (ltS a b || eqS a b)
  | .gtr => some (!(ltS a b || eqS a b))
  | .geq => some (!ltS a b)
  | _ => none
section
variable {P : Program} [tb : Tab P] {rd : Option Nat} {N : Nat} {T : TT} {L E : List HP} {Q : Post} {ks : List K} {RR : TT → List HP → Prop}
variable {all : Array Oper} {rest : List Oper} {restX : XO} {d : Option Tmp} {ty : TypeId} {pos : String} {aft : Array Edge}
/-- An element that is known. -/
theorem rd_indexH {α : Type} {ρ : Rep α} {x y : Operand} {t e : Nat} {sz n1 n2 b1 : Nat} {z z2 : Value} {ke : TK} {A : Option Addr} {n c i : Nat} {k : IntKind} {j : Int} {l : List α} {u : α} (hx : evO T x = some (.slice A n c)) (hy : evO T y = some (.int k j))
    (hh : Has (slAt ρ A n l) L) (ht : tget tb.tab t = some ⟨.sl e, n1, n2, z⟩) (hte : tget tb.tab e = some ⟨ke, sz, b1, z2⟩) (hj : Int.ofNat i = j) (hu : l[i]? = some u) : Reads P T L ⟨d, .indexAddr t x y, ty, pos, aft, none⟩ (fun v L' => v = .pointer (some (eadr A i sz 0)) ∧ L' = L) := by
  intro q hq rr oo F hs
  have hs1 := (show seps L rr _ from hs.choose_spec.choose_spec.2.2.2)
  obtain ⟨h0, h1, h2⟩ := sl_len hh rr _ hs1
  have hl : i < l.length := (List.getElem?_eq_some_iff.1 hu).1
  obtain ⟨v, L', ⟨h3, h4, _⟩, h5, h6⟩ := rd_index (d := d) (ty := ty) (pos := pos) (aft := aft) hx hy hh ht hte hj (by omega) q hq rr oo F hs
  exact ⟨v, L', ⟨h3, h4⟩, h5, h6⟩
theorem rd_sidx {x y : Operand} {t n1 n2 i : Nat} {z : Value} {s : ByteArray} {k : IntKind} {j : Int} (hx : evO T x = some (.string s)) (hy : evO T y = some (.int k j))
    (ht : tget tb.tab t = some ⟨.str, n1, n2, z⟩) (hj : Int.ofNat i = j) (hi : i < s.size) : Reads P T L ⟨d, .index t x y, ty, pos, aft, none⟩ (fun u L' => L' = L ∧ ∃ v, (bytesI s)[i]? = some v ∧ u = .int .u8 v) := by
  intro q hq rr oo F hs
  have hk := (tab_ok ht).k
  simp only [TK.ok] at hk
  have hj' : j = (i : Int) := hj.symm
  subst hj'
  refine ⟨.int .u8 ((s[i]'hi).toNat : Int), L, ⟨rfl, _, ?_, rfl⟩, hs, fun w _ => ?_⟩
  · unfold bytesI
    rw [List.getElem?_map]
    have : s.data.toList[i]? = some (s[i]'hi) := by
      have h2 : i < s.data.toList.length := by simpa using hi
      rw [List.getElem?_eq_getElem h2]
      rfl
    rw [this]; rfl
  · simp only [execOp, hq _ _ hx, hq _ _ hy, Instr.index, asIntOf, Sem.run_bind, Sem.run_pure, run_und hk, Result.andThen_ok]
    have h1 : (if (0 : Int) ≤ (i : Int) then s[(i : Int).toNat]? else none) = some (s[i]'hi) := by
      rw [if_pos (by omega)]
      simp [hi]
    rw [h1]
    rfl
theorem rd_scat {x y : Operand} {t cx : Nat} {a b : ByteArray} (hx : evO T x = some (.string a)) (hy : evO T y = some (.string b)) (hb : a.size + b.size ≤ 9223372036854775807) :
    Reads P T L ⟨d, .binOp .add t x y cx, ty, pos, aft, none⟩ (fun u L' => u = .string (a ++ b) ∧ L' = L) := by
  intro q hq rr oo F hs
  refine ⟨_, L, ⟨rfl, rfl⟩, hs, fun w _ => ?_⟩
  have h1 : (eqGuard .add t x y (.string a) (.string b)).run P w = .ok () w := by unfold eqGuard; simp
  have h2 : ¬ (((a.size + b.size : Nat) : Int) > IntKind.i64.max) := by
    have : IntKind.i64.max = 9223372036854775807 := by decide
    omega
  simp only [execOp, hq _ _ hx, hq _ _ hy, Sem.run_bind, h1, Result.andThen_ok, binOp, Op.stringOp, if_neg h2]
  rfl
theorem rd_scmp {op : BinOp} {x y : Operand} {t cx : Nat} {a b : ByteArray} {v : Bool} (hx : evO T x = some (.string a)) (hy : evO T y = some (.string b)) (hv : cmpS op a b = some v) :
    Reads P T L ⟨d, .binOp op t x y cx, ty, pos, aft, none⟩ (fun u L' => u = .bool v ∧ L' = L) := by
  intro q hq rr oo F hs
  refine ⟨_, L, ⟨rfl, rfl⟩, hs, fun w _ => ?_⟩
  have h1 : (eqGuard op t x y (.string a) (.string b)).run P w = .ok () w := by unfold eqGuard; split <;> simp
  simp only [execOp, hq _ _ hx, hq _ _ hy, Sem.run_bind, h1, Result.andThen_ok, binOp, Op.stringOp, toList_eq]
  unfold cmpS ltS at hv
  split at hv <;> cases hv <;> (simp only [ByteArray.toList_eq]; rfl)
theorem rd_sslice {x : Operand} {lo hi : Option Operand} {s : ByteArray} {i j t n1 n2 : Nat} {z : Value} (hx : evO T x = some (.string s)) {vl vh : Option Value} {k1 k2 : IntKind}
    (hlo : evOo T lo = some vl) (hhi : evOo T hi = some vh) (ht : tget tb.tab t = some ⟨.str, n1, n2, z⟩) (hl : vl = some (.int k1 i) ∨ (vl = none ∧ i = 0)) (hv : vh = some (.int k2 j) ∨ (vh = none ∧ j = s.size)) (h1 : i ≤ j) (h2 : j ≤ s.size) :
    Reads P T L ⟨d, .slice t x lo hi none, ty, pos, aft, none⟩ (fun u L' => u = .string (s.extract i j) ∧ L' = L) := by
  intro q hq rr oo F hs
  have hk := (tab_ok ht).k
  simp only [TK.ok] at hk
  refine ⟨_, L, ⟨rfl, rfl⟩, hs, fun w _ => ?_⟩
  have hb : ∀ (c : BoundsCode) (k : IntKind) (a m : Nat), a ≤ m → (Instr.sliceBound (.int k (a : Int)) m c).run P w = .ok a w := fun c k a m h => by
    simp only [Instr.sliceBound, asIntOf, Sem.run_bind, Sem.run_pure, Result.andThen_ok]
    rw [if_pos ⟨by omega, by omega⟩]
    simp [Sem.run_pure]
  have hbd : (Instr.sliceBounds false s.size s.size vl vh none).run P w = .ok (i, j, s.size) w := by
    rcases hv with rfl | ⟨rfl, rfl⟩ <;> rcases hl with rfl | ⟨rfl, rfl⟩ <;> simp [Instr.sliceBounds, Sem.run_bind, Sem.run_pure, Result.andThen_ok, hb, h1, h2]
  simp only [execOp, hq _ _ hx, evOo_ok hq hlo, evOo_ok hq hhi, Option.map_none, Sem.run_bind, Instr.sliceAt, Instr.slice, run_und hk, Result.andThen_ok, Option.isSome_none, Bool.false_eq_true, if_false, Sem.run_pure, hbd]
theorem SO.sidx {x y : Operand} {t n1 n2 i : Nat} {z : Value} {s : ByteArray} {k : IntKind} {j : Int} (hx : evO T x = some (.string s)) (hy : evO T y = some (.int k j)) (ht : tget tb.tab t = some ⟨.str, n1, n2, z⟩) (hj : Int.ofNat i = j) (hd : dstOk N d = true) (hi : i < s.size)
    (kk : ∀ v, (bytesI s)[i]? = some v → SO P rd N all rest (putD d (.int .u8 v) T) L ks Q) : SO P rd N all (⟨d, .index t x y, ty, pos, aft, none⟩ :: rest) T L ks Q :=
  SO.reads (rd_sidx hx hy ht hj hi) rfl rfl hd (by rintro _ _ ⟨rfl, v, hv, rfl⟩; exact kk v hv)
theorem SQ.sidx {x y : Operand} {t n1 n2 i : Nat} {z : Value} {s : ByteArray} {k : IntKind} {j : Int} (hx : evO T x = some (.string s)) (hy : evO T y = some (.int k j)) (ht : tget tb.tab t = some ⟨.str, n1, n2, z⟩) (hj : Int.ofNat i = j) (hd : dstOk N d = true) (hi : i < s.size)
    (kk : ∀ v, (bytesI s)[i]? = some v → SQ P N all rest (putD d (.int .u8 v) T) L RR) : SQ P N all (⟨d, .index t x y, ty, pos, aft, none⟩ :: rest) T L RR :=
  SQ.reads (rd_sidx hx hy ht hj hi) rfl hd (by rintro _ _ ⟨rfl, v, hv, rfl⟩; exact kk v hv)
theorem SX.sidx {x y : Operand} {t n1 n2 i : Nat} {z : Value} {s : ByteArray} {k : IntKind} {j : Int} (hx : evO T x = some (.string s)) (hy : evO T y = some (.int k j)) (ht : tget tb.tab t = some ⟨.str, n1, n2, z⟩) (hj : Int.ofNat i = j) (hd : dstOk N d = true) (hi : i < s.size)
    (kk : ∀ v, (bytesI s)[i]? = some v → SX P rd N all restX (putD d (.int .u8 v) T) L E ks Q) : SX P rd N all (.item 0 ⟨d, .index t x y, ty, pos, aft, none⟩ restX) T L E ks Q :=
  SX.reads (rd_sidx hx hy ht hj hi) rfl hd (by rintro _ _ ⟨rfl, v, hv, rfl⟩; exact kk v hv)
theorem SO.scat {x y : Operand} {t cx : Nat} {a b : ByteArray} (hx : evO T x = some (.string a)) (hy : evO T y = some (.string b)) (hd : dstOk N d = true) (hb : a.size + b.size ≤ 9223372036854775807)
    (kk : SO P rd N all rest (putD d (.string (a ++ b)) T) L ks Q) : SO P rd N all (⟨d, .binOp .add t x y cx, ty, pos, aft, none⟩ :: rest) T L ks Q :=
  SO.reads (rd_scat hx hy hb) rfl rfl hd (by rintro _ _ ⟨rfl, rfl⟩; exact kk)
theorem SQ.scat {x y : Operand} {t cx : Nat} {a b : ByteArray} (hx : evO T x = some (.string a)) (hy : evO T y = some (.string b)) (hd : dstOk N d = true) (hb : a.size + b.size ≤ 9223372036854775807)
    (kk : SQ P N all rest (putD d (.string (a ++ b)) T) L RR) : SQ P N all (⟨d, .binOp .add t x y cx, ty, pos, aft, none⟩ :: rest) T L RR :=
  SQ.reads (rd_scat hx hy hb) rfl hd (by rintro _ _ ⟨rfl, rfl⟩; exact kk)
theorem SX.scat {x y : Operand} {t cx : Nat} {a b : ByteArray} (hx : evO T x = some (.string a)) (hy : evO T y = some (.string b)) (hd : dstOk N d = true) (hb : a.size + b.size ≤ 9223372036854775807)
    (kk : SX P rd N all restX (putD d (.string (a ++ b)) T) L E ks Q) : SX P rd N all (.item 0 ⟨d, .binOp .add t x y cx, ty, pos, aft, none⟩ restX) T L E ks Q :=
  SX.reads (rd_scat hx hy hb) rfl hd (by rintro _ _ ⟨rfl, rfl⟩; exact kk)
theorem SO.scmp {op : BinOp} {x y : Operand} {t cx : Nat} {a b : ByteArray} {v : Bool} (hx : evO T x = some (.string a)) (hy : evO T y = some (.string b)) (hv : cmpS op a b = some v) (hd : dstOk N d = true)
    (kk : SO P rd N all rest (putD d (.bool v) T) L ks Q) : SO P rd N all (⟨d, .binOp op t x y cx, ty, pos, aft, none⟩ :: rest) T L ks Q :=
  SO.reads (rd_scmp hx hy hv) rfl rfl hd (by rintro _ _ ⟨rfl, rfl⟩; exact kk)
theorem SQ.scmp {op : BinOp} {x y : Operand} {t cx : Nat} {a b : ByteArray} {v : Bool} (hx : evO T x = some (.string a)) (hy : evO T y = some (.string b)) (hv : cmpS op a b = some v) (hd : dstOk N d = true)
    (kk : SQ P N all rest (putD d (.bool v) T) L RR) : SQ P N all (⟨d, .binOp op t x y cx, ty, pos, aft, none⟩ :: rest) T L RR :=
  SQ.reads (rd_scmp hx hy hv) rfl hd (by rintro _ _ ⟨rfl, rfl⟩; exact kk)
theorem SX.scmp {op : BinOp} {x y : Operand} {t cx : Nat} {a b : ByteArray} {v : Bool} (hx : evO T x = some (.string a)) (hy : evO T y = some (.string b)) (hv : cmpS op a b = some v) (hd : dstOk N d = true)
    (kk : SX P rd N all restX (putD d (.bool v) T) L E ks Q) : SX P rd N all (.item 0 ⟨d, .binOp op t x y cx, ty, pos, aft, none⟩ restX) T L E ks Q :=
  SX.reads (rd_scmp hx hy hv) rfl hd (by rintro _ _ ⟨rfl, rfl⟩; exact kk)
theorem SO.sslice {x : Operand} {lo hi : Option Operand} {s : ByteArray} {i j t n1 n2 : Nat} {z : Value} (hx : evO T x = some (.string s)) {vl vh : Option Value} {k1 k2 : IntKind} (hlo : evOo T lo = some vl) (hhi : evOo T hi = some vh) (ht : tget tb.tab t = some ⟨.str, n1, n2, z⟩) (hd : dstOk N d = true) (hl : vl = some (.int k1 i) ∨ (vl = none ∧ i = 0)) (hv : vh = some (.int k2 j) ∨ (vh = none ∧ j = s.size)) (h1 : i ≤ j) (h2 : j ≤ s.size)
    (kk : SO P rd N all rest (putD d (.string (s.extract i j)) T) L ks Q) : SO P rd N all (⟨d, .slice t x lo hi none, ty, pos, aft, none⟩ :: rest) T L ks Q :=
  SO.reads (rd_sslice hx hlo hhi ht hl hv h1 h2) rfl rfl hd (by rintro _ _ ⟨rfl, rfl⟩; exact kk)
theorem SQ.sslice {x : Operand} {lo hi : Option Operand} {s : ByteArray} {i j t n1 n2 : Nat} {z : Value} (hx : evO T x = some (.string s)) {vl vh : Option Value} {k1 k2 : IntKind} (hlo : evOo T lo = some vl) (hhi : evOo T hi = some vh) (ht : tget tb.tab t = some ⟨.str, n1, n2, z⟩) (hd : dstOk N d = true) (hl : vl = some (.int k1 i) ∨ (vl = none ∧ i = 0)) (hv : vh = some (.int k2 j) ∨ (vh = none ∧ j = s.size)) (h1 : i ≤ j) (h2 : j ≤ s.size)
    (kk : SQ P N all rest (putD d (.string (s.extract i j)) T) L RR) : SQ P N all (⟨d, .slice t x lo hi none, ty, pos, aft, none⟩ :: rest) T L RR :=
  SQ.reads (rd_sslice hx hlo hhi ht hl hv h1 h2) rfl hd (by rintro _ _ ⟨rfl, rfl⟩; exact kk)
theorem SX.sslice {x : Operand} {lo hi : Option Operand} {s : ByteArray} {i j t n1 n2 : Nat} {z : Value} (hx : evO T x = some (.string s)) {vl vh : Option Value} {k1 k2 : IntKind} (hlo : evOo T lo = some vl) (hhi : evOo T hi = some vh) (ht : tget tb.tab t = some ⟨.str, n1, n2, z⟩) (hd : dstOk N d = true) (hl : vl = some (.int k1 i) ∨ (vl = none ∧ i = 0)) (hv : vh = some (.int k2 j) ∨ (vh = none ∧ j = s.size)) (h1 : i ≤ j) (h2 : j ≤ s.size)
    (kk : SX P rd N all restX (putD d (.string (s.extract i j)) T) L E ks Q) : SX P rd N all (.item 0 ⟨d, .slice t x lo hi none, ty, pos, aft, none⟩ restX) T L E ks Q :=
  SX.reads (rd_sslice hx hlo hhi ht hl hv h1 h2) rfl hd (by rintro _ _ ⟨rfl, rfl⟩; exact kk)
theorem SO.indexH {α : Type} {ρ : Rep α} {x y : Operand} {t e : Nat} {sz n1 n2 b1 : Nat} {z z2 : Value} {ke : TK} {A : Option Addr} {n c i : Nat} {k : IntKind} {j : Int} {l : List α} {u : α} (hx : evO T x = some (.slice A n c)) (hy : evO T y = some (.int k j)) (hh : Has (slAt ρ A n l) L) (ht : tget tb.tab t = some ⟨.sl e, n1, n2, z⟩) (hte : tget tb.tab e = some ⟨ke, sz, b1, z2⟩) (hj : Int.ofNat i = j) (hd : dstOk N d = true) (hu : l[i]? = some u)
    (kk : SO P rd N all rest (putD d (.pointer (some (eadr A i sz 0))) T) L ks Q) : SO P rd N all (⟨d, .indexAddr t x y, ty, pos, aft, none⟩ :: rest) T L ks Q :=
  SO.reads (rd_indexH hx hy hh ht hte hj hu) rfl rfl hd (by rintro _ _ ⟨rfl, rfl⟩; exact kk)
theorem SQ.indexH {α : Type} {ρ : Rep α} {x y : Operand} {t e : Nat} {sz n1 n2 b1 : Nat} {z z2 : Value} {ke : TK} {A : Option Addr} {n c i : Nat} {k : IntKind} {j : Int} {l : List α} {u : α} (hx : evO T x = some (.slice A n c)) (hy : evO T y = some (.int k j)) (hh : Has (slAt ρ A n l) L) (ht : tget tb.tab t = some ⟨.sl e, n1, n2, z⟩) (hte : tget tb.tab e = some ⟨ke, sz, b1, z2⟩) (hj : Int.ofNat i = j) (hd : dstOk N d = true) (hu : l[i]? = some u)
    (kk : SQ P N all rest (putD d (.pointer (some (eadr A i sz 0))) T) L RR) : SQ P N all (⟨d, .indexAddr t x y, ty, pos, aft, none⟩ :: rest) T L RR :=
  SQ.reads (rd_indexH hx hy hh ht hte hj hu) rfl hd (by rintro _ _ ⟨rfl, rfl⟩; exact kk)
theorem SX.indexH {α : Type} {ρ : Rep α} {x y : Operand} {t e : Nat} {sz n1 n2 b1 : Nat} {z z2 : Value} {ke : TK} {A : Option Addr} {n c i : Nat} {k : IntKind} {j : Int} {l : List α} {u : α} (hx : evO T x = some (.slice A n c)) (hy : evO T y = some (.int k j)) (hh : Has (slAt ρ A n l) L) (ht : tget tb.tab t = some ⟨.sl e, n1, n2, z⟩) (hte : tget tb.tab e = some ⟨ke, sz, b1, z2⟩) (hj : Int.ofNat i = j) (hd : dstOk N d = true) (hu : l[i]? = some u)
    (kk : SX P rd N all restX (putD d (.pointer (some (eadr A i sz 0))) T) L E ks Q) : SX P rd N all (.item 0 ⟨d, .indexAddr t x y, ty, pos, aft, none⟩ restX) T L E ks Q :=
  SX.reads (rd_indexH hx hy hh ht hte hj hu) rfl hd (by rintro _ _ ⟨rfl, rfl⟩; exact kk)
theorem SO.sidxH {x y : Operand} {t n1 n2 i : Nat} {z : Value} {s : ByteArray} {k : IntKind} {j v : Int} (hx : evO T x = some (.string s)) (hy : evO T y = some (.int k j)) (ht : tget tb.tab t = some ⟨.str, n1, n2, z⟩) (hj : Int.ofNat i = j) (hd : dstOk N d = true) (hu : (bytesI s)[i]? = some v)
    (kk : SO P rd N all rest (putD d (.int .u8 v) T) L ks Q) : SO P rd N all (⟨d, .index t x y, ty, pos, aft, none⟩ :: rest) T L ks Q :=
  SO.reads (rd_sidx hx hy ht hj (by have := (List.getElem?_eq_some_iff.1 hu).1; rwa [bytesI_len] at this)) rfl rfl hd (by rintro _ _ ⟨rfl, v, hv, rfl⟩; rw [hu] at hv; cases hv; exact kk)
theorem SQ.sidxH {x y : Operand} {t n1 n2 i : Nat} {z : Value} {s : ByteArray} {k : IntKind} {j v : Int} (hx : evO T x = some (.string s)) (hy : evO T y = some (.int k j)) (ht : tget tb.tab t = some ⟨.str, n1, n2, z⟩) (hj : Int.ofNat i = j) (hd : dstOk N d = true) (hu : (bytesI s)[i]? = some v)
    (kk : SQ P N all rest (putD d (.int .u8 v) T) L RR) : SQ P N all (⟨d, .index t x y, ty, pos, aft, none⟩ :: rest) T L RR :=
  SQ.reads (rd_sidx hx hy ht hj (by have := (List.getElem?_eq_some_iff.1 hu).1; rwa [bytesI_len] at this)) rfl hd (by rintro _ _ ⟨rfl, v, hv, rfl⟩; rw [hu] at hv; cases hv; exact kk)
theorem SX.sidxH {x y : Operand} {t n1 n2 i : Nat} {z : Value} {s : ByteArray} {k : IntKind} {j v : Int} (hx : evO T x = some (.string s)) (hy : evO T y = some (.int k j)) (ht : tget tb.tab t = some ⟨.str, n1, n2, z⟩) (hj : Int.ofNat i = j) (hd : dstOk N d = true) (hu : (bytesI s)[i]? = some v)
    (kk : SX P rd N all restX (putD d (.int .u8 v) T) L E ks Q) : SX P rd N all (.item 0 ⟨d, .index t x y, ty, pos, aft, none⟩ restX) T L E ks Q :=
  SX.reads (rd_sidx hx hy ht hj (by have := (List.getElem?_eq_some_iff.1 hu).1; rwa [bytesI_len] at this)) rfl hd (by rintro _ _ ⟨rfl, v, hv, rfl⟩; rw [hu] at hv; cases hv; exact kk)
end
end Go.Sl

/-! Slices of one's own, by their cells: parts of them, 'copy', 'append' of noughts. -/
set_option linter.unusedVariables false
set_option linter.unusedSectionVars false
set_option linter.unusedSimpArgs false
namespace Go.Sl
section
variable {P : Program} [tb : Tab P] {rd : Option Nat} {N : Nat} {T : TT} {L L' L1 L2 : List HP} {Q : Post} {ks : List K}
variable {all : Array Oper} {rest : List Oper} {ty : TypeId} {pos : String} {aft : Array Edge} {d : Option Tmp} {α : Type} {ρ : Rep α}

/-- 'x[lo:hi]', by its value alone. -/
theorem SO.sliceN {x : Operand} {lo hi : Option Operand} {b o n c i j t e sz n1 n2 b1 : Nat} {z z2 : Value} {ke : TK} (hx : evO T x = some (.slice (some ⟨b, o, none⟩) n c)) {vl vh : Option Value} {k1 k2 : IntKind}
    (hlo : evOo T lo = some vl) (hhi : evOo T hi = some vh) (ht : tget tb.tab t = some ⟨.sl e, n1, n2, z⟩) (hte : tget tb.tab e = some ⟨ke, sz, b1, z2⟩) (hd : dstOk N d = true) (hl : vl = some (.int k1 i) ∨ (vl = none ∧ i = 0)) (hv : vh = some (.int k2 j) ∨ (vh = none ∧ j = n)) (h1 : i ≤ j) (h2 : j ≤ c) (h3 : n ≤ c) (h4 : i < c ∨ i = 0)
    (kk : SO P rd N all rest (putD d (.slice (some ⟨b, o + i * sz, none⟩) (j - i) (c - i)) T) L ks Q) : SO P rd N all (⟨d, .slice t x lo hi none, ty, pos, aft, none⟩ :: rest) T L ks Q := by
  refine SO.run (R := fun v L2 => v = .slice (some ⟨b, o + i * sz, none⟩) (j - i) (c - i) ∧ L2 = L) rfl rfl hd ?_ (by rintro _ _ ⟨rfl, rfl⟩; exact kk)
  intro q hq F w hst
  refine ⟨_, w, L, .inl ?_, ⟨rfl, rfl⟩, hst⟩
  simp only [execOp, hq _ _ hx, evOo_ok hq hlo, evOo_ok hq hhi, Option.map_none, Sem.run_bind, run_slice_lo ht hte h1 h2 h3 hl hv, Result.andThen_ok]
  have e : (if c = i then some (⟨b, o, none⟩ : Addr) else (some (⟨b, o, none⟩ : Addr)).map (·.add (i * sz))) = some ⟨b, o + i * sz, none⟩ := by
    split
    · rename_i hc
      have : i = 0 := by omega
      subst this; simp
    · simp only [Option.map_some, eadr_base (a := ⟨b, o, none⟩) rfl]
  rw [e]; rfl

/-- Cells that lie somewhere. -/
def Cells (L : List HP) (b o : Nat) (cs : List Value) : Prop := ∀ F w, St w (F :: L) → ∀ j v, cs[j]? = some v → w.cell? ⟨b, o + j, none⟩ = some v
theorem Cells.pts {b o : Nat} {vs : List Value} (h : Take (Sl.pts b o vs) L L') (i k : Nat) : Cells L b (o + i) (cut vs i k) := by
  intro F w hst j v hj
  have h2 : St w (Sl.pts b o vs :: F :: L') := (hst.ent (Ent.cons h.ent)).ent Ent.swap
  have := (h2.cell (cut_get hj).1).1
  rwa [Nat.add_assoc]
theorem Cells.rod {b o : Nat} {vs : List Value} (h : Take (Sl.rod b o vs) L L') (i k : Nat) : Cells L b (o + i) (cut vs i k) := by
  intro F w hst j v hj
  have h2 : St w (Sl.rod b o vs :: F :: L') := (hst.ent (Ent.cons h.ent)).ent Ent.swap
  have := h2.rcell (cut_get hj).1
  rwa [Nat.add_assoc]

/-- 'copy' into own cells. -/
theorem SO.copy {x y : Operand} {b off o' dn dc b2 off2 sn sc k t t2 e sz n1 n2 b1 : Nat} {z z2 : Value} {ke : TK} {vs vs' cs : List Value} (hx : evO T x = some (.slice (some ⟨b, off, none⟩) dn dc)) (hy : evO T y = some (.slice (some ⟨b2, off2, none⟩) sn sc))
    (htk : Take (pts b o' vs) L L') (hs : Cells L b2 off2 cs) (ht : tget tb.tab t = some ⟨.sl e, n1, n2, z⟩) (hte : tget tb.tab e = some ⟨ke, sz, b1, z2⟩) (hk : Nat.min sn dn = k) (hc : cs.length = k * sz) (h1 : ∀ c ∈ cs, one c = true) (ho : o' ≤ off) (hl : off - o' + k * sz ≤ vs.length)
    (hv : lay vs (off - o') cs = vs') (hd : dstOk N d = true) (kk : SO P rd N all rest (putD d (.int .i64 k) T) (pts b o' vs' :: L') ks Q) : SO P rd N all (⟨d, .call ⟨.builtin .copy, #[x, y], #[t, t2]⟩, ty, pos, aft, none⟩ :: rest) T L ks Q := by
  refine SO.run (R := fun v L2 => v = .int .i64 k ∧ L2 = pts b o' vs' :: L') rfl rfl hd ?_ (by rintro _ _ ⟨rfl, rfl⟩; exact kk)
  intro q hq F w hst
  have hkk := (tab_ok ht).k
  simp only [TK.ok] at hkk
  have hsz := sizeOf_ok (tab_ok hte) w
  simp only at hsz
  have hst2 : St w (pts b o' vs :: F :: L') := hst.ent ((Ent.cons htk.ent).trans Ent.swap)
  rcases storeCells_ok (P := P) (A := pr True) (i := 0) cs vs w 0 (off - o') hst2 h1 (by omega) with ⟨w', hr, hst'⟩ | h
  · refine ⟨_, w', _, .inl ?_, ⟨rfl, rfl⟩, ?_⟩
    · have hf := run_first (P := P) (b := ⟨b2, off2, none⟩) (c := sc) (k := sn) rfl hc (hs F w hst)
      rw [show o' + (off - o') - 0 = off by omega] at hr
      simp only [execOp, resolve, invoke, builtin, Builtin.copy_, hq _ _ hx, hq _ _ hy, Sem.run_bind, Sem.run_pure, Result.andThen_ok, List.map_toArray, List.map_cons, List.map_nil, List.getElem?_toArray, List.getElem?_cons_zero, List.getElem?_cons_succ, run_und hkk, Builtin.lenOf, hsz, hk, hf, hr, goInt]
    · rw [hv] at hst'; exact hst'.ent Ent.swap
  · exact absurd h (by omega)

/-- 'append' of so many noughts, for which there is no room. -/
theorem SO.appendZ {x y : Operand} {b off n c m t t2 e sz n1 n2 b1 n3 n4 : Nat} {z z2 z3 : Value} {ke : TK} {k3 : IntKind} {cs : List Value} (hx : evO T x = some (.slice (some ⟨b, off, none⟩) n c)) (hy : evO T y = some (.int .i64 m))
    (hs : Cells L b off cs) (ht : tget tb.tab t = some ⟨.sl e, n1, n2, z⟩) (ht2 : tget tb.tab t2 = some ⟨.int k3, n3, n4, z3⟩) (hte : tget tb.tab e = some ⟨ke, sz, b1, z2⟩) (hzz : Nat.beq z2.cells.toList.length sz = true) (hb : Nat.ble b1 32768 = true) (hc : cs.length = n * sz)
    (hno : c < n + m) (hlim : n + m ≤ lim) (hd : dstOk N d = true)
    (kk : ∀ b' c' (zs sp : List Value), n + m ≤ c' → zs.length = m * sz → sp.length = (c' - (n + m)) * sz → SO P rd N all rest (putD d (.slice (some ⟨b', 0, none⟩) (n + m) c') T) (pts b' 0 (cs ++ zs ++ sp) :: L) ks Q) :
    SO P rd N all (⟨d, .call ⟨.builtin .append, #[x, y], #[t, t2]⟩, ty, pos, aft, none⟩ :: rest) T L ks Q := by
  refine SO.run (R := fun v L2 => ∃ b' c' zs sp, n + m ≤ c' ∧ zs.length = m * sz ∧ sp.length = (c' - (n + m)) * sz ∧ v = .slice (some ⟨b', 0, none⟩) (n + m) c' ∧ L2 = pts b' 0 (cs ++ zs ++ sp) :: L) rfl rfl hd ?_ (by rintro _ _ ⟨b', c', zs, sp, h1, h2, h3, rfl, rfl⟩; exact kk b' c' zs sp h1 h2 h3)
  intro q hq F W hst
  have hkk := (tab_ok ht).k
  have hk2 := (tab_ok ht2).k
  simp only [TK.ok] at hkk hk2
  have hsize := fun w => sizeOf_ok (tab_ok hte) w
  have hzero := fun w => zero_ok (tab_ok hte) w
  obtain ⟨ti, hti0, htib⟩ := info_ok (tab_ok hte) W
  have hti : ∀ w, (typeInfo e).run P w = .ok ti w := by
    intro w
    obtain ⟨i, hi, _⟩ := (tab_ok hte).info
    have h1 : (typeInfo e).run P w = .ok i w := by simp [typeInfo, program, Sem.run, bind, Sem.bind, hi, pure]
    have h2 : (typeInfo e).run P W = .ok i W := by simp [typeInfo, program, Sem.run, bind, Sem.bind, hi, pure]
    rw [h2] at hti0; cases hti0; exact h1
  simp only at hsize hzero htib
  have hzs : z2.cells.size = sz := by have := Nat.eq_of_beq_eq_true hzz; simpa using this
  have hb := Nat.le_of_ble_eq_true hb
  have hw : IntKind.i64.wrap (m : Int) = m := wrap_id (by omega) (by simp only [lim] at hlim; omega)
  have hneg : ¬ ((m : Int) < 0) := by omega
  have hbig : ¬ ((m : Int) * (ti.bytes : Int) > 2 ^ 48) := by
    have h2 : m * ti.bytes ≤ lim * 32768 := Nat.mul_le_mul (by omega) (by omega)
    have h3 : lim * 32768 = 70368744177664 := by decide
    rw [h3] at h2
    have h4 : (m : Int) * (ti.bytes : Int) = ((m * ti.bytes : Nat) : Int) := (Int.natCast_mul _ _).symm
    rw [h4]
    intro h
    have h5 : (2 : Int) ^ 48 = 281474976710656 := by decide
    rw [h5] at h
    omega
  have hbig2 : ¬ ((281474976710656 : Int) < (m : Int) * (ti.bytes : Int)) := by
    intro h; apply hbig
    have h5 : (2 : Int) ^ 48 = 281474976710656 := by decide
    rw [h5]; exact h
  have hroom : ¬ (n + m ≤ c) := by omega
  have hno' : ¬ ((9223372036854775807 : Int) < ((n : Int) + (m : Int))) := by simp only [lim] at hlim; omega
  have hcap : ¬ (Builtin.nextslicecap (n + m) c * ti.bytes > 2 ^ 48) := by
    have h1 := nextcap_le (n + m) c (by omega)
    have h2 : Builtin.nextslicecap (n + m) c * ti.bytes ≤ (2 * (n + m) + 2000) * 32768 := Nat.mul_le_mul h1 (by rw [htib]; exact hb)
    have h3 : (2 * (n + m) + 2000) * 32768 ≤ (2 * 2147483648 + 2000) * 32768 := Nat.mul_le_mul_right _ (by simp only [lim] at hlim; omega)
    intro h
    have h4 := Nat.lt_of_lt_of_le h (Nat.le_trans h2 h3)
    omega
  let cap := (Question.appendCap (n + m) c e).cut (W.tape W.drawn (.appendCap (n + m) c e))
  have hcap1 : n + m ≤ cap := by simp only [cap, Question.cut]; omega
  have hmark : ∀ (k : Nat) (w : World), (askRoom k).run P w = .ok () w := by
    intro k w; unfold askRoom; split <;> rfl
  have hW1 : ∀ b v j, W.cell? ⟨b, j, none⟩ = some v → W.drew.cell? ⟨b, j, none⟩ = some v := fun _ _ _ h => h
  let zs : Array Value := if m * sz = 0 then #[] else Builtin.zeroCells z2.cells m
  have hzl : zs.toList.length = m * sz := by
    simp only [zs]
    split
    · rename_i h; simp [h]
    · rw [Array.length_toList, zeroCells_len, hzs]
  have hst4 := (hst.drew (W.drawn + 1)).alloc (cs.toArray ++ zs ++ Builtin.zeroCells z2.cells (cap - (n + m))) e
  refine ⟨.slice (some ⟨W.heap.size, 0, none⟩) (n + m) cap, { W with drawn := W.drawn + 1, heap := W.heap.push (.cells (cs.toArray ++ zs ++ Builtin.zeroCells z2.cells (cap - (n + m))) e) }, pts W.heap.size 0 (cs ++ zs.toList ++ (Builtin.zeroCells z2.cells (cap - (n + m))).toList) :: L, .inl ?_, ⟨_, _, _, _, hcap1, hzl, by rw [Array.length_toList, zeroCells_len, hzs], rfl, rfl⟩, ?_⟩
  · have hforced : (Question.appendCap (n + m) c e).forced = false := rfl
    have hold : (Builtin.firstCells sz n (.slice (some ⟨b, off, none⟩) n c)).run P W.drew = .ok cs.toArray W.drew := run_first (P := P) (b := ⟨b, off, none⟩) rfl hc (fun j v hj => hW1 _ _ _ (hs F W hst j v hj))
    simp [execOp, resolve, invoke, builtin, hq _ _ hx, hq _ _ hy, Builtin.append_, Builtin.lenOf, asInt, asIntOf, run_und hkk, run_und hk2, hsize, hti, hw, hneg, hbig, hbig2, hroom, hno', hcap, hmark, hforced]
    rw [hold]
    by_cases h0 : m * sz = 0
    · simp [h0, zs, hzero, newRow, newObj, Sem.run]
      exact ⟨rfl, rfl⟩
    · simp [h0, zs, hzero, newRow, newObj, Sem.run]
      exact ⟨rfl, rfl⟩
  · have : (cs.toArray ++ zs ++ Builtin.zeroCells z2.cells (cap - (n + m))).toList = cs ++ zs.toList ++ (Builtin.zeroCells z2.cells (cap - (n + m))).toList := by simp
    rw [this] at hst4
    exact hst4.ent Ent.swap
end
end Go.Sl

/-! Structs compared, shifts, texts made of bytes. -/
set_option linter.unusedVariables false
set_option linter.unusedSectionVars false
set_option linter.unusedSimpArgs false
namespace Go.Sl
/-- Are two scalars equal? -/
def eq1 : TK → Value → Value → Option Bool
  | .int _, .int _ a, .int _ b => some (decide (a = b))
  | .str, .string a, .string b => some (eqS a b)
  | .bool, .bool a, .bool b => some (a == b)
  | _, _, _ => none
def intsOk : TK → Value → Value → Bool
  | .int k, .int k1 _, .int k2 _ => decide (k1 = k2)
  | _, _, _ => true
def eqFs (tab : List TI) : List (Nat × Nat) → List Value → List Value → Option Bool
  | [], _, _ => some true
  | (off, ty) :: fs, xs, ys => match xs[off]?, ys[off]?, tget tab ty with
    | some u, some v, some ti => match eq1 ti.k u v with
      | some b => bif intsOk ti.k u v then match eqFs tab fs xs ys with
        | some r => some (b && r)
        | none => none
        else none
      | none => none
    | _, _, _ => none
def eqOk (P : Program) (t : Nat) : Bool := match P.underlying t with
  | some (.struct F) => F.toList.all (fun f => decide (f.name ≠ "_")) && !P.stoodInHeld t && !P.eqGuardType P.depth t
  | _ => false
section
variable {P : Program} [tb : Tab P]
theorem eq1_ok {t : Nat} {ti : TI} (ht : ti.ok P t) {u v : Value} {b : Bool} (h : eq1 ti.k u v = some b) (hi : intsOk ti.k u v = true) (d : Nat) (w : World) : (Op.equalIn (d + 1) t u v).run P w = .ok b w ∧ ti.k.agg = false := by
  obtain ⟨k, n1, n2, z⟩ := ti
  have hk := ht.k
  simp only at h hi hk ⊢
  unfold eq1 at h
  split at h <;> first | (cases h; done) | skip
  · rename_i k0 k1 a k2 b'
    have : k1 = k2 := by simpa [intsOk] using hi
    subst this
    cases h
    simp only [TK.ok] at hk
    refine ⟨?_, rfl⟩
    rw [run_equalIn_int w d t k1 k0 a b' hk]; rfl
  · cases h
    simp only [TK.ok] at hk
    refine ⟨?_, rfl⟩
    rw [run_equalIn_string w d t _ _ hk, toList_eq]
  · cases h
    simp only [TK.ok] at hk
    exact ⟨run_equalIn_bool' w d t _ _ hk, rfl⟩
theorem eqFs_ok (d : Nat) {xs ys : List Value} : ∀ {F : List Field} {b : Bool} (hn : F.all (fun f => decide (f.name ≠ "_")) = true) (h : eqFs tb.tab (F.map fun f => (f.offset, f.type)) xs ys = some b) (w : World), (Op.eqFields (d + 1) xs.toArray ys.toArray F).run P w = .ok b w
  | [], b, _, h, w => by simp only [List.map_nil, eqFs] at h; cases h; rfl
  | f :: F, b, hn, h, w => by
    simp only [List.all_cons, Bool.and_eq_true, decide_eq_true_eq] at hn
    simp only [List.map_cons, eqFs] at h
    split at h
    · rename_i u v ti hu hv hti
      split at h
      · rename_i b1 hb1
        cases hi : intsOk ti.k u v with
        | false => rw [hi] at h; cases h
        | true =>
          rw [hi] at h
          simp only [cond_true] at h
          split at h
          · rename_i r hr
            cases h
            obtain ⟨h1, h2⟩ := eq1_ok (tab_ok hti) hb1 hi d w
            have hp : ∀ (cs : List Value) (c : Value), cs[f.offset]? = some c → (part f.type cs.toArray f.offset).run P w = .ok c w := fun cs c hc => by
              simp only [part, Sem.run_bind, isAgg_ok (tab_ok hti), Result.andThen_ok, h2]
              simp [hc]
            simp only [Op.eqFields, if_pos hn.1, Sem.run_bind, hp _ _ hu, hp _ _ hv, h1, Result.andThen_ok, ne_eq, hn.1, not_false_eq_true, if_true]
            cases b1 with
            | true => simp only [Bool.not_true, Bool.false_eq_true, if_false, Bool.true_and]; exact eqFs_ok d hn.2 hr w
            | false => simp
          · cases h
      · cases h
    · cases h
variable {rd : Option Nat} {N : Nat} {T : TT} {L E L' L1 : List HP} {Q : Post} {ks : List K} {RR : TT → List HP → Prop}
variable {all : Array Oper} {rest : List Oper} {restX : XO} {d : Option Tmp} {ty : TypeId} {pos : String} {aft : Array Edge}
theorem rd_agg {op : BinOp} {x y : Operand} {t cx n1 n2 : Nat} {z : Value} {fs : List (Nat × Nat)} {xs ys : List Value} {b r : Bool} (hx : evO T x = some (.agg xs.toArray)) (hy : evO T y = some (.agg ys.toArray)) (ht : tget tb.tab t = some ⟨.st fs, n1, n2, z⟩)
    (he : eqFs tb.tab fs xs ys = some b) (hok : eqOk P t = true) (hr : (op = .eql ∧ r = b) ∨ (op = .neq ∧ r = !b)) : Reads P T L ⟨d, .binOp op t x y cx, ty, pos, aft, none⟩ (fun u L' => u = .bool r ∧ L' = L) := by
  intro q hq rr oo F hs
  refine ⟨_, L, ⟨rfl, rfl⟩, hs, fun w _ => ?_⟩
  have hk := (tab_ok ht).k
  simp only [TK.ok] at hk
  obtain ⟨G, hG, hm⟩ := hk
  unfold eqOk at hok
  rw [hG] at hok
  simp only [Bool.and_eq_true, Bool.not_eq_true'] at hok
  obtain ⟨⟨h1, h2⟩, h3⟩ := hok
  subst hm
  have hF : P.fieldsOf t = G := by unfold Program.fieldsOf; rw [hG]
  have hrun : (Op.equal t (.agg xs.toArray) (.agg ys.toArray)).run P w = .ok b w := by
    unfold Op.equal
    rw [show Op.maxDepth = 9998 + 1 + 1 from rfl, run_equalIn_struct w _ t xs.toArray ys.toArray (by rw [hF]; exact hG) h2, hF]
    exact eqFs_ok _ h1 he w
  have hg : (eqGuard op t x y (.agg xs.toArray) (.agg ys.toArray)).run P w = .ok () w := by
    rcases hr with ⟨rfl, _⟩ | ⟨rfl, _⟩ <;> simp [eqGuard, Sem.run_bind, run_program, h3]
  rcases hr with ⟨rfl, rfl⟩ | ⟨rfl, rfl⟩ <;> simp only [execOp, hq _ _ hx, hq _ _ hy, Sem.run_bind, hg, Result.andThen_ok, binOp, hrun, Sem.run_pure]
theorem SO.agg {op : BinOp} {x y : Operand} {t cx n1 n2 : Nat} {z : Value} {fs : List (Nat × Nat)} {xs ys : List Value} {b r : Bool} (hx : evO T x = some (.agg xs.toArray)) (hy : evO T y = some (.agg ys.toArray)) (ht : tget tb.tab t = some ⟨.st fs, n1, n2, z⟩)
    (he : eqFs tb.tab fs xs ys = some b) (hr : (op = .eql ∧ r = b) ∨ (op = .neq ∧ r = !b)) (hok : eqOk P t = true) (hd : dstOk N d = true) (kk : SO P rd N all rest (putD d (.bool r) T) L ks Q) : SO P rd N all (⟨d, .binOp op t x y cx, ty, pos, aft, none⟩ :: rest) T L ks Q :=
  SO.reads (rd_agg hx hy ht he hok hr) rfl rfl hd (by rintro _ _ ⟨rfl, rfl⟩; exact kk)
theorem SQ.agg {op : BinOp} {x y : Operand} {t cx n1 n2 : Nat} {z : Value} {fs : List (Nat × Nat)} {xs ys : List Value} {b r : Bool} (hx : evO T x = some (.agg xs.toArray)) (hy : evO T y = some (.agg ys.toArray)) (ht : tget tb.tab t = some ⟨.st fs, n1, n2, z⟩)
    (he : eqFs tb.tab fs xs ys = some b) (hr : (op = .eql ∧ r = b) ∨ (op = .neq ∧ r = !b)) (hok : eqOk P t = true) (hd : dstOk N d = true) (kk : SQ P N all rest (putD d (.bool r) T) L RR) : SQ P N all (⟨d, .binOp op t x y cx, ty, pos, aft, none⟩ :: rest) T L RR :=
  SQ.reads (rd_agg hx hy ht he hok hr) rfl hd (by rintro _ _ ⟨rfl, rfl⟩; exact kk)
theorem SX.agg {op : BinOp} {x y : Operand} {t cx n1 n2 : Nat} {z : Value} {fs : List (Nat × Nat)} {xs ys : List Value} {b r : Bool} (hx : evO T x = some (.agg xs.toArray)) (hy : evO T y = some (.agg ys.toArray)) (ht : tget tb.tab t = some ⟨.st fs, n1, n2, z⟩)
    (he : eqFs tb.tab fs xs ys = some b) (hr : (op = .eql ∧ r = b) ∨ (op = .neq ∧ r = !b)) (hok : eqOk P t = true) (hd : dstOk N d = true) (kk : SX P rd N all restX (putD d (.bool r) T) L E ks Q) : SX P rd N all (.item 0 ⟨d, .binOp op t x y cx, ty, pos, aft, none⟩ restX) T L E ks Q :=
  SX.reads (rd_agg hx hy ht he hok hr) rfl hd (by rintro _ _ ⟨rfl, rfl⟩; exact kk)
/-- Shifts to the right by a number that is known. -/
theorem rd_shr {x y : Operand} {t cx : Nat} {k k2 : IntKind} {a b : Int} {v : Value} (hx : evO T x = some (.int k a)) (hy : evO T y = some (.int k2 b)) (hb : decide (0 ≤ b ∧ b < k.bits) = true) (hv : Value.int k (a.fdiv (2 ^ b.toNat)) = v) :
    Reads P T L ⟨d, .binOp .shr t x y cx, ty, pos, aft, none⟩ (fun u L' => u = v ∧ L' = L) := by
  intro q hq rr oo F hs
  refine ⟨_, L, ⟨rfl, rfl⟩, hs, fun w _ => ?_⟩
  simp only [decide_eq_true_eq] at hb
  have h1 : (eqGuard .shr t x y (.int k a) (.int k2 b)).run P w = .ok () w := by unfold eqGuard; simp
  have h2 : min b.toNat k.bits = b.toNat := by omega
  simp only [execOp, hq _ _ hx, hq _ _ hy, Sem.run_bind, h1, Result.andThen_ok, binOp, Op.shift, if_neg (show ¬ b < 0 by omega), h2, Sem.run_pure, hv]
theorem SO.shr {x y : Operand} {t cx : Nat} {k k2 : IntKind} {a b : Int} {v : Value} (hx : evO T x = some (.int k a)) (hy : evO T y = some (.int k2 b)) (hb : decide (0 ≤ b ∧ b < k.bits) = true) (hv : Value.int k (a.fdiv (2 ^ b.toNat)) = v) (hd : dstOk N d = true)
    (kk : SO P rd N all rest (putD d v T) L ks Q) : SO P rd N all (⟨d, .binOp .shr t x y cx, ty, pos, aft, none⟩ :: rest) T L ks Q :=
  SO.reads (rd_shr hx hy hb hv) rfl rfl hd (by rintro _ _ ⟨rfl, rfl⟩; exact kk)
/-- A slice's value alone, in a region of open order. -/
theorem rd_sliceN {x : Operand} {lo hi : Option Operand} {b o n c i j t e sz n1 n2 b1 : Nat} {z z2 : Value} {ke : TK} (hx : evO T x = some (.slice (some ⟨b, o, none⟩) n c)) {vl vh : Option Value} {k1 k2 : IntKind}
    (hlo : evOo T lo = some vl) (hhi : evOo T hi = some vh) (ht : tget tb.tab t = some ⟨.sl e, n1, n2, z⟩) (hte : tget tb.tab e = some ⟨ke, sz, b1, z2⟩) (hl : vl = some (.int k1 i) ∨ (vl = none ∧ i = 0)) (hv : vh = some (.int k2 j) ∨ (vh = none ∧ j = n)) (h1 : i ≤ j) (h2 : j ≤ c) (h3 : n ≤ c) (h4 : i < c ∨ i = 0) :
    Reads P T L ⟨d, .slice t x lo hi none, ty, pos, aft, none⟩ (fun u L' => u = .slice (some ⟨b, o + i * sz, none⟩) (j - i) (c - i) ∧ L' = L) := by
  intro q hq rr oo F hs
  refine ⟨_, L, ⟨rfl, rfl⟩, hs, fun w _ => ?_⟩
  simp only [execOp, hq _ _ hx, evOo_ok hq hlo, evOo_ok hq hhi, Option.map_none, Sem.run_bind, run_slice_lo ht hte h1 h2 h3 hl hv, Result.andThen_ok]
  have e : (if c = i then some (⟨b, o, none⟩ : Addr) else (some (⟨b, o, none⟩ : Addr)).map (·.add (i * sz))) = some ⟨b, o + i * sz, none⟩ := by
    split
    · rename_i hc
      have : i = 0 := by omega
      subst this; simp
    · simp only [Option.map_some, eadr_base (a := ⟨b, o, none⟩) rfl]
  rw [e]; rfl
theorem SX.sliceN {x : Operand} {lo hi : Option Operand} {b o n c i j t e sz n1 n2 b1 : Nat} {z z2 : Value} {ke : TK} (hx : evO T x = some (.slice (some ⟨b, o, none⟩) n c)) {vl vh : Option Value} {k1 k2 : IntKind}
    (hlo : evOo T lo = some vl) (hhi : evOo T hi = some vh) (ht : tget tb.tab t = some ⟨.sl e, n1, n2, z⟩) (hte : tget tb.tab e = some ⟨ke, sz, b1, z2⟩) (hd : dstOk N d = true) (hl : vl = some (.int k1 i) ∨ (vl = none ∧ i = 0)) (hv : vh = some (.int k2 j) ∨ (vh = none ∧ j = n)) (h1 : i ≤ j) (h2 : j ≤ c) (h3 : n ≤ c) (h4 : i < c ∨ i = 0)
    (kk : SX P rd N all restX (putD d (.slice (some ⟨b, o + i * sz, none⟩) (j - i) (c - i)) T) L E ks Q) : SX P rd N all (.item 0 ⟨d, .slice t x lo hi none, ty, pos, aft, none⟩ restX) T L E ks Q :=
  SX.reads (rd_sliceN hx hlo hhi ht hte hl hv h1 h2 h3 h4) rfl hd (by rintro _ _ ⟨rfl, rfl⟩; exact kk)
/-- A text made of own bytes. -/
def bytesS (l : List Int) : ByteArray := ⟨(l.map fun n => UInt8.ofNat n.toNat).toArray⟩
theorem SO.strOf {x : Operand} {t t2 e n1 n2 n3 n4 n5 n6 : Nat} {z0 z1 z2 : Value} {b o n c : Nat} {l : List Int} {vs : List Value} (hx : evO T x = some (.slice (some ⟨b, o, none⟩) n c)) (ht : tget tb.tab t = some ⟨.sl e, n3, n4, z1⟩) (hte : tget tb.tab e = some ⟨.int .u8, n5, n6, z2⟩) (ht2 : tget tb.tab t2 = some ⟨.str, n1, n2, z0⟩)
    (hh : Take (pts b o vs) L L') (hl : vs = l.map (Value.int .u8)) (hn : n = l.length) (hd : dstOk N d = true)
    (kk : SO P rd N all rest (putD d (.string (bytesS l)) T) L ks Q) : SO P rd N all (⟨d, .convert t t2 x, ty, pos, aft, none⟩ :: rest) T L ks Q := by
  refine SO.run (R := fun v L2 => v = .string (bytesS l) ∧ L2 = L) rfl rfl hd ?_ (by rintro _ _ ⟨rfl, rfl⟩; exact kk)
  intro q hq F w hst
  have hk1 := (tab_ok ht).k
  have hk2 := (tab_ok ht2).k
  have hke := (tab_ok hte).k
  simp only [TK.ok] at hk1 hk2 hke
  subst hl hn
  have h2 : St w (pts b o (l.map (Value.int .u8)) :: F :: L') := (hst.ent (Ent.cons hh.ent)).ent Ent.swap
  have hcs := loadCells_ok (P := P) (w := w) (b := b) (off := o) (l.map (Value.int .u8)) 0 #[] (fun j v hj => by have := (h2.cell hj).1; simpa using this)
  rw [List.length_map] at hcs
  refine ⟨_, w, L, .inl ?_, ⟨rfl, rfl⟩, hst⟩
  simp only [execOp, hq _ _ hx, convert, Sem.run_bind, run_und hk1, run_und hk2, run_und hke, Result.andThen_ok, Conv.bytesToString, loadCells, hcs]
  have hloop : ∀ (l : List Int) (s : ByteArray), (forIn (l.map (Value.int .u8)) s (fun c (s : ByteArray) => (do
      let .int .u8 n := c | stuck "bytesToString: byte expected"
      Pure.pure (ForInStep.yield (s.push (UInt8.ofNat n.toNat))) : Sem (ForInStep ByteArray)))).run P w = .ok ⟨s.data ++ (l.map fun n => UInt8.ofNat n.toNat).toArray⟩ w := by
    intro l
    induction l with
    | nil => intro s; simp
    | cons a l ih =>
      intro s
      simp only [List.map_cons, List.forIn_cons, Sem.run_bind, Sem.run_pure, Result.andThen_ok]
      rw [ih]
      congr 2
      simp [ByteArray.push]
  have := hloop l ByteArray.empty
  rw [← Array.forIn_toList]
  simp only [Array.toList_append, List.toList_toArray, List.nil_append, Array.toList_empty] at *
  erw [this]
  have he : (⟨ByteArray.empty.data ++ (l.map fun n => UInt8.ofNat n.toNat).toArray⟩ : ByteArray) = bytesS l := by
    unfold bytesS
    congr 1
    exact Array.empty_append
  rw [he]
  rfl
end
end Go.Sl

/-! Books, plainly: what is wrong with one; numbers in decimal. -/
set_option linter.unusedVariables false
set_option linter.unusedSimpArgs false
namespace Go.Sl
open Go.Lib (compareBytes)
theorem less_cmp : ∀ a b : List UInt8, Op.bytesLess a b = decide (compareBytes a b < 0)
  | [], [] => rfl
  | [], _ :: _ => rfl
  | _ :: _, [] => rfl
  | x :: a, y :: b => by
    simp only [Op.bytesLess, compareBytes]
    by_cases h1 : x < y
    · simp [h1]
    · by_cases h2 : y < x
      · have : x ≠ y := fun e => by subst e; exact h1 h2
        simp [h1, h2, this]
      · have : x = y := UInt8.le_antisymm (UInt8.not_lt.1 h2) (UInt8.not_lt.1 h1)
        subst this
        simp [h1, less_cmp a b]
theorem ltS_cmp (a b : ByteArray) : ltS a b = decide (cmpB a b < 0) := less_cmp _ _
theorem leS_cmp (a b : ByteArray) : (ltS a b || eqS a b) = !decide (cmpB b a < 0) := by
  rw [ltS_cmp]
  have h := cmpB_neg a b
  by_cases h1 : cmpB a b < 0
  · have h2 : ¬ cmpB b a < 0 := by omega
    simp [h1, h2]
  · by_cases h2 : cmpB a b = 0
    · have h3 : ¬ cmpB b a < 0 := by omega
      have h4 : eqS a b = true := eqS_iff.2 (cmpB_zero h2)
      simp [h1, h3, h4]
    · have h3 : cmpB b a < 0 := by omega
      have h4 : eqS a b = false := by rw [Bool.eq_false_iff]; intro h; rw [eqS_iff.1 h, cmpB_self] at h2; exact h2 rfl
      simp [h1, h3, h4]
/-- What is wrong with a cell. -/
def clBad (c : Cl) : Int := if cellBad c.key c.val ≠ 0 then cellBad c.key c.val else if c.site < 0 ∨ 8 ≤ c.site ∨ c.seq < 1 ∨ 1048576 < c.seq then 1 else 0
def riseOk (p : Option Cl) (c : Cl) : Bool := match p with
  | none => true
  | some q => decide (cmpB q.key c.key < 0)
def chkB : Option Cl → List Cl → Int
  | _, [] => 0
  | p, c :: b => if clBad c ≠ 0 then clBad c else if riseOk p c = false then 13 else chkB (some c) b
/-- What stands ahead of a place. -/
def prevB (b : List Cl) (i : Nat) : Option Cl := if i = 0 then none else b[i - 1]?
theorem chkB_step {b : List Cl} {i : Nat} {c : Cl} (hc : b[i]? = some c) (h : chkB none b = chkB (prevB b i) (b.drop i)) : chkB none b = if clBad c ≠ 0 then clBad c else if riseOk (prevB b i) c = false then 13 else chkB (prevB b (i + 1)) (b.drop (i + 1)) := by
  have hi := List.getElem?_eq_some_iff.1 hc
  rw [h, List.drop_eq_getElem_cons hi.1, hi.2, chkB]
  rw [show prevB b (i + 1) = some c by unfold prevB; simp [hc]]
theorem chkB_end {b : List Cl} {i : Nat} (hi : b.length ≤ i) (h : chkB none b = chkB (prevB b i) (b.drop i)) : chkB none b = 0 := by
  rw [h, List.drop_eq_nil_of_le hi]; rfl
theorem chkB_zero : ∀ {b : List Cl} {p : Option Cl}, chkB p b = 0 → (∀ c ∈ b, clBad c = 0) ∧ ris b ∧ ∀ q, p = some q → ∀ c ∈ b, cmpB q.key c.key < 0
  | [], p, _ => ⟨fun _ h => (by cases h), List.Pairwise.nil, fun _ _ _ h => (by cases h)⟩
  | c :: b, p, h => by
    simp only [chkB] at h
    split at h
    · rename_i h1; exact absurd h h1
    · rename_i h1
      have h1 : clBad c = 0 := by simpa using h1
      split at h
      · cases h
      · rename_i h2
        obtain ⟨h3, h4, h5⟩ := chkB_zero h
        refine ⟨fun x hx => ?_, List.pairwise_cons.2 ⟨h5 c rfl, h4⟩, fun q hq x hx => ?_⟩
        · rcases List.mem_cons.1 hx with rfl | hx
          · exact h1
          · exact h3 x hx
        · subst hq
          have hqc : cmpB q.key c.key < 0 := by simpa [riseOk] using h2
          rcases List.mem_cons.1 hx with rfl | hx
          · exact hqc
          · exact cmpB_trans hqc (h5 c rfl x hx)
theorem chkB_good : ∀ {b : List Cl} {p : Option Cl}, (∀ c ∈ b, clBad c = 0) → ris b → (∀ q, p = some q → ∀ c ∈ b, cmpB q.key c.key < 0) → chkB p b = 0
  | [], _, _, _, _ => rfl
  | c :: b, p, h1, h2, h3 => by
    obtain ⟨h4, h5⟩ := List.pairwise_cons.1 h2
    have hr : riseOk p c = true := by
      cases p with
      | none => rfl
      | some q => simpa [riseOk] using h3 q rfl c (by simp)
    simp only [chkB, h1 c (by simp), hr]
    simp
    exact chkB_good (fun x hx => h1 x (by simp [hx])) h5 (fun q hq x hx => by cases hq; exact h4 x hx)
/-! ### Decimal -/
def dig (d : Nat) : ByteArray := bytesS [48 + (d : Int)]
def decF : Nat → Nat → ByteArray
  | 0, _ => bE
  | f + 1, n => if n < 10 then dig n else decF f (n / 10) ++ dig (n % 10)
/-- A number in decimal. -/
def decS (n : Nat) : ByteArray := decF 20 n
def preF (f n : Nat) : ByteArray := if n < 10 then bE else decF f (n / 10)
theorem bE_app (a : ByteArray) : bE ++ a = a := by
  apply ByteArray.ext
  simp [bE]
theorem decF_pre (f n : Nat) : decF (f + 1) n = preF f n ++ dig (n % 10) := by
  unfold preF
  simp only [decF]
  split
  · rename_i h; rw [bE_app, Nat.mod_eq_of_lt h]
  · rfl
theorem preF_step {f n : Nat} (h : ¬ n < 10) : preF (f + 1) n = preF f (n / 10) ++ dig (n / 10 % 10) := by
  rw [show preF (f + 1) n = decF (f + 1) (n / 10) by unfold preF; rw [if_neg h], decF_pre]
theorem decF_size : ∀ (f n : Nat), (decF f n).size ≤ f
  | 0, _ => Nat.le_refl 0
  | f + 1, n => by
    have := decF_size f (n / 10)
    simp only [decF]
    split
    · show 1 ≤ f + 1; omega
    · rw [ByteArray.size_append]
      show _ + 1 ≤ f + 1; omega
theorem decS_size (n : Nat) : (decS n).size ≤ 20 := decF_size 20 n
end Go.Sl

/-! Texts of numbers, vectors and records, read: plainly. -/
set_option linter.unusedVariables false
set_option linter.unusedSimpArgs false
namespace Go.Sl
/-- A number up to a bound that is just so written. -/
def numT (most : Nat) (l : Tx) : Option Nat := if canD l = true ∧ valD l ≤ most then some (valD l) else none
/-- What stands between a vector's brackets. -/
def inV (l : Tx) : Option Tx := match l with
  | b :: r => if b = 91 ∧ r.getLast? = some 93 then some r.dropLast else none
  | [] => none
def wordsV (ws : List Tx) : Option (List Int) :=
  if ws.all canD = true ∧ ws.getLast? ≠ some [48] ∧ ws.length ≤ 8 ∧ (ws.all fun w => decide (valD w ≤ 1048576)) = true then some (ws.map fun w => (valD w : Int)) else none
/-- A vector's text. -/
def vecT (l : Tx) : Option (List Int) := match inV l with
  | none => none
  | some [] => some []
  | some m => wordsV (partsC 32 m)
/-- Where a text of two bytes stands first: ahead of it, behind it. -/
def cut2 (c d : UInt8) : Tx → Option (Tx × Tx)
  | [] => none
  | [_] => none
  | a :: b :: r => if a = c ∧ b = d then some ([], r) else (cut2 c d (b :: r)).map fun x => (a :: x.1, x.2)
def cut1 (c : UInt8) (l : Tx) : Option (Tx × Tx) := if hasC c l then some (bef c l, behd c l) else none
def txB (l : Tx) : ByteArray := ⟨l.toArray⟩
/-- A record's text. -/
def recT (l : Tx) : Option Rc := do
  let (a, l) ← cut1 58 l
  let (b, l) ← cut1 32 l
  let (c, l) ← cut2 93 32 l
  let (k, v) ← cut1 61 l
  let x ← numT 2147483647 a
  let y ← numT 2147483647 b
  let z ← vecT (c ++ [93])
  let r : Rc := ⟨x, y, z, txB k, txB v⟩
  if checkR r 8 = 0 then some r else none
/-- A segment's lines. -/
inductive Ln
  | put (pos : Nat) (r : Rc)
  | seal (n : Nat)
  | cut (n : Nat)
  | trim (n : Nat)
def lineT (l : Tx) : Option Ln := do
  let (k, l) ← cut1 32 l
  if k = [112] then
    let (w, t) ← cut1 32 l
    let n ← numT 2147483647 w
    let r ← recT t
    some (.put n r)
  else if hasC 32 l then none else do
    let n ← numT 2147483647 l
    if k = [115] then some (.seal n) else if k = [99] then some (.cut n) else if k = [116] then some (.trim n) else none
/-- A slot: its record, its line. -/
abbrev Slt := Rc × Nat
structure Sg where
  m : List (Int × Slt)
  sealed : Nat
  trim : Nat
def Sg.take (s : Sg) (i : Nat) (t : Tx) : Option Sg := match lineT t with
  | some (.put n r) => if ((s.m.any fun p => decide (p.1 = n)) || decide (n < s.trim)) then none else some { s with m := s.m ++ [((n : Int), r, i)] }
  | some (.seal n) => if n ≤ s.sealed then none else some { s with sealed := n }
  | some (.cut n) => some { s with m := s.m.filter fun p => decide (p.1 < n) }
  | some (.trim n) => if n ≤ s.trim then none else some { s with m := s.m.filter (fun p => decide ((n : Int) ≤ p.1)), trim := n }
  | none => none
/-- A disk's lines, taken up to the first that may not stand. -/
def Sg.open : Sg → Nat → List Tx → Sg × Nat
  | s, i, [] => (s, i)
  | s, i, t :: l => match s.take i t with
    | some s' => Sg.open s' (i + 1) l
    | none => (s, i)
end Go.Sl

/-! Numbers printed in decimal and read again. -/
set_option linter.unusedVariables false
namespace Go.Sl
theorem dg_nat {k : Nat} (h : k < 10) : (UInt8.ofNat (48 + k)).toNat = 48 + k := by
  rw [UInt8.toNat_ofNat']; omega
theorem dec_dig : ∀ (n : Nat), (Lib.decDigits n).all isDig = true ∧ valF 0 (Lib.decDigits n) = n ∧ Lib.decDigits n ≠ [] ∧ ((Lib.decDigits n).head? = some 48 → n = 0) := by
  intro n
  induction n using Nat.strongRecOn with
  | _ n ih =>
    rw [Lib.decDigits]
    split
    · rename_i h
      refine ⟨?_, ?_, by simp, ?_⟩
      · simp only [List.all_cons, List.all_nil, isDig, dg_nat h]; simp; omega
      · simp only [valF, List.foldl, stepV, dg_nat h]; omega
      · intro e
        simp only [List.head?_cons, Option.some.injEq] at e
        have := congrArg UInt8.toNat e
        rw [dg_nat h] at this
        have h0 : (48 : UInt8).toNat = 48 := rfl
        omega
    · rename_i h
      obtain ⟨h1, h2, h3, h4⟩ := ih (n / 10) (by omega)
      have hm : n % 10 < 10 := Nat.mod_lt _ (by decide)
      refine ⟨?_, ?_, by simp, ?_⟩
      · simp only [List.all_append, h1, List.all_cons, List.all_nil, isDig, dg_nat hm]; simp; omega
      · rw [valF_app, h2]; simp only [valF, List.foldl, stepV, dg_nat hm]; omega
      · intro e
        have e2 : (Lib.decDigits (n / 10)).head? = some 48 := by
          cases he : Lib.decDigits (n / 10) with
          | nil => exact absurd he h3
          | cons b r => rw [he] at e; exact e
        have := h4 e2
        omega
theorem dec_can (n : Nat) : canD (Lib.decDigits n) = true ∧ valD (Lib.decDigits n) = n := by
  obtain ⟨h1, h2, h3, h4⟩ := dec_dig n
  refine ⟨?_, h2⟩
  by_cases h0 : n = 0
  · subst h0; rw [Lib.decDigits, dif_pos (by decide)]; rfl
  · cases he : Lib.decDigits n with
    | nil => exact absurd he h3
    | cons b r =>
      rw [he] at h1 h4
      simp only [canD, h1, Bool.true_and]
      by_cases hb : b = 48
      · subst hb; exact absurd (h4 rfl) h0
      · simp [hb]
theorem parse_can : ∀ (l : Tx) (a : Nat), l.all isDig = true → a < 18446744073709551616 → (valF a l < 18446744073709551616 → Lib.parseUint10 a l = .ok (valF a l)) ∧ (18446744073709551616 ≤ valF a l → Lib.parseUint10 a l = .range)
  | [], a, _, h => ⟨fun _ => rfl, fun h2 => absurd h2 (by show ¬ _ ≤ a; omega)⟩
  | b :: r, a, hd, h => by
    simp only [List.all_cons, Bool.and_eq_true, isDig, decide_eq_true_eq] at hd
    have hs : valF a (b :: r) = valF (stepV a b) r := rfl
    have hm := valF_mono r (stepV a b)
    have hst : stepV a b = a * 10 + (b.toNat - 48) := by unfold stepV; omega
    rw [hs]
    simp only [Lib.parseUint10, hd.1, and_self, if_true]
    by_cases h1 : 1844674407370955162 ≤ a
    · rw [if_pos h1]
      exact ⟨fun h2 => by omega, fun _ => rfl⟩
    · rw [if_neg h1]
      by_cases h3 : 18446744073709551616 ≤ a * 10 + (b.toNat - 48)
      · rw [if_pos h3]
        exact ⟨fun h2 => by omega, fun _ => rfl⟩
      · rw [if_neg h3, ← hst]
        exact parse_can r (stepV a b) (by simpa [isDig] using hd.2) (by omega)
/-- What Atoi tells of a decimal. -/
theorem atoi_can {l : Tx} (h : canD l = true) : (valD l < 9223372036854775808 → Lib.atoiAll l = .ok (valD l : Int)) ∧ (9223372036854775808 ≤ valD l → Lib.atoiAll l = .range) := by
  cases l with
  | nil => cases h
  | cons b r =>
    simp only [canD, Bool.and_eq_true] at h
    have hb : 48 ≤ b.toNat ∧ b.toNat ≤ 57 := by
      have := h.1
      simp only [List.all_cons, Bool.and_eq_true, isDig, decide_eq_true_eq] at this
      exact this.1
    obtain ⟨h1, h2⟩ := parse_can (b :: r) 0 h.1 (by decide)
    have n43 : ¬ b.toNat = 43 := by omega
    have n45 : ¬ b.toNat = 45 := by omega
    have hm : Lib.parseMag (b :: r) = Lib.parseUint10 0 (b :: r) := by unfold Lib.parseMag; rw [if_neg (by simp)]
    unfold valD
    simp only [Lib.atoiAll, n43, n45, or_self, if_false, hm, false_and, not_false_eq_true, true_and]
    constructor
    · intro hv
      rw [h1 (by omega)]
      show (if 9223372036854775808 ≤ valF 0 (b :: r) then _ else _) = _
      rw [if_neg (by omega)]
    · intro hv
      by_cases h3 : valF 0 (b :: r) < 18446744073709551616
      · rw [h1 h3]
        show (if 9223372036854775808 ≤ valF 0 (b :: r) then _ else _) = _
        rw [if_pos hv]
      · rw [h2 (by omega)]
end Go.Sl

/-! What is printed is read again. -/
set_option linter.unusedVariables false
set_option linter.unusedSimpArgs false
namespace Go.Sl
def joinX : List Tx → Tx
  | [] => []
  | w :: ws => match ws with
    | [] => w
    | _ :: _ => w ++ 32 :: joinX ws
theorem parts_word {c : UInt8} : ∀ {w : Tx}, hasC c w = false → partsC c w = [w]
  | [], _ => rfl
  | b :: w, h => by
    unfold hasC at h
    simp only [List.any_cons, Bool.or_eq_false_iff, decide_eq_false_iff_not] at h
    simp only [partsC, h.1, if_false, parts_word (w := w) h.2]
theorem parts_cons {c : UInt8} : ∀ {w m : Tx}, hasC c w = false → partsC c (w ++ c :: m) = w :: partsC c m
  | [], m, _ => by simp [partsC]
  | b :: w, m, h => by
    unfold hasC at h
    simp only [List.any_cons, Bool.or_eq_false_iff, decide_eq_false_iff_not] at h
    simp only [List.cons_append, partsC, h.1, if_false, parts_cons (w := w) (m := m) h.2]
theorem parts_join : ∀ {ws : List Tx}, ws ≠ [] → (∀ w ∈ ws, hasC 32 w = false) → partsC 32 (joinX ws) = ws
  | [], h, _ => absurd rfl h
  | [w], _, h => parts_word (h w (by simp))
  | w :: u :: ws, _, h => by
    rw [show joinX (w :: u :: ws) = w ++ 32 :: joinX (u :: ws) from rfl, parts_cons (h w (by simp)), parts_join (by simp) fun x hx => h x (by simp [hx])]
theorem dec_no {c : UInt8} (hc : ¬ (48 ≤ c.toNat ∧ c.toNat ≤ 57)) (n : Nat) : hasC c (Lib.decDigits n) = false := by
  obtain ⟨h1, _⟩ := dec_dig n
  unfold hasC
  rw [List.any_eq_false]
  intro b hb
  have := List.all_eq_true.1 h1 b hb
  simp only [isDig, Bool.and_eq_true, decide_eq_true_eq] at this
  simp only [decide_eq_true_eq]
  rintro rfl
  exact hc this
theorem joinX_no {c : UInt8} (hc : c ≠ 32) : ∀ {ws : List Tx}, (∀ w ∈ ws, hasC c w = false) → hasC c (joinX ws) = false
  | [], _ => rfl
  | [w], h => h w (by simp)
  | w :: u :: ws, h => by
    rw [show joinX (w :: u :: ws) = w ++ 32 :: joinX (u :: ws) from rfl]
    have h1 := h w (by simp)
    have h2 := joinX_no hc (ws := u :: ws) fun x hx => h x (by simp [hx])
    unfold hasC at h1 h2 ⊢
    rw [List.any_append, List.any_cons, h1, h2]
    simp [Ne.symm hc]
theorem joinX_ne {ws : List Tx} (h : ws ≠ []) (hw : ∀ w ∈ ws, w ≠ []) : joinX ws ≠ [] := by
  cases ws with
  | nil => exact absurd rfl h
  | cons w ws =>
    cases ws with
    | nil => exact hw w (by simp)
    | cons u ws => simp [joinX]
/-- Without the noughts at its end. -/
def trimV : List Int → List Int
  | [] => []
  | n :: l => match trimV l with
    | [] => if n = 0 then [] else [n]
    | m :: r => n :: m :: r
theorem trimV_last : ∀ (l : List Int), (trimV l).getLast? ≠ some 0
  | [] => by simp [trimV]
  | n :: l => by
    have ih := trimV_last l
    simp only [trimV]
    split
    · split
      · simp
      · rename_i h; simpa using h
    · rename_i m r he
      rw [he] at ih
      rw [List.getLast?_cons_cons]; exact ih
theorem trimV_mem : ∀ {l : List Int} {x : Int}, x ∈ trimV l → x ∈ l
  | [], x, h => by simp [trimV] at h
  | n :: l, x, h => by
    simp only [trimV] at h
    split at h
    · split at h
      · simp at h
      · simp at h; simp [h]
    · rename_i m r he
      rcases List.mem_cons.1 h with h | h
      · simp [h]
      · rw [← he] at h; exact List.mem_cons_of_mem _ (trimV_mem h)
theorem trimV_len : ∀ (l : List Int), (trimV l).length ≤ l.length
  | [] => Nat.le_refl _
  | n :: l => by
    have ih := trimV_len l
    simp only [trimV]
    split
    · split <;> simp
    · rename_i m r he
      rw [he] at ih
      simp only [List.length_cons] at ih ⊢; omega
/-- A vector's text. -/
def vecX (v : List Int) : Tx := 91 :: (joinX ((trimV v).map fun n => Lib.decDigits n.toNat) ++ [93])
theorem dec_zero {n : Nat} (h : Lib.decDigits n = [48]) : n = 0 := (dec_dig n).2.2.2 (by rw [h]; rfl)
theorem vec_round {v : List Int} (h : v.length ≤ 8) (hb : ∀ x ∈ v, 0 ≤ x ∧ x ≤ 1048576) : vecT (vecX v) = some (trimV v) := by
  have hi : inV (vecX v) = some (joinX ((trimV v).map fun n => Lib.decDigits n.toNat)) := by
    unfold vecX inV
    simp
  unfold vecT
  rw [hi]
  by_cases he : trimV v = []
  · rw [he]; rfl
  · have hne : ((trimV v).map fun n => Lib.decDigits n.toNat) ≠ [] := by simpa using he
    have hj := joinX_ne hne (by
      intro w hw
      obtain ⟨n, _, rfl⟩ := List.mem_map.1 hw
      exact (dec_dig n.toNat).2.2.1)
    have hp := parts_join hne (by
      intro w hw
      obtain ⟨n, _, rfl⟩ := List.mem_map.1 hw
      exact dec_no (by decide) _)
    have hall : ∀ x ∈ trimV v, 0 ≤ x ∧ x ≤ 1048576 := fun x hx => hb x (trimV_mem hx)
    have hw : wordsV ((trimV v).map fun n => Lib.decDigits n.toNat) = some (trimV v) := by
      unfold wordsV
      rw [if_pos]
      · congr 1
        rw [List.map_map]
        conv => rhs; rw [← List.map_id (trimV v)]
        refine List.map_congr_left fun x hx => ?_
        simp only [Function.comp, (dec_can x.toNat).2, id]
        have := (hall x hx).1; omega
      · refine ⟨?_, ?_, ?_, ?_⟩
        · rw [List.all_eq_true]; intro w hw
          obtain ⟨n, _, rfl⟩ := List.mem_map.1 hw
          exact (dec_can n.toNat).1
        · rw [List.getLast?_map]
          intro e
          obtain ⟨n, hn, hz⟩ := Option.map_eq_some_iff.1 e
          have h0 := dec_zero hz
          have := (hall n (List.mem_of_getLast? hn)).1
          have hn0 : n = 0 := by omega
          subst hn0
          exact trimV_last v hn
        · rw [List.length_map]; exact Nat.le_trans (trimV_len v) h
        · rw [List.all_eq_true]; intro w hw
          obtain ⟨n, hn, rfl⟩ := List.mem_map.1 hw
          simp only [(dec_can n.toNat).2, decide_eq_true_eq]
          have := hall n hn; omega
    cases hm : joinX ((trimV v).map fun n => Lib.decDigits n.toNat) with
    | nil => exact absurd hm hj
    | cons b r =>
      show wordsV (partsC 32 (b :: r)) = _
      rw [← hm, hp, hw]
end Go.Sl

/-! Records printed and read again. -/
set_option linter.unusedVariables false
set_option linter.unusedSimpArgs false
namespace Go.Sl
theorem has_app (c : UInt8) (a m : Tx) : hasC c (a ++ m) = (hasC c a || hasC c m) := by unfold hasC; rw [List.any_append]
theorem cut1_app {c : UInt8} {a m : Tx} (h : hasC c a = false) : cut1 c (a ++ c :: m) = some (a, m) := by
  obtain ⟨h1, h2⟩ := bef_app (m := m) h
  unfold cut1
  rw [if_pos (by rw [has_app]; unfold hasC; simp), h1, h2]
theorem cut2_app {c d : UInt8} : ∀ {a m : Tx}, hasC c a = false → cut2 c d (a ++ c :: d :: m) = some (a, m)
  | [], m, _ => by simp [cut2]
  | [b], m, h => by
    unfold hasC at h
    simp only [List.any_cons, Bool.or_eq_false_iff, decide_eq_false_iff_not] at h
    simp [cut2, h.1]
  | b :: x :: a, m, h => by
    have h' := h
    unfold hasC at h
    simp only [List.any_cons, Bool.or_eq_false_iff, decide_eq_false_iff_not] at h
    have ih := cut2_app (c := c) (d := d) (a := x :: a) (m := m) (by unfold hasC; simp only [List.any_cons, Bool.or_eq_false_iff, decide_eq_false_iff_not]; exact h.2)
    rw [show (b :: x :: a) ++ c :: d :: m = b :: ((x :: a) ++ c :: d :: m) from rfl]
    rw [show (x :: a) ++ c :: d :: m = x :: (a ++ c :: d :: m) from rfl] at ih ⊢
    simp only [cut2, h.1, false_and, if_false] at ih ⊢
    rw [ih]; rfl
/-- A record's text. -/
def recX (r : Rc) : Tx := Lib.decDigits r.site.toNat ++ 58 :: (Lib.decDigits r.seq.toNat ++ 32 :: (vecX r.dep ++ 32 :: (r.key.data.toList ++ 61 :: r.val.data.toList)))
theorem vecBad_all : ∀ {l : List Int}, vecBad l = 0 → ∀ x ∈ l, 0 ≤ x ∧ x ≤ 1048576
  | [], _, x, hx => by cases hx
  | y :: l, h, x, hx => by
    simp only [vecBad] at h
    split at h
    · cases h
    · split at h
      · cases h
      · rcases List.mem_cons.1 hx with rfl | hx
        · omega
        · exact vecBad_all h x hx
theorem vecBad_of : ∀ {l : List Int}, (∀ x ∈ l, 0 ≤ x ∧ x ≤ 1048576) → vecBad l = 0
  | [], _ => rfl
  | y :: l, h => by
    have := h y (by simp)
    simp only [vecBad]
    rw [if_neg (by omega), if_neg (by omega)]
    exact vecBad_of fun x hx => h x (by simp [hx])
theorem trimV_at : ∀ (l : List Int) (i : Nat), (trimV l).getD i 0 = l.getD i 0
  | [], i => rfl
  | n :: l, i => by
    have ih := trimV_at l
    simp only [trimV]
    split
    · rename_i he
      rw [he] at ih
      split
      · rename_i h0
        cases i with
        | zero => simp [h0]
        | succ i => simpa using ih i
      · cases i with
        | zero => simp
        | succ i => simpa using ih i
    · rename_i m r he
      rw [he] at ih
      cases i with
      | zero => simp
      | succ i => simpa using ih i
/-- A record that is right. -/
structure Rok (r : Rc) : Prop where
  site : 0 ≤ r.site ∧ r.site < 8
  seq : 1 ≤ r.seq ∧ r.seq ≤ 1048576
  len : r.dep.length ≤ 8
  dep : ∀ x ∈ r.dep, 0 ≤ x ∧ x ≤ 1048576
  own : getI r.dep r.site < r.seq
  key : 1 ≤ r.key.size ∧ r.key.size ≤ 8
  name : nameOk r.key = true
  val : valOk r.val = true
  vlen : r.val.size ≤ 16
theorem rok_of {r : Rc} (h : checkR r 8 = 0) : Rok r := by
  unfold checkR at h
  by_cases h1 : (8 : Int) < 1 ∨ (8 : Int) < 8 ∨ r.site < 0 ∨ 8 ≤ r.site ∨ r.seq < 1 ∨ 1048576 < r.seq
  · rw [if_pos h1] at h; cases h
  rw [if_neg h1] at h
  by_cases h2 : checkV r.dep 8 ≠ 0
  · rw [if_pos h2] at h; exact absurd h h2
  rw [if_neg h2] at h
  by_cases h3 : r.seq ≤ getI r.dep r.site
  · rw [if_pos h3] at h; cases h
  rw [if_neg h3] at h
  by_cases h4 : r.key.size < 1 ∨ 8 < r.key.size ∨ nameOk r.key = false
  · rw [if_pos h4] at h; cases h
  rw [if_neg h4] at h
  by_cases h5 : valOk r.val = false
  · rw [if_pos h5] at h; cases h
  rw [if_neg h5] at h
  by_cases h6 : 16 < r.val.size
  · rw [if_pos h6] at h; cases h
  unfold checkV at h2
  rw [if_neg (by omega)] at h2
  by_cases hl : (8 : Int) < r.dep.length
  · rw [if_pos hl] at h2; exact absurd (by decide) h2
  rw [if_neg hl] at h2
  have hv : vecBad r.dep = 0 := Decidable.not_not.1 h2
  simp only [not_or, Bool.not_eq_false] at h4 h5
  exact ⟨by omega, by omega, by omega, vecBad_all hv, by omega, by omega, h4.2.2, h5, by omega⟩
theorem rok_to {r : Rc} (h : Rok r) : checkR r 8 = 0 := by
  have h1 := h.site; have h2 := h.seq; have h3 := h.len; have h4 := h.key; have h5 := h.own; have h6 := h.vlen
  have hv : checkV r.dep 8 = 0 := by
    unfold checkV
    rw [if_neg (show ¬ ((8 : Int) < 1 ∨ (8 : Int) < 8) by omega), if_neg (show ¬ (8 : Int) < (r.dep.length : Int) by omega), vecBad_of h.dep]
  have n4 : ¬ (r.key.size < 1 ∨ 8 < r.key.size ∨ nameOk r.key = false) := by
    rintro (k | k | k)
    · omega
    · omega
    · rw [h.name] at k; cases k
  have n5 : ¬ valOk r.val = false := by rw [h.val]; decide
  have n1 : ¬ ((8 : Int) < 1 ∨ (8 : Int) < 8 ∨ r.site < 0 ∨ 8 ≤ r.site ∨ r.seq < 1 ∨ 1048576 < r.seq) := by omega
  unfold checkR
  rw [if_neg n1, if_neg (fun k => k hv), if_neg (show ¬ r.seq ≤ getI r.dep r.site by omega), if_neg n4, if_neg n5, if_neg (show ¬ 16 < r.val.size by omega)]
def Rc.trim (r : Rc) : Rc := { r with dep := trimV r.dep }
theorem rok_trim {r : Rc} (h : Rok r) : Rok r.trim :=
  ⟨h.site, h.seq, Nat.le_trans (trimV_len r.dep) h.len, fun x hx => h.dep x (trimV_mem hx), by
    have := h.own
    show getI (trimV r.dep) r.site < r.seq
    unfold getI at this ⊢
    rw [trimV_at]; exact this, h.key, h.name, h.val, h.vlen⟩
theorem num_round {m : Nat} {x : Int} (h0 : 0 ≤ x) (h : x ≤ m) : numT m (Lib.decDigits x.toNat) = some x.toNat := by
  unfold numT
  rw [(dec_can x.toNat).1, (dec_can x.toNat).2, if_pos ⟨rfl, by omega⟩]
theorem name_no {s : ByteArray} (h : nameOk s = true) : hasC 61 s.data.toList = false := by
  unfold hasC
  rw [List.any_eq_false]
  intro b hb
  have := List.all_eq_true.1 h b hb
  simp only [decide_eq_true_eq]
  rintro rfl
  exact absurd this (by decide)
theorem txB_list (s : ByteArray) : txB s.data.toList = s := rfl
/-- A record that is right is read as it was printed, its vector without the noughts at the end. -/
theorem rec_round {r : Rc} (h : checkR r 8 = 0) : recT (recX r) = some r.trim := by
  have k := rok_of h
  have ht := rok_to (rok_trim k)
  have hs := k.site; have hq := k.seq
  have hv : ∀ m : Tx, vecX r.dep ++ 32 :: m = (91 :: joinX ((trimV r.dep).map fun n => Lib.decDigits n.toNat)) ++ 93 :: 32 :: m := fun m => by unfold vecX; simp
  have hn : hasC 93 (91 :: joinX ((trimV r.dep).map fun n => Lib.decDigits n.toNat)) = false := by
    have := joinX_no (c := 93) (by decide) (ws := (trimV r.dep).map fun n => Lib.decDigits n.toNat) (by
      intro w hw
      obtain ⟨n, _, rfl⟩ := List.mem_map.1 hw
      exact dec_no (by decide) _)
    unfold hasC at this ⊢
    rw [List.any_cons, this]; decide
  have hvec := vec_round k.len k.dep
  rw [show vecX r.dep = (91 :: joinX ((trimV r.dep).map fun n => Lib.decDigits n.toNat)) ++ [93] from rfl] at hvec
  unfold recT recX
  simp only [hv, cut1_app (dec_no (c := 58) (by decide) r.site.toNat), cut1_app (dec_no (c := 32) (by decide) r.seq.toNat), cut2_app hn, cut1_app (name_no k.name), Option.bind_eq_bind, Option.bind_some,
    num_round (m := 2147483647) hs.1 (by omega), num_round (m := 2147483647) (x := r.seq) (by omega) (by omega), hvec, txB_list]
  have e : (⟨(r.site.toNat : Int), (r.seq.toNat : Int), trimV r.dep, r.key, r.val⟩ : Rc) = r.trim := by
    unfold Rc.trim
    rw [show (r.site.toNat : Int) = r.site by omega, show (r.seq.toNat : Int) = r.seq by omega]
  have hx : ∀ x : Rc, x = r.trim → (if checkR x 8 = 0 then some x else none) = some r.trim := by
    rintro x rfl; rw [if_pos ht]
  exact hx _ e
end Go.Sl

/-! strings.Cut, and where a byte or two stand first. -/
set_option linter.unusedVariables false
set_option linter.unusedSimpArgs false
namespace Go.Sl
theorem cut_cons (b : UInt8) (l sep : Tx) : Lib.cut (b :: l) sep = if sep.isPrefixOf (b :: l) = true then ([], (b :: l).drop sep.length, true) else (b :: (Lib.cut l sep).1, (Lib.cut l sep).2.1, (Lib.cut l sep).2.2) := by
  have hg := Lib.index_ge l sep
  by_cases hp : sep.isPrefixOf (b :: l) = true
  · unfold Lib.cut
    simp [Lib.index, hp]
  · rw [if_neg hp]
    by_cases hm : Lib.index l sep = -1
    · have e : Lib.index (b :: l) sep = -1 := by simp [Lib.index, hp, hm]
      unfold Lib.cut
      rw [e, hm]; rfl
    · have e : Lib.index (b :: l) sep = Lib.index l sep + 1 := by simp [Lib.index, hp, hm]
      unfold Lib.cut
      rw [e, if_pos (by omega), if_pos (by omega)]
      obtain ⟨n, hn⟩ : ∃ n : Nat, Lib.index l sep = n := ⟨(Lib.index l sep).toNat, by omega⟩
      rw [hn]
      rw [show ((n : Int) + 1).toNat = n + 1 by omega, show (n : Int).toNat = n by omega, show n + 1 + sep.length = (n + sep.length) + 1 by omega]
      rfl
theorem cutL1 (c : UInt8) : ∀ l : Tx, Lib.cut l [c] = match cut1 c l with
    | some x => (x.1, x.2, true)
    | none => (l, [], false)
  | [] => by simp [Lib.cut, Lib.index, cut1, hasC]
  | b :: l => by
    rw [cut_cons, cutL1 c l]
    by_cases hb : b = c
    · subst hb
      simp [cut1, hasC, bef, behd]
    · have hb' : ¬ c = b := fun h => hb h.symm
      unfold cut1 hasC bef behd
      simp only [List.any_cons, hb, decide_false, Bool.false_or, List.takeWhile_cons, List.dropWhile_cons, Bool.not_false, if_true]
      by_cases hl : (l.any fun b => decide (b = c)) = true
      · simp [hl, hb']
      · simp [hl, hb']
theorem cutL2 (c d : UInt8) : ∀ l : Tx, Lib.cut l [c, d] = match cut2 c d l with
    | some x => (x.1, x.2, true)
    | none => (l, [], false)
  | [] => by simp [Lib.cut, Lib.index, cut2]
  | [a] => by
    rw [cut_cons]
    simp [cut2, Lib.cut, Lib.index]
  | a :: b :: l => by
    rw [cut_cons, cutL2 c d (b :: l)]
    by_cases hb : a = c ∧ b = d
    · obtain ⟨rfl, rfl⟩ := hb
      simp [cut2]
    · have hp : ¬ ([c, d].isPrefixOf (a :: b :: l) = true) := by
        simp
        intro h1 h2; exact hb ⟨h1.symm, h2.symm⟩
      rw [if_neg hp]
      simp only [cut2, hb, if_false]
      cases cut2 c d (b :: l) <;> rfl
end Go.Sl

/-! strings.Split at a byte. -/
set_option linter.unusedVariables false
set_option linter.unusedSimpArgs false
namespace Go.Sl
theorem cut_hit {c : UInt8} {l : Tx} (h : hasC c l = true) : ∃ n : Nat, Lib.index l [c] = n ∧ l.take n = bef c l ∧ l.drop (n + 1) = behd c l := by
  have e := cutL1 c l
  unfold cut1 at e
  rw [if_pos h] at e
  unfold Lib.cut at e
  by_cases hi : 0 ≤ Lib.index l [c]
  · rw [if_pos hi] at e
    injection e with e1 e2
    injection e2 with e2 e3
    exact ⟨(Lib.index l [c]).toNat, by omega, e1, e2⟩
  · rw [if_neg hi] at e
    injection e with e1 e2
    injection e2 with e2 e3
    cases e3
theorem cut_miss {c : UInt8} {l : Tx} (h : hasC c l = false) : Lib.index l [c] = -1 := by
  have e := cutL1 c l
  have hg := Lib.index_ge l [c]
  unfold cut1 at e
  rw [if_neg (by rw [h]; decide)] at e
  unfold Lib.cut at e
  by_cases hi : 0 ≤ Lib.index l [c]
  · rw [if_pos hi] at e
    injection e with e1 e2
    injection e2 with e2 e3
    cases e3
  · omega
theorem behd_len {c : UInt8} {l : Tx} (h : hasC c l = true) : (behd c l).length < l.length := by
  have := congrArg List.length (bef_aft h)
  rw [List.length_append, List.length_cons] at this
  omega
theorem splitL1 (c : UInt8) : ∀ (n : Nat) (l : Tx), l.length ≤ n → Lib.split l [c] = partsC c l
  | n, l, hn => by
    by_cases h : hasC c l = true
    · obtain ⟨i, hi, h1, h2⟩ := cut_hit h
      have hlt := behd_len h
      have hp : partsC c l = bef c l :: partsC c (behd c l) := by
        conv => lhs; rw [bef_aft h]
        exact parts_cons bef_no
      cases n with
      | zero => omega
      | succ n =>
        have ih := splitL1 c n (behd c l) (by omega)
        rw [hp, ← ih]
        unfold Lib.split
        rw [Lib.count_hit (by simp) hi]
        rw [show i + [c].length = i + 1 from rfl, h2, Nat.add_comm 1]
        simp only [Lib.splitK]
        rw [if_neg (by rw [hi]; intro e; have := beq_iff_eq.1 e; omega), hi]
        rw [show (i : Int).toNat + 0 = i by omega, show (i : Int).toNat + [c].length = i + 1 by simp, h1, h2]
    · have h0 : hasC c l = false := by simpa using h
      rw [parts_word h0]
      unfold Lib.split
      rw [Lib.count_miss (cut_miss h0)]
      rfl
termination_by n => n
end Go.Sl

/-! strings.Trim by the ten digits. -/
set_option linter.unusedVariables false
set_option linter.unusedSimpArgs false
namespace Go.Sl
def digs : Tx := [48, 49, 50, 51, 52, 53, 54, 55, 56, 57]
set_option maxRecDepth 40000 in
theorem digs_has (b : UInt8) : digs.contains b = isDig b := by
  have : ∀ n : Fin 256, digs.contains (UInt8.ofNat n.1) = isDig (UInt8.ofNat n.1) := by decide
  have h := this ⟨b.toNat, b.toNat_lt⟩
  simpa using h
theorem dropWhile_nil {p : UInt8 → Bool} : ∀ {l : Tx}, l.dropWhile p = [] ↔ l.all p = true
  | [] => by simp
  | b :: l => by
    rw [List.dropWhile_cons]
    by_cases h : p b = true
    · rw [if_pos h, dropWhile_nil (l := l)]; simp [h]
    · rw [if_neg h]; simp [h]
theorem trim_digs (l : Tx) : Lib.trimS l digs = [] ↔ l.all isDig = true := by
  have e : (fun b => digs.contains b) = isDig := funext digs_has
  unfold Lib.trimS Lib.trimLeftS Lib.trimRightS
  rw [e, dropWhile_nil]
  constructor
  · intro h
    by_cases hn : l.reverse.dropWhile isDig = []
    · have := dropWhile_nil.1 hn
      rw [List.all_reverse] at this; exact this
    · exfalso
      have h2 := List.head_dropWhile_not isDig hn
      rw [List.all_reverse] at h
      have := List.all_eq_true.1 h _ (List.head_mem hn)
      rw [this] at h2; cases h2
  · intro h
    have : l.reverse.dropWhile isDig = [] := dropWhile_nil.2 (by rw [List.all_reverse]; exact h)
    rw [this]; rfl
/-- The program's test of a number's form. -/
theorem form_can (l : Tx) : canD l = false ↔ (l = [] ∨ Lib.trimS l digs ≠ [] ∨ (l.head? = some 48 ∧ l ≠ [48])) := by
  rw [ne_eq, trim_digs]
  cases l with
  | nil => simp [canD]
  | cons b r =>
    simp only [canD, reduceCtorEq, false_or, List.head?_cons, Option.some.injEq, ne_eq, List.cons.injEq]
    by_cases hd : (b :: r).all isDig = true
    · simp only [hd, Bool.true_and, not_true, false_or]
      by_cases hb : b = 48
      · cases r <;> simp [hb]
      · simp [hb]
    · rw [Bool.eq_false_iff.2 hd]; simp
end Go.Sl

/-! A segment's lines, printed and read again. -/
set_option linter.unusedVariables false
set_option linter.unusedSimpArgs false
namespace Go.Sl
theorem joinX_lib : ∀ ws : List Tx, Lib.join ws [32] = joinX ws
  | [] => rfl
  | [w] => by simp [Lib.join, joinX, List.intercalate, List.intersperse]
  | w :: u :: ws => by
    have ih := joinX_lib (u :: ws)
    simp only [Lib.join, List.intercalate] at ih ⊢
    rw [show joinX (w :: u :: ws) = w ++ 32 :: joinX (u :: ws) from rfl, ← ih]
    simp [List.intersperse]
/-- A line of a record. -/
def lineP (n : Nat) (r : Rc) : Tx := [112] ++ 32 :: (Lib.decDigits n ++ 32 :: recX r)
/-- A line of a number. -/
def lineN (k : UInt8) (n : Nat) : Tx := [k] ++ 32 :: Lib.decDigits n
theorem num_nat {n : Nat} (h : n ≤ 2147483647) : numT 2147483647 (Lib.decDigits n) = some n := by
  have := num_round (m := 2147483647) (x := (n : Int)) (by omega) (by omega)
  simpa using this
theorem line_put {n : Nat} {r : Rc} (hn : n ≤ 2147483647) (h : checkR r 8 = 0) : lineT (lineP n r) = some (.put n r.trim) := by
  unfold lineT lineP
  rw [cut1_app (by decide)]
  simp only [Option.bind_eq_bind, Option.bind_some, if_true, cut1_app (dec_no (c := 32) (by decide) n), num_nat hn, rec_round h]
theorem line_num {k : UInt8} (hk : k ≠ 32) (hp : k ≠ 112) {n : Nat} (hn : n ≤ 2147483647) :
    lineT (lineN k n) = if k = 115 then some (.seal n) else if k = 99 then some (.cut n) else if k = 116 then some (.trim n) else none := by
  unfold lineT lineN
  rw [cut1_app (by simp [hasC, hk])]
  have hl : ¬ ([k] : Tx) = [112] := by simpa using hp
  simp only [Option.bind_eq_bind, Option.bind_some, hl, if_false, dec_no (c := 32) (by decide) n, Bool.false_eq_true, num_nat hn, List.cons.injEq, and_true]
theorem line_seal {n : Nat} (hn : n ≤ 2147483647) : lineT (lineN 115 n) = some (.seal n) := by rw [line_num (by decide) (by decide) hn, if_pos rfl]
theorem line_cut {n : Nat} (hn : n ≤ 2147483647) : lineT (lineN 99 n) = some (.cut n) := by rw [line_num (by decide) (by decide) hn, if_neg (by decide), if_pos rfl]
theorem line_trim {n : Nat} (hn : n ≤ 2147483647) : lineT (lineN 116 n) = some (.trim n) := by rw [line_num (by decide) (by decide) hn, if_neg (by decide), if_neg (by decide), if_pos rfl]
end Go.Sl

/-! Segments plainly: lines played one after the other. -/
set_option linter.unusedVariables false
set_option linter.unusedSimpArgs false
namespace Go.Sl
/-- All lines may stand. -/
def Sg.plays : Sg → Nat → List Tx → Option Sg
  | s, _, [] => some s
  | s, i, t :: l => match s.take i t with
    | some s' => Sg.plays s' (i + 1) l
    | none => none
theorem open_plays : ∀ {l : List Tx} {s s' : Sg} {i : Nat}, s.plays i l = some s' → s.open i l = (s', i + l.length)
  | [], s, s', i, h => by
    simp only [Sg.plays, Option.some.injEq] at h
    subst h; rfl
  | t :: l, s, s', i, h => by
    simp only [Sg.plays] at h
    simp only [Sg.open]
    cases ht : s.take i t with
    | none => rw [ht] at h; cases h
    | some x =>
      rw [ht] at h
      show x.open (i + 1) l = _
      rw [open_plays h, List.length_cons]
      show _ = (s', i + (l.length + 1))
      rw [show i + 1 + l.length = i + (l.length + 1) by omega]
theorem plays_app : ∀ {l : List Tx} {s : Sg} {i : Nat} {m : List Tx}, s.plays i (l ++ m) = (s.plays i l).bind fun x => x.plays (i + l.length) m
  | [], s, i, m => rfl
  | t :: l, s, i, m => by
    simp only [List.cons_append, Sg.plays]
    cases s.take i t with
    | none => rfl
    | some x =>
      show x.plays (i + 1) (l ++ m) = (x.plays (i + 1) l).bind _
      rw [plays_app]
      simp only [List.length_cons]
      rw [show i + 1 + l.length = i + (l.length + 1) by omega]
theorem plays_push {l : List Tx} {s x y : Sg} {i : Nat} {t : Tx} (h : s.plays i l = some x) (ht : x.take (i + l.length) t = some y) : s.plays i (l ++ [t]) = some y := by
  rw [plays_app, h]
  simp only [Option.bind_some, Sg.plays, ht]
/-- A front of lines that may stand may stand. -/
theorem plays_front {l m : List Tx} {s x : Sg} {i : Nat} (h : s.plays i (l ++ m) = some x) : ∃ y, s.plays i l = some y := by
  rw [plays_app] at h
  cases hs : s.plays i l with
  | none => rw [hs] at h; cases h
  | some y => exact ⟨y, rfl⟩
/-- What is opened is played up to where it stops. -/
theorem open_front : ∀ (l : List Tx) (s : Sg) (i : Nat), ∃ k, k ≤ l.length ∧ (s.open i l).2 = i + k ∧ s.plays i (l.take k) = some (s.open i l).1
  | [], s, i => ⟨0, Nat.le_refl _, rfl, rfl⟩
  | t :: l, s, i => by
    simp only [Sg.open]
    cases ht : s.take i t with
    | none => exact ⟨0, Nat.zero_le _, rfl, rfl⟩
    | some x =>
      obtain ⟨k, h1, h2, h3⟩ := open_front l x (i + 1)
      refine ⟨k + 1, by simp; omega, by rw [h2]; omega, ?_⟩
      simp only [List.take_succ_cons, Sg.plays, ht]
      exact h3
/-- Opened again it is the same. -/
theorem open_again {l : List Tx} {s : Sg} {i k : Nat} (hk : (s.open i l).2 = i + k) (hl : k ≤ l.length) (hp : s.plays i (l.take k) = some (s.open i l).1) : s.open i (l.take k) = s.open i l := by
  rw [open_plays hp, List.length_take, Nat.min_eq_left hl]
  exact Prod.ext rfl hk.symm
end Go.Sl

/-! The program's answers on numbers and vectors. -/
set_option linter.unusedVariables false
set_option linter.unusedSimpArgs false
namespace Go.Sl
/-- What the program tells of a number's text: the number, or what is wrong. -/
def numC (most : Nat) (l : Tx) : Int × Int := if canD l = true then (if valD l ≤ most then ((valD l : Int), 0) else (0, 4)) else (0, 2)
theorem numC_ok {most : Nat} {l : Tx} : (numC most l).2 = 0 ↔ ∃ n, numT most l = some n := by
  unfold numC numT
  by_cases h : canD l = true
  · by_cases h2 : valD l ≤ most
    · simp [h, h2]
    · simp [h, h2]
  · simp [h]
theorem numC_val {most n : Nat} {l : Tx} (h : numT most l = some n) : numC most l = ((n : Int), 0) := by
  unfold numT at h
  unfold numC
  by_cases h1 : canD l = true ∧ valD l ≤ most
  · rw [if_pos h1] at h
    cases h
    rw [if_pos h1.1, if_pos h1.2]
  · rw [if_neg h1] at h; cases h
end Go.Sl

/-! A disk and a segment on it, plainly: what each call comes to. -/
set_option linter.unusedVariables false
set_option linter.unusedSimpArgs false
namespace Go.Sl
structure Dk where
  room : Int
  lines : List ByteArray
  lasts : Nat
def usedL : List ByteArray → Nat
  | [] => 0
  | s :: l => s.size + 1 + usedL l
theorem usedL_app : ∀ (a b : List ByteArray), usedL (a ++ b) = usedL a + usedL b
  | [], b => by simp [usedL]
  | s :: a, b => by simp only [List.cons_append, usedL, usedL_app a b]; omega
theorem usedL_len : ∀ (l : List ByteArray), l.length ≤ usedL l
  | [] => Nat.zero_le _
  | s :: l => by have := usedL_len l; simp only [List.length_cons, usedL]; omega
theorem usedL_take (l : List ByteArray) (i : Nat) : usedL (l.take i) ≤ usedL l := by
  have h := usedL_app (l.take i) (l.drop i)
  rw [List.take_append_drop] at h; omega
theorem usedL_step {l : List ByteArray} {i : Nat} {s : ByteArray} (h : l[i]? = some s) : usedL (l.take (i + 1)) = usedL (l.take i) + (s.size + 1) := by
  have : l.take (i + 1) = l.take i ++ [s] := by rw [List.take_add_one, h]; rfl
  rw [this, usedL_app]; rfl
theorem usedL_size {l : List ByteArray} {s : ByteArray} (h : s ∈ l) : s.size + 1 ≤ usedL l := by
  induction l with
  | nil => cases h
  | cons a l ih =>
    simp only [usedL]
    rcases List.mem_cons.1 h with rfl | h
    · omega
    · have := ih h; omega
/-- Is there the end of a line in a text? -/
def nlT (s : ByteArray) : Bool := hasC 10 s.data.toList
def Dk.sync (d : Dk) : Dk := { d with lasts := d.lines.length }
def Dk.write (d : Dk) (s : ByteArray) : Int × Dk :=
  if nlT s = true then (2, d) else if d.room - usedL d.lines < s.size + 1 then (6, d) else (0, { d with lines := d.lines ++ [s] })
/-- How many lines there is so much left for. -/
def fitN : Int → List ByteArray → Nat
  | _, [] => 0
  | k, s :: l => if k < s.size + 1 then 0 else fitN (k - (s.size + 1)) l + 1
theorem fitN_le : ∀ (k : Int) (l : List ByteArray), fitN k l ≤ l.length
  | _, [] => Nat.le_refl _
  | k, s :: l => by
    simp only [fitN, List.length_cons]
    have := fitN_le (k - (s.size + 1)) l
    split <;> omega
def keptD (d : Dk) (k : Int) : Nat := d.lasts + fitN (max k 0) (d.lines.drop d.lasts)
def Dk.front (d : Dk) (i : Nat) : Dk := { d with lines := d.lines.take i, lasts := i }
def Dk.crash (d : Dk) (k : Int) : Dk := d.front (keptD d k)
def Dk.cut (d : Dk) (i : Int) : Int × Dk := if i < 0 ∨ (d.lines.length : Int) < i then (1, d) else if d.lasts < d.lines.length then (12, d) else (0, d.front i.toNat)
structure Dk.Ok (d : Dk) : Prop where
  room : 1 ≤ d.room ∧ d.room ≤ 1048576
  used : (usedL d.lines : Int) ≤ d.room
  lasts : d.lasts ≤ d.lines.length
theorem Dk.Ok.len {d : Dk} (h : d.Ok) : d.lines.length ≤ 1048576 := by
  have h1 := usedL_len d.lines
  have h2 := h.used
  have h3 := h.room.2
  omega
theorem Dk.Ok.size {d : Dk} (h : d.Ok) {s : ByteArray} (hs : s ∈ d.lines) : s.size + 1 ≤ 1048576 := by
  have h1 := usedL_size hs
  have h2 := h.used
  have h3 := h.room.2
  omega
theorem kept_le {d : Dk} (h : d.Ok) (k : Int) : keptD d k ≤ d.lines.length := by
  have h1 := fitN_le (max k 0) (d.lines.drop d.lasts)
  rw [List.length_drop] at h1
  have := h.lasts
  unfold keptD; omega
theorem Dk.Ok.sync {d : Dk} (h : d.Ok) : d.sync.Ok := ⟨h.room, h.used, Nat.le_refl _⟩
theorem Dk.Ok.write {d : Dk} (h : d.Ok) (s : ByteArray) : (d.write s).2.Ok := by
  unfold Dk.write
  split
  · exact h
  · split
    · exact h
    · rename_i h1 h2
      refine ⟨h.room, ?_, ?_⟩
      · show ((usedL (d.lines ++ [s]) : Nat) : Int) ≤ d.room
        rw [usedL_app]
        simp only [usedL]; omega
      · have := h.lasts
        show d.lasts ≤ (d.lines ++ [s]).length
        rw [List.length_append]; omega
theorem Dk.Ok.front {d : Dk} (h : d.Ok) {i : Nat} (hi : i ≤ d.lines.length) : (d.front i).Ok := by
  refine ⟨h.room, ?_, ?_⟩
  · have h1 := usedL_take d.lines i
    have h2 := h.used
    show ((usedL (d.lines.take i) : Nat) : Int) ≤ d.room
    omega
  · show i ≤ (d.lines.take i).length
    rw [List.length_take]; omega
theorem Dk.Ok.crash {d : Dk} (h : d.Ok) (k : Int) : (d.crash k).Ok := h.front (kept_le h k)
theorem Dk.Ok.cut {d : Dk} (h : d.Ok) (i : Int) : (d.cut i).2.Ok := by
  unfold Dk.cut
  split
  · exact h
  · split
    · exact h
    · exact h.front (by omega)

/-! ### The segment's calls -/
def Sg.note (d : Dk) (k : UInt8) (n : Nat) : Int × Dk := if (d.write (txB (lineN k n))).1 = 0 then (0, (d.write (txB (lineN k n))).2.sync) else d.write (txB (lineN k n))
theorem note_ok {d : Dk} (h : d.Ok) (k : UInt8) (n : Nat) : (Sg.note d k n).2.Ok := by
  unfold Sg.note
  split
  · exact (h.write _).sync
  · exact h.write _
def Sg.above (s : Sg) (n : Int) : Sg := { s with m := s.m.filter fun p => decide (p.1 < n) }
def Sg.below (s : Sg) (n : Nat) : Sg := { s with m := s.m.filter (fun p => decide ((n : Int) ≤ p.1)), trim := n }
/-- Put: what it tells, the segment, the disk. -/
def Sg.put (s : Sg) (d : Dk) (ep pos : Int) (r : Rc) : Int × Sg × Dk :=
  if pos < 0 ∨ ep < 1 ∨ 2147483647 < pos ∨ 2147483647 < ep then (1, s, d)
  else if ep ≤ s.sealed then (7, s, d)
  else if pos < s.trim then (8, s, d)
  else if (mget s.m pos).isSome = true then (5, s, d)
  else if checkR r 8 ≠ 0 then (checkR r 8, s, d)
  else if (d.write (txB (lineP pos.toNat r))).1 ≠ 0 then ((d.write (txB (lineP pos.toNat r))).1, s, d)
  else (0, { s with m := mput s.m pos (r, d.lines.length) }, (d.write (txB (lineP pos.toNat r))).2)
def Sg.get (s : Sg) (pos : Int) : Rc × Int := if pos < s.trim then (rc0, 8) else match mget s.m pos with
  | none => (rc0, 9)
  | some x => (x.1, 0)
/-- One more than the last position there is. -/
def nextM (l : List (Int × Slt)) (t : Int) : Int := l.foldl (fun a p => max a (p.1 + 1)) t
def Sg.seal (s : Sg) (d : Dk) (ep : Int) : (Int × Int) × Sg × Dk :=
  if ep < 1 ∨ 2147483647 < ep then ((0, 1), s, d)
  else if ep ≤ s.sealed then ((0, 7), s, d)
  else if (Sg.note d 115 ep.toNat).1 ≠ 0 then ((0, (Sg.note d 115 ep.toNat).1), s, (Sg.note d 115 ep.toNat).2)
  else ((nextM s.m s.trim, 0), { s with sealed := ep.toNat }, (Sg.note d 115 ep.toNat).2)
def Sg.cutAt (s : Sg) (d : Dk) (pos : Int) : Int × Sg × Dk :=
  if pos < 0 ∨ 2147483647 < pos then (1, s, d)
  else if (Sg.note d 99 pos.toNat).1 ≠ 0 then ((Sg.note d 99 pos.toNat).1, s, (Sg.note d 99 pos.toNat).2)
  else (0, s.above pos, (Sg.note d 99 pos.toNat).2)
def Sg.trimAt (s : Sg) (d : Dk) (pos : Int) : Sg × Dk :=
  if s.trim < pos ∧ pos ≤ 2147483647 then (if (Sg.note d 116 pos.toNat).1 = 0 then (s.below pos.toNat, (Sg.note d 116 pos.toNat).2) else (s, (Sg.note d 116 pos.toNat).2)) else (s, d)
def Sg.lastsAt (s : Sg) (d : Dk) (pos : Int) : Bool := match mget s.m pos with
  | none => false
  | some x => decide (x.2 < d.lasts)
/-- Whole numbers in their order. -/
def insI (x : Int) : List Int → List Int
  | [] => [x]
  | y :: l => if x ≤ y then x :: y :: l else y :: insI x l
def sortI : List Int → List Int
  | [] => []
  | x :: l => insI x (sortI l)
/-- The record at a position. -/
def recM (l : List (Int × Slt)) (k : Int) : Rc := match mget l k with
  | none => rc0
  | some x => x.1
def Sg.keys (s : Sg) : List Int := sortI (keysM s.m)
def Sg.all (s : Sg) : List (Int × Rc) := s.keys.map fun k => (k, recM s.m k)
theorem ins_mem {x y : Int} : ∀ {l : List Int}, y ∈ insI x l ↔ y = x ∨ y ∈ l
  | [] => by simp [insI]
  | z :: l => by
    simp only [insI]
    split
    · simp
    · simp only [List.mem_cons, ins_mem (l := l)]
      constructor
      · rintro (h | h | h) <;> simp [h]
      · rintro (h | h | h) <;> simp [h]
theorem ins_perm (x : Int) : ∀ l : List Int, (insI x l).Perm (x :: l)
  | [] => List.Perm.refl _
  | z :: l => by
    simp only [insI]
    split
    · exact List.Perm.refl _
    · exact ((ins_perm x l).cons z).trans (List.Perm.swap x z l)
theorem sort_perm : ∀ l : List Int, (sortI l).Perm l
  | [] => List.Perm.refl _
  | x :: l => (ins_perm x (sortI l)).trans ((sort_perm l).cons x)
theorem ins_ris {x : Int} : ∀ {l : List Int}, l.Pairwise (· ≤ ·) → (insI x l).Pairwise (· ≤ ·)
  | [], _ => by simp [insI]
  | z :: l, h => by
    have h2 := List.pairwise_cons.1 h
    simp only [insI]
    split
    · rename_i hx
      refine List.pairwise_cons.2 ⟨fun y hy => ?_, h⟩
      rcases List.mem_cons.1 hy with rfl | hy
      · exact hx
      · exact Int.le_trans hx (h2.1 y hy)
    · rename_i hx
      refine List.pairwise_cons.2 ⟨fun y hy => ?_, ins_ris h2.2⟩
      rcases ins_mem.1 hy with rfl | hy
      · omega
      · exact h2.1 y hy
theorem sort_ris : ∀ l : List Int, (sortI l).Pairwise (· ≤ ·)
  | [] => List.Pairwise.nil
  | x :: l => ins_ris (sort_ris l)
theorem ris_uniq : ∀ {a b : List Int}, a.Pairwise (· ≤ ·) → b.Pairwise (· ≤ ·) → a.Perm b → a = b
  | [], b, _, _, h => by rw [List.nil_perm.1 h]
  | x :: a, [], _, _, h => absurd h.length_eq (by simp)
  | x :: a, y :: b, ha, hb, h => by
    have h1 := List.pairwise_cons.1 ha
    have h2 := List.pairwise_cons.1 hb
    have hx : x ∈ y :: b := h.subset (by simp)
    have hy : y ∈ x :: a := h.symm.subset (by simp)
    have e : x = y := by
      rcases List.mem_cons.1 hx with e | e
      · exact e
      · rcases List.mem_cons.1 hy with e2 | e2
        · exact e2.symm
        · exact Int.le_antisymm (h1.1 y e2) (h2.1 x e)
    subst e
    rw [ris_uniq h1.2 h2.2 (List.Perm.cons_inv h)]
/-- A disk opened. -/
def txs (l : List ByteArray) : List Tx := l.map fun s => s.data.toList
def Dk.opened (d : Dk) : Sg × Dk := (((⟨[], 0, 0⟩ : Sg).open 0 (txs d.lines)).1, if ((⟨[], 0, 0⟩ : Sg).open 0 (txs d.lines)).2 = d.lines.length then d else d.front ((⟨[], 0, 0⟩ : Sg).open 0 (txs d.lines)).2)
end Go.Sl

/-! A segment's calls keep what its disk says: plainly. -/
set_option linter.unusedVariables false
set_option linter.unusedSimpArgs false
namespace Go.Sl
theorem txB_tx (s : ByteArray) : txB s.data.toList = s := rfl
theorem tx_txB (l : Tx) : (txB l).data.toList = l := by simp [txB]
theorem size_txB (l : Tx) : (txB l).size = l.length := by simp [txB, ByteArray.size]
theorem txs_app (a b : List ByteArray) : txs (a ++ b) = txs a ++ txs b := by simp [txs]
theorem txs_len (a : List ByteArray) : (txs a).length = a.length := by simp [txs]
theorem has_cons (c b : UInt8) (m : Tx) : hasC c (b :: m) = (decide (b = c) || hasC c m) := rfl
theorem vec_nl (v : List Int) : hasC 10 (vecX v) = false := by
  unfold vecX
  rw [has_cons, has_app]
  have : hasC 10 (joinX ((trimV v).map fun n => Lib.decDigits n.toNat)) = false := by
    refine joinX_no (by decide) fun w hw => ?_
    obtain ⟨n, _, rfl⟩ := List.mem_map.1 hw
    exact dec_no (by decide) _
  rw [this]; rfl
theorem lineN_nl {k : UInt8} (hk : k ≠ 10) (n : Nat) : hasC 10 (lineN k n) = false := by
  unfold lineN
  simp only [has_app, has_cons, dec_no (c := 10) (by decide)]
  simp [hasC, hk]
/-- No more places than so many. -/
theorem dec_len : ∀ (k n : Nat), n < 10 ^ (k + 1) → (Lib.decDigits n).length ≤ k + 1
  | 0, n, h => by
    rw [Lib.decDigits]
    rw [dif_pos (by omega)]; simp
  | k + 1, n, h => by
    rw [Lib.decDigits]
    split
    · simp
    · have := dec_len k (n / 10) (by rw [Nat.pow_succ] at h; omega)
      rw [List.length_append]; simp; omega
/-- A record of a site and a number alone. -/
def rz (site seq : Int) : Rc := ⟨site, seq, [], ⟨#[107]⟩, bE⟩
theorem rz_ok {site seq : Int} (h : 0 ≤ site ∧ site < 8 ∧ 1 ≤ seq ∧ seq ≤ 1048576) : checkR (rz site seq) 8 = 0 := by
  refine rok_to ⟨⟨h.1, h.2.1⟩, ⟨h.2.2.1, h.2.2.2⟩, Nat.zero_le _, fun x hx => (by cases hx), ?_, (show 1 ≤ (⟨#[107]⟩ : ByteArray).size ∧ (⟨#[107]⟩ : ByteArray).size ≤ 8 by decide), (show nameOk ⟨#[107]⟩ = true by decide), (show valOk bE = true by decide), (show bE.size ≤ 16 by decide)⟩
  show getI [] site < seq
  unfold getI
  split
  · omega
  · simp; omega
theorem rz_trim (site seq : Int) : (rz site seq).trim = rz site seq := rfl
theorem lineP_nl (n : Nat) (site seq : Int) : hasC 10 (lineP n (rz site seq)) = false := by
  have h5 : (rz site seq).key.data.toList = [107] := rfl
  have h6 : (rz site seq).val.data.toList = [] := rfl
  unfold lineP recX
  simp only [has_app, has_cons, dec_no (c := 10) (by decide), vec_nl, h5, h6]
  decide
theorem lineP_len {n : Nat} {site seq : Int} (hn : n < 100000) (h : 0 ≤ site ∧ site < 8 ∧ 1 ≤ seq ∧ seq < 100000) : (lineP n (rz site seq)).length ≤ 32 := by
  have h1 := dec_len 4 n (by omega)
  have h2 := dec_len 4 site.toNat (by omega)
  have h3 := dec_len 4 seq.toNat (by omega)
  have h4 : (vecX (rz site seq).dep).length = 2 := rfl
  have h5 : (rz site seq).key.data.toList.length = 1 := rfl
  have h6 : (rz site seq).val.data.toList.length = 0 := rfl
  have h7 : (rz site seq).site = site := rfl
  have h8 : (rz site seq).seq = seq := rfl
  unfold lineP recX
  simp only [List.length_append, List.length_cons, List.length_nil, h4, h5, h6, h7, h8]
  omega
theorem lineN_len {k : UInt8} {n : Nat} (hn : n < 100000) : (lineN k n).length ≤ 8 := by
  have h1 := dec_len 4 n (by omega)
  unfold lineN
  simp only [List.length_append, List.length_cons, List.length_nil]
  omega

/-- What a disk says is what the segment has. -/
structure Ply (s : Sg) (d : Dk) : Prop where
  ok : d.Ok
  pl : (⟨[], 0, 0⟩ : Sg).plays 0 (txs d.lines) = some s
theorem write_ok {d : Dk} {t : Tx} (hn : hasC 10 t = false) (hr : (usedL d.lines : Int) + t.length + 1 ≤ d.room) : d.write (txB t) = (0, { d with lines := d.lines ++ [txB t] }) := by
  unfold Dk.write
  rw [if_neg (by unfold nlT; rw [tx_txB, hn]; decide), if_neg (by rw [size_txB]; omega)]
theorem note_eq {d : Dk} {k : UInt8} {n : Nat} (hk : k ≠ 10) (hr : (usedL d.lines : Int) + (lineN k n).length + 1 ≤ d.room) : Sg.note d k n = (0, { d with lines := d.lines ++ [txB (lineN k n)], lasts := d.lines.length + 1 }) := by
  unfold Sg.note
  rw [write_ok (lineN_nl hk n) hr, if_pos rfl]
  simp [Dk.sync]
theorem put_eq {s : Sg} {d : Dk} {ep pos : Int} {r : Rc} (h1 : 0 ≤ pos ∧ 1 ≤ ep ∧ pos ≤ 2147483647 ∧ ep ≤ 2147483647) (h2 : (s.sealed : Int) < ep) (h3 : (s.trim : Int) ≤ pos) (h4 : mget s.m pos = none) (h5 : checkR r 8 = 0)
    (hn : hasC 10 (lineP pos.toNat r) = false) (hr : (usedL d.lines : Int) + (lineP pos.toNat r).length + 1 ≤ d.room) :
    s.put d ep pos r = (0, { s with m := mput s.m pos (r, d.lines.length) }, { d with lines := d.lines ++ [txB (lineP pos.toNat r)] }) := by
  unfold Sg.put
  rw [if_neg (by omega), if_neg (by omega), if_neg (by omega), if_neg (by rw [h4]; decide), if_neg (by rw [h5]; decide), write_ok hn hr, if_neg (fun h => h rfl)]
theorem seal_eq {s : Sg} {d : Dk} {ep : Int} (h1 : 1 ≤ ep ∧ ep ≤ 2147483647) (h2 : (s.sealed : Int) < ep) (hr : (usedL d.lines : Int) + (lineN 115 ep.toNat).length + 1 ≤ d.room) :
    s.seal d ep = ((nextM s.m s.trim, 0), { s with sealed := ep.toNat }, { d with lines := d.lines ++ [txB (lineN 115 ep.toNat)], lasts := d.lines.length + 1 }) := by
  unfold Sg.seal
  rw [if_neg (by omega), if_neg (by omega), note_eq (by decide) hr, if_neg (fun h => h rfl)]
theorem cut_eq {s : Sg} {d : Dk} {pos : Int} (h1 : 0 ≤ pos ∧ pos ≤ 2147483647) (hr : (usedL d.lines : Int) + (lineN 99 pos.toNat).length + 1 ≤ d.room) :
    s.cutAt d pos = (0, s.above pos, { d with lines := d.lines ++ [txB (lineN 99 pos.toNat)], lasts := d.lines.length + 1 }) := by
  unfold Sg.cutAt
  rw [if_neg (by omega), note_eq (by decide) hr, if_neg (fun h => h rfl)]
theorem trim_eq {s : Sg} {d : Dk} {pos : Int} (h1 : (s.trim : Int) < pos ∧ pos ≤ 2147483647) (hr : (usedL d.lines : Int) + (lineN 116 pos.toNat).length + 1 ≤ d.room) :
    s.trimAt d pos = (s.below pos.toNat, { d with lines := d.lines ++ [txB (lineN 116 pos.toNat)], lasts := d.lines.length + 1 }) := by
  unfold Sg.trimAt
  rw [if_pos h1, note_eq (by decide) hr, if_pos rfl]
theorem push_ok {d : Dk} {t : Tx} {n : Nat} (h : d.Ok) (hn : n ≤ d.lines.length + 1) (hr : (usedL d.lines : Int) + t.length + 1 ≤ d.room) : (⟨d.room, d.lines ++ [txB t], n⟩ : Dk).Ok := by
  refine ⟨h.room, ?_, ?_⟩
  · show ((usedL (d.lines ++ [txB t]) : Nat) : Int) ≤ d.room
    rw [usedL_app]
    simp only [usedL, size_txB]; omega
  · show n ≤ (d.lines ++ [txB t]).length
    rw [List.length_append]; exact hn
theorem ply_push {s s' : Sg} {d : Dk} {t : Tx} {n : Nat} (h : Ply s d) (ht : s.take d.lines.length t = some s') (hn : n ≤ d.lines.length + 1) (hr : (usedL d.lines : Int) + t.length + 1 ≤ d.room) : Ply s' ⟨d.room, d.lines ++ [txB t], n⟩ := by
  refine ⟨push_ok h.ok hn hr, ?_⟩
  show (⟨[], 0, 0⟩ : Sg).plays 0 (txs (d.lines ++ [txB t])) = some s'
  rw [txs_app]
  refine plays_push h.pl ?_
  rw [txs_len, Nat.zero_add]
  show s.take d.lines.length (txB t).data.toList = some s'
  rw [tx_txB]; exact ht
theorem any_key {l : List (Int × Slt)} {n : Int} (h : mget l n = none) : (l.any fun p => decide (p.1 = n)) = false := by
  rw [Bool.eq_false_iff]
  intro hc
  obtain ⟨p, hp, he⟩ := List.any_eq_true.1 hc
  have : (mget l n).isSome = true := mget_isSome.2 (List.mem_map.2 ⟨p, hp, of_decide_eq_true he⟩)
  rw [h] at this; cases this
theorem mput_end {l : List (Int × Slt)} {n : Int} {x : Slt} (h : mget l n = none) : mput l n x = l ++ [(n, x)] := by
  refine mput_new fun p hp he => ?_
  have : (mget l n).isSome = true := mget_isSome.2 (List.mem_map.2 ⟨p, hp, he⟩)
  rw [h] at this; cases this
theorem take_put {s : Sg} {i n : Nat} {r : Rc} (hn : n ≤ 2147483647) (h3 : s.trim ≤ n) (h4 : mget s.m (n : Int) = none) (h5 : checkR r 8 = 0) (ht : r.trim = r) : s.take i (lineP n r) = some { s with m := mput s.m n (r, i) } := by
  unfold Sg.take
  rw [line_put hn h5]
  simp only
  rw [any_key h4, if_neg (by simp; omega), ht, mput_end h4]
theorem take_seal {s : Sg} {i n : Nat} (hn : n ≤ 2147483647) (h : s.sealed < n) : s.take i (lineN 115 n) = some { s with sealed := n } := by
  unfold Sg.take
  rw [line_seal hn]
  simp only
  rw [if_neg (by omega)]
theorem take_cut {s : Sg} {i n : Nat} (hn : n ≤ 2147483647) : s.take i (lineN 99 n) = some (s.above n) := by
  unfold Sg.take
  rw [line_cut hn]
  rfl
theorem take_trim {s : Sg} {i n : Nat} (hn : n ≤ 2147483647) (h : s.trim < n) : s.take i (lineN 116 n) = some (s.below n) := by
  unfold Sg.take
  rw [line_trim hn]
  simp only
  rw [if_neg (by omega)]; rfl
/-- Opened: all lines may stand. -/
theorem ply_opened {s : Sg} {d : Dk} (h : Ply s d) : d.opened = (s, d) := by
  unfold Dk.opened
  rw [open_plays h.pl, txs_len]
  simp
theorem fit0 : ∀ (l : List ByteArray), fitN (max 0 0) l = 0
  | [] => rfl
  | s :: l => by
    simp only [fitN]
    rw [if_pos (by omega)]
theorem crash0 (d : Dk) : d.crash 0 = d.front d.lasts := by
  unfold Dk.crash keptD
  rw [fit0, Nat.add_zero]
theorem mget_filter {l : List (Int × Slt)} (f : Int → Bool) (k : Int) : mget (l.filter fun p => f p.1) k = if f k = true then mget l k else none := by
  induction l with
  | nil => simp [mget]
  | cons p l ih =>
    obtain ⟨k', v⟩ := p
    rw [List.filter_cons]
    by_cases hf : f k' = true
    · rw [if_pos (show f (k', v).1 = true from hf)]
      simp only [mget, ih]
      by_cases hk : k' = k
      · subst hk; rw [if_pos rfl, if_pos rfl, if_pos hf]
      · rw [if_neg hk, if_neg hk]
    · rw [if_neg (show ¬ f (k', v).1 = true from hf), ih]
      simp only [mget]
      by_cases hk : k' = k
      · subst hk; rw [if_neg hf, if_neg hf]
      · rw [if_neg hk]
end Go.Sl

/-! What is put once, sealed, cut, trimmed: plainly. -/
set_option linter.unusedVariables false
set_option linter.unusedSimpArgs false
namespace Go.Sl
/-! ### Seals -/
structure SealI (i : Nat) (s : Sg) (d : Dk) (pos sealed : Int) : Prop where
  ply : Ply s d
  room : d.room = 100000
  used : usedL d.lines ≤ 33 * i
  trim : s.trim = 0
  sl : (s.sealed : Int) = sealed
  bd : 0 ≤ pos ∧ pos ≤ i
  keys : keysM s.m = (List.range pos.toNat).map Int.ofNat
  syn : ∃ s2, (⟨[], 0, 0⟩ : Sg).plays 0 (txs (d.lines.take d.lasts)) = some s2 ∧ s2.sealed = s.sealed
theorem nextM_keys : ∀ (l : List (Int × Slt)) (t : Int), nextM l t = (keysM l).foldl (fun a p => max a (p + 1)) t
  | [], _ => rfl
  | p :: l, t => by
    simp only [nextM, keysM, List.foldl_cons, List.map_cons]
    exact nextM_keys l _
theorem next_range : ∀ (n : Nat) (t : Int), ((List.range n).map Int.ofNat).foldl (fun a p => max a (p + 1)) t = max t (n : Int) ∨ n = 0
  | 0, t => .inr rfl
  | n + 1, t => by
    left
    rw [List.range_succ, List.map_append, List.foldl_append]
    simp only [List.map_cons, List.map_nil, List.foldl_cons, List.foldl_nil]
    rcases next_range n t with h | rfl
    · rw [h]
      show max (max t (n : Int)) ((n : Int) + 1) = max t ((n + 1 : Nat) : Int)
      omega
    · simp
theorem next_pos {l : List (Int × Slt)} {pos : Int} (hp : 0 ≤ pos) (h : keysM l = (List.range pos.toNat).map Int.ofNat) : nextM l 0 = pos := by
  rw [nextM_keys, h]
  rcases next_range pos.toNat 0 with h | h
  · rw [h]; omega
  · rw [h]; simp; omega
theorem none_pos {l : List (Int × Slt)} {pos k : Int} (h : keysM l = (List.range pos.toNat).map Int.ofNat) (hk : pos ≤ k) : mget l k = none := by
  cases hm : mget l k with
  | none => rfl
  | some x =>
    have : k ∈ keysM l := mget_isSome.1 (by rw [hm]; rfl)
    rw [h] at this
    obtain ⟨j, hj, rfl⟩ := List.mem_map.1 this
    have := List.mem_range.1 hj
    simp at hk; omega
theorem sealI_zero : SealI 0 ⟨[], 0, 0⟩ ⟨100000, [], 0⟩ 0 0 :=
  ⟨⟨⟨by decide, by decide, by decide⟩, rfl⟩, rfl, Nat.le_refl _, rfl, rfl, by decide, rfl, _, rfl, rfl⟩
theorem SealI.mono {i : Nat} {s : Sg} {d : Dk} {pos sealed : Int} (h : SealI i s d pos sealed) : SealI (i + 1) s d pos sealed :=
  ⟨h.ply, h.room, by have := h.used; omega, h.trim, h.sl, by have := h.bd; omega, h.keys, h.syn⟩
theorem seal_put {i : Nat} {s : Sg} {d : Dk} {pos sealed k : Int} (h : SealI i s d pos sealed) (hi : i < 1000) (hk : 1 ≤ k ∧ k ≤ 20) (hs : sealed < k) :
    (s.put d k pos (rz 0 (i + 1))).1 = 0 ∧ SealI (i + 1) (s.put d k pos (rz 0 (i + 1))).2.1 (s.put d k pos (rz 0 (i + 1))).2.2 (pos + 1) sealed := by
  have h1 := h.bd; have h2 := h.used; have h3 := h.room; have h4 := h.sl; have h5 := h.trim
  have hg := none_pos h.keys (Int.le_refl pos)
  have hc := rz_ok (site := 0) (seq := i + 1) (by omega)
  have hl := lineP_len (n := pos.toNat) (site := 0) (seq := i + 1) (by omega) (by omega)
  have e := put_eq (s := s) (d := d) (ep := k) (pos := pos) (r := rz 0 (i + 1)) (by omega) (by omega) (by omega) hg hc (lineP_nl _ _ _) (by omega)
  rw [e]
  refine ⟨rfl, ?_⟩
  have hle := h.ply.ok.lasts
  have htk : s.take d.lines.length (lineP pos.toNat (rz 0 (i + 1))) = some { s with m := mput s.m pos (rz 0 (i + 1), d.lines.length) } := by
    have := take_put (s := s) (i := d.lines.length) (n := pos.toNat) (r := rz 0 (i + 1)) (by omega) (by omega) (by rw [show ((pos.toNat : Nat) : Int) = pos by omega]; exact hg) hc (rz_trim _ _)
    rw [show ((pos.toNat : Nat) : Int) = pos by omega] at this
    exact this
  refine ⟨ply_push h.ply htk (by omega) (by omega), h.room, ?_, h.trim, h.sl, by omega, ?_, ?_⟩
  · show usedL (d.lines ++ [txB _]) ≤ _
    rw [usedL_app]; simp only [usedL, size_txB]; omega
  · show keysM (mput s.m pos _) = _
    rw [mput_end hg]
    show (s.m ++ [(pos, (rz 0 ((i : Int) + 1), d.lines.length))]).map Prod.fst = _
    rw [List.map_append, show s.m.map Prod.fst = keysM s.m from rfl, h.keys, show (pos + 1).toNat = pos.toNat + 1 by omega, List.range_succ, List.map_append]
    congr 1
    show [pos] = [((pos.toNat : Nat) : Int)]
    rw [show ((pos.toNat : Nat) : Int) = pos by omega]
  · show ∃ s2, (⟨[], 0, 0⟩ : Sg).plays 0 (txs ((d.lines ++ [txB _]).take d.lasts)) = some s2 ∧ _
    rw [List.take_append_of_le_length hle]
    exact h.syn
theorem seal_putno {i : Nat} {s : Sg} {d : Dk} {pos sealed k : Int} {r : Rc} (h : SealI i s d pos sealed) (hi : i < 1000) (hk : 1 ≤ k ∧ k ≤ 20) (hs : k ≤ sealed) : s.put d k pos r = (7, s, d) := by
  have h1 := h.bd; have h4 := h.sl
  unfold Sg.put
  rw [if_neg (by omega), if_pos (by omega)]
theorem seal_seal {i : Nat} {s : Sg} {d : Dk} {pos sealed k : Int} (h : SealI i s d pos sealed) (hi : i < 1000) (hk : 1 ≤ k ∧ k ≤ 20) (hs : sealed < k) :
    (s.seal d k).1 = (pos, 0) ∧ (s.seal d k).2.1.sealed = k.toNat ∧ SealI (i + 1) (s.seal d k).2.1 (s.seal d k).2.2 pos k := by
  have h1 := h.bd; have h2 := h.used; have h3 := h.room; have h4 := h.sl; have h5 := h.trim
  have hl := lineN_len (k := 115) (n := k.toNat) (by omega)
  have e := seal_eq (s := s) (d := d) (ep := k) (by omega) (by omega) (by omega)
  rw [e]
  have htk := take_seal (s := s) (i := d.lines.length) (n := k.toNat) (by omega) (by omega)
  have hp := ply_push (n := d.lines.length + 1) h.ply htk (by omega) (by omega)
  refine ⟨Prod.ext (by show nextM s.m (s.trim : Int) = pos; rw [h5]; exact next_pos h1.1 h.keys) rfl, rfl, hp, h.room, ?_, h.trim, by show ((k.toNat : Nat) : Int) = k; omega, by omega, h.keys, ?_⟩
  · show usedL (d.lines ++ [txB _]) ≤ _
    rw [usedL_app]; simp only [usedL, size_txB]; omega
  · refine ⟨_, ?_, rfl⟩
    show (⟨[], 0, 0⟩ : Sg).plays 0 (txs ((d.lines ++ [txB _]).take (d.lines.length + 1))) = _
    rw [List.take_of_length_le (by simp)]
    exact hp.pl
theorem seal_sealno {i : Nat} {s : Sg} {d : Dk} {pos sealed k : Int} (h : SealI i s d pos sealed) (hk : 1 ≤ k ∧ k ≤ 20) (hs : k ≤ sealed) : s.seal d k = ((0, 7), s, d) := by
  have h4 := h.sl
  unfold Sg.seal
  rw [if_neg (by omega), if_pos (by omega)]
theorem front_ply {d : Dk} {s2 : Sg} (h : d.Ok) (hp : (⟨[], 0, 0⟩ : Sg).plays 0 (txs (d.lines.take d.lasts)) = some s2) : Ply s2 (d.front d.lasts) := ⟨h.front h.lasts, hp⟩
theorem seal_end2 {i : Nat} {s : Sg} {d : Dk} {pos sealed : Int} (h : SealI i s d pos sealed) : ∃ s2, Ply s2 (d.crash 0) ∧ (s2.sealed : Int) = sealed := by
  obtain ⟨s2, h1, h2⟩ := h.syn
  refine ⟨s2, ?_, by rw [h2]; exact h.sl⟩
  rw [crash0]
  exact front_ply h.ply.ok h1
theorem seal_end {i : Nat} {s : Sg} {d : Dk} {pos sealed : Int} (h : SealI i s d pos sealed) : (((d.crash 0).opened).1.sealed : Int) = sealed := by
  obtain ⟨s2, h1, h2⟩ := h.syn
  rw [crash0, ply_opened (front_ply h.ply.ok h1)]
  show (s2.sealed : Int) = sealed
  rw [h2]; exact h.sl

/-! ### Cuts -/
def rowM (k : Nat) : List (Int × Slt) := (List.range k).map fun j : Nat => ((j : Int), (rz 0 ((j : Int) + 1), j))
structure CutI (i : Nat) (s : Sg) (d : Dk) : Prop where
  ply : Ply s d
  room : d.room = 100000
  used : usedL d.lines ≤ 33 * i
  s : s = ⟨rowM i, 0, 0⟩
  len : d.lines.length = i
theorem cutI_zero : CutI 0 ⟨[], 0, 0⟩ ⟨100000, [], 0⟩ := ⟨⟨⟨by decide, by decide, by decide⟩, rfl⟩, rfl, Nat.le_refl _, rfl, rfl⟩
theorem rowM_get (n : Nat) (k : Nat) : mget (rowM n) (k : Int) = if k < n then some (rz 0 (k + 1), k) else none := by
  induction n with
  | zero => simp [rowM, mget]
  | succ n ih =>
    have e : rowM (n + 1) = rowM n ++ [((n : Int), (rz 0 (n + 1), n))] := by simp [rowM, List.range_succ]
    rw [e]
    by_cases hk : k < n
    · rw [if_pos hk] at ih
      rw [if_pos (by omega)]
      have : ∀ (l m : List (Int × Slt)) (x : Slt), mget l (k : Int) = some x → mget (l ++ m) (k : Int) = some x := by
        intro l m x
        induction l with
        | nil => intro h; cases h
        | cons p l ih =>
          obtain ⟨k', v⟩ := p
          simp only [List.cons_append, mget]
          split
          · exact id
          · exact ih
      exact this _ _ _ ih
    · rw [if_neg hk] at ih
      have : ∀ (l m : List (Int × Slt)), mget l (k : Int) = none → mget (l ++ m) (k : Int) = mget m (k : Int) := by
        intro l m
        induction l with
        | nil => intro _; rfl
        | cons p l ih =>
          obtain ⟨k', v⟩ := p
          simp only [List.cons_append, mget]
          split
          · intro h; cases h
          · exact ih
      rw [this _ _ ih]
      simp only [mget]
      by_cases h2 : k = n
      · subst h2; rw [if_pos rfl, if_pos (by omega)]
      · rw [if_neg (by omega), if_neg (by omega)]
theorem cut_put {i : Nat} {s : Sg} {d : Dk} (h : CutI i s d) (hi : i < 1000) : (s.put d 1 i (rz 0 (i + 1))).1 = 0 ∧ CutI (i + 1) (s.put d 1 i (rz 0 (i + 1))).2.1 (s.put d 1 i (rz 0 (i + 1))).2.2 := by
  obtain ⟨hp, h3, h2, rfl, hlen⟩ := h
  have hg : mget (rowM i) (i : Int) = none := by rw [rowM_get, if_neg (Nat.lt_irrefl i)]
  have hc := rz_ok (site := 0) (seq := i + 1) (by omega)
  have hl := lineP_len (n := i) (site := 0) (seq := i + 1) (by omega) (by omega)
  have e := put_eq (s := ⟨rowM i, 0, 0⟩) (d := d) (ep := 1) (pos := i) (r := rz 0 (i + 1)) (by omega) (show ((0 : Nat) : Int) < 1 by omega) (by show ((0 : Nat) : Int) ≤ i; omega) hg hc (lineP_nl _ _ _) (by simp only [Int.toNat_natCast]; omega)
  simp only [Int.toNat_natCast] at e
  rw [e]
  refine ⟨rfl, ?_⟩
  have hle := hp.ok.lasts
  have htk := take_put (s := ⟨rowM i, 0, 0⟩) (i := d.lines.length) (n := i) (r := rz 0 (i + 1)) (by omega) (Nat.zero_le _) hg hc (rz_trim _ _)
  refine ⟨ply_push hp htk (by omega) (by omega), h3, ?_, ?_, ?_⟩
  · show usedL (d.lines ++ [txB _]) ≤ _
    rw [usedL_app]; simp only [usedL, size_txB, Int.toNat_natCast]; omega
  · show (⟨mput (rowM i) (i : Int) _, 0, 0⟩ : Sg) = _
    rw [mput_end hg, hlen]
    simp [rowM, List.range_succ]
  · show (d.lines ++ [txB _]).length = _
    rw [List.length_append, hlen]; rfl
/-- What is there behind a cut, a trim and a fall. -/
theorem cut_end {k : Nat} {s : Sg} {d : Dk} {a b : Nat} (h : CutI k s d) (hk : k < 1000) (ha : a < 1000) (hb : b < 1000) :
    (s.cutAt d b).1 = 0 ∧ Ply (s.cutAt d b).2.1 (s.cutAt d b).2.2 ∧
    ∃ s4 d4, ((s.cutAt d b).2.1.trimAt (s.cutAt d b).2.2 a).2.crash 0 = d4 ∧ ((s.cutAt d b).2.1.trimAt (s.cutAt d b).2.2 a).2.Ok ∧ Ply s4 d4 ∧
      ∀ i : Nat, (i < a → (s4.get i).2 = 8 ∧ s4.lastsAt d4 i = false) ∧ (¬ i < a → (b ≤ i ∨ k ≤ i) → (s4.get i).2 = 9 ∧ s4.lastsAt d4 i = false) ∧
        (¬ i < a → ¬ (b ≤ i ∨ k ≤ i) → (s4.get i).2 = 0 ∧ (s4.get i).1.seq = i + 1 ∧ s4.lastsAt d4 i = true) := by
  obtain ⟨hp, h3, h2, rfl, hlen⟩ := h
  have hl := lineN_len (k := 99) (n := b) (by omega)
  have hl2 := lineN_len (k := 116) (n := a) (by omega)
  have e := cut_eq (s := ⟨rowM k, 0, 0⟩) (d := d) (pos := b) (by omega) (by simp only [Int.toNat_natCast]; omega)
  simp only [Int.toNat_natCast] at e
  rw [e]
  have hp2 : Ply ((⟨rowM k, 0, 0⟩ : Sg).above b) ⟨d.room, d.lines ++ [txB (lineN 99 b)], d.lines.length + 1⟩ := ply_push (n := d.lines.length + 1) hp (take_cut (s := ⟨rowM k, 0, 0⟩) (i := d.lines.length) (n := b) (by omega)) (by omega) (by omega)
  refine ⟨rfl, hp2, ?_⟩
  -- a disk of which all lasts, opened behind a fall
  have fin : ∀ (s4 : Sg) (d3 : Dk), Ply s4 d3 → d3.lasts = d3.lines.length → d3.crash 0 = d3 := by
    intro s4 d3 hq hls
    rw [crash0]
    unfold Dk.front
    rw [hls, List.take_length]
    cases d3; simp at hls ⊢; exact hls.symm
  -- what is at a position
  have at_ : ∀ (m : List (Int × Slt)) (d3 : Dk), (∀ i : Nat, mget m (i : Int) = if a ≤ i ∧ i < b ∧ i < k then some (rz 0 (i + 1), i) else none) → k ≤ d3.lasts → ∀ i : Nat, (i < a → ((⟨m, 0, a⟩ : Sg).get i).2 = 8 ∧ (⟨m, 0, a⟩ : Sg).lastsAt d3 i = false) ∧
      (¬ i < a → (b ≤ i ∨ k ≤ i) → ((⟨m, 0, a⟩ : Sg).get i).2 = 9 ∧ (⟨m, 0, a⟩ : Sg).lastsAt d3 i = false) ∧
        (¬ i < a → ¬ (b ≤ i ∨ k ≤ i) → ((⟨m, 0, a⟩ : Sg).get i).2 = 0 ∧ ((⟨m, 0, a⟩ : Sg).get i).1.seq = i + 1 ∧ (⟨m, 0, a⟩ : Sg).lastsAt d3 i = true) := by
    intro m d3 hm hkl i
    have := hm i
    refine ⟨fun hi => ?_, fun hi hj => ?_, fun hi hj => ?_⟩
    · rw [if_neg (by omega)] at this
      unfold Sg.get Sg.lastsAt
      rw [if_pos (show (i : Int) < ((a : Nat) : Int) by omega)]
      simp only [this]
      exact ⟨trivial, trivial⟩
    · rw [if_neg (by omega)] at this
      unfold Sg.get Sg.lastsAt
      rw [if_neg (show ¬ (i : Int) < ((a : Nat) : Int) by omega)]
      simp only [this]
      exact ⟨trivial, trivial⟩
    · rw [if_pos (by omega)] at this
      unfold Sg.get Sg.lastsAt
      rw [if_neg (show ¬ (i : Int) < ((a : Nat) : Int) by omega)]
      simp only [this]
      exact ⟨trivial, rfl, decide_eq_true (by omega)⟩
  have m2 : ∀ i : Nat, mget ((⟨rowM k, 0, 0⟩ : Sg).above b).m (i : Int) = if i < b ∧ i < k then some (rz 0 (i + 1), i) else none := by
    intro i
    show mget ((rowM k).filter fun p => decide (p.1 < (b : Int))) (i : Int) = _
    rw [mget_filter (fun x => decide (x < (b : Int))), rowM_get]
    by_cases h1 : i < b
    · rw [if_pos (decide_eq_true (by omega))]
      by_cases h2 : i < k
      · rw [if_pos h2, if_pos ⟨h1, h2⟩]
      · rw [if_neg h2, if_neg (by omega)]
    · rw [if_neg (by simp; omega), if_neg (by omega)]
  rcases Nat.eq_zero_or_pos a with rfl | hap
  · have e2 : ((⟨rowM k, 0, 0⟩ : Sg).above b).trimAt ⟨d.room, d.lines ++ [txB (lineN 99 b)], d.lines.length + 1⟩ ((0 : Nat) : Int) = ((⟨rowM k, 0, 0⟩ : Sg).above b, ⟨d.room, d.lines ++ [txB (lineN 99 b)], d.lines.length + 1⟩) := by
      unfold Sg.trimAt
      rw [if_neg (by show ¬ (((0 : Nat) : Int) < ((0 : Nat) : Int) ∧ _); omega)]
    simp only [e2]
    refine ⟨_, _, fin _ _ hp2 (by simp), hp2.ok, hp2, ?_⟩
    refine at_ _ _ (fun i => ?_) (by show k ≤ d.lines.length + 1; omega)
    refine (m2 i).trans ?_
    by_cases h1 : i < b ∧ i < k
    · rw [if_pos h1, if_pos (by omega)]
    · rw [if_neg h1, if_neg (by omega)]
  · have hu : usedL (d.lines ++ [txB (lineN 99 b)]) ≤ 33 * k + 9 := by
      rw [usedL_app]; simp only [usedL, size_txB]; omega
    have e2 := trim_eq (s := (⟨rowM k, 0, 0⟩ : Sg).above b) (d := ⟨d.room, d.lines ++ [txB (lineN 99 b)], d.lines.length + 1⟩) (pos := (a : Int)) (by show ((0 : Nat) : Int) < (a : Int) ∧ _; omega) (by simp only [Int.toNat_natCast]; omega)
    simp only [Int.toNat_natCast] at e2
    simp only [e2]
    have hp3 := ply_push (n := (d.lines ++ [txB (lineN 99 b)]).length + 1) hp2 (take_trim (s := (⟨rowM k, 0, 0⟩ : Sg).above b) (i := (d.lines ++ [txB (lineN 99 b)]).length) (n := a) (by omega) hap) (Nat.le_refl _) (by show ((usedL (d.lines ++ [txB (lineN 99 b)]) : Nat) : Int) + _ + 1 ≤ d.room; omega)
    refine ⟨_, _, fin _ _ hp3 (by simp), hp3.ok, hp3, ?_⟩
    refine at_ _ _ (fun i => ?_) (by show k ≤ (d.lines ++ [txB (lineN 99 b)]).length + 1; rw [List.length_append]; omega)
    show mget ((((⟨rowM k, 0, 0⟩ : Sg).above b).m).filter fun p => decide ((a : Int) ≤ p.1)) (i : Int) = _
    rw [mget_filter (fun x => decide ((a : Int) ≤ x)), m2 i]
    by_cases h1 : a ≤ i
    · rw [if_pos (decide_eq_true (by omega))]
      by_cases h2 : i < b ∧ i < k
      · rw [if_pos h2, if_pos (by omega)]
      · rw [if_neg h2, if_neg (by omega)]
    · rw [if_neg (by simp; omega), if_neg (by omega)]

/-! ### Once -/
structure OnceI (i : Nat) (s : Sg) (d : Dk) (f : List Int) (n : Nat) : Prop where
  ok : d.Ok
  room : d.room = 100000
  used : usedL d.lines ≤ 33 * i
  sl : s.sealed = 0
  trim : s.trim = 0
  flen : f.length = 256
  at_ : ∀ v : Nat, v < 256 → (f.getD v 0 = 0 ∧ mget s.m (v : Int) = none) ∨ (f.getD v 0 ≠ 0 ∧ ∃ x, mget s.m (v : Int) = some x ∧ x.1.seq = f.getD v 0)
  key : ∀ k ∈ keysM s.m, 0 ≤ k ∧ k < 256
  nd : (keysM s.m).Nodup
  len : s.m.length = n
theorem onceI_zero : OnceI 0 ⟨[], 0, 0⟩ ⟨100000, [], 0⟩ (List.replicate 256 0) 0 := by
  refine ⟨⟨by decide, by decide, by decide⟩, rfl, Nat.le_refl _, rfl, rfl, List.length_replicate, fun v hv => .inl ⟨?_, rfl⟩, fun k hk => (by cases hk), List.nodup_nil, rfl⟩
  rw [List.getD, List.getElem?_replicate, if_pos hv]; rfl
theorem OnceI.mono {i n : Nat} {s : Sg} {d : Dk} {f : List Int} (h : OnceI i s d f n) : OnceI (i + 1) s d f n :=
  ⟨h.ok, h.room, by have := h.used; omega, h.sl, h.trim, h.flen, h.at_, h.key, h.nd, h.len⟩
theorem once_no {i n v : Nat} {s : Sg} {d : Dk} {f : List Int} (h : OnceI i s d f n) (hv : v < 256) (hf : f.getD v 0 ≠ 0) (r : Rc) : s.put d 1 v r = (5, s, d) := by
  rcases h.at_ v hv with ⟨h1, _⟩ | ⟨_, x, hx, _⟩
  · exact absurd h1 hf
  · have h4 := h.sl; have h5 := h.trim
    unfold Sg.put
    rw [if_neg (by omega), if_neg (by omega), if_neg (by omega), if_pos (by rw [hx]; rfl)]
theorem once_yes {i n v : Nat} {s : Sg} {d : Dk} {f : List Int} (h : OnceI i s d f n) (hv : v < 256) (hf : f.getD v 0 = 0) (hi : i < 1000) :
    (s.put d 1 v (rz 0 (i + 1))).1 = 0 ∧ OnceI (i + 1) (s.put d 1 v (rz 0 (i + 1))).2.1 (s.put d 1 v (rz 0 (i + 1))).2.2 (f.set v (i + 1)) (n + 1) := by
  rcases h.at_ v hv with ⟨_, hg⟩ | ⟨hne, _⟩
  · have h2 := h.used; have h3 := h.room; have h4 := h.sl; have h5 := h.trim
    have hc := rz_ok (site := 0) (seq := i + 1) (by omega)
    have hl := lineP_len (n := v) (site := 0) (seq := i + 1) (by omega) (by omega)
    have e := put_eq (s := s) (d := d) (ep := 1) (pos := v) (r := rz 0 (i + 1)) (by omega) (by omega) (by omega) hg hc (lineP_nl _ _ _) (by simp only [Int.toNat_natCast]; omega)
    rw [e]
    have hle := h.ok.lasts
    refine ⟨rfl, push_ok h.ok (by omega) (by simp only [Int.toNat_natCast]; omega), h3, ?_, h4, h5, by rw [List.length_set]; exact h.flen, fun u hu => ?_, fun k hk => ?_, nodup_mput h.nd _ _, ?_⟩
    · show usedL (d.lines ++ [txB _]) ≤ _
      rw [usedL_app]; simp only [usedL, size_txB, Int.toNat_natCast]; omega
    · show ((f.set v (i + 1)).getD u 0 = 0 ∧ mget (mput s.m (v : Int) _) (u : Int) = none) ∨ _ ∧ ∃ x, mget (mput s.m (v : Int) _) (u : Int) = some x ∧ _
      rw [mget_mput]
      by_cases huv : u = v
      · subst huv
        right
        have e1 : (f.set u ((i : Int) + 1)).getD u 0 = (i : Int) + 1 := by
          rw [List.getD, List.getElem?_set_self (by rw [h.flen]; exact hv)]; rfl
        rw [if_pos rfl, e1]
        exact ⟨by omega, _, rfl, rfl⟩
      · have e1 : (f.set v ((i : Int) + 1)).getD u 0 = f.getD u 0 := by
          rw [List.getD, List.getElem?_set_ne (fun he => huv he.symm)]; rfl
        rw [if_neg (by omega), e1]
        exact h.at_ u hu
    · have hk : k ∈ keysM (mput s.m (v : Int) (rz 0 ((i : Int) + 1), d.lines.length)) := hk
      rw [keys_mput] at hk
      split at hk
      · exact h.key k hk
      · rcases List.mem_append.1 hk with hk | hk
        · exact h.key k hk
        · simp at hk; omega
    · show (mput s.m (v : Int) _).length = n + 1
      rw [mput_end hg, List.length_append, h.len]; rfl
  · exact absurd hf hne
theorem once_all {i n : Nat} {s : Sg} {d : Dk} {f : List Int} (h : OnceI i s d f n) : s.all.length = n := by
  unfold Sg.all Sg.keys
  rw [List.length_map, (sort_perm _).length_eq]
  unfold keysM
  rw [List.length_map]; exact h.len
theorem once_end {i n : Nat} {s : Sg} {d : Dk} {f : List Int} (h : OnceI i s d f n) {j : Nat} {p : Int × Rc} (hj : s.all[j]? = some p) :
    0 ≤ p.1 ∧ p.1 ≤ 255 ∧ p.2.seq = f.getD p.1.toNat 0 ∧ ∀ q, 0 < j → s.all[j - 1]? = some q → q.1 < p.1 := by
  have hk : ∀ (j : Nat) (p : Int × Rc), s.all[j]? = some p → s.keys[j]? = some p.1 ∧ p.2 = recM s.m p.1 := by
    intro j p hj
    unfold Sg.all at hj
    rw [List.getElem?_map, Option.map_eq_some_iff] at hj
    obtain ⟨k, hk, rfl⟩ := hj
    exact ⟨hk, rfl⟩
  obtain ⟨h1, h2⟩ := hk j p hj
  have hm : p.1 ∈ keysM s.m := (sort_perm _).subset (List.mem_of_getElem? h1)
  have h3 := h.key p.1 hm
  refine ⟨h3.1, by omega, ?_, fun q hj0 hq => ?_⟩
  · rw [h2]
    unfold recM
    have hs : (mget s.m p.1).isSome = true := mget_isSome.2 hm
    rcases h.at_ p.1.toNat (by omega) with ⟨_, h4⟩ | ⟨_, x, h4, h5⟩
    · rw [show ((p.1.toNat : Nat) : Int) = p.1 by omega] at h4
      rw [h4] at hs; cases hs
    · rw [show ((p.1.toNat : Nat) : Int) = p.1 by omega] at h4
      rw [h4]; exact h5
  · obtain ⟨h6, _⟩ := hk (j - 1) q hq
    have hr : s.keys.Pairwise (· ≤ ·) := sort_ris _
    have hn : s.keys.Nodup := (sort_perm _).nodup_iff.2 h.nd
    obtain ⟨a1, e1⟩ := List.getElem?_eq_some_iff.1 h6
    obtain ⟨a2, e2⟩ := List.getElem?_eq_some_iff.1 h1
    have hle := List.pairwise_iff_getElem.1 hr (j - 1) j a1 a2 (by omega)
    have hne := List.pairwise_iff_getElem.1 hn (j - 1) j a1 a2 (by omega)
    rw [e1, e2] at hle hne
    omega
end Go.Sl

/-! How slots, disks and segments lie in memory. -/
set_option linter.unusedVariables false
namespace Go.Sl
def RSlt : Rep Slt where
  V := Pl
  sz := 6
  agg := true
  cells := fun e h => [.int .i64 e.1.site, .int .i64 e.1.seq, .slice h.1 e.1.dep.length h.2, .string e.1.key, .string e.1.val, .int .i64 (e.2 : Int)]
  atoms := fun e h => [slAt RI h.1 e.1.dep.length e.1.dep, pr (e.1.dep.length ≤ h.2)]
  len := fun _ _ => rfl
  pers := fun e h A hA => by
    simp only [List.mem_cons, List.mem_nil_iff, or_false] at hA
    rcases hA with rfl | rfl
    · exact pers_slAt _ _ _ _
    · exact pers_pr _
  pos := by decide
  sc := fun h => by cases h
  one := fun _ _ v h => by
    simp only [List.mem_cons, List.mem_nil_iff, or_false] at h
    rcases h with rfl | rfl | rfl | rfl | rfl | rfl <;> rfl
  wit := fun _ h => h (none, 0)
/-- A disk: its cells, its lines. -/
abbrev dkAt (b : Nat) (x : Pl) (d : Dk) : List HP := [pts b 0 [.int .i64 d.room, .slice x.1 d.lines.length x.2, .int .i64 (d.lasts : Int)], sqAt false RS x.1 d.lines.length x.2 d.lines]
/-- A disk, cell by cell. -/
abbrev dkParts (b : Nat) (x : Pl) (d : Dk) : List HP := [pts b 0 [.int .i64 d.room], pts b 1 [.slice x.1 d.lines.length x.2], pts b 2 [.int .i64 (d.lasts : Int)], sqAt false RS x.1 d.lines.length x.2 d.lines]
theorem pts_three {b : Nat} {x y z : Value} {L : List HP} : Ent (pts b 0 [x, y, z] :: L) (pts b 0 [x] :: pts b 1 [y] :: pts b 2 [z] :: L) :=
  (pts_split (us := [x]) (vs := [y, z])).trans (Ent.cons (pts_split (b := b) (off := 1) (us := [y]) (vs := [z])))
theorem three_pts {b : Nat} {x y z : Value} {L : List HP} : Ent (pts b 0 [x] :: pts b 1 [y] :: pts b 2 [z] :: L) (pts b 0 [x, y, z] :: L) :=
  (Ent.cons (pts_join (b := b) (off := 1) (us := [y]) (vs := [z]))).trans (pts_join (us := [x]) (vs := [y, z]))
theorem dk_split {b : Nat} {x : Pl} {d : Dk} {L : List HP} : Ent (dkAt b x d ++ L) (dkParts b x d ++ L) := pts_three
theorem dk_join {b : Nat} {x : Pl} {d : Dk} {L : List HP} : Ent (dkParts b x d ++ L) (dkAt b x d ++ L) := three_pts
/-- A segment: its cells, its slots. -/
abbrev sgAt (sb db mb : Nat) (s : Sg) : List HP := [pts sb 0 [.pointer (some ⟨db, 0, none⟩), .map (some mb), .int .i64 (s.sealed : Int), .int .i64 (s.trim : Int)], mpAt (KI .i64) RSlt mb s.m]
/-- What an iterator over lines hands over. -/
def ELn : Enc (ByteArray × Nat) where
  V := Unit
  args := fun x _ => [.int .i64 (x.2 : Int), .string x.1]
  atoms := fun _ _ => []
  pers := fun _ _ _ h => by cases h
theorem zip_get {α : Type} {l : List α} {i : Nat} {r : α} (h : l[i]? = some r) : l.zipIdx[i]? = some (r, i) := by
  rw [List.getElem?_zipIdx, h]; simp
theorem zip_of {α : Type} {l : List α} {i : Nat} {x : α × Nat} (h : l.zipIdx[i]? = some x) : l[i]? = some x.1 ∧ x.2 = i := by
  rw [List.getElem?_zipIdx] at h
  cases hl : l[i]? with
  | none => rw [hl] at h; cases h
  | some a => rw [hl] at h; simp at h; subst h; simp
end Go.Sl

/-! Maps copied; values in an interface. -/
set_option linter.unusedVariables false
set_option linter.unusedSectionVars false
set_option linter.unusedSimpArgs false
namespace Go.Sl
section
variable {P : Program} [tb : Tab P] {rd : Option Nat} {N : Nat} {T : TT} {L L' : List HP} {Q : Post} {ks : List K}
variable {all : Array Oper} {rest : List Oper} {d : Option Tmp} {ty : TypeId} {pos : String} {aft : Array Edge}
variable {κ α : Type} [DecidableEq κ] {kr : KR κ} {ρ : Rep α}
theorem SO.ifaceMap {x : Operand} {t kt e n1 n2 : Nat} {z0 : Value} {v : Value} (hx : evO T x = some v) (ht : tget tb.tab t = some ⟨.map kt e, n1, n2, z0⟩) (hd : dstOk N d = true)
    (k : SO P rd N all rest (putD d (.iface t v) T) L ks Q) : SO P rd N all (⟨d, .makeInterface t x, ty, pos, aft, none⟩ :: rest) T L ks Q := by
  refine SO.reads (R := fun u L' => u = .iface t v ∧ L' = L) ?_ rfl rfl hd (by rintro _ _ ⟨rfl, rfl⟩; exact k)
  intro q hq r oo F hs
  refine ⟨_, L, ⟨rfl, rfl⟩, hs, fun w _ => ?_⟩
  have hk := (tab_ok ht).k
  simp only [TK.ok] at hk
  simp only [execOp, hq _ _ hx, Instr.makeInterface, Sem.run_bind, run_und hk, Result.andThen_ok]
  rfl
theorem SO.assertMap {x : Operand} {t xt kt e n1 n2 : Nat} {z0 : Value} {v : Value} (hx : evO T x = some (.iface t v)) (ht : tget tb.tab t = some ⟨.map kt e, n1, n2, z0⟩) (hd : dstOk N d = true)
    (k : SO P rd N all rest (putD d v T) L ks Q) : SO P rd N all (⟨d, .typeAssert x xt t false, ty, pos, aft, none⟩ :: rest) T L ks Q := by
  refine SO.reads (R := fun u L' => u = v ∧ L' = L) ?_ rfl rfl hd (by rintro _ _ ⟨rfl, rfl⟩; exact k)
  intro q hq r oo F hs
  refine ⟨_, L, ⟨rfl, rfl⟩, hs, fun w _ => ?_⟩
  have hk := (tab_ok ht).k
  simp only [TK.ok] at hk
  simp only [execOp, hq _ _ hx, Instr.typeAssert, Sem.run_bind, run_und hk, Result.andThen_ok, if_true, Bool.false_eq_true, if_false]
  rfl
theorem SO.cloneMap {x : Operand} {tys : Array TypeId} {f : FuncId} {fn : Func} {t b : Nat} {l : List (κ × α)} (hx : evO T x = some (.iface t (.map (some b)))) (htk : Take (mpAt kr ρ b l) L L') (hf : P.funcs[f]? = some fn) (hname : (fn.name == "runtime.NumGoroutine") = false)
    (hb : fn.body.isNone = true) (hn : Extern.findNext fn = none) (he : Extern.find fn = some Extern.MapsClone.clone) (hd : dstOk N d = true)
    (k : ∀ b', SO P rd N all rest (putD d (.iface t (.map (some b'))) T) (mpAt kr ρ b' l :: mpAt kr ρ b l :: L') ks Q) : SO P rd N all (⟨d, .call ⟨.value (.func f), #[x], tys⟩, ty, pos, aft, none⟩ :: rest) T L ks Q := by
  refine SO.run (R := fun u L2 => ∃ b', u = .iface t (.map (some b')) ∧ L2 = mpAt kr ρ b' l :: mpAt kr ρ b l :: L') rfl rfl hd ?_ (by rintro _ _ ⟨b', rfl, rfl⟩; exact k b')
  intro q hq F w hst
  have h1 : St w (mpAt kr ρ b l :: F :: L') := hst.ent ((Ent.cons htk.ent).trans Ent.swap)
  obtain ⟨z, clock, e1, e2, e3, h2⟩ := map_open h1
  have hobj := h2.obj
  have h3 := h2.allocObj (.map (z.map (entM kr ρ)).toArray clock) trivial
  refine ⟨_, _, _, .inl ?_, ⟨w.heap.size, rfl, rfl⟩, h3.ent ?_⟩
  · have hc : (Extern.MapsClone.clone #[.iface t (.map (some b))]).run P w = .ok (.iface t (.map (some w.heap.size))) { w with heap := w.heap.push (.map (z.map (entM kr ρ)).toArray clock) } := by
      have e : Extern.MapsClone.clone #[.iface t (.map (some b))] = (getObj b >>= fun o => match o with
          | .map entries clock => (newObj (.map entries clock) >>= fun n => Pure.pure (.iface t (.map (some n))))
          | _ => stuck "maps.clone: a map expected") := rfl
      rw [e]
      simp [getObj, newObj, Sem.run, Bind.bind, Sem.bind, hobj.1, Pure.pure]
    have hr := run_callFunc_extern (P := P) hf hname hb hn he #[.iface t (.map (some b))] w
    rw [hc] at hr
    simp only [execOp, resolve, Sem.run_bind, hq (.func f) _ rfl]
    simp [Deferred.ofValue, invoke, hq _ _ hx, Sem.run_pure]
    rw [hr]; rfl
  · have e4 : Ent (ob w.heap.size (.map (z.map (entM kr ρ)).toArray clock) :: ob b (.map (z.map (entM kr ρ)).toArray clock) :: memA ρ (z.map fun p => (p.1.2, p.2.1)) :: F :: L')
        (ob w.heap.size (.map (z.map (entM kr ρ)).toArray clock) :: memA ρ (z.map fun p => (p.1.2, p.2.1)) :: ob b (.map (z.map (entM kr ρ)).toArray clock) :: memA ρ (z.map fun p => (p.1.2, p.2.1)) :: F :: L') :=
      Ent.cons ((Ent.cons (Ent.dup (pers_memA _ _))).trans Ent.swap)
    refine e4.trans ((map_shut z clock e1 e2 e3).trans ?_)
    refine (Ent.cons (map_shut z clock e1 e2 e3)).trans ?_
    exact (Ent.cons Ent.swap).trans Ent.swap
end
end Go.Sl

/-! Slices of plain elements by their cells; a row that is made with nothing marked behind it; 'slices.overlaps'. -/
set_option linter.unusedVariables false
set_option linter.unusedSectionVars false
set_option linter.unusedSimpArgs false
namespace Go.Sl
/-- Elements that lead to nothing. -/
structure Plain {α : Type} (ρ : Rep α) (h : ρ.V) : Prop where
  at0 : ∀ x, ρ.atoms x h = []
  un : ∀ h', h' = h
def cellsOf {α : Type} (ρ : Rep α) (h : ρ.V) (l : List α) : List Value := flat ρ (l.map fun x => (x, h))
theorem cellsOf_len {α : Type} {ρ : Rep α} {h : ρ.V} (l : List α) : (cellsOf ρ h l).length = l.length * ρ.sz := by
  unfold cellsOf; rw [flat_length, List.length_map]
theorem cellsOf_app {α : Type} {ρ : Rep α} {h : ρ.V} (a b : List α) : cellsOf ρ h (a ++ b) = cellsOf ρ h a ++ cellsOf ρ h b := by
  unfold cellsOf; rw [List.map_append, flat_append]
theorem cellsOf_one {α : Type} {ρ : Rep α} {h : ρ.V} (x : α) : cellsOf ρ h [x] = ρ.cells x h := by
  simp [cellsOf, flat]
theorem cellsOf_ones {α : Type} {ρ : Rep α} {h : ρ.V} : ∀ (l : List α), ∀ c ∈ cellsOf ρ h l, one c = true
  | [], c, hc => by simp [cellsOf, flat] at hc
  | x :: l, c, hc => by
    rw [show x :: l = [x] ++ l from rfl, cellsOf_app, cellsOf_one] at hc
    rcases List.mem_append.1 hc with hc | hc
    · exact ρ.one x h c hc
    · exact cellsOf_ones l c hc
theorem sq_cells {α : Type} {ρ : Rep α} {h : ρ.V} (hp : Plain ρ h) {a : Addr} {n c : Nat} {l : List α} {L : List HP} {W : World} (hs : St W (sqAt true ρ (some a) n c l :: L)) :
    a = ⟨a.block, a.off, none⟩ ∧ n ≤ c ∧ ∃ sp, sp.length = (c - n) * ρ.sz ∧ St W (pts a.block a.off (cellsOf ρ h l ++ sp) :: L) := by
  obtain ⟨h0, h1, h2, hsp, z, sp, hz, hl, h5⟩ := sq_open hs
  have hz2 : z = l.map fun x => (x, h) := by
    rw [← hz, List.map_map]
    conv => lhs; rw [← List.map_id z]
    refine List.map_congr_left fun p _ => ?_
    obtain ⟨x, k⟩ := p
    rw [hp.un k]; rfl
  refine ⟨addr_eta hsp, h2, sp, hl, ?_⟩
  subst hz2
  have hlen : (flat ρ (l.map fun x => (x, h))).length = n * ρ.sz := by rw [flat_length, List.length_map, h0]
  have h6 : St W (pts a.block a.off (flat ρ (l.map fun x => (x, h))) :: pts a.block (a.off + (flat ρ (l.map fun x => (x, h))).length) sp :: memA ρ (l.map fun x => (x, h)) :: L) := by rw [hlen]; exact h5
  exact (h6.ent pts_join).ent (Ent.cons Ent.drop)
theorem cells_sq {α : Type} {ρ : Rep α} {h : ρ.V} (hp : Plain ρ h) {b o n c : Nat} {l : List α} {L : List HP} {sp : List Value} (hn : n = l.length) (hl : n ≤ lim) (hc : n ≤ c) (hsp : sp.length = (c - n) * ρ.sz) :
    Ent (pts b o (cellsOf ρ h l ++ sp) :: L) (sqAt true ρ (some ⟨b, o, none⟩) n c l :: L) := by
  have h2 : Ent (pts b o (cellsOf ρ h l ++ sp) :: L) (pts b o (cellsOf ρ h l) :: pts b (o + n * ρ.sz) sp :: L) := by
    have := pts_split (b := b) (off := o) (us := cellsOf ρ h l) (vs := sp) (L := L)
    rwa [cellsOf_len, ← hn] at this
  refine h2.trans ?_
  have hm : ∀ (M : List HP), Ent M (memA ρ (l.map fun x => (x, h)) :: M) := fun M r o hM => ⟨own0, o, fun _ _ => .inl rfl, none_add, fun i u y e => by
    rw [List.getElem?_map, Option.map_eq_some_iff] at e
    obtain ⟨x, _, e⟩ := e
    cases e
    rw [hp.at0]; trivial, hM⟩
  refine (Ent.cons (Ent.cons (hm L))).trans ?_
  exact sq_shut (w := true) (a := ⟨b, o, none⟩) (z := l.map fun x => (x, h)) hn hl hc rfl (by rw [List.map_map]; exact List.map_id _) hsp
theorem cellsOf_cut {α : Type} {ρ : Rep α} {h : ρ.V} (l : List α) (sp : List Value) (i k s : Nat) (hs : ρ.sz = s) (hik : i + k ≤ l.length) : cut (cellsOf ρ h l ++ sp) (i * s) (k * s) = cellsOf ρ h ((l.drop i).take k) := by
  subst hs
  have e : l = l.take i ++ ((l.drop i).take k ++ (l.drop i).drop k) := by rw [List.take_append_drop, List.take_append_drop]
  unfold cut
  conv => lhs; rw [e]
  rw [cellsOf_app, cellsOf_app, List.append_assoc]
  have h1 : (cellsOf ρ h (l.take i)).length = i * ρ.sz := by rw [cellsOf_len, List.length_take, Nat.min_eq_left (by omega)]
  have h2 : (cellsOf ρ h ((l.drop i).take k)).length = k * ρ.sz := by rw [cellsOf_len, List.length_take, List.length_drop, Nat.min_eq_left (by omega)]
  rw [← h1, List.drop_left, List.append_assoc, ← h2, List.take_left]
theorem lay_app : ∀ (A : List Value) {B D : List Value}, lay (A ++ B) A.length D = A ++ lay B 0 D
  | [], B, D => rfl
  | a :: A, B, [] => by simp [lay]
  | a :: A, B, d :: D => by
    simp only [List.cons_append, List.length_cons, lay]
    rw [lay_app A]
theorem lay_over : ∀ {B D C : List Value}, B.length = D.length → lay (B ++ C) 0 D = D ++ C
  | [], [], C, _ => by simp [lay]
  | b :: B, d :: D, C, h => by
    simp only [List.cons_append, lay]
    rw [lay_over (by simpa using h)]
theorem lay_mid {A B C D : List Value} {n : Nat} (hn : n = A.length) (h : B.length = D.length) : lay (A ++ (B ++ C)) n D = A ++ (D ++ C) := by
  subst hn; rw [lay_app, lay_over h]
theorem takes_self : ∀ {L : List HP}, Takes L L []
  | [] => .nil
  | A :: L => .cons .here takes_self
section
variable {P : Program} [tb : Tab P] {rd : Option Nat} {N : Nat} {T : TT} {L L' L1 : List HP} {Q : Post} {ks : List K}
variable {all : Array Oper} {rest : List Oper} {d : Option Tmp} {ty : TypeId} {pos : String} {aft : Array Edge}
theorem SO.buildSliceP {t e len sz n1 n2 b1 : Nat} {z z2 : Value} {ke : TK} {ps : List (Nat × Operand)} {cs : List Value} (ht : tget tb.tab t = some ⟨.sl e, n1, n2, z⟩) (hte : tget tb.tab e = some ⟨ke, sz + 1, b1, z2⟩)
    (hz : Nat.beq z2.cells.toList.length (sz + 1) = true) (hb : buildSV T (sz + 1) (zeros z2.cells.toList len) ps = some cs) (hbig : Nat.ble (len * (sz + 1)) 16777216 = true) (hd : dstOk N d = true)
    (kk : ∀ b, SO P rd N all rest (putD d (.slice (some ⟨b, 0, none⟩) len len) T) (pts b 0 cs :: plain b cs.length :: L) ks Q) : SO P rd N all (⟨d, .buildSlice t len ps.toArray, ty, pos, aft, none⟩ :: rest) T L ks Q := by
  refine SO.run (R := fun v L2 => ∃ b, v = .slice (some ⟨b, 0, none⟩) len len ∧ L2 = pts b 0 cs :: plain b cs.length :: L) rfl rfl hd ?_ (by rintro _ _ ⟨b, rfl, rfl⟩; exact kk b)
  intro q hq F w hst
  have hk := (tab_ok ht).k
  simp only [TK.ok] at hk
  have hs := sizeOf_ok (tab_ok hte) w
  have hzz := zero_ok (tab_ok hte) w
  simp only at hs hzz
  have hzs : z2.cells.size = sz + 1 := by have := Nat.eq_of_beq_eq_true hz; simpa using this
  have hfill := fillS_ok hq ps (zeros z2.cells.toList len) ((Array.range (len * z2.cells.size)).map (z2.cells[· % z2.cells.size]!)) cs (range_zeros _ _ (by omega)) hb
  rw [hzs] at hfill
  have hbig := Nat.le_of_ble_eq_true hbig
  have h2 := hst.allocP cs.toArray e
  simp only [List.size_toArray] at h2
  refine ⟨_, _, _, .inl ?_, ⟨w.heap.size, rfl, rfl⟩, h2.ent ((Ent.cons Ent.swap).trans Ent.swap)⟩
  · simp only [execOp, Instr.buildSlice, Sem.run_bind, run_und hk, Result.andThen_ok, hs]
    rw [if_neg (by simp; omega)]
    by_cases h0 : len = 0
    · subst h0
      have he : (Array.range (0 * (sz + 1))).map (z2.cells[· % (sz + 1)]!) = #[] := by simp
      rw [he] at hfill
      have he2 : ∀ f : Nat → Value, (Array.range (0 * (sz + 1))).map f = #[] := by simp
      simp only [Nat.zero_mul, if_true, Sem.run_pure, Result.andThen_ok, Sem.run_bind, List.map_toArray]
      rw [Nat.zero_mul] at he2
      rw [he2, hfill]
      rfl
    · have : ¬ (len * (sz + 1) = 0) := by intro h; rcases Nat.mul_eq_zero.1 h with h | h <;> omega
      simp only [this, if_false, Sem.run_bind, hzz, Result.andThen_ok, Sem.run_pure, List.map_toArray, hzs]
      rw [hfill]
      rfl
theorem SO.overlaps {x y : Operand} {tys : Array TypeId} {f : FuncId} {fn : Func} {tS tR e sz n1 n2 b1 b n c b2 o2 o3 m c2 : Nat} {z z2 : Value} {ke : TK} {us vs : List Value} (hx : evO T x = some (.slice (some ⟨b, 0, none⟩) n c)) (hy : evO T y = some (.slice (some ⟨b2, o3, none⟩) m c2))
    (h1 : Takes [pts b 0 us, plain b us.length, pts b2 o2 vs] L L') (hu : us ≠ []) (hv : vs ≠ []) (ht : tget tb.tab tS = some ⟨.sl e, n1, n2, z⟩) (hte : tget tb.tab e = some ⟨ke, sz, b1, z2⟩)
    (hf : P.funcs[f]? = some fn) (hname : (fn.name == "runtime.NumGoroutine") = false) (hb : fn.body.isNone = true) (hn : Extern.findNext fn = none) (he : Extern.find fn = some (Extern.SlicesOverlaps.overlaps #[tS, tS] #[tR])) (hd : dstOk N d = true)
    (k : SO P rd N all rest (putD d (.bool false) T) L ks Q) : SO P rd N all (⟨d, .call ⟨.value (.func f), #[x, y], tys⟩, ty, pos, aft, none⟩ :: rest) T L ks Q := by
  refine SO.run (R := fun u L2 => u = .bool false ∧ L2 = L) rfl rfl hd ?_ (by rintro _ _ ⟨rfl, rfl⟩; exact k)
  intro q hq F w hst
  refine ⟨_, w, L, .inl ?_, ⟨rfl, rfl⟩, hst⟩
  have hst2 : St w (F :: pts b 0 us :: plain b us.length :: pts b2 o2 vs :: L') := hst.ent (Ent.cons h1.ent)
  have hA : St w (pts b 0 us :: plain b us.length :: pts b2 o2 vs :: L') := hst2.ent Ent.drop
  have hB : St w (plain b us.length :: pts b2 o2 vs :: L') := hA.ent Ent.drop
  have hC : St w (pts b2 o2 vs :: L') := hB.ent Ent.drop
  obtain ⟨u, us', rfl⟩ : ∃ u us', us = u :: us' := by cases us with | nil => exact absurd rfl hu | cons u us' => exact ⟨u, us', rfl⟩
  obtain ⟨v, vs', rfl⟩ : ∃ v vs', vs = v :: vs' := by cases vs with | nil => exact absurd rfl hv | cons v vs' => exact ⟨v, vs', rfl⟩
  obtain ⟨hc0, hf0⟩ := hA.cell (i := 0) (v := u) rfl
  obtain ⟨hc1, hf1⟩ := hC.cell (i := 0) (v := v) rfl
  obtain ⟨c0, e0, f0, hh0, hs0, hfe⟩ := hB.plain
  obtain ⟨c1, e1, f1, hh1, hg1⟩ := cell_block hc1
  have hj1 := (Array.getElem?_eq_some_iff.1 hg1).1
  have hne : b ≠ b2 := by
    rintro rfl
    rw [hh0] at hh1; cases hh1
    obtain ⟨r, o, s, x1, y1, d1, le1, hp1, x2, y2, d2, le2, hp2, x3, y3, d3, le3, hp3, _⟩ := hA
    have hlt : o2 < (u :: us').length := by rw [← hs0]; omega
    have ha : x1 b (0 + o2) = some (.val ((u :: us')[o2])) := hp1 o2 _ (by simp [hlt])
    have hb' : y1 b (o2 + 0) = some (.val v) := le2 _ _ _ (Own.le_add_right d2 _ _ _ (le3 _ _ _ (Own.le_add_left _ _ _ _ _ (hp3 0 v rfl))))
    rcases d1 b o2 with h | h
    · rw [Nat.zero_add] at ha; rw [h] at ha; cases ha
    · rw [Nat.add_zero] at hb'; rw [h] at hb'; cases hb'
  have hk := (tab_ok ht).k
  simp only [TK.ok] at hk
  have hsz := fun w => sizeOf_ok (tab_ok hte) w
  have hov := Lib.run_overlaps_apart (P := P) w tS tR e hk sz hsz ⟨b, 0, none⟩ ⟨b2, o3, none⟩ n c m c2 hne e0 e1 (u :: us').length c1.size
    (by unfold World.shape?; simp only [hh0, hs0]) (by unfold World.shape?; simp only [hh1]) (by omega) (by rw [Nat.add_zero] at hf0; exact hf0) hfe
  have hr := run_callFunc_extern (P := P) hf hname hb hn he #[.slice (some ⟨b, 0, none⟩) n c, .slice (some ⟨b2, o3, none⟩) m c2] w
  rw [hov] at hr
  simp only [execOp, resolve, Sem.run_bind, hq (.func f) _ rfl]
  simp [Deferred.ofValue, invoke, hq _ _ hx, hq _ _ hy, Sem.run_pure]
  rw [hr]; rfl
theorem SO.sliceV {x : Operand} {lo hi : Option Operand} {A : Option Addr} {n c i j t e sz n1 n2 b1 : Nat} {z z2 : Value} {ke : TK} (hx : evO T x = some (.slice A n c)) {vl vh : Option Value} {k1 k2 : IntKind}
    (hlo : evOo T lo = some vl) (hhi : evOo T hi = some vh) (ht : tget tb.tab t = some ⟨.sl e, n1, n2, z⟩) (hte : tget tb.tab e = some ⟨ke, sz, b1, z2⟩) (hd : dstOk N d = true) (hl : vl = some (.int k1 i) ∨ (vl = none ∧ i = 0)) (hv : vh = some (.int k2 j) ∨ (vh = none ∧ j = n)) (h1 : i ≤ j) (h2 : j ≤ c) (h3 : n ≤ c)
    (kk : SO P rd N all rest (putD d (.slice (if c = i then A else A.map (·.add (i * sz))) (j - i) (c - i)) T) L ks Q) : SO P rd N all (⟨d, .slice t x lo hi none, ty, pos, aft, none⟩ :: rest) T L ks Q := by
  refine SO.run (R := fun v L2 => v = .slice (if c = i then A else A.map (·.add (i * sz))) (j - i) (c - i) ∧ L2 = L) rfl rfl hd ?_ (by rintro _ _ ⟨rfl, rfl⟩; exact kk)
  intro q hq F w hst
  refine ⟨_, w, L, .inl ?_, ⟨rfl, rfl⟩, hst⟩
  simp only [execOp, hq _ _ hx, evOo_ok hq hlo, evOo_ok hq hhi, Option.map_none, Sem.run_bind, run_slice_lo ht hte h1 h2 h3 hl hv, Result.andThen_ok]
  rfl
theorem SO.cap {x : Operand} {t e n1 n2 : Nat} {z : Value} {A : Option Addr} {n c : Nat} (hx : evO T x = some (.slice A n c)) (ht : tget tb.tab t = some ⟨.sl e, n1, n2, z⟩) (hd : dstOk N d = true)
    (kk : SO P rd N all rest (putD d (.int .i64 c) T) L ks Q) : SO P rd N all (⟨d, .call ⟨.builtin .cap, #[x], #[t]⟩, ty, pos, aft, none⟩ :: rest) T L ks Q := by
  refine SO.run (R := fun v L2 => v = .int .i64 c ∧ L2 = L) rfl rfl hd ?_ (by rintro _ _ ⟨rfl, rfl⟩; exact kk)
  intro q hq F w hst
  refine ⟨_, w, L, .inl ?_, ⟨rfl, rfl⟩, hst⟩
  have := (tab_ok ht).k
  simp only [TK.ok] at this
  simp [execOp, resolve, invoke, builtin, Builtin.cap_, hq _ _ hx, run_und this, goInt]
theorem SK.cells {c : Code} {α : Type} {ρ : Rep α} {h : ρ.V} {a : Addr} {n m : Nat} {l : List α} (hp : Plain ρ h) (hh : Take (sqAt true ρ (some a) n m l) L L')
    (k : a.spot = none → ∀ sp : List Value, sp.length = (m - n) * ρ.sz → SK P rd N (.code c :: ks) T (pts a.block a.off (cellsOf ρ h l ++ sp) :: L') Q) : SK P rd N (.code c :: ks) T L Q := by
  refine SK.shift (L' := some1 (fun sp : List Value => a.spot = none ∧ sp.length = (m - n) * ρ.sz) (fun sp => [pts a.block a.off (cellsOf ρ h l ++ sp)]) :: L') (fun F w hst => ?_) (SK.tok .here fun sp hsp => k hsp.1 sp hsp.2)
  obtain ⟨h1, h2, sp, h3, h4⟩ := sq_cells hp ((hst.ent (Ent.cons hh.ent)).ent Ent.swap)
  refine (h4.ent ?_).ent Ent.swap
  exact ent_tok (p := fun sp : List Value => a.spot = none ∧ sp.length = (m - n) * ρ.sz) (M := fun sp => [pts a.block a.off (cellsOf ρ h l ++ sp)]) sp ⟨by rw [h1], h3⟩ (.cons .here takes_self)
theorem SO.cells {ops : List Oper} {α : Type} {ρ : Rep α} {h : ρ.V} {a : Addr} {n m : Nat} {l : List α} (hp : Plain ρ h) (hh : Take (sqAt true ρ (some a) n m l) L L')
    (k : a.spot = none → ∀ sp : List Value, sp.length = (m - n) * ρ.sz → SO P rd N all ops T (pts a.block a.off (cellsOf ρ h l ++ sp) :: L') ks Q) : SO P rd N all ops T L ks Q := by
  refine SO.shift (L' := some1 (fun sp : List Value => a.spot = none ∧ sp.length = (m - n) * ρ.sz) (fun sp => [pts a.block a.off (cellsOf ρ h l ++ sp)]) :: L') (fun F w hst => ?_) (SO.tok .here fun sp hsp => k hsp.1 sp hsp.2)
  obtain ⟨h1, h2, sp, h3, h4⟩ := sq_cells hp ((hst.ent (Ent.cons hh.ent)).ent Ent.swap)
  refine (h4.ent ?_).ent Ent.swap
  exact ent_tok (p := fun sp : List Value => a.spot = none ∧ sp.length = (m - n) * ρ.sz) (M := fun sp => [pts a.block a.off (cellsOf ρ h l ++ sp)]) sp ⟨by rw [h1], h3⟩ (.cons .here takes_self)
end
end Go.Sl

/-! Elements of slices of one's own: read, written. -/
set_option linter.unusedVariables false
set_option linter.unusedSectionVars false
set_option linter.unusedSimpArgs false
namespace Go.Sl
theorem lay_flat {α : Type} {ρ : Rep α} (u : α) (h : ρ.V) : ∀ (z : List (α × ρ.V)) (i : Nat), i < z.length → lay (flat ρ z) (i * ρ.sz) (ρ.cells u h) = flat ρ (z.set i (u, h))
  | [], i, hi => by simp at hi
  | (x, k) :: z, 0, _ => by
    simp only [flat, List.set_cons_zero, Nat.zero_mul]
    exact lay_over (by rw [ρ.len, ρ.len])
  | (x, k) :: z, i + 1, hi => by
    simp only [flat, List.set_cons_succ]
    rw [show (i + 1) * ρ.sz = ρ.sz + i * ρ.sz by rw [Nat.add_mul]; omega]
    have key : ∀ (A B D : List Value) (m : Nat), lay (A ++ B) (A.length + m) D = A ++ lay B m D := by
      intro A
      induction A with
      | nil => intro B D m; simp
      | cons a A ih =>
        intro B D m
        cases D with
        | nil => simp [lay]
        | cons d D =>
          simp only [List.cons_append, List.length_cons, show A.length + 1 + m = (A.length + m) + 1 by omega, lay]
          rw [ih]
    have := key (ρ.cells x k) (flat ρ z) (ρ.cells u h) (i * ρ.sz)
    rw [ρ.len] at this
    rw [this, lay_flat u h z i (by simpa using hi)]
theorem memS_set {α : Type} {ρ : Rep α} {z : List (α × ρ.V)} {r : Ro} {u : α} {h : ρ.V} (i : Nat) (m : memS ρ z r) (ha : seps (ρ.atoms u h) r (fun _ _ => none)) : memS ρ (z.set i (u, h)) r := by
  intro j x k e
  by_cases hj : i = j
  · subst hj
    rw [List.getElem?_set] at e
    simp only [if_true] at e
    split at e
    · cases e; exact ha
    · cases e
  · rw [List.getElem?_set_ne hj] at e; exact m j x k e
section
variable {P : Program} [tb : Tab P] {rd : Option Nat} {N : Nat} {T : TT} {L L' L1 E : List HP} {Q : Post} {ks : List K} {RR : TT → List HP → Prop}
variable {all : Array Oper} {rest : List Oper} {restX : XO} {d : Option Tmp} {ty : TypeId} {pos : String} {aft : Array Edge} {α : Type} {ρ : Rep α}
theorem seps_pers0 : ∀ {M : List HP} {B : List HP} {r : Ro} {o : Own}, (∀ X ∈ M, Pers X) → seps (M ++ B) r o → seps M r (fun _ _ => none)
  | [], _, _, _, _, _ => trivial
  | X :: M, B, r, o, hp, ⟨a, b, d, le, hA, hL⟩ => ⟨_, _, fun _ _ => .inl rfl, none_add, hp X (by simp) _ _ hA, seps_pers0 (fun Y hY => hp Y (by simp [hY])) hL⟩
/-- A whole element is written. -/
theorem SO.estoreW {x y : Operand} {t : Nat} {ti : TI} {A : Option Addr} {n c i sz : Nat} {l : List α} {u : α} {h : ρ.V} (hx : evO T x = some (.pointer (some (eadr A i sz 0)))) (hy : evO T y = some (ρ.val u h)) (hh : Take (sqAt true ρ A n c l) L L') (ha : HasAll (ρ.atoms u h) L')
    (ht : tget tb.tab t = some ti) (hsz : Nat.beq ρ.sz sz = true) (hti : Nat.beq ti.size ρ.sz = true) (hi : i < n)
    (kk : SO P rd N all rest T (sqAt true ρ A n c (l.set i u) :: L') ks Q) : SO P rd N all (⟨none, .store t x y, ty, pos, aft, none⟩ :: rest) T L ks Q := by
  refine SO.run (R := fun v L2 => L2 = sqAt true ρ A n c (l.set i u) :: L') rfl rfl rfl ?_ (by rintro v L2 rfl; exact kk)
  intro q hq F w hst
  have hsz := Nat.eq_of_beq_eq_true hsz
  subst hsz
  have hti := Nat.eq_of_beq_eq_true hti
  have hst2 : St w (sqAt true ρ A n c l :: F :: L') := hst.ent ((Ent.cons hh.ent).trans Ent.swap)
  cases A with
  | none =>
    obtain ⟨r, o, s, x1, y1, d1, le1, ⟨h0, _, _, h3, _⟩, _⟩ := hst2
    rw [(h3 rfl).1] at h0; simp at h0; omega
  | some a =>
    obtain ⟨h0, h1, h2, hsp, z, sp, hz, hl, h5⟩ := sq_open hst2
    have hzl : z.length = n := by rw [h0, ← hz]; simp
    have hcells : (ρ.val u h).cells.toList = ρ.cells u h := by
      unfold Rep.val
      cases hag : ρ.agg with
      | true => rfl
      | false =>
        have h1 := ρ.sc hag
        have h2 := ρ.len u h
        rw [h1] at h2
        match hc : ρ.cells u h, h2 with
        | [v], _ =>
          have hv : one v = true := ρ.one u h v (by rw [hc]; simp)
          cases v <;> first | rfl | (simp [one] at hv)
    obtain ⟨w', hr, hst'⟩ := storeVar_ok ht (n := i * ρ.sz) (v := ρ.val u h) h5 (fun c hc => by rw [hcells] at hc; exact ρ.one u h c hc) (by rw [hcells, ρ.len, hti]) (by
      rw [flat_length, hzl, hti]
      have : (i + 1) * ρ.sz ≤ n * ρ.sz := Nat.mul_le_mul_right _ hi
      rw [Nat.add_mul] at this; omega)
    rw [hcells, lay_flat u h z i (by omega)] at hst'
    refine ⟨undef, w', _, .inr ⟨?_, rfl⟩, rfl, ?_⟩
    · simp only [execOp, hq _ _ hx, hq _ _ hy, Instr.storeAt, Instr.sureAddr, Sem.run_bind, Sem.run_pure, Result.andThen_ok]
      rw [eadr_some hsp, Nat.add_zero, hr]; rfl
    · -- the new element's atoms
      have h6 : St w' (pts a.block a.off (flat ρ (z.set i (u, h))) :: pts a.block (a.off + n * ρ.sz) sp :: memA ρ (z.set i (u, h)) :: F :: L') := by
        refine hst'.ent (Ent.cons (Ent.cons ?_))
        rintro r o ⟨x1, y1, d1, le1, hm, hL⟩
        have hL2 : seps (F :: L') r y1 := hL
        have hat : seps (ρ.atoms u h) r (fun _ _ => none) := by
          have h7 := ((Ent.cons (ha.ent (ρ.pers u h))).trans ent_of_swap) r y1 hL2
          exact seps_pers0 (ρ.pers u h) h7
        exact ⟨x1, y1, d1, le1, memS_set i hm hat, hL⟩
      exact (h6.ent (sq_shut (w := true) (z := z.set i (u, h)) (by simp; omega) h1 h2 hsp (by rw [List.map_set, hz]) hl)).ent Ent.swap
/-- A load of an element's part; of a slice of one's own. -/
theorem rd_eloadQ {w' : Bool} {x : Operand} {t : Nat} {ti : TI} {A : Option Addr} {n c i sz o : Nat} {l : List α} {u : α} (hx : evO T x = some (.pointer (some (eadr A i sz o)))) (hh : Take (sqAt w' ρ A n c l) L L') (hu : l[i]? = some u)
    (ht : tget tb.tab t = some ti) (hsz : Nat.beq ρ.sz sz = true) (hp : ∀ h, packOk ti (cut (ρ.cells u h) o ti.size)) : Reads P T L ⟨d, .load t x, ty, pos, aft, none⟩ (fun v L2 => ∃ h, v = packV ti (cut (ρ.cells u h) o ti.size) ∧ L2 = ρ.atoms u h ++ L) := by
  intro q hq rr oo F hs
  have hszz := Nat.eq_of_beq_eq_true hsz
  subst hszz
  have hs1 := ((Ent.cons hh.ent).trans Ent.swap) rr oo hs
  obtain ⟨x1, y1, d1, le1, hA, hL⟩ := hs1
  obtain ⟨h0, h1, h2, h3, h4⟩ := hA
  cases A with
  | none => rw [(h3 rfl).1] at hu; simp at hu
  | some a =>
    obtain ⟨hsp, z, sp, hz, hspl, hc, hd, hm⟩ := h4 a rfl
    obtain ⟨h, hzh⟩ := map_get hz hu
    refine ⟨_, _, ⟨h, rfl, rfl⟩, ?_, fun w sat => ?_⟩
    · have hat := hm i u h hzh
      have h7 : seps (big (ρ.atoms u h) :: F :: L) rr oo :=
        ⟨fun _ _ => none, oo, fun _ _ => .inl rfl, none_add, hat, hs⟩
      exact (Ent.swap.trans (Ent.cons ent_big)) rr oo h7
    · simp only [execOp, hq _ _ hx, Instr.loadAt, Instr.sureAddr, Sem.run_bind, Sem.run_pure, Result.andThen_ok]
      rw [eadr_some hsp]
      rw [loadVar_ok ht (hp h) (fun j v hj => by
        obtain ⟨h5, h6⟩ := cut_get hj
        have hlt : o + j < ρ.sz := by rw [← ρ.len u h]; exact row_lt h5
        have := hc (i * ρ.sz + (o + j)) v (by rw [flat_get z i (o + j) u h hzh hlt]; exact h5)
        rw [show a.off + (i * ρ.sz + o) + j = a.off + (i * ρ.sz + (o + j)) by omega]
        cases w' with
        | true => rw [if_pos rfl] at this; exact (sat.val _ _ _ (le1 _ _ _ (Own.le_add_left _ _ _ _ _ this))).1
        | false => rw [if_neg (by simp)] at this; exact sat.ro _ _ _ this)]
      rfl
theorem SO.eloadQ {w' : Bool} {x : Operand} {t : Nat} {ti : TI} {A : Option Addr} {n c i sz o : Nat} {l : List α} {u : α} (hx : evO T x = some (.pointer (some (eadr A i sz o)))) (hh : Take (sqAt w' ρ A n c l) L L') (hu : l[i]? = some u)
    (ht : tget tb.tab t = some ti) (hsz : Nat.beq ρ.sz sz = true) (hp : ∀ h, packOk ti (cut (ρ.cells u h) o ti.size)) (hd : dstOk N d = true)
    (kk : ∀ h, SO P rd N all rest (putD d (packV ti (cut (ρ.cells u h) o ti.size)) T) (ρ.atoms u h ++ L) ks Q) : SO P rd N all (⟨d, .load t x, ty, pos, aft, none⟩ :: rest) T L ks Q :=
  SO.reads (rd_eloadQ hx hh hu ht hsz hp) rfl rfl hd (by rintro _ _ ⟨h, rfl, rfl⟩; exact kk h)
/-- An element's place, of a slice of one's own of which the element is known. -/
theorem rd_indexQ {w' : Bool} {x y : Operand} {t e : Nat} {sz n1 n2 b1 : Nat} {z z2 : Value} {ke : TK} {A : Option Addr} {n c c' i : Nat} {k : IntKind} {j : Int} {l : List α} {u : α} (hx : evO T x = some (.slice A n c)) (hy : evO T y = some (.int k j))
    (hh : Take (sqAt w' ρ A n c' l) L L') (ht : tget tb.tab t = some ⟨.sl e, n1, n2, z⟩) (hte : tget tb.tab e = some ⟨ke, sz, b1, z2⟩) (hj : Int.ofNat i = j) (hu : l[i]? = some u) : Reads P T L ⟨d, .indexAddr t x y, ty, pos, aft, none⟩ (fun v L2 => v = .pointer (some (eadr A i sz 0)) ∧ L2 = L) := by
  intro q hq rr oo F hs
  have hs1 := (show seps L rr _ from hs.choose_spec.choose_spec.2.2.2)
  obtain ⟨h0, h1, h2, h3⟩ := sq_len hh rr _ hs1
  have hl : i < l.length := (List.getElem?_eq_some_iff.1 hu).1
  obtain ⟨v, L2, ⟨h4, h5, _⟩, h6, h7⟩ := rd_indexW (d := d) (ty := ty) (pos := pos) (aft := aft) hx hy hh ht hte hj (by omega) q hq rr oo F hs
  exact ⟨v, L2, ⟨h4, h5⟩, h6, h7⟩
theorem SO.indexQ {w' : Bool} {x y : Operand} {t e : Nat} {sz n1 n2 b1 : Nat} {z z2 : Value} {ke : TK} {A : Option Addr} {n c c' i : Nat} {k : IntKind} {j : Int} {l : List α} {u : α} (hx : evO T x = some (.slice A n c)) (hy : evO T y = some (.int k j))
    (hh : Take (sqAt w' ρ A n c' l) L L') (ht : tget tb.tab t = some ⟨.sl e, n1, n2, z⟩) (hte : tget tb.tab e = some ⟨ke, sz, b1, z2⟩) (hj : Int.ofNat i = j) (hd : dstOk N d = true) (hu : l[i]? = some u)
    (kk : SO P rd N all rest (putD d (.pointer (some (eadr A i sz 0))) T) L ks Q) : SO P rd N all (⟨d, .indexAddr t x y, ty, pos, aft, none⟩ :: rest) T L ks Q :=
  SO.reads (rd_indexQ hx hy hh ht hte hj hu) rfl rfl hd (by rintro _ _ ⟨rfl, rfl⟩; exact kk)
theorem SX.eloadQ {w' : Bool} {x : Operand} {t : Nat} {ti : TI} {A : Option Addr} {n c i sz o : Nat} {l : List α} {u : α} (hx : evO T x = some (.pointer (some (eadr A i sz o)))) (hh : Take (sqAt w' ρ A n c l) L L') (hu : l[i]? = some u)
    (ht : tget tb.tab t = some ti) (hsz : Nat.beq ρ.sz sz = true) (hp : ∀ h, packOk ti (cut (ρ.cells u h) o ti.size)) (hd : dstOk N d = true)
    (kk : ∀ h, SX P rd N all restX (putD d (packV ti (cut (ρ.cells u h) o ti.size)) T) (ρ.atoms u h ++ L) E ks Q) : SX P rd N all (.item 0 ⟨d, .load t x, ty, pos, aft, none⟩ restX) T L E ks Q :=
  SX.reads (rd_eloadQ hx hh hu ht hsz hp) rfl hd (by rintro _ _ ⟨h, rfl, rfl⟩; exact kk h)
theorem SX.indexQ {w' : Bool} {x y : Operand} {t e : Nat} {sz n1 n2 b1 : Nat} {z z2 : Value} {ke : TK} {A : Option Addr} {n c c' i : Nat} {k : IntKind} {j : Int} {l : List α} {u : α} (hx : evO T x = some (.slice A n c)) (hy : evO T y = some (.int k j))
    (hh : Take (sqAt w' ρ A n c' l) L L') (ht : tget tb.tab t = some ⟨.sl e, n1, n2, z⟩) (hte : tget tb.tab e = some ⟨ke, sz, b1, z2⟩) (hj : Int.ofNat i = j) (hd : dstOk N d = true) (hu : l[i]? = some u)
    (kk : SX P rd N all restX (putD d (.pointer (some (eadr A i sz 0))) T) L E ks Q) : SX P rd N all (.item 0 ⟨d, .indexAddr t x y, ty, pos, aft, none⟩ restX) T L E ks Q :=
  SX.reads (rd_indexQ hx hy hh ht hte hj hu) rfl hd (by rintro _ _ ⟨rfl, rfl⟩; exact kk)
/-- What is one's own is read alone from now on. -/
theorem SK.share {c : Code} {w' : Bool} {A : Option Addr} {n m : Nat} {l : List α} (hh : Take (sqAt w' ρ A n m l) L L') (h : SK P rd N (.code c :: ks) T (slAt ρ A n l :: L') Q) : SK P rd N (.code c :: ks) T L Q := by
  refine SK.shift (fun F w hst => ?_) h
  have h1 : St w (sqAt w' ρ A n m l :: F :: L') := (hst.ent (Ent.cons hh.ent)).ent Ent.swap
  have h2 : St w (sqAt false ρ A n m l :: F :: L') := by cases w' with
    | true => exact h1.shut
    | false => exact h1
  exact (h2.ent (sl_of_sq.trans (Ent.cons Ent.drop))).ent Ent.swap
theorem SO.share {ops : List Oper} {w' : Bool} {A : Option Addr} {n m : Nat} {l : List α} (hh : Take (sqAt w' ρ A n m l) L L') (h : SO P rd N all ops T (slAt ρ A n l :: L') ks Q) : SO P rd N all ops T L ks Q := by
  refine SO.shift (fun F w hst => ?_) h
  have h1 : St w (sqAt w' ρ A n m l :: F :: L') := (hst.ent (Ent.cons hh.ent)).ent Ent.swap
  have h2 : St w (sqAt false ρ A n m l :: F :: L') := by cases w' with
    | true => exact h1.shut
    | false => exact h1
  exact (h2.ent (sl_of_sq.trans (Ent.cons Ent.drop))).ent Ent.swap
theorem zeros_flat {α : Type} {ρ : Rep α} (x : α) (h : ρ.V) : ∀ n, zeros (ρ.cells x h) n = flat ρ (List.replicate n (x, h))
  | 0 => rfl
  | n + 1 => by rw [List.replicate_succ]; simp only [zeros, flat]; rw [zeros_flat x h n]
/-- A row of noughts. -/
theorem SO.makeSlice {t e n sz n1 n2 b1 : Nat} {z z2 : Value} {ke : TK} {x y : Operand} {u : α} {h : ρ.V} (hx : evO T x = some (.int .i64 n)) (hy : evO T y = some (.int .i64 n)) (ht : tget tb.tab t = some ⟨.sl e, n1, n2, z⟩) (hte : tget tb.tab e = some ⟨ke, sz, b1, z2⟩)
    (hz : z2.cells.toList = ρ.cells u h) (hsz : Nat.beq ρ.sz sz = true) (ha : ρ.atoms u h = []) (hb : Nat.ble b1 32768 = true) (hn : n ≤ lim) (hd : dstOk N d = true)
    (kk : ∀ b, SO P rd N all rest (putD d (.slice (some ⟨b, 0, none⟩) n n) T) (sqAt true ρ (some ⟨b, 0, none⟩) n n (List.replicate n u) :: L) ks Q) : SO P rd N all (⟨d, .makeSlice t x y, ty, pos, aft, none⟩ :: rest) T L ks Q := by
  refine SO.run (R := fun v L2 => ∃ b, v = .slice (some ⟨b, 0, none⟩) n n ∧ L2 = sqAt true ρ (some ⟨b, 0, none⟩) n n (List.replicate n u) :: L) rfl rfl hd ?_ (by rintro _ _ ⟨b, rfl, rfl⟩; exact kk b)
  intro q hq F w hst
  have hk := (tab_ok ht).k
  simp only [TK.ok] at hk
  have hsz := Nat.eq_of_beq_eq_true hsz
  subst hsz
  have hb := Nat.le_of_ble_eq_true hb
  have hs := sizeOf_ok (tab_ok hte) w
  have hzz := zero_ok (tab_ok hte) w
  obtain ⟨ti, hti, htib⟩ := info_ok (tab_ok hte) w
  simp only at hs hzz htib
  have hzs : z2.cells.size = ρ.sz := by rw [← Array.length_toList, hz, ρ.len]
  have hw : IntKind.i64.wrap (n : Int) = n := by
    simp only [lim] at hn
    simp only [IntKind.wrap, IntKind.bits, IntKind.signed]; simp; omega
  have hbig : ¬ ((n : Int) < 0) := by omega
  have hbig2 : ¬ ((ti.bytes : Int) * (n : Int) > 2 ^ 48) := by
    have h2 : ti.bytes * n ≤ 32768 * lim := Nat.mul_le_mul (by omega) hn
    have h3 : 32768 * lim = 70368744177664 := by decide
    rw [h3] at h2
    have h4 : (ti.bytes : Int) * (n : Int) = ((ti.bytes * n : Nat) : Int) := (Int.natCast_mul _ _).symm
    rw [h4]
    intro h
    have h5 : (2 : Int) ^ 48 = 281474976710656 := by decide
    rw [h5] at h
    omega
  have hbig3 : ¬ ((281474976710656 : Int) < (ti.bytes : Int) * (n : Int)) := by
    intro h; apply hbig2
    have h5 : (2 : Int) ^ 48 = 281474976710656 := by decide
    rw [h5]; exact h
  have hmark : ∀ (k : Nat) (w : World), (askRoom k).run P w = .ok () w := by
    intro k w; unfold askRoom; split <;> rfl
  have hcs : ((Array.range (n * ρ.sz)).map (z2.cells[· % z2.cells.size]!)).toList = flat ρ (List.replicate n (u, h)) := by
    rw [← zeros_flat, ← hz, ← hzs]
    exact range_zeros z2.cells n (by rw [hzs]; exact ρ.pos)
  have h2 := hst.alloc ((Array.range (n * ρ.sz)).map (z2.cells[· % z2.cells.size]!)) e
  rw [hcs] at h2
  rw [← List.append_nil (flat ρ (List.replicate n (u, h)))] at h2
  have h3 := h2
  have h4 := h3.ent pts_split
  have hfl : (flat ρ (List.replicate n (u, h))).length = n * ρ.sz := by rw [flat_length, List.length_replicate]
  rw [hfl] at h4
  have hm : ∀ (M : List HP), Ent M (memA ρ (List.replicate n (u, h)) :: M) := fun M r o hM => ⟨own0, o, fun _ _ => .inl rfl, none_add, fun i y k e => by
    have := List.mem_of_getElem? e
    have h5 := List.eq_of_mem_replicate this
    cases h5
    rw [ha]; trivial, hM⟩
  have h5 := (h4.ent (Ent.cons (Ent.cons (hm _)))).ent (sq_shut (w := true) (a := ⟨w.heap.size, 0, none⟩) (z := List.replicate n (u, h)) (l := List.replicate n u) (c := n) (by simp) hn (Nat.le_refl n) rfl (by simp) (by simp))
  refine ⟨_, _, _, .inl ?_, ⟨w.heap.size, rfl, rfl⟩, h5.ent Ent.swap⟩
  simp only [execOp, hq _ _ hx, hq _ _ hy, Instr.makeSlice, Sem.run_bind, run_und hk, Result.andThen_ok, asInt, asIntOf, Sem.run_pure, hti, hw]
  simp only [hbig, hbig2, decide_false, Bool.or_false, Bool.false_eq_true, if_false, Int.toNat_natCast, gt_iff_lt, Int.lt_irrefl, hmark, hs, Result.andThen_ok, Sem.run_bind, Sem.run_pure]
  by_cases h0 : n * ρ.sz = 0
  · simp only [h0, if_true, Sem.run_bind, Sem.run_pure, Result.andThen_ok, newRow, newObj]
    have e0 : ∀ f : Nat → Value, (Array.range 0).map f = #[] := by simp
    rw [e0, e0]
    rfl
  · simp only [h0, if_false, Sem.run_bind, hzz, Sem.run_pure, Result.andThen_ok, newRow, newObj, Sem.run]
end
end Go.Sl

/-! Contracts that ask for less. -/
set_option linter.unusedVariables false
namespace Go.Sl
theorem ent_app_r {A B C : List HP} (e : Ent A B) : Ent (A ++ C) (B ++ C) := ent_app_comm.trans ((Ent.app e).trans ent_app_comm)
theorem ent_dropR : ∀ {A B : List HP}, Ent (A ++ B) A := fun {A B} => by
  have h1 : Ent (A ++ B) (B ++ A) := ent_app_comm
  have h2 : ∀ {B : List HP}, Ent (B ++ A) A := fun {B} => by
    induction B with
    | nil => exact Ent.refl _
    | cons b B ih => exact Ent.drop.trans ih
  exact h1.trans h2
/-- What is read alone may be had from what there is. -/
theorem Does.less {P : Program} {f : FuncId} {args : List Value} {pers pers' own : List HP} {X : Type} {ok : X → Prop} {ret : X → Value} {out : X → List HP} (s : Does P f args pers own X ok ret out) (hp : ∀ A ∈ pers', Pers A) (h : HasAll pers pers') : Does P f args pers' own X ok ret out :=
  ⟨s.entry, hp, fun F w hst => s.calls F w (hst.ent (Ent.cons (ent_app_r ((h.ent s.hpers).trans ent_dropR))))⟩
section
variable {P : Program} [tb : Tab P] {rd : Option Nat} {N : Nat} {T : TT} {L : List HP} {Q : Post} {ks : List K}
variable {all : Array Oper} {rest : List Oper} {d : Option Tmp} {ty : TypeId} {pos : String} {aft : Array Edge} {α : Type} {ρ : Rep α}
/-- An element's place, of a slice of which the first ones are known. -/
theorem SO.indexP {x y : Operand} {t e : Nat} {sz n1 n2 b1 : Nat} {z z2 : Value} {ke : TK} {A : Option Addr} {n m c i : Nat} {k : IntKind} {j : Int} {l : List α} {u : α} (hx : evO T x = some (.slice A n c)) (hy : evO T y = some (.int k j))
    (hh : Has (slAt ρ A m l) L) (ht : tget tb.tab t = some ⟨.sl e, n1, n2, z⟩) (hte : tget tb.tab e = some ⟨ke, sz, b1, z2⟩) (hj : Int.ofNat i = j) (hd : dstOk N d = true) (hm : m ≤ n) (hu : l[i]? = some u)
    (kk : SO P rd N all rest (putD d (.pointer (some (eadr A i sz 0))) T) L ks Q) : SO P rd N all (⟨d, .indexAddr t x y, ty, pos, aft, none⟩ :: rest) T L ks Q := by
  refine SO.reads (R := fun v L' => v = .pointer (some (eadr A i sz 0)) ∧ L' = L) ?_ rfl rfl hd (by rintro _ _ ⟨rfl, rfl⟩; exact kk)
  intro q hq rr oo F hs
  have hs1 := (show seps L rr _ from hs.choose_spec.choose_spec.2.2.2)
  obtain ⟨h0, h1, h2⟩ := sl_len hh rr _ hs1
  have hl : i < l.length := (List.getElem?_eq_some_iff.1 hu).1
  cases A with
  | none => rw [h2 rfl] at hl; simp at hl
  | some a =>
    refine ⟨_, L, ⟨rfl, rfl⟩, hs, fun w sat => ?_⟩
    have hj' : j = (i : Int) := hj.symm
    subst hj'
    simp only [execOp, hq _ _ hx, hq _ _ hy, Sem.run_bind, run_indexAt ht hte (show i < n by omega), Result.andThen_ok]
    rfl
end
end Go.Sl

/-! Ranges over maps: entries come in any order; one that came may be taken away. -/
set_option linter.unusedVariables false
set_option linter.unusedSectionVars false
set_option linter.unusedSimpArgs false
namespace Go.Sl
section
variable {P : Program} [tb : Tab P] {rd : Option Nat} {N : Nat} {T : TT} {L L' L1 : List HP} {Q : Post} {ks : List K}
variable {all : Array Oper} {rest : List Oper} {d : Option Tmp} {ty : TypeId} {pos : String} {aft : Array Edge}
variable {κ α : Type} [DecidableEq κ] {kr : KR κ} {ρ : Rep α}
def leftZ (z : List (ZM κ ρ)) (seen : List Nat) : List (ZM κ ρ) := z.filter fun p => !seen.elem p.2.2
abbrev MI (κ : Type) {α : Type} (ρ : Rep α) := List (ZM κ ρ) × Nat × Nat × Nat × List Nat
def mitP (l left : List (κ × α)) (x : MI κ ρ) : Prop := x.1.map (·.1) = l ∧ (keysM l).Nodup ∧ ((x.1.map fun p : ZM κ ρ => p.2.2).Pairwise (· < ·) ∧ ∀ p ∈ x.1, p.2.2 < x.2.1) ∧
      (leftZ x.1 x.2.2.2.2).map (·.1) = left ∧ (∀ p ∈ x.1, p.2.2 < x.2.2.1) ∧ (∀ p ∈ x.1, p.2.2 < x.2.2.2.1)
def mitM (kr : KR κ) (r b : Nat) (x : MI κ ρ) : List HP := [ob b (.map (x.1.map (entM kr ρ)).toArray x.2.1), ob r (.mapIter (some b) x.2.2.1 x.2.2.2.2.toArray x.2.2.2.1), memA ρ (x.1.map fun p => (p.1.2, p.2.1))]
/-- A map of one's own and an iterator over it: 'left' are those that have not come yet. -/
def mitAt (kr : KR κ) (ρ : Rep α) (r b : Nat) (l left : List (κ × α)) : HP := some1 (mitP (ρ := ρ) l left) (mitM kr r b)
theorem some1_open {w : World} {β : Type} {p : β → Prop} {M : β → List HP} (h : St w (some1 p M :: L)) : ∃ x, p x ∧ St w (M x ++ L) := by
  obtain ⟨x, h1⟩ := St.ex (A := fun x => big (Sl.pr (p x) :: M x)) h
  have h2 := h1.ent ent_big
  obtain ⟨h3, h4⟩ := St.pr h2
  exact ⟨x, h3, h4⟩
theorem mit_mp {r b : Nat} {l left : List (κ × α)} {w : World} (h : St w (mitAt kr ρ r b l left :: L)) : St w (mpAt kr ρ b l :: L) := by
  obtain ⟨⟨z, clock, since, last, seen⟩, ⟨h1, h2, h3, h4, h5, h6⟩, hs⟩ := some1_open h
  dsimp only at h1 h3 h4 h5 h6 hs
  refine (hs.ent ?_).ent (map_shut z clock h1 h2 h3)
  exact Ent.cons Ent.drop
/-- 'range' over a map. -/
theorem SO.rangeMap {x : Operand} {t kt e b n1 n2 : Nat} {z0 : Value} {l : List (κ × α)} (hx : evO T x = some (.map (some b))) (htk : Take (mpAt kr ρ b l) L L') (ht : tget tb.tab t = some ⟨.map kt e, n1, n2, z0⟩) (hd : dstOk N d = true)
    (kk : ∀ r, SO P rd N all rest (putD d (.pointer (some ⟨r, 0, none⟩)) T) (mitAt kr ρ r b l l :: L') ks Q) : SO P rd N all (⟨d, .range t x, ty, pos, aft, none⟩ :: rest) T L ks Q := by
  refine SO.run (R := fun v L2 => ∃ r, v = .pointer (some ⟨r, 0, none⟩) ∧ L2 = mitAt kr ρ r b l l :: L') rfl rfl hd ?_ (by rintro _ _ ⟨r, rfl, rfl⟩; exact kk r)
  intro q hq F w hst
  have h1 : St w (mpAt kr ρ b l :: F :: L') := hst.ent ((Ent.cons htk.ent).trans Ent.swap)
  obtain ⟨z, clock, hl, hn, hb, h2⟩ := map_open h1
  obtain ⟨ho, _⟩ := h2.obj
  have hk := (tab_ok ht).k
  simp only [TK.ok] at hk
  have h3 := h2.allocObj (.mapIter (some b) clock #[] clock) trivial
  refine ⟨_, _, _, .inl ?_, ⟨w.heap.size, rfl, rfl⟩, (h3.ent ?_).ent Ent.swap⟩
  · simp only [execOp, hq _ _ hx, Instr.range, Sem.run_bind, run_und hk, run_getMap ho trivial, Result.andThen_ok, Sem.run_pure, newObj, Sem.run]
  · refine Ent.trans Ent.swap ?_
    have hf : leftZ z [] = z := by unfold leftZ; simp
    exact ent_tok (p := mitP (ρ := ρ) l l) (M := mitM kr w.heap.size b) (R := F :: L') (L1 := []) ((z, clock, clock, clock, []) : MI κ ρ) ⟨hl, hn, hb, by show (leftZ z []).map (·.1) = l; rw [hf]; exact hl, hb.2, hb.2⟩ takes_self
theorem ent_swap_back : ∀ {B : List HP} {A : HP} {C : List HP}, Ent (B ++ (A :: C)) (A :: (B ++ C))
  | [], _, _ => Ent.refl _
  | b :: B, A, C => (Ent.cons (ent_swap_back (B := B))).trans Ent.swap
theorem memA_at {z : List (α × ρ.V)} {i : Nat} {u : α} {h : ρ.V} (hi : z[i]? = some (u, h)) : Ent (memA ρ z :: L) (ρ.atoms u h ++ L) := by
  rintro r o ⟨a, b, d, le, hm, hL⟩
  exact ent_big r o ⟨own0, o, fun _ _ => .inl rfl, none_add, hm i u h hi, seps_up (Ro.le_refl _) (Own.le_trans (Own.le_add_right d) le) hL⟩
theorem mit_shut {r b : Nat} {l left : List (κ × α)} (z : List (ZM κ ρ)) (clock since last : Nat) (seen : List Nat) (h1 : z.map (·.1) = l) (h2 : (keysM l).Nodup) (h3 : (z.map fun p : ZM κ ρ => p.2.2).Pairwise (· < ·) ∧ ∀ p ∈ z, p.2.2 < clock)
    (h4 : (leftZ z seen).map (·.1) = left) (h5 : ∀ p ∈ z, p.2.2 < since) (h6 : ∀ p ∈ z, p.2.2 < last) :
    Ent (ob b (.map (z.map (entM kr ρ)).toArray clock) :: ob r (.mapIter (some b) since seen.toArray last) :: memA ρ (z.map fun p => (p.1.2, p.2.1)) :: L) (mitAt kr ρ r b l left :: L) :=
  ent_tok (p := mitP (ρ := ρ) l left) (M := mitM kr r b) (R := L) (L1 := []) ((z, clock, since, last, seen) : MI κ ρ) ⟨h1, h2, h3, h4, h5, h6⟩ takes_self
theorem leftZ_push {z : List (ZM κ ρ)} {seen : List Nat} {n : Nat} : leftZ z (seen ++ [n]) = (leftZ z seen).filter fun p => !decide (p.2.2 = n) := by
  unfold leftZ
  rw [List.filter_filter]
  refine List.filter_congr fun p _ => ?_
  by_cases h : p.2.2 = n
  · simp [h]
  · simp [h]
theorem left_del {y : List (ZM κ ρ)} (hb : (y.map fun p : ZM κ ρ => p.2.2).Pairwise (· < ·)) (hk : (keysM (y.map (·.1))).Nodup) {j : Nat} {p : ZM κ ρ} (hj : y[j]? = some p) : (y.filter fun x => !decide (x.2.2 = p.2.2)).map (·.1) = mdel (y.map (·.1)) p.1.1 := by
  have hi := List.getElem?_eq_some_iff.1 hj
  have e : y = y.take j ++ p :: y.drop (j + 1) := by
    conv => lhs; rw [← List.take_append_drop j y, List.drop_eq_getElem_cons hi.1, hi.2]
  rw [e] at hb hk ⊢
  rw [List.map_append, List.map_cons, List.pairwise_append] at hb
  obtain ⟨_, hb2, hb3⟩ := hb
  have hb4 := List.pairwise_cons.1 hb2
  have f1 : (y.take j).filter (fun x => !decide (x.2.2 = p.2.2)) = y.take j := by
    rw [List.filter_eq_self]
    intro x hx
    have := hb3 x.2.2 (List.mem_map.2 ⟨x, hx, rfl⟩) p.2.2 (by simp)
    simp; omega
  have f2 : (y.drop (j + 1)).filter (fun x => !decide (x.2.2 = p.2.2)) = y.drop (j + 1) := by
    rw [List.filter_eq_self]
    intro x hx
    have := hb4.1 x.2.2 (List.mem_map.2 ⟨x, hx, rfl⟩)
    simp; omega
  rw [List.filter_append, List.filter_cons, f1, f2]
  simp only [decide_true, Bool.not_true, Bool.false_eq_true, if_false]
  rw [List.map_append, List.map_append, List.map_cons]
  refine (mdel_old (l1 := (y.take j).map (·.1)) (l2 := (y.drop (j + 1)).map (·.1)) (k := p.1.1) (v := p.1.2) fun x hx he => ?_).symm
  rw [List.map_append, List.map_cons] at hk
  unfold keysM at hk
  rw [List.map_append, List.map_cons] at hk
  have := (List.nodup_append.1 hk).2.2 x.1 (List.mem_map.2 ⟨x, hx, rfl⟩) p.1.1 (by simp)
  exact this he
/-- The next one: whichever. -/
theorem SO.nextMap {x : Operand} {r b : Nat} {l left : List (κ × α)} (hx : evO T x = some (.pointer (some ⟨r, 0, none⟩))) (htk : Take (mitAt kr ρ r b l left) L L') (hd : dstOk N d = true)
    (over : left = [] → SO P rd N all rest (putD d (.tuple #[.bool false]) T) (mitAt kr ρ r b l [] :: L') ks Q)
    (some_ : ∀ (k : κ) (u : α) (h : ρ.V), (k, u) ∈ left → (k, u) ∈ l → SO P rd N all rest (putD d (.tuple #[.bool true, kr.v k, ρ.val u h]) T) (ρ.atoms u h ++ mitAt kr ρ r b l (mdel left k) :: L') ks Q) :
    SO P rd N all (⟨d, .next x false, ty, pos, aft, none⟩ :: rest) T L ks Q := by
  refine SO.run (R := fun v L2 => (left = [] ∧ v = .tuple #[.bool false] ∧ L2 = mitAt kr ρ r b l [] :: L') ∨ ∃ k u h, (k, u) ∈ left ∧ (k, u) ∈ l ∧ v = .tuple #[.bool true, kr.v k, ρ.val u h] ∧ L2 = ρ.atoms u h ++ mitAt kr ρ r b l (mdel left k) :: L') rfl rfl hd ?_
    (by rintro _ _ (⟨h, rfl, rfl⟩ | ⟨k, u, h, h1, h2, rfl, rfl⟩) <;> first | exact over h | exact some_ k u h h1 h2)
  intro q hq F w hst
  have h1 : St w (mitAt kr ρ r b l left :: F :: L') := hst.ent ((Ent.cons htk.ent).trans Ent.swap)
  obtain ⟨⟨z, clock, since, last, seen⟩, ⟨hl, hn, ⟨hb1, hb2⟩, hlf, h5, h6⟩, hs⟩ := some1_open h1
  dsimp only at hl hb1 hb2 hlf h5 h6 hs
  have hs2 : St w (ob b (.map (z.map (entM kr ρ)).toArray clock) :: ob r (.mapIter (some b) since seen.toArray last) :: memA ρ (z.map fun p => (p.1.2, p.2.1)) :: F :: L') := hs
  obtain ⟨hob, _⟩ := hs2.obj
  obtain ⟨hor, _⟩ := (hs2.ent Ent.swap).obj
  have htest : (!seen.toArray.isEmpty && !(z.map (entM kr ρ)).toArray.isEmpty && (z.map (entM kr ρ)).toArray.all (fun x => decide (x.born ≥ last))) = false := by
    cases z with
    | nil => simp
    | cons p z =>
      have := h6 p (by simp)
      have h7 : decide (p.2.2 ≥ last) = false := decide_eq_false (by omega)
      simp [entM, h7]
  have hfil : (z.map (entM kr ρ)).toArray.filter (fun e => !seen.toArray.contains e.born) = ((leftZ z seen).map (entM kr ρ)).toArray := by
    unfold leftZ
    rw [List.filter_toArray]
    congr 1
    rw [List.filter_map]
    congr 1
    refine List.filter_congr fun p _ => ?_
    show (!seen.toArray.contains p.2.2) = !seen.elem p.2.2
    simp
  have hmem : ∀ x ∈ ((leftZ z seen).map (entM kr ρ)).toArray, x.born < since := fun x hx => by
    simp only [List.mem_toArray, List.mem_map] at hx
    obtain ⟨p, hp, rfl⟩ := hx
    exact h5 p (List.mem_filter.1 hp).1
  have e1 : ((leftZ z seen).map (entM kr ρ)).toArray.filter (fun x => decide (x.born < since)) = ((leftZ z seen).map (entM kr ρ)).toArray := Array.filter_eq_self.2 (fun x hx => by simpa using hmem x hx)
  have e2 : ((leftZ z seen).map (entM kr ρ)).toArray.filter (fun x => decide (x.born ≥ since)) = #[] := by
    rw [Array.filter_eq_empty_iff]
    intro x hx
    have := hmem x hx
    simp; omega
  have hrun : (execOp q ⟨d, .next x false, ty, pos, aft, none⟩).run P w = ((do
      match ((if ((leftZ z seen).map (entM kr ρ)).toArray.isEmpty then #[none] else #[]) ++ ((leftZ z seen).map (entM kr ρ)).toArray.map some)[← choose (.mapNext ((if ((leftZ z seen).map (entM kr ρ)).toArray.isEmpty then #[none] else #[]) ++ ((leftZ z seen).map (entM kr ρ)).toArray.map some).size)]? with
      | some (some e) => do
        setObj r (.mapIter (some b) since (seen.toArray.push e.born) clock)
        Pure.pure (.value (.tuple #[.bool true, e.key, e.val]))
      | some none => Pure.pure (.value (.tuple #[.bool false]))
      | none => stuck "Next: no such candidate" : Sem Next)).run P w := by
    simp only [execOp, hq _ _ hx, Instr.next, Sem.run_bind, run_getMap hor trivial, run_getMap hob trivial, Result.andThen_ok, htest, Bool.false_eq_true, if_false, hfil, e1, e2, Array.append_empty]
    generalize (choose _).run P w = res
    cases res with
    | ok n w1 =>
      simp only [Result.andThen_ok]
      split
      · rename_i e he
        simp only [he, Sem.run_bind]
        generalize (setObj r _).run P w1 = res2
        cases res2 <;> simp [Result.andThen]
      · rename_i he
        simp only [he]
        simp
      · rename_i he
        simp only [he]
        simp [stuck, Sem.run, Result.andThen]
    | halt e w1 => simp [Result.andThen]
  rw [hrun]
  cases hz0 : leftZ z seen with
  | nil =>
    have hle : left = [] := by rw [← hlf, hz0]; rfl
    refine ⟨_, w, _, .inl ?_, .inl ⟨hle, rfl, rfl⟩, ?_⟩
    · simp [choose, Sem.run, Question.forced]
    · exact (hs2.ent (mit_shut z clock since last seen hl hn ⟨hb1, hb2⟩ (by rw [hz0]; rfl) h5 h6)).ent Ent.swap
  | cons p0 y0 =>
    rw [← hz0]
    have hpos : 0 < (leftZ z seen).length := by rw [hz0]; simp
    have hne : ((leftZ z seen).map (entM kr ρ)).toArray.isEmpty = false := by rw [hz0]; rfl
    simp only [hne, Bool.false_eq_true, if_false, Array.empty_append, Array.size_map, List.size_toArray, List.length_map]
    have hch : ∃ (j : Nat) (w1 : World), j < (leftZ z seen).length ∧ (choose (Question.mapNext (leftZ z seen).length)).run P w = .ok j w1 ∧ (w1 = w ∨ w1 = { w with drawn := w.drawn + 1 }) := by
      by_cases hf : (leftZ z seen).length ≤ 1
      · exact ⟨0, w, hpos, by simp [choose, Sem.run, Question.forced, hf], .inl rfl⟩
      · exact ⟨_, _, Nat.mod_lt _ hpos, by
          simp only [choose, Sem.run, Question.forced, decide_eq_true_eq, hf, if_false, Question.cut]
          rfl, .inr rfl⟩
    obtain ⟨j, w1, hj, hcr, hw1⟩ := hch
    obtain ⟨p, hp⟩ : ∃ p, (leftZ z seen)[j]? = some p := ⟨_, List.getElem?_eq_getElem hj⟩
    have hpz : p ∈ z := (List.mem_filter.1 (List.mem_of_getElem? hp)).1
    have hs3 : St w1 (ob r (.mapIter (some b) since seen.toArray last) :: ob b (.map (z.map (entM kr ρ)).toArray clock) :: memA ρ (z.map fun p => (p.1.2, p.2.1)) :: F :: L') := by
      rcases hw1 with rfl | rfl
      · exact hs2.ent Ent.swap
      · exact (hs2.ent Ent.swap).drew _
    obtain ⟨hor1, _⟩ := hs3.obj
    have hs4 := hs3.setObj (z := .mapIter (some b) since (seen ++ [p.2.2]).toArray clock) trivial
    have hkl : (p.1.1, p.1.2) ∈ l := by rw [← hl]; exact List.mem_map.2 ⟨p, hpz, rfl⟩
    have hkf : (p.1.1, p.1.2) ∈ left := by rw [← hlf]; exact List.mem_map.2 ⟨p, List.mem_of_getElem? hp, rfl⟩
    refine ⟨.tuple #[.bool true, kr.v p.1.1, ρ.val p.1.2 p.2.1], { w1 with heap := w1.heap.setIfInBounds r (.mapIter (some b) since (seen ++ [p.2.2]).toArray clock) }, _, .inl ?_, .inr ⟨p.1.1, p.1.2, p.2.1, hkf, hkl, rfl, rfl⟩, ?_⟩
    · have hget : (((leftZ z seen).map (entM kr ρ)).toArray.map some)[j]? = some (some (entM kr ρ p)) := by
        simp [hp]
      simp only [Sem.run_bind, hcr, Result.andThen_ok, hget]
      have hpush : seen.toArray.push (entM kr ρ p).born = (seen ++ [p.2.2]).toArray := by simp [entM]
      rw [hpush]
      simp only [Sem.run_bind, run_setObj_some hor1 trivial, Result.andThen_ok, Sem.run_pure]
      rfl
    · obtain ⟨i, hi⟩ := List.getElem?_of_mem hpz
      have hzi : (z.map fun p : ZM κ ρ => (p.1.2, p.2.1))[i]? = some (p.1.2, p.2.1) := by rw [List.getElem?_map, hi]; rfl
      have hleft : (leftZ z (seen ++ [p.2.2])).map (·.1) = mdel left p.1.1 := by
        rw [leftZ_push, ← hlf]
        refine left_del (hb1.sublist ?_) ?_ hp
        · exact (List.filter_sublist).map _
        · unfold keysM at hn ⊢
          rw [← hl] at hn
          exact hn.sublist (((List.filter_sublist).map _).map _)
      have e3 : Ent (ob r (.mapIter (some b) since (seen ++ [p.2.2]).toArray clock) :: ob b (.map (z.map (entM kr ρ)).toArray clock) :: memA ρ (z.map fun p => (p.1.2, p.2.1)) :: F :: L')
          (ob b (.map (z.map (entM kr ρ)).toArray clock) :: ob r (.mapIter (some b) since (seen ++ [p.2.2]).toArray clock) :: memA ρ (z.map fun p => (p.1.2, p.2.1)) :: memA ρ (z.map fun p => (p.1.2, p.2.1)) :: F :: L') :=
        Ent.swap.trans (Ent.cons (Ent.cons (Ent.dup (pers_memA _ _))))
      refine hs4.ent (e3.trans ((mit_shut z clock since clock (seen ++ [p.2.2]) hl hn ⟨hb1, hb2⟩ hleft h5 hb2).trans ?_))
      refine (Ent.cons (memA_at hzi)).trans ?_
      -- mit :: (atoms ++ (F :: L')) to F :: (atoms ++ (mit :: L'))
      refine ent_of_swap.trans ?_
      refine (Ent.app Ent.swap).trans ?_
      exact ent_swap_back
/-- One that has come is taken away. -/
theorem SO.deleteIt {x y : Operand} {t t2 e kt r b n1 n2 : Nat} {z0 : Value} {tik : TI} {l left : List (κ × α)} {key : κ} (hx : evO T x = some (.map (some b))) (htk : Take (mitAt kr ρ r b l left) L L') (hy : evO T y = some (kr.v key))
    (ht : tget tb.tab t = some ⟨.map kt e, n1, n2, z0⟩) (hkt : tget tb.tab kt = some tik) (hkk : kdOf tik.k = some kr.kd) (hno : key ∉ keysM left) (hd : dstOk N d = true)
    (k : SO P rd N all rest (putD d (.tuple #[]) T) (mitAt kr ρ r b (mdel l key) left :: L') ks Q) : SO P rd N all (⟨d, .call ⟨.builtin .delete, #[x, y], #[t, t2]⟩, ty, pos, aft, none⟩ :: rest) T L ks Q := by
  refine SO.run (R := fun v L2 => v = .tuple #[] ∧ L2 = mitAt kr ρ r b (mdel l key) left :: L') rfl rfl hd ?_ (by rintro _ _ ⟨rfl, rfl⟩; exact k)
  intro q hq F w hst
  have h1 : St w (mitAt kr ρ r b l left :: F :: L') := hst.ent ((Ent.cons htk.ent).trans Ent.swap)
  obtain ⟨⟨z, clock, since, last, seen⟩, ⟨hl, hn, ⟨hb1, hb2⟩, hlf, h5, h6⟩, hs⟩ := some1_open h1
  dsimp only at hl hb1 hb2 hlf h5 h6 hs
  have h2 : St w (ob b (.map (z.map (entM kr ρ)).toArray clock) :: ob r (.mapIter (some b) since seen.toArray last) :: memA ρ (z.map fun p => (p.1.2, p.2.1)) :: F :: L') := hs
  obtain ⟨ho, _⟩ := h2.obj
  have hmt := (tab_ok ht).k
  simp only [TK.ok] at hmt
  have hkd := kdOf_ok (tab_ok hkt) hkk
  rcases split_key ρ z key with hnone | ⟨z1, p, z2, rfl, hz1, rfl⟩
  · have h3 := h2.setObj (z := .map (z.map (entM kr ρ)).toArray clock) trivial
    have hdl : mdel l key = l := mdel_none (fun p hp => by rw [← hl] at hp; obtain ⟨p', hp', rfl⟩ := List.mem_map.1 hp; exact hnone p' hp')
    refine ⟨.tuple #[], _, _, .inl ?_, ⟨rfl, rfl⟩, h3.ent ((mit_shut z clock since last seen (by rw [hdl]; exact hl) (nodup_mdel hn _) ⟨hb1, hb2⟩ hlf h5 h6).trans Ent.swap)⟩
    simp [execOp, resolve, invoke, builtin, hq _ _ hx, hq _ _ hy, Builtin.delete_, run_und hmt, run_getMap ho trivial, kr.chk P kt _ key _ hkd, run_findKey hkd (findNow_none (kr := kr) hnone), run_setObj_some ho trivial]
  · have h3 := h2.setObj (z := .map ((z1 ++ z2).map (entM kr ρ)).toArray clock) trivial
    have hsub : ∀ q ∈ z1 ++ z2, q ∈ z1 ++ p :: z2 := fun q hq => by
      rcases List.mem_append.1 hq with hq | hq <;> simp [hq]
    have hmem : Ent (memA ρ ((z1 ++ p :: z2).map fun p => (p.1.2, p.2.1)) :: F :: L') (memA ρ ((z1 ++ z2).map fun p => (p.1.2, p.2.1)) :: F :: L') := by
      rintro r o ⟨x1, y1, d1, le1, hm, hL⟩
      refine ⟨x1, y1, d1, le1, ?_, hL⟩
      intro i a c e
      rw [List.getElem?_map, Option.map_eq_some_iff] at e
      obtain ⟨p', hp', e⟩ := e
      cases e
      obtain ⟨j, hj⟩ := List.getElem?_of_mem (hsub p' (List.mem_of_getElem? hp'))
      exact hm j p'.1.2 p'.2.1 (by rw [List.getElem?_map, hj]; rfl)
    have hlf2 : (leftZ (z1 ++ z2) seen).map (·.1) = left := by
      rw [← hlf]
      have hp : (!seen.elem p.2.2) = false := by
        rw [Bool.eq_false_iff]
        intro h
        refine hno ?_
        rw [← hlf]
        refine List.mem_map.2 ⟨p.1, List.mem_map.2 ⟨p, ?_, rfl⟩, rfl⟩
        exact List.mem_filter.2 ⟨by simp, h⟩
      unfold leftZ
      rw [List.filter_append, List.filter_append, List.filter_cons, if_neg (by rw [hp]; simp)]
    have hdl : (z1 ++ z2).map (·.1) = mdel l p.1.1 := by
      rw [List.map_append, ← hl, List.map_append, List.map_cons]
      exact (mdel_old (l1 := z1.map (·.1)) (l2 := z2.map (·.1)) (k := p.1.1) (v := p.1.2) (fun p hp => by obtain ⟨p', hp', rfl⟩ := List.mem_map.1 hp; exact hz1 p' hp')).symm
    have hb1' : ((z1 ++ z2).map fun p : ZM κ ρ => p.2.2).Pairwise (· < ·) := by
      rw [List.map_append, List.map_cons] at hb1
      rw [List.map_append]
      exact hb1.sublist (List.Sublist.append (List.Sublist.refl _) (List.sublist_cons_self _ _))
    refine ⟨.tuple #[], _, _, .inl ?_, ⟨rfl, rfl⟩, h3.ent (((Ent.cons (Ent.cons hmem)).trans (mit_shut (z1 ++ z2) clock since last seen hdl (nodup_mdel hn _) ⟨hb1', fun q hq => hb2 q (hsub q hq)⟩ hlf2 (fun q hq => h5 q (hsub q hq)) (fun q hq => h6 q (hsub q hq)))).trans Ent.swap)⟩
    have hf := findNow_some (kr := kr) (p := p) (z2 := z2) (i := 0) hz1
    have he : ((z1 ++ p :: z2).map (entM kr ρ)).toArray.eraseIdxIfInBounds (0 + z1.length) = ((z1 ++ z2).map (entM kr ρ)).toArray := by
      rw [List.map_append, List.map_cons, ext_erase _ _ _ _ (by simp), List.map_append]
    simp only [execOp, resolve, invoke, builtin, Array.map, hq _ _ hx, hq _ _ hy, Sem.run_bind, Sem.run_pure, Result.andThen_ok]
    have : (Builtin.delete_ #[t, t2] ty #[.map (some b), kr.v p.1.1]).run P w = .ok (.tuple #[]) { w with heap := w.heap.setIfInBounds b (.map ((z1 ++ z2).map (entM kr ρ)).toArray clock) } := by
      unfold Builtin.delete_
      simp only [List.getElem?_toArray, List.getElem?_cons_zero, List.getElem?_cons_succ, Sem.run_bind, run_und hmt, Result.andThen_ok, run_getMap ho trivial, kr.chk P kt _ p.1.1 _ hkd, run_findKey hkd hf, he, run_setObj_some ho trivial]
      rfl
    simp [hq _ _ hx, hq _ _ hy, this]
end
end Go.Sl

/-! Slices clipped ('x[:n:n]'); an array's element. -/
set_option linter.unusedVariables false
set_option linter.unusedSectionVars false
set_option linter.unusedSimpArgs false
namespace Go.Sl
section
variable {P : Program} [tb : Tab P] {rd : Option Nat} {N : Nat} {T : TT} {L L' L1 E : List HP} {Q : Post} {ks : List K}
variable {all : Array Oper} {rest : List Oper} {restX : XO} {d : Option Tmp} {ty : TypeId} {pos : String} {aft : Array Edge} {α : Type} {ρ : Rep α}
theorem run_slice3 {t e sz n1 n2 b1 : Nat} {z z2 : Value} {ke : TK} (ht : tget tb.tab t = some ⟨.sl e, n1, n2, z⟩) (hte : tget tb.tab e = some ⟨ke, sz, b1, z2⟩) {A : Option Addr} {n c hi : Nat} (h2 : hi ≤ c) {k2 k3 : IntKind} (w : World) :
    (Instr.sliceAt t (.slice A n c) none (some (.int k2 hi)) (some (.int k3 hi))).run P w = .ok (.slice (if hi = 0 then A else A.map (·.add (0 * sz))) hi hi) w := by
  have hk := (tab_ok ht).k
  simp only [TK.ok] at hk
  have hs := sizeOf_ok (tab_ok hte) w
  simp only at hs
  have b2 : (0 : Int) ≤ (hi : Int) ∧ (hi : Int) ≤ ((c : Nat) : Int) := ⟨by omega, by omega⟩
  have b3 : (0 : Int) ≤ (hi : Int) ∧ (hi : Int) ≤ ((hi : Nat) : Int) := ⟨by omega, by omega⟩
  simp [Instr.sliceAt, Instr.slice, Instr.sliceBounds, Instr.sliceBound, asIntOf, run_und hk, hs, b2, b3, h2, Int.ofNat_le]
theorem sq_clip {w : Bool} {A : Option Addr} {n c j : Nat} {l : List α} (hj : j ≤ n) : Ent (sqAt w ρ A n c l :: L) (sqAt w ρ A j j (l.take j) :: L) := by
  rintro r o ⟨a, b, d, le, ⟨h0, h1, h2, h3, h4⟩, hL⟩
  refine ⟨a, b, d, le, ⟨?_, by omega, Nat.le_refl _, fun h => ?_, fun x hx => ?_⟩, hL⟩
  · rw [List.length_take]; omega
  · obtain ⟨e1, e2⟩ := h3 h
    subst e1
    exact ⟨by simp, by simp at h0; omega⟩
  · obtain ⟨hs, z, sp, hz, hsp, hc, hd, hm⟩ := h4 x hx
    refine ⟨hs, z.take j, [], by rw [List.map_take, hz], by simp, fun i v e => hc i v ?_, fun i v e => by simp at e, ?_⟩
    · have e1 : z = z.take j ++ z.drop j := by simp
      rw [e1, flat_append]
      rw [List.getElem?_append_left (List.getElem?_eq_some_iff.1 e).1]
      exact e
    · intro i u h e
      rw [List.getElem?_take] at e
      split at e
      · exact hm i u h e
      · cases e
theorem sq_spot {w : Bool} {A : Option Addr} {n c : Nat} {l : List α} {r : Ro} {o : Own} (h : seps (sqAt w ρ A n c l :: L) r o) : A.map (·.add 0) = A := by
  obtain ⟨a, b, d, le, ⟨h0, h1, h2, h3, h4⟩, hL⟩ := h
  cases A with
  | none => rfl
  | some x =>
    obtain ⟨hs, _⟩ := h4 x rfl
    rw [addr_eta hs]; simp [Addr.add]
/-- 'x[:n:n]', by its value alone. -/
theorem rd_clip {w' : Bool} {x hi mx : Operand} {A : Option Addr} {n c j t e sz n1 n2 b1 : Nat} {z z2 : Value} {ke : TK} {l : List α} {k2 k3 : IntKind} (hx : evO T x = some (.slice A n c)) (hhi : evO T hi = some (.int k2 j)) (hmx : evO T mx = some (.int k3 j))
    (hh : Take (sqAt w' ρ A n c l) L L') (ht : tget tb.tab t = some ⟨.sl e, n1, n2, z⟩) (hte : tget tb.tab e = some ⟨ke, sz, b1, z2⟩) (hj : j ≤ n) :
    Reads P T L ⟨d, .slice t x none (some hi) (some mx), ty, pos, aft, none⟩ (fun v L2 => v = .slice A j j ∧ L2 = L) := by
  intro q hq rr oo F hs
  have hs1 := (show seps L rr _ from hs.choose_spec.choose_spec.2.2.2)
  have hc := (sq_len (ρ := ρ) (w := w') hh rr _ hs1).2.2.1
  have hA := sq_spot (hh.ent rr _ hs1)
  refine ⟨_, L, ⟨rfl, rfl⟩, hs, fun w sat => ?_⟩
  simp only [execOp, hq _ _ hx, hq _ _ hhi, hq _ _ hmx, Option.map_none, Option.map_some, Sem.run_bind, run_slice3 ht hte (show j ≤ c by omega), Result.andThen_ok]
  rw [Nat.zero_mul, hA]
  simp
theorem SO.clip {w' : Bool} {x hi mx : Operand} {A : Option Addr} {n c j t e sz n1 n2 b1 : Nat} {z z2 : Value} {ke : TK} {l : List α} {k2 k3 : IntKind} (hx : evO T x = some (.slice A n c)) (hhi : evO T hi = some (.int k2 j)) (hmx : evO T mx = some (.int k3 j))
    (hh : Take (sqAt w' ρ A n c l) L L') (ht : tget tb.tab t = some ⟨.sl e, n1, n2, z⟩) (hte : tget tb.tab e = some ⟨ke, sz, b1, z2⟩) (hd : dstOk N d = true) (hj : j ≤ n)
    (kk : SO P rd N all rest (putD d (.slice A j j) T) L ks Q) : SO P rd N all (⟨d, .slice t x none (some hi) (some mx), ty, pos, aft, none⟩ :: rest) T L ks Q :=
  SO.reads (rd_clip hx hhi hmx hh ht hte hj) rfl rfl hd (by rintro _ _ ⟨rfl, rfl⟩; exact kk)
theorem SX.clip {w' : Bool} {x hi mx : Operand} {A : Option Addr} {n c j t e sz n1 n2 b1 : Nat} {z z2 : Value} {ke : TK} {l : List α} {k2 k3 : IntKind} (hx : evO T x = some (.slice A n c)) (hhi : evO T hi = some (.int k2 j)) (hmx : evO T mx = some (.int k3 j))
    (hh : Take (sqAt w' ρ A n c l) L L') (ht : tget tb.tab t = some ⟨.sl e, n1, n2, z⟩) (hte : tget tb.tab e = some ⟨ke, sz, b1, z2⟩) (hd : dstOk N d = true) (hj : j ≤ n)
    (kk : SX P rd N all restX (putD d (.slice A j j) T) L E ks Q) : SX P rd N all (.item 0 ⟨d, .slice t x none (some hi) (some mx), ty, pos, aft, none⟩ restX) T L E ks Q :=
  SX.reads (rd_clip hx hhi hmx hh ht hte hj) rfl hd (by rintro _ _ ⟨rfl, rfl⟩; exact kk)
theorem SK.clipS {cd : Code} {w' : Bool} {A : Option Addr} {n c : Nat} {l : List α} (j : Nat) (hh : Take (sqAt w' ρ A n c l) L L') (hj : j ≤ n) (h : SK P rd N (.code cd :: ks) T (sqAt w' ρ A j j (l.take j) :: L') Q) : SK P rd N (.code cd :: ks) T L Q :=
  SK.shift (fun F w hst => hst.ent (Ent.cons (hh.ent.trans (sq_clip hj)))) h
theorem SO.clipS {ops : List Oper} {w' : Bool} {A : Option Addr} {n c : Nat} {l : List α} (j : Nat) (hh : Take (sqAt w' ρ A n c l) L L') (hj : j ≤ n) (h : SO P rd N all ops T (sqAt w' ρ A j j (l.take j) :: L') ks Q) : SO P rd N all ops T L ks Q :=
  SO.shift (fun F w hst => hst.ent (Ent.cons (hh.ent.trans (sq_clip hj)))) h
/-- An array's element's place. -/
theorem rd_indexArr {x y : Operand} {t e n sz n1 n2 b1 i b : Nat} {z z2 : Value} {ke : TK} {k : IntKind} {j : Int} (hx : evO T x = some (.pointer (some ⟨b, 0, none⟩))) (hy : evO T y = some (.int k j))
    (ht : tget tb.tab t = some ⟨.arr n e, n1, n2, z⟩) (hte : tget tb.tab e = some ⟨ke, sz, b1, z2⟩) (hj : Int.ofNat i = j) (hi : i < n) :
    Reads P T L ⟨d, .indexAddr t x y, ty, pos, aft, none⟩ (fun v L2 => v = .pointer (some (eadr (some ⟨b, 0, none⟩) i sz 0)) ∧ L2 = L) := by
  intro q hq rr oo F hs
  refine ⟨_, L, ⟨rfl, rfl⟩, hs, fun w sat => ?_⟩
  have hk := (tab_ok ht).k
  simp only [TK.ok] at hk
  have hsz := sizeOf_ok (tab_ok hte) w
  simp only at hsz
  have hj' : j = (i : Int) := hj.symm
  subst hj'
  have b2 : (0 : Int) ≤ (i : Int) ∧ (i : Int) < ((n : Nat) : Int) := ⟨by omega, by omega⟩
  simp [execOp, hq _ _ hx, hq _ _ hy, Instr.indexAt, Instr.sureAddr, asIntOf, run_und hk, b2, hsz, hi]
  rfl
theorem SO.indexArr {x y : Operand} {t e n sz n1 n2 b1 i b : Nat} {z z2 : Value} {ke : TK} {k : IntKind} {j : Int} (hx : evO T x = some (.pointer (some ⟨b, 0, none⟩))) (hy : evO T y = some (.int k j))
    (ht : tget tb.tab t = some ⟨.arr n e, n1, n2, z⟩) (hte : tget tb.tab e = some ⟨ke, sz, b1, z2⟩) (hj : Int.ofNat i = j) (hd : dstOk N d = true) (hi : i < n)
    (kk : SO P rd N all rest (putD d (.pointer (some (eadr (some ⟨b, 0, none⟩) i sz 0))) T) L ks Q) : SO P rd N all (⟨d, .indexAddr t x y, ty, pos, aft, none⟩ :: rest) T L ks Q :=
  SO.reads (rd_indexArr hx hy ht hte hj hi) rfl rfl hd (by rintro _ _ ⟨rfl, rfl⟩; exact kk)
theorem SX.indexArr {x y : Operand} {t e n sz n1 n2 b1 i b : Nat} {z z2 : Value} {ke : TK} {k : IntKind} {j : Int} (hx : evO T x = some (.pointer (some ⟨b, 0, none⟩))) (hy : evO T y = some (.int k j))
    (ht : tget tb.tab t = some ⟨.arr n e, n1, n2, z⟩) (hte : tget tb.tab e = some ⟨ke, sz, b1, z2⟩) (hj : Int.ofNat i = j) (hd : dstOk N d = true) (hi : i < n)
    (kk : SX P rd N all restX (putD d (.pointer (some (eadr (some ⟨b, 0, none⟩) i sz 0))) T) L E ks Q) : SX P rd N all (.item 0 ⟨d, .indexAddr t x y, ty, pos, aft, none⟩ restX) T L E ks Q :=
  SX.reads (rd_indexArr hx hy ht hte hj hi) rfl hd (by rintro _ _ ⟨rfl, rfl⟩; exact kk)
end
end Go.Sl

/-! Iterators that hand over what there is, each once, in no order that is known. -/
set_option linter.unusedVariables false
set_option linter.unusedSectionVars false
namespace Go.Sl
/-- Function f hands over each of 'l' once, in any order; 'true': it came to the end. -/
def IterU {α : Type} (P : Program) (f : FuncId) (caps : List Value) (e : Enc α) (l : List α) (pers K0 : List HP) (Kb Ke : List HP) : Prop :=
  ∀ (q : Nat) (J Jx : List α → HP),
    (∀ (seen : List α) (x : α) (h : e.V), x ∈ l → x ∉ seen → seen.length < l.length → VDoes P (yv q) (e.args x h) (e.atoms x h) [J seen] Bool (fun _ => True) (fun b => .bool b) (fun b => [bif b then J (seen ++ [x]) else Jx seen])) →
    Does P f (yv q :: caps) pers (J [] :: K0) (Bool × List α) (fun o => o.1 = true → o.2.Perm l) (fun _ => .tuple #[])
      (fun o => bif o.1 then J o.2 :: Ke else Jx o.2 :: Kb)
section
variable {P : Program} {rd : Option Nat} {N : Nat} {T : TT} {L L1 : List HP} {Q : Post} {ks : List K}
/-- A range over such a function; the body never leaves it. -/
theorem SK.rangeU {α : Type} {e : Enc α} {xs : List α} {pers K0 Ke Kb : List HP} {f : FuncId} {caps : Array Value} (it : IterU P f caps.toList e xs pers K0 Kb Ke)
    (LJ : List α → List HP) {fx : Operand} {ps : List Nat} {asg body : Code} (hf : evO T fx = some (.func (.func f) #[] caps)) (hp : HasAll pers L) (ho : Takes (LJ [] ++ K0) L L1)
    (hps : ltAll N ps = true) (hlen : ∀ x h, Nat.beq (e.args x h).length ps.length = true)
    (round : ∀ (seen : List α) (x : α) (h : e.V) (l : Nat) (R : Loop), x ∈ xs → x ∉ seen → seen.length < xs.length →
      SK P (some l) N [.code asg, .inv (fun T' L' => SK P (some l) N [.code body] T' (busyA l R :: L') (roundQ l R (LJ (seen ++ [x])) Empty (fun _ => []) (fun y => y.elim)))] (zipT ps (e.args x h) T) (e.atoms x h ++ LJ seen) (fun _ _ _ => False))
    (done : ∀ ys : List α, ys.Perm xs → SK P none N ks T (LJ ys ++ (Ke ++ L1)) Q) :
    SK P none N (.code (.rangeFunc fx ps.toArray asg body) :: ks) T L Q := by
  rw [SK_code]
  intro G a w ok
  refine wpIn_rangeFunc fun fn hfn => ?_
  have enter : ∃ (l : Nat) (mk : List Deferred) (w1 : World) (R : Loop) (D : List Nat),
      (Instr.enterLoop fn a.tmps ps.toArray asg body none).run P w = .ok (l, mk) w1 ∧ mk ++ a.defers = D.map mark ∧ R.params = ps.toArray ∧ R.assign = asg ∧ R.body = body ∧ R.tmps = a.tmps ∧ R.state = .ready ∧ R.pending = none ∧
      St w1 (big (G :: D.map mkA) :: ob l (.loop R) :: L) := by
    obtain ⟨D, hD, hm⟩ := ok.mem
    have h1 := hm.allocObj (.deferred (some [])) trivial
    have h2 := h1.allocObj (.loop { state := .ready, pending := none, fn := fn, tmps := a.tmps, params := ps.toArray, assign := asg, body := body, defers := w.heap.size }) trivial
    refine ⟨_, _, _, { state := .ready, pending := none, fn := fn, tmps := a.tmps, params := ps.toArray, assign := asg, body := body, defers := w.heap.size }, w.heap.size :: D, by simp only [Instr.enterLoop, newObj, bind, Sem.bind, Sem.run, pure]; rfl, ?_, rfl, rfl, rfl, rfl, rfl, rfl, h2.ent ?_⟩
    · rw [hD]; rfl
    · refine Ent.swap.trans ?_
      have : Ent (ob w.heap.size (.deferred (some [])) :: big (G :: D.map mkA) :: L) (big (G :: (w.heap.size :: D).map mkA) :: L) := by
        refine (Ent.cons ent_big).trans ?_
        show Ent (mkA w.heap.size :: G :: (D.map mkA ++ L)) _
        refine Ent.swap.trans ?_
        exact big_ent (A := G :: (w.heap.size :: D).map mkA)
      refine (Ent.cons (Ent.refl _)).trans ?_
      refine Ent.swap.trans ?_
      refine (Ent.cons this).trans Ent.swap
  obtain ⟨l, mk, w1, R, D, hr, hmk, hR1, hR2, hR3, hR4, hR5, hR6, hst⟩ := enter
  have hkn := ok.knows
  let J : List α → HP := fun s => big (ob l (.loop R) :: LJ s)
  let Jx : List α → HP := fun s => ex fun y : Empty => big (ob l (.loop { R with state := .done, pending := some y.elim }) :: [])
  have hit := it l J Jx (fun s x h hx hs hsl => by
    have := yield_does (P := P) (N := N) (T := T) (e := e) (x := x) (h := h) (LI := LJ s) (LN := LJ (s ++ [x])) (LX := fun _ => []) (cX := fun y : Empty => y.elim) hR1 hR2 hR3 hR4 hR5 hR6 ok.get ok.size hps (hlen x h) (round s x h l R hx hs hsl)
    exact this)
  have hst1 : St w1 (big (big (G :: D.map mkA) :: L1) :: (pers ++ (J [] :: K0))) := by
    refine hst.ent ?_
    have e1 : Ent L (pers ++ ((LJ [] ++ K0) ++ L1)) := (hp.ent hit.hpers).trans (Ent.app ho.ent)
    refine (Ent.cons (Ent.cons e1)).trans ?_
    have e2 : Ent (ob l (.loop R) :: (pers ++ ((LJ [] ++ K0) ++ L1))) (L1 ++ (pers ++ (J [] :: K0))) := by
      have e3 : Ent (ob l (.loop R) :: (pers ++ ((LJ [] ++ K0) ++ L1))) (pers ++ (ob l (.loop R) :: ((LJ [] ++ K0) ++ L1))) := ent_of_swap
      refine e3.trans ?_
      have e4 : Ent (ob l (.loop R) :: ((LJ [] ++ K0) ++ L1)) ((J [] :: K0) ++ L1) := by
        rw [List.append_assoc]
        exact big_ent (A := ob l (.loop R) :: LJ []) (L := K0 ++ L1)
      refine (Ent.app e4).trans ?_
      rw [← List.append_assoc]
      exact ent_app_comm
    refine (Ent.cons e2).trans ?_
    exact big_ent (A := big (G :: D.map mkA) :: L1)
  refine ⟨l, mk, w1, { target := .fn (.func f) caps, args := #[] ++ #[yv l] }, w1, f, #[yv l] ++ caps, w1, hr, ?_, fun _ _ => trivial, ?_, fun h => by simp [Fence.wide] at h, ?_⟩
  · simp only [resolve, hkn _ _ hf]
    simp [Act.eval, Deferred.ofValue]
  · have := hit.entry (#[yv l] ++ caps) w1
    simpa [invoke] using this
  · have hc := hit.calls _ w1 hst1
    have hargs : (yv l :: caps.toList).toArray = #[yv l] ++ caps := by cases caps; simp
    rw [hargs, ← callsIn_wide (n := 0)] at hc
    refine ⟨trivial, fun cs hroom => ?_⟩
    obtain ⟨ee, w', fr, ⟨o, ho', rfl, hs⟩, rest⟩ := hc.2 cs hroom
    refine ⟨.returned (.tuple #[]), w', fr, ?_, rest⟩
    obtain ⟨b, ys⟩ := o
    cases b with
    | true =>
      have h2 : St w' (big (big (G :: D.map mkA) :: L1) :: ob l (.loop R) :: (LJ ys ++ Ke)) := by
        refine hs.ent (Ent.cons ?_)
        exact ent_big (A := ob l (.loop R) :: LJ ys) (L := Ke)
      have h1 : St w' (ob l (.loop R) :: big (big (G :: D.map mkA) :: L1) :: (LJ ys ++ Ke)) := h2.ent Ent.swap
      obtain ⟨hl, _⟩ := h1.obj
      have hs4 := ((h1.setObj (z := .loop { R with state := .exhausted }) trivial).ent Ent.drop).ent ((ent_big (A := big (G :: D.map mkA) :: L1) (L := LJ ys ++ Ke)).trans (Ent.cons ent_app_comm))
      refine ⟨none, { w' with heap := w'.heap.setIfInBounds l (.loop { R with state := .exhausted }) }, ?_, ?_⟩
      · simp only [Instr.endLoop, Sem.run_bind, run_getLoop hl, Result.andThen_ok]
        have : (R.state == LoopState.busy) = false := by rw [hR5]; rfl
        simp only [this, Bool.false_eq_true, if_false, Sem.run_pure, Sem.run_bind, run_setLoop hl, Result.andThen_ok, hR6]
      · rw [List.append_assoc] at hs4
        exact ⟨T, _, ⟨ok.size, ok.get, D, by rw [← hmk], hs4⟩, done ys (ho' rfl)⟩
    | false =>
      have h2 := hs.ent Ent.swap
      obtain ⟨y, h2⟩ := St.ex h2
      exact y.elim
end
end Go.Sl

/-! Scopes of labels that nobody jumps to. -/
set_option linter.unusedVariables false
set_option linter.unusedSectionVars false
namespace Go.Sl
theorem stepR_scope {P : Program} {b : Frame} {a : Act} {k : List Item} {cs : List Frame} {w : World} {c : Code} : step P (lone (b.atR a (.code (.scope c) :: k)) cs w) = .next (lone (b.atR a (.code c :: .inScope c :: k)) cs w) :=
  step_lone_go (by simp [stepG, stepG.exec, Frame.atR])
theorem stepR_inScope {P : Program} {b : Frame} {a : Act} {k : List Item} {cs : List Frame} {w : World} {c : Code} : step P (lone (b.atR a (.inScope c :: k)) cs w) = .next (lone (b.atR a k) cs w) :=
  step_lone_go (by simp [stepG, stepG.exec, Frame.atR])
theorem wpIn_scope {F : Fence} {n : Nat} {P : Program} {c : Code} {Q : Exit → Act → World → Prop} {a : Act} {w : World} (hq : ∀ l a w, Q (.goto l) a w → False) (h : c.wpIn F n P Q a w) : (Code.scope c).wpIn F n P Q a w := by
  intro b k cs hro hb hr
  have h0 : (lone (b.atR a (.code (.scope c) :: k)) cs w).fenced P F := fenced_calm hb hr rfl
  obtain ⟨e, a₁, w₁, hQ, harr⟩ := h b (.inScope c :: k) cs hro hb hr
  cases e with
  | normal => exact ⟨.normal, a₁, w₁, hQ, .head h0 stepR_scope (StepsIn.trans harr (.one (fenced_calm hb hr rfl) stepR_inScope))⟩
  | exit id =>
    refine ⟨.exit id, a₁, w₁, hQ, .of_steps (.one h0 stepR_scope) ⟨fun k' hk => harr.1 k' (by simp [exitTo, hk]), fun h1 h2 => harr.2 h1 (by simp [exitTo, h2])⟩⟩
  | goto l => exact (hq _ _ _ hQ).elim
  | ret => exact ⟨_, a₁, w₁, hQ, .of_steps (.one h0 stepR_scope) harr⟩
  | panic ch => exact ⟨_, a₁, w₁, hQ, .of_steps (.one h0 stepR_scope) harr⟩
  | outgrown => exact ⟨_, a₁, w₁, hQ, .of_steps (.one h0 stepR_scope) harr⟩
section
variable {P : Program} {rd : Option Nat} {N : Nat} {T : TT} {L : List HP} {Q : Post} {ks : List K}
theorem SK.scope {c : Code} (hq : ∀ l T L, Q (.goto l) T L → False) (h : SK P rd N (.code c :: ks) T L Q) : SK P rd N (.code (.scope c) :: ks) T L Q := by
  rw [SK_code] at h ⊢
  intro F a w ok
  refine wpIn_scope ?_ (h F a w ok)
  rintro l a w ⟨T, L, ok, hQ⟩
  exact hq l T L hQ
theorem SK.label {l : Nat} (h : SK P rd N ks T L Q) : SK P rd N (.code (.label l) :: ks) T L Q :=
  SK_code.2 fun F a w ok => wpIn_label ⟨T, L, ok, h⟩
end
end Go.Sl

/-! A row of numbers of one's own, sorted by the library. -/
set_option linter.unusedVariables false
set_option linter.unusedSimpArgs false
namespace Go.Sl
open Go.Sort
abbrev vI (n : Int) : Value := .int .i64 n
theorem holds_pts {w : World} {L : List HP} {b off : Nat} {zs : List Int} {sp : List Value} (h : St w (pts b off (zs.map vI ++ sp) :: L)) : Holds vI w b off zs.toArray := by
  intro j hj
  have hj2 : j < zs.length := by simpa using hj
  have hv : (zs.map vI ++ sp)[j]? = some (vI zs[j]) := by
    rw [List.getElem?_append_left (by simpa using hj2), List.getElem?_map, List.getElem?_eq_getElem hj2]; rfl
  obtain ⟨h1, h2⟩ := h.cell hv
  refine ⟨?_, h2⟩
  rw [h1, getElem!_pos zs.toArray j hj]
  simp
theorem St.putRow {w : World} {L : List HP} {b off : Nat} {zs us : List Int} {sp : List Value} (h : St w (pts b off (zs.map vI ++ sp) :: L)) (hl : us.length = zs.length) : St (Go.Sort.putRow vI w b off us.toArray) (pts b off (us.map vI ++ sp) :: L) := by
  have key : ∀ k, k ≤ zs.length → St (Go.Sort.putRow vI w b off (us.take k ++ zs.drop k).toArray) (pts b off ((us.take k ++ zs.drop k).map vI ++ sp) :: L) := by
    intro k
    induction k with
    | zero =>
      intro _
      rw [List.take_zero, List.drop_zero, List.nil_append, putRow_self _ _ _ _ _ (holds_pts h)]
      exact h
    | succ k ih =>
      intro hk
      have h1 := ih (by omega)
      have hku : k < us.length := by omega
      have e : us.take (k + 1) ++ zs.drop (k + 1) = (us.take k ++ zs.drop k).set k us[k] := by
        apply List.ext_getElem?
        intro i
        by_cases hik : i = k
        · subst hik
          rw [List.getElem?_set_self (by rw [List.length_append, List.length_take, List.length_drop]; omega), List.getElem?_append_left (by rw [List.length_take]; omega), List.getElem?_take_of_lt (by omega), List.getElem?_eq_getElem hku]
        · rw [List.getElem?_set_ne (fun he => hik he.symm)]
          rcases Nat.lt_or_ge i k with hi | hi
          · rw [List.getElem?_append_left (by rw [List.length_take]; omega), List.getElem?_append_left (by rw [List.length_take]; omega), List.getElem?_take_of_lt (by omega), List.getElem?_take_of_lt hi]
          · rw [List.getElem?_append_right (by rw [List.length_take]; omega), List.getElem?_append_right (by rw [List.length_take]; omega), List.length_take, List.length_take, List.getElem?_drop, List.getElem?_drop]
            congr 1; omega
      have hlen : k < (us.take k ++ zs.drop k).length := by rw [List.length_append, List.length_take, List.length_drop]; omega
      have h2 := h1.store (i := k) (by rw [List.length_append, List.length_map]; omega) (vI us[k])
      rw [putRow_set _ _ _ _ _ _ _ (by simpa using hlen)] at h2
      rw [e]
      have e2 : ((us.take k ++ zs.drop k).map vI ++ sp).set k (vI us[k]) = ((us.take k ++ zs.drop k).set k us[k]).map vI ++ sp := by
        rw [List.set_append_left _ _ (by rw [List.length_map]; exact hlen), List.map_set]
      rw [e2] at h2
      have e3 : (us.take k ++ zs.drop k).toArray.setIfInBounds k us[k] = ((us.take k ++ zs.drop k).set k us[k]).toArray := by simp
      rw [e3] at h2
      exact h2
  have := key zs.length (Nat.le_refl _)
  rw [List.take_of_length_le (by omega), List.drop_length, List.append_nil] at this
  exact this
theorem plain_RI : Plain RI () := by
  constructor <;> intros <;> first | rfl | trivial
theorem cellsOf_RI (l : List Int) : cellsOf RI () l = l.map vI := by
  induction l with
  | nil => rfl
  | cons x l ih =>
    have := cellsOf_app (ρ := RI) (h := ()) [x] l
    rw [List.cons_append, List.nil_append] at this
    rw [this, ih]; rfl
end Go.Sl

/-! Which lines stay behind a fall. -/
set_option linter.unusedVariables false
set_option linter.unusedSimpArgs false
namespace Go.Sl
def keepAt (d : Dk) (k : Int) (i : Nat) : Int := if i ≤ d.lasts then k else k - ((usedL (d.lines.take i) : Int) - (usedL (d.lines.take d.lasts) : Int))
structure CrashI (d : Dk) (k : Int) (i : Nat) : Prop where
  nn : 0 ≤ keepAt d k i
  eq : d.lasts ≤ i → d.lasts + fitN k (d.lines.drop d.lasts) = i + fitN (keepAt d k i) (d.lines.drop i)
theorem keepAt_le {d : Dk} {k : Int} {i : Nat} : keepAt d k i ≤ k := by
  unfold keepAt
  split
  · omega
  · rename_i h
    have h1 := usedL_app (d.lines.take d.lasts) ((d.lines.take i).drop d.lasts)
    have h2 : d.lines.take d.lasts = (d.lines.take i).take d.lasts := by rw [List.take_take, Nat.min_eq_left (by omega)]
    rw [h2, List.take_append_drop] at h1
    rw [h2]; omega
theorem crashI_zero {d : Dk} {k : Int} (hk : 0 ≤ k) : CrashI d k 0 := by
  have e : keepAt d k 0 = k := by unfold keepAt; rw [if_pos (Nat.zero_le _)]
  refine ⟨by rw [e]; exact hk, fun h => ?_⟩
  obtain h0 : d.lasts = 0 := by omega
  rw [e, h0]
theorem crashI_old {d : Dk} {k : Int} {i : Nat} (h : CrashI d k i) (hi : i < d.lasts) : CrashI d k (i + 1) ∧ keepAt d k (i + 1) = keepAt d k i := by
  have e1 : keepAt d k i = k := by unfold keepAt; rw [if_pos (by omega)]
  have e2 : keepAt d k (i + 1) = k := by unfold keepAt; rw [if_pos (by omega)]
  refine ⟨⟨by rw [e2, ← e1]; exact h.nn, fun hl => ?_⟩, by rw [e1, e2]⟩
  obtain h0 : d.lasts = i + 1 := by omega
  rw [e2, h0]
theorem crashI_new {d : Dk} {k : Int} {i : Nat} {s : ByteArray} (h : CrashI d k i) (hi : d.lasts ≤ i) (hs : d.lines[i]? = some s) (hk : ¬ keepAt d k i - ((s.size : Int) + 1) < 0) :
    CrashI d k (i + 1) ∧ keepAt d k (i + 1) = keepAt d k i - ((s.size : Int) + 1) := by
  have hu := usedL_step hs
  have e : keepAt d k (i + 1) = keepAt d k i - ((s.size : Int) + 1) := by
    unfold keepAt
    rw [if_neg (by omega)]
    split
    · obtain h0 : i = d.lasts := by omega
      subst h0; omega
    · omega
  have hd : d.lines.drop i = s :: d.lines.drop (i + 1) := by
    obtain ⟨h1, h2⟩ := List.getElem?_eq_some_iff.1 hs
    rw [List.drop_eq_getElem_cons h1, h2]
  refine ⟨⟨by rw [e]; omega, fun _ => ?_⟩, e⟩
  rw [h.eq hi, hd, e]
  simp only [fitN]
  rw [if_neg (by omega)]; omega
theorem crashI_stop {d : Dk} {k : Int} {i : Nat} {s : ByteArray} (h : CrashI d k i) (hi : d.lasts ≤ i) (hs : d.lines[i]? = some s) (hk : keepAt d k i - ((s.size : Int) + 1) < 0) : d.lasts + fitN k (d.lines.drop d.lasts) = i := by
  have hd : d.lines.drop i = s :: d.lines.drop (i + 1) := by
    obtain ⟨h1, h2⟩ := List.getElem?_eq_some_iff.1 hs
    rw [List.drop_eq_getElem_cons h1, h2]
  rw [h.eq hi, hd]
  simp only [fitN]
  rw [if_pos (by omega)]; rfl
theorem crashI_done {d : Dk} {k : Int} (h : CrashI d k d.lines.length) (hl : d.lasts ≤ d.lines.length) : d.lasts + fitN k (d.lines.drop d.lasts) = d.lines.length := by
  rw [h.eq hl, List.drop_length]; rfl
theorem max0 (k : Int) : (if k < 0 then 0 else k) = max k 0 := by
  split <;> omega
end Go.Sl

/-! An interface's value against nil. -/
set_option linter.unusedVariables false
set_option linter.unusedSectionVars false
set_option linter.unusedSimpArgs false
namespace Go.Sl
section
variable {P : Program} [tb : Tab P] {rd : Option Nat} {N : Nat} {T : TT} {L L' L1 E : List HP} {Q : Post} {ks : List K}
variable {all : Array Oper} {rest : List Oper} {restX : XO} {d : Option Tmp} {ty : TypeId} {pos : String} {aft : Array Edge}
def neqN : Value → Option Bool
  | .nilIface => some false
  | .iface _ _ => some true
  | _ => none
theorem rd_neqNil {x : Operand} {t cx : Nat} {v : Value} {r : Bool} {ms : Array (String × Nat)} (hx : evO T x = some v) (hv : neqN v = some r) (hu : P.underlying t = some (.interface ms)) :
    Reads P T L ⟨d, .binOp .neq t x (.const .nilIface) cx, ty, pos, aft, none⟩ (fun u L' => u = .bool r ∧ L' = L) := by
  intro q hq rr oo F hs
  refine ⟨_, L, ⟨rfl, rfl⟩, hs, fun w sat => ?_⟩
  have hc : q (.const .nilIface) = .nilIface := hq _ _ rfl
  have hg : (eqGuard .neq t x (.const .nilIface) v .nilIface).run P w = .ok () w := by
    have key : ∀ (x : Operand) (v : Value), neqN v = some r → (eqGuard .neq t x (.const .nilIface) v .nilIface).run P w = .ok () w := by
      intro x v h
      cases v <;> simp only [neqN] at h <;> first | (cases h; done) | (cases x <;> rfl)
    exact key x v hv
  have he : (Op.equal t v .nilIface).run P w = .ok (!r) w := by
    unfold Op.equal
    rw [show Op.maxDepth = 9999 + 1 from rfl]
    cases v <;> simp only [neqN] at hv <;> cases hv
    · unfold Op.equalIn
      rw [Sem.run_bind, run_und hu, Result.andThen_ok]; rfl
    · unfold Op.equalIn
      rw [Sem.run_bind, run_und hu, Result.andThen_ok]; rfl
  have hb : (binOp .neq t v .nilIface).run P w = .ok (.bool r) w := by
    have e : binOp .neq t v .nilIface = (do Pure.pure (.bool (!(← Op.equal t v .nilIface)))) := by
      cases v <;> rfl
    rw [e, Sem.run_bind, he, Result.andThen_ok, Sem.run_pure, Bool.not_not]
  simp only [execOp, hq _ _ hx, hc, Sem.run_bind, hg, Result.andThen_ok, hb, Sem.run_pure]
theorem SO.neqNil {x : Operand} {t cx : Nat} {v : Value} {r : Bool} {ms : Array (String × Nat)} (hx : evO T x = some v) (hv : neqN v = some r) (hu : P.underlying t = some (.interface ms)) (hd : dstOk N d = true)
    (kk : SO P rd N all rest (putD d (.bool r) T) L ks Q) : SO P rd N all (⟨d, .binOp .neq t x (.const .nilIface) cx, ty, pos, aft, none⟩ :: rest) T L ks Q :=
  SO.reads (rd_neqNil hx hv hu) rfl rfl hd (by rintro _ _ ⟨rfl, rfl⟩; exact kk)
end
end Go.Sl

/-! A vector's text, taken apart. -/
set_option linter.unusedVariables false
set_option linter.unusedSimpArgs false
namespace Go.Sl
theorem inV_of {l m : Tx} (h : inV l = some m) : l = 91 :: (m ++ [93]) := by
  unfold inV at h
  cases l with
  | nil => cases h
  | cons b r =>
    simp only at h
    split at h
    · rename_i hb
      obtain ⟨rfl, h2⟩ := hb
      injection h with h
      obtain ⟨hne, hl⟩ := List.getLast?_eq_some_iff.1 h2
      subst h
      rw [hl]; simp
    · cases h
theorem vecT_parts {l : Tx} {v : List Int} (h : vecT l = some v) : ∃ m, l = 91 :: (m ++ [93]) ∧ ((m = [] ∧ v = []) ∨ (m ≠ [] ∧ wordsV (partsC 32 m) = some v)) := by
  unfold vecT at h
  cases hi : inV l with
  | none => rw [hi] at h; cases h
  | some m =>
    refine ⟨m, inV_of hi, ?_⟩
    rw [hi] at h
    cases m with
    | nil => left; exact ⟨rfl, (Option.some.inj h).symm⟩
    | cons b r => right; exact ⟨by simp, h⟩
theorem wordsV_parts {ws : List Tx} {v : List Int} (h : wordsV ws = some v) : (∀ w ∈ ws, canD w = true ∧ valD w ≤ 1048576) ∧ ws.getLast? ≠ some [48] ∧ ws.length ≤ 8 ∧ v = ws.map fun w => (valD w : Int) := by
  unfold wordsV at h
  split at h
  · rename_i hc
    obtain ⟨h1, h2, h3, h4⟩ := hc
    refine ⟨fun w hw => ⟨List.all_eq_true.1 h1 w hw, of_decide_eq_true (List.all_eq_true.1 h4 w hw)⟩, h2, h3, (Option.some.inj h).symm⟩
  · cases h
theorem cut1_len {c : UInt8} {l a m : Tx} (h : cut1 c l = some (a, m)) : a.length + m.length + 1 = l.length := by
  unfold cut1 at h
  split at h
  · rename_i hc
    injection h with h
    injection h with h1 h2
    have := congrArg List.length (bef_aft hc)
    rw [h1, h2, List.length_append, List.length_cons] at this
    omega
  · cases h
theorem cut2_len {c d : UInt8} : ∀ {l a m : Tx}, cut2 c d l = some (a, m) → a.length + m.length + 2 = l.length
  | [], _, _, h => by cases h
  | [_], _, _, h => by cases h
  | x :: y :: r, a, m, h => by
    simp only [cut2] at h
    split at h
    · injection h with h
      injection h with h1 h2
      subst h1; subst h2; simp
    · rw [Option.map_eq_some_iff] at h
      obtain ⟨⟨a', m'⟩, h1, h2⟩ := h
      injection h2 with h2 h3
      subst h2; subst h3
      have := cut2_len h1
      simp at this ⊢; omega
theorem recT_parts {l : Tx} {r : Rc} (h : recT l = some r) : ∃ a l1 b l2 c l3 k v x y z, cut1 58 l = some (a, l1) ∧ cut1 32 l1 = some (b, l2) ∧ cut2 93 32 l2 = some (c, l3) ∧ cut1 61 l3 = some (k, v) ∧ numT 2147483647 a = some x ∧ numT 2147483647 b = some y ∧ vecT (c ++ [93]) = some z ∧
    r = ⟨x, y, z, txB k, txB v⟩ ∧ checkR r 8 = 0 := by
  unfold recT at h
  simp only [Option.bind_eq_bind, Option.bind_eq_some_iff] at h
  obtain ⟨⟨a, l1⟩, h1, ⟨b, l2⟩, h2, ⟨c, l3⟩, h3, ⟨k, v⟩, h4, x, h5, y, h6, z, h7, h8⟩ := h
  split at h8
  · rename_i hc
    obtain rfl := Option.some.inj h8
    exact ⟨a, l1, b, l2, c, l3, k, v, x, y, z, h1, h2, h3, h4, h5, h6, h7, rfl, hc⟩
  · cases h8
end Go.Sl

/-! Ranges over maps, of which a round asks what has come ('entry'). -/
set_option linter.unusedVariables false
set_option linter.unusedSectionVars false
set_option linter.unusedSimpArgs false
namespace Go.Sl
section
variable {P : Program} [tb : Tab P] {rd : Option Nat} {N : Nat} {T : TT} {L L' L1 : List HP} {Q : Post} {ks : List K}
variable {all : Array Oper} {rest : List Oper} {d : Option Tmp} {ty : TypeId} {pos : String} {aft : Array Edge}
variable {κ α : Type} [DecidableEq κ] {kr : KR κ} {ρ : Rep α}
def nowM (k : κ) (u : α) (h : ρ.V) (x : MI κ ρ) : Prop := x.2.1 = x.2.2.2.1 ∧ ∃ born : Nat, ((k, u), (h, born)) ∈ x.1 ∧ x.2.2.2.2.getLast? = some born
/-- As 'mitAt': (k, u) has come just now. -/
def mitN (kr : KR κ) (ρ : Rep α) (r b : Nat) (l left : List (κ × α)) (k : κ) (u : α) (h : ρ.V) : HP := some1 (fun x => mitP (ρ := ρ) l left x ∧ nowM k u h x) (mitM kr r b)
theorem mitN_at {r b : Nat} {l left : List (κ × α)} {k : κ} {u : α} {h : ρ.V} {w : World} (hs : St w (mitN kr ρ r b l left k u h :: L)) : St w (mitAt kr ρ r b l left :: L) := by
  obtain ⟨⟨z, clock, since, last, seen⟩, ⟨⟨h1, h2, h3, h4, h5, h6⟩, _⟩, hs⟩ := some1_open hs
  exact hs.ent (mit_shut z clock since last seen h1 h2 h3 h4 h5 h6)
theorem mitN_shut {r b : Nat} {l left : List (κ × α)} {k : κ} {u : α} {h : ρ.V} (z : List (ZM κ ρ)) (clock since last : Nat) (seen : List Nat) (h1 : z.map (·.1) = l) (h2 : (keysM l).Nodup) (h3 : (z.map fun p : ZM κ ρ => p.2.2).Pairwise (· < ·) ∧ ∀ p ∈ z, p.2.2 < clock)
    (h4 : (leftZ z seen).map (·.1) = left) (h5 : ∀ p ∈ z, p.2.2 < since) (h6 : ∀ p ∈ z, p.2.2 < last) (h7 : clock = last) (h8 : ∃ born : Nat, ((k, u), (h, born)) ∈ z ∧ seen.getLast? = some born) :
    Ent (ob b (.map (z.map (entM kr ρ)).toArray clock) :: ob r (.mapIter (some b) since seen.toArray last) :: memA ρ (z.map fun p => (p.1.2, p.2.1)) :: L) (mitN kr ρ r b l left k u h :: L) :=
  ent_tok (p := fun x => mitP (ρ := ρ) l left x ∧ nowM k u h x) (M := mitM kr r b) (R := L) (L1 := []) ((z, clock, since, last, seen) : MI κ ρ) ⟨⟨h1, h2, h3, h4, h5, h6⟩, h7, h8⟩ takes_self
/-- The next one: whichever. -/
theorem SO.nextMapN {x : Operand} {r b : Nat} {l left : List (κ × α)} (hx : evO T x = some (.pointer (some ⟨r, 0, none⟩))) (htk : Take (mitAt kr ρ r b l left) L L') (hd : dstOk N d = true)
    (over : left = [] → SO P rd N all rest (putD d (.tuple #[.bool false]) T) (mitAt kr ρ r b l [] :: L') ks Q)
    (some_ : ∀ (k : κ) (u : α) (h : ρ.V), (k, u) ∈ left → (k, u) ∈ l → SO P rd N all rest (putD d (.tuple #[.bool true, kr.v k, ρ.val u h]) T) (ρ.atoms u h ++ mitN kr ρ r b l (mdel left k) k u h :: L') ks Q) :
    SO P rd N all (⟨d, .next x false, ty, pos, aft, none⟩ :: rest) T L ks Q := by
  refine SO.run (R := fun v L2 => (left = [] ∧ v = .tuple #[.bool false] ∧ L2 = mitAt kr ρ r b l [] :: L') ∨ ∃ k u h, (k, u) ∈ left ∧ (k, u) ∈ l ∧ v = .tuple #[.bool true, kr.v k, ρ.val u h] ∧ L2 = ρ.atoms u h ++ mitN kr ρ r b l (mdel left k) k u h :: L') rfl rfl hd ?_
    (by rintro _ _ (⟨h, rfl, rfl⟩ | ⟨k, u, h, h1, h2, rfl, rfl⟩) <;> first | exact over h | exact some_ k u h h1 h2)
  intro q hq F w hst
  have h1 : St w (mitAt kr ρ r b l left :: F :: L') := hst.ent ((Ent.cons htk.ent).trans Ent.swap)
  obtain ⟨⟨z, clock, since, last, seen⟩, ⟨hl, hn, ⟨hb1, hb2⟩, hlf, h5, h6⟩, hs⟩ := some1_open h1
  dsimp only at hl hb1 hb2 hlf h5 h6 hs
  have hs2 : St w (ob b (.map (z.map (entM kr ρ)).toArray clock) :: ob r (.mapIter (some b) since seen.toArray last) :: memA ρ (z.map fun p => (p.1.2, p.2.1)) :: F :: L') := hs
  obtain ⟨hob, _⟩ := hs2.obj
  obtain ⟨hor, _⟩ := (hs2.ent Ent.swap).obj
  have htest : (!seen.toArray.isEmpty && !(z.map (entM kr ρ)).toArray.isEmpty && (z.map (entM kr ρ)).toArray.all (fun x => decide (x.born ≥ last))) = false := by
    cases z with
    | nil => simp
    | cons p z =>
      have := h6 p (by simp)
      have h7 : decide (p.2.2 ≥ last) = false := decide_eq_false (by omega)
      simp [entM, h7]
  have hfil : (z.map (entM kr ρ)).toArray.filter (fun e => !seen.toArray.contains e.born) = ((leftZ z seen).map (entM kr ρ)).toArray := by
    unfold leftZ
    rw [List.filter_toArray]
    congr 1
    rw [List.filter_map]
    congr 1
    refine List.filter_congr fun p _ => ?_
    show (!seen.toArray.contains p.2.2) = !seen.elem p.2.2
    simp
  have hmem : ∀ x ∈ ((leftZ z seen).map (entM kr ρ)).toArray, x.born < since := fun x hx => by
    simp only [List.mem_toArray, List.mem_map] at hx
    obtain ⟨p, hp, rfl⟩ := hx
    exact h5 p (List.mem_filter.1 hp).1
  have e1 : ((leftZ z seen).map (entM kr ρ)).toArray.filter (fun x => decide (x.born < since)) = ((leftZ z seen).map (entM kr ρ)).toArray := Array.filter_eq_self.2 (fun x hx => by simpa using hmem x hx)
  have e2 : ((leftZ z seen).map (entM kr ρ)).toArray.filter (fun x => decide (x.born ≥ since)) = #[] := by
    rw [Array.filter_eq_empty_iff]
    intro x hx
    have := hmem x hx
    simp; omega
  have hrun : (execOp q ⟨d, .next x false, ty, pos, aft, none⟩).run P w = ((do
      match ((if ((leftZ z seen).map (entM kr ρ)).toArray.isEmpty then #[none] else #[]) ++ ((leftZ z seen).map (entM kr ρ)).toArray.map some)[← choose (.mapNext ((if ((leftZ z seen).map (entM kr ρ)).toArray.isEmpty then #[none] else #[]) ++ ((leftZ z seen).map (entM kr ρ)).toArray.map some).size)]? with
      | some (some e) => do
        setObj r (.mapIter (some b) since (seen.toArray.push e.born) clock)
        Pure.pure (.value (.tuple #[.bool true, e.key, e.val]))
      | some none => Pure.pure (.value (.tuple #[.bool false]))
      | none => stuck "Next: no such candidate" : Sem Next)).run P w := by
    simp only [execOp, hq _ _ hx, Instr.next, Sem.run_bind, run_getMap hor trivial, run_getMap hob trivial, Result.andThen_ok, htest, Bool.false_eq_true, if_false, hfil, e1, e2, Array.append_empty]
    generalize (choose _).run P w = res
    cases res with
    | ok n w1 =>
      simp only [Result.andThen_ok]
      split
      · rename_i e he
        simp only [he, Sem.run_bind]
        generalize (setObj r _).run P w1 = res2
        cases res2 <;> simp [Result.andThen]
      · rename_i he
        simp only [he]
        simp
      · rename_i he
        simp only [he]
        simp [stuck, Sem.run, Result.andThen]
    | halt e w1 => simp [Result.andThen]
  rw [hrun]
  cases hz0 : leftZ z seen with
  | nil =>
    have hle : left = [] := by rw [← hlf, hz0]; rfl
    refine ⟨_, w, _, .inl ?_, .inl ⟨hle, rfl, rfl⟩, ?_⟩
    · simp [choose, Sem.run, Question.forced]
    · exact (hs2.ent (mit_shut z clock since last seen hl hn ⟨hb1, hb2⟩ (by rw [hz0]; rfl) h5 h6)).ent Ent.swap
  | cons p0 y0 =>
    rw [← hz0]
    have hpos : 0 < (leftZ z seen).length := by rw [hz0]; simp
    have hne : ((leftZ z seen).map (entM kr ρ)).toArray.isEmpty = false := by rw [hz0]; rfl
    simp only [hne, Bool.false_eq_true, if_false, Array.empty_append, Array.size_map, List.size_toArray, List.length_map]
    have hch : ∃ (j : Nat) (w1 : World), j < (leftZ z seen).length ∧ (choose (Question.mapNext (leftZ z seen).length)).run P w = .ok j w1 ∧ (w1 = w ∨ w1 = { w with drawn := w.drawn + 1 }) := by
      by_cases hf : (leftZ z seen).length ≤ 1
      · exact ⟨0, w, hpos, by simp [choose, Sem.run, Question.forced, hf], .inl rfl⟩
      · exact ⟨_, _, Nat.mod_lt _ hpos, by
          simp only [choose, Sem.run, Question.forced, decide_eq_true_eq, hf, if_false, Question.cut]
          rfl, .inr rfl⟩
    obtain ⟨j, w1, hj, hcr, hw1⟩ := hch
    obtain ⟨p, hp⟩ : ∃ p, (leftZ z seen)[j]? = some p := ⟨_, List.getElem?_eq_getElem hj⟩
    have hpz : p ∈ z := (List.mem_filter.1 (List.mem_of_getElem? hp)).1
    have hs3 : St w1 (ob r (.mapIter (some b) since seen.toArray last) :: ob b (.map (z.map (entM kr ρ)).toArray clock) :: memA ρ (z.map fun p => (p.1.2, p.2.1)) :: F :: L') := by
      rcases hw1 with rfl | rfl
      · exact hs2.ent Ent.swap
      · exact (hs2.ent Ent.swap).drew _
    obtain ⟨hor1, _⟩ := hs3.obj
    have hs4 := hs3.setObj (z := .mapIter (some b) since (seen ++ [p.2.2]).toArray clock) trivial
    have hkl : (p.1.1, p.1.2) ∈ l := by rw [← hl]; exact List.mem_map.2 ⟨p, hpz, rfl⟩
    have hkf : (p.1.1, p.1.2) ∈ left := by rw [← hlf]; exact List.mem_map.2 ⟨p, List.mem_of_getElem? hp, rfl⟩
    refine ⟨.tuple #[.bool true, kr.v p.1.1, ρ.val p.1.2 p.2.1], { w1 with heap := w1.heap.setIfInBounds r (.mapIter (some b) since (seen ++ [p.2.2]).toArray clock) }, _, .inl ?_, .inr ⟨p.1.1, p.1.2, p.2.1, hkf, hkl, rfl, rfl⟩, ?_⟩
    · have hget : (((leftZ z seen).map (entM kr ρ)).toArray.map some)[j]? = some (some (entM kr ρ p)) := by
        simp [hp]
      simp only [Sem.run_bind, hcr, Result.andThen_ok, hget]
      have hpush : seen.toArray.push (entM kr ρ p).born = (seen ++ [p.2.2]).toArray := by simp [entM]
      rw [hpush]
      simp only [Sem.run_bind, run_setObj_some hor1 trivial, Result.andThen_ok, Sem.run_pure]
      rfl
    · obtain ⟨i, hi⟩ := List.getElem?_of_mem hpz
      have hzi : (z.map fun p : ZM κ ρ => (p.1.2, p.2.1))[i]? = some (p.1.2, p.2.1) := by rw [List.getElem?_map, hi]; rfl
      have hleft : (leftZ z (seen ++ [p.2.2])).map (·.1) = mdel left p.1.1 := by
        rw [leftZ_push, ← hlf]
        refine left_del (hb1.sublist ?_) ?_ hp
        · exact (List.filter_sublist).map _
        · unfold keysM at hn ⊢
          rw [← hl] at hn
          exact hn.sublist (((List.filter_sublist).map _).map _)
      have e3 : Ent (ob r (.mapIter (some b) since (seen ++ [p.2.2]).toArray clock) :: ob b (.map (z.map (entM kr ρ)).toArray clock) :: memA ρ (z.map fun p => (p.1.2, p.2.1)) :: F :: L')
          (ob b (.map (z.map (entM kr ρ)).toArray clock) :: ob r (.mapIter (some b) since (seen ++ [p.2.2]).toArray clock) :: memA ρ (z.map fun p => (p.1.2, p.2.1)) :: memA ρ (z.map fun p => (p.1.2, p.2.1)) :: F :: L') :=
        Ent.swap.trans (Ent.cons (Ent.cons (Ent.dup (pers_memA _ _))))
      refine hs4.ent (e3.trans ((mitN_shut z clock since clock (seen ++ [p.2.2]) hl hn ⟨hb1, hb2⟩ hleft h5 hb2 rfl (k := p.1.1) (u := p.1.2) (h := p.2.1) ⟨p.2.2, hpz, by simp⟩).trans ?_))
      refine (Ent.cons (memA_at hzi)).trans ?_
      -- mit :: (atoms ++ (F :: L')) to F :: (atoms ++ (mit :: L'))
      refine ent_of_swap.trans ?_
      refine (Ent.app Ent.swap).trans ?_
      exact ent_swap_back
theorem find_stamp {z : List (ZM κ ρ)} {p : ZM κ ρ} (hb : (z.map fun p : ZM κ ρ => p.2.2).Pairwise (· < ·)) (hp : p ∈ z) : (z.map (entM kr ρ)).toArray.find? (fun e => e.born == p.2.2) = some (entM kr ρ p) := by
  induction z with
  | nil => cases hp
  | cons q z ih =>
    have h1 := List.pairwise_cons.1 hb
    rw [List.find?_toArray, List.map_cons, List.find?_cons]
    rcases List.mem_cons.1 hp with rfl | hp
    · simp [entM]
    · have h2 := h1.1 p.2.2 (List.mem_map.2 ⟨p, hp, rfl⟩)
      have h3 : ((entM kr ρ q).born == p.2.2) = false := by
        have h4 : q.2.2 < p.2.2 := h2
        show (q.2.2 == p.2.2) = false
        simp only [beq_eq_false_iff_ne, ne_eq]; omega
      rw [h3]
      have := ih h1.2 hp
      rw [List.find?_toArray] at this
      exact this
/-- What has come. -/
theorem SO.entry {x : Operand} {r b : Nat} {l left : List (κ × α)} {k : κ} {u : α} {h : ρ.V} (hx : evO T x = some (.pointer (some ⟨r, 0, none⟩))) (htk : Take (mitN kr ρ r b l left k u h) L L') (hd : dstOk N d = true)
    (kk : SO P rd N all rest (putD d (.tuple #[kr.v k, ρ.val u h]) T) (mitN kr ρ r b l left k u h :: L') ks Q) : SO P rd N all (⟨d, .entry x, ty, pos, aft, none⟩ :: rest) T L ks Q := by
  refine SO.run (R := fun v L2 => v = .tuple #[kr.v k, ρ.val u h] ∧ L2 = mitN kr ρ r b l left k u h :: L') rfl rfl hd ?_ (by rintro _ _ ⟨rfl, rfl⟩; exact kk)
  intro q hq F w hst
  have h1 : St w (mitN kr ρ r b l left k u h :: F :: L') := hst.ent ((Ent.cons htk.ent).trans Ent.swap)
  refine ⟨_, w, _, .inl ?_, ⟨rfl, rfl⟩, h1.ent Ent.swap⟩
  obtain ⟨⟨z, clock, since, last, seen⟩, ⟨⟨hl, hn, ⟨hb1, hb2⟩, hlf, h5, h6⟩, h7, born, hm, hg⟩, hs⟩ := some1_open h1
  dsimp only at hl hb1 hb2 hlf h5 h6 h7 hm hg hs
  subst h7
  have hs2 : St w (ob b (.map (z.map (entM kr ρ)).toArray clock) :: ob r (.mapIter (some b) since seen.toArray clock) :: memA ρ (z.map fun p => (p.1.2, p.2.1)) :: F :: L') := hs
  obtain ⟨hob, _⟩ := hs2.obj
  obtain ⟨hor, _⟩ := (hs2.ent Ent.swap).obj
  have hf := find_stamp (kr := kr) hb1 hm
  have hbk : seen.toArray.back? = some born := by rw [List.back?_toArray, hg]
  simp only [execOp, hq _ _ hx, Instr.entry, Sem.run_bind, run_getMap hor trivial, run_getMap hob trivial, Result.andThen_ok, hbk, bne_self_eq_false, Bool.false_eq_true, if_false, hf]
  rfl
theorem SK.itAt {c : Code} {r b : Nat} {l left : List (κ × α)} {k : κ} {u : α} {h : ρ.V} (htk : Take (mitN kr ρ r b l left k u h) L L') (hk : SK P rd N (.code c :: ks) T (mitAt kr ρ r b l left :: L') Q) : SK P rd N (.code c :: ks) T L Q :=
  SK.shift (fun F w hst => (mitN_at ((hst.ent (Ent.cons htk.ent)).ent Ent.swap)).ent Ent.swap) hk
theorem SO.itAt {ops : List Oper} {r b : Nat} {l left : List (κ × α)} {k : κ} {u : α} {h : ρ.V} (htk : Take (mitN kr ρ r b l left k u h) L L') (hk : SO P rd N all ops T (mitAt kr ρ r b l left :: L') ks Q) : SO P rd N all ops T L ks Q :=
  SO.shift (fun F w hst => (mitN_at ((hst.ent (Ent.cons htk.ent)).ent Ent.swap)).ent Ent.swap) hk
theorem SK.itMap {c : Code} {r b : Nat} {l left : List (κ × α)} (htk : Take (mitAt kr ρ r b l left) L L') (hk : SK P rd N (.code c :: ks) T (mpAt kr ρ b l :: L') Q) : SK P rd N (.code c :: ks) T L Q :=
  SK.shift (fun F w hst => (mit_mp ((hst.ent (Ent.cons htk.ent)).ent Ent.swap)).ent Ent.swap) hk
theorem SO.itMap {ops : List Oper} {r b : Nat} {l left : List (κ × α)} (htk : Take (mitAt kr ρ r b l left) L L') (hk : SO P rd N all ops T (mpAt kr ρ b l :: L') ks Q) : SO P rd N all ops T L ks Q :=
  SO.shift (fun F w hst => (mit_mp ((hst.ent (Ent.cons htk.ent)).ent Ent.swap)).ent Ent.swap) hk
end
end Go.Sl

/-! Entries taken out of a map while one goes over it. -/
set_option linter.unusedVariables false
set_option linter.unusedSimpArgs false
namespace Go.Sl
section
variable {α : Type}
theorem mdel_filter : ∀ {l : List (Int × α)} {k : Int}, (keysM l).Nodup → mdel l k = l.filter fun p => !decide (p.1 = k)
  | [], _, _ => rfl
  | (k', v) :: l, k, h => by
    unfold keysM at h
    rw [List.map_cons, List.nodup_cons] at h
    simp only [mdel]
    by_cases hk : k' = k
    · subst hk
      rw [if_pos rfl, List.filter_cons, if_neg (by simp)]
      refine (List.filter_eq_self.2 fun p hp => ?_).symm
      have : p.1 ≠ k' := fun he => h.1 (List.mem_map.2 ⟨p, hp, he⟩)
      simp [this]
    · rw [if_neg hk, List.filter_cons, if_pos (by simp [hk]), mdel_filter h.2]
theorem mdel_keys {l : List (Int × α)} {k j : Int} (h : (keysM l).Nodup) : j ∈ keysM (mdel l k) ↔ j ∈ keysM l ∧ j ≠ k := by
  rw [mdel_filter h]
  unfold keysM
  simp only [List.mem_map, List.mem_filter]
  constructor
  · rintro ⟨p, ⟨h1, h2⟩, rfl⟩
    exact ⟨⟨p, h1, rfl⟩, by simpa using h2⟩
  · rintro ⟨⟨p, h1, rfl⟩, h2⟩
    exact ⟨p, ⟨h1, by simpa using h2⟩, rfl⟩
theorem mdel_lt {l : List (Int × α)} {k : Int} (h : k ∈ keysM l) : (mdel l k).length < l.length := by
  induction l with
  | nil => cases h
  | cons p l ih =>
    obtain ⟨k', v⟩ := p
    simp only [mdel]
    split
    · simp
    · rename_i hk
      have : k ∈ keysM l := by
        unfold keysM at h ⊢
        rw [List.map_cons] at h
        rcases List.mem_cons.1 h with h | h
        · exact absurd h.symm hk
        · exact h
      have := ih this
      simp; omega
theorem keys_del_perm : ∀ {l : List (Int × α)} {k : Int}, k ∈ keysM l → (k :: keysM (mdel l k)).Perm (keysM l)
  | [], _, h => by cases h
  | (k', v) :: l, k, h => by
    simp only [mdel]
    by_cases hk : k' = k
    · subst hk; rw [if_pos rfl]; exact List.Perm.refl _
    · rw [if_neg hk]
      have : k ∈ keysM l := by
        unfold keysM at h ⊢
        rw [List.map_cons] at h
        rcases List.mem_cons.1 h with h | h
        · exact absurd h.symm hk
        · exact h
      have ih := keys_del_perm this
      exact (List.Perm.swap k' k _).trans (ih.cons k')
structure DelI (g : Int → Bool) (l0 l left : List (Int × α)) : Prop where
  nd : (keysM l0).Nodup
  ndl : (keysM left).Nodup
  eq : l = l0.filter fun p => decide (p.1 ∈ keysM left) || !g p.1
theorem delI_zero {g : Int → Bool} {l0 : List (Int × α)} (h : (keysM l0).Nodup) : DelI g l0 l0 l0 := by
  refine ⟨h, h, (List.filter_eq_self.2 fun p hp => ?_).symm⟩
  have : p.1 ∈ keysM l0 := List.mem_map.2 ⟨p, hp, rfl⟩
  simp [this]
theorem DelI.ndn {g : Int → Bool} {l0 l left : List (Int × α)} (h : DelI g l0 l left) : (keysM l).Nodup := by
  rw [h.eq]
  exact h.nd.sublist ((List.filter_sublist).map _)
theorem delI_yes {g : Int → Bool} {l0 l left : List (Int × α)} {k : Int} (h : DelI g l0 l left) (hg : g k = true) : DelI g l0 (mdel l k) (mdel left k) := by
  refine ⟨h.nd, nodup_mdel h.ndl _, ?_⟩
  rw [mdel_filter h.ndn, h.eq, List.filter_filter]
  refine List.filter_congr fun p _ => ?_
  by_cases hk : p.1 = k
  · have h1 : ¬ p.1 ∈ keysM (mdel left k) := fun hm => ((mdel_keys h.ndl).1 hm).2 hk
    rw [decide_eq_false h1, decide_eq_true hk, hk, hg]; rfl
  · have h1 : (p.1 ∈ keysM (mdel left k)) ↔ (p.1 ∈ keysM left) := ⟨fun hm => ((mdel_keys h.ndl).1 hm).1, fun hm => (mdel_keys h.ndl).2 ⟨hm, hk⟩⟩
    rw [decide_eq_false hk]
    simp [h1]
theorem delI_no {g : Int → Bool} {l0 l left : List (Int × α)} {k : Int} (h : DelI g l0 l left) (hg : g k = false) : DelI g l0 l (mdel left k) := by
  refine ⟨h.nd, nodup_mdel h.ndl _, ?_⟩
  conv => lhs; rw [h.eq]
  refine List.filter_congr fun p _ => ?_
  by_cases hk : p.1 = k
  · rw [hk, hg]; simp
  · have h1 : (p.1 ∈ keysM (mdel left k)) ↔ (p.1 ∈ keysM left) := ⟨fun hm => ((mdel_keys h.ndl).1 hm).1, fun hm => (mdel_keys h.ndl).2 ⟨hm, hk⟩⟩
    simp [h1]
theorem delI_end {g : Int → Bool} {l0 l : List (Int × α)} (h : DelI g l0 l []) : l = l0.filter fun p => !g p.1 := by
  rw [h.eq]
  refine List.filter_congr fun p _ => ?_
  simp [keysM]
end
theorem nextM_max : ∀ (l : List (Int × Slt)) (a b : Int), nextM l (max a b) = max b (nextM l a)
  | [], a, b => by simp only [nextM, List.foldl_nil]; omega
  | p :: l, a, b => by
    simp only [nextM, List.foldl_cons]
    have := nextM_max l (max a (p.1 + 1)) b
    unfold nextM at this
    rw [← this]
    congr 1; omega
theorem nextM_del : ∀ {l : List (Int × Slt)} {k a : Int}, k ∈ keysM l → nextM (mdel l k) (max a (k + 1)) = nextM l a
  | [], _, _, h => by cases h
  | (k', v) :: l, k, a, h => by
    simp only [mdel]
    by_cases hk : k' = k
    · subst hk; rw [if_pos rfl]; rfl
    · rw [if_neg hk]
      have : k ∈ keysM l := by
        unfold keysM at h ⊢
        rw [List.map_cons] at h
        rcases List.mem_cons.1 h with h | h
        · exact absurd h.symm hk
        · exact h
      have ih := nextM_del (a := max a (k' + 1)) this
      show nextM (mdel l k) (max (max a (k + 1)) (k' + 1)) = nextM l (max a (k' + 1))
      rw [← ih]
      congr 1; omega
section
variable {κ α : Type} [DecidableEq κ] {kr : KR κ} {ρ : Rep α}
theorem mp_nodup {b : Nat} {l : List (κ × α)} {L L' : List HP} (h : Take (mpAt kr ρ b l) L L') (r : Ro) (o : Own) (hs : seps L r o) : (keysM l).Nodup := by
  obtain ⟨x, y, d, le, ⟨z, clock, h1, h2, _⟩, hL⟩ := h.ent r o hs
  exact h2
end
end Go.Sl

/-! A line taken, apart; the states between. -/
set_option linter.unusedVariables false
set_option linter.unusedSimpArgs false
namespace Go.Sl
theorem lineT_parts {l : Tx} {ln : Ln} (h : lineT l = some ln) : (∃ l1 w t n r, cut1 32 l = some ([112], l1) ∧ cut1 32 l1 = some (w, t) ∧ numT 2147483647 w = some n ∧ recT t = some r ∧ ln = .put n r) ∨
    (∃ k w n, cut1 32 l = some ([k], w) ∧ hasC 32 w = false ∧ numT 2147483647 w = some n ∧ ((k = 115 ∧ ln = .seal n) ∨ (k = 99 ∧ ln = .cut n) ∨ (k = 116 ∧ ln = .trim n))) := by
  unfold lineT at h
  simp only [Option.bind_eq_bind, Option.bind_eq_some_iff] at h
  obtain ⟨⟨k, l1⟩, h1, h⟩ := h
  by_cases hk : k = [112]
  · subst hk
    left
    rw [if_pos rfl] at h
    simp only [Option.bind_eq_some_iff] at h
    obtain ⟨⟨w, t⟩, h2, n, h3, r, h4, h5⟩ := h
    exact ⟨l1, w, t, n, r, h1, h2, h3, h4, (Option.some.inj h5).symm⟩
  · right
    simp only [hk, if_false] at h
    by_cases hc : hasC 32 l1 = true
    · simp only [hc, if_true] at h; cases h
    · have hc0 : hasC 32 l1 = false := by simpa using hc
      simp only [hc0, Bool.false_eq_true, if_false, Option.bind_eq_some_iff] at h
      obtain ⟨n, h2, h3⟩ := h
      by_cases k1 : k = [115]
      · subst k1; rw [if_pos rfl] at h3
        exact ⟨115, l1, n, h1, hc0, h2, .inl ⟨rfl, (Option.some.inj h3).symm⟩⟩
      · rw [if_neg k1] at h3
        by_cases k2 : k = [99]
        · subst k2; rw [if_pos rfl] at h3
          exact ⟨99, l1, n, h1, hc0, h2, .inr (.inl ⟨rfl, (Option.some.inj h3).symm⟩)⟩
        · rw [if_neg k2] at h3
          by_cases k3 : k = [116]
          · subst k3; rw [if_pos rfl] at h3
            exact ⟨116, l1, n, h1, hc0, h2, .inr (.inr ⟨rfl, (Option.some.inj h3).symm⟩)⟩
          · rw [if_neg k3] at h3; cases h3
theorem none_of_any {l : List (Int × Slt)} {n : Int} (h : (l.any fun p => decide (p.1 = n)) = false) : mget l n = none := by
  refine mget_none fun p hp he => ?_
  have := List.any_eq_false.1 h p hp
  exact this (decide_eq_true he)
theorem take_put_parts {s s' : Sg} {i n : Nat} {l : Tx} {r : Rc} (hl : lineT l = some (.put n r)) (h : s.take i l = some s') : mget s.m (n : Int) = none ∧ ¬ (n : Int) < (s.trim : Int) ∧ s' = { s with m := mput s.m (n : Int) (r, i) } := by
  unfold Sg.take at h
  rw [hl] at h
  simp only at h
  split at h
  · cases h
  · rename_i hc
    simp only [Bool.or_eq_true, decide_eq_true_eq, not_or, Bool.not_eq_true] at hc
    have hn := none_of_any hc.1
    refine ⟨hn, by omega, ?_⟩
    rw [mput_end hn]
    exact (Option.some.inj h).symm
theorem take_seal_parts {s s' : Sg} {i n : Nat} {l : Tx} (hl : lineT l = some (.seal n)) (h : s.take i l = some s') : ¬ (n : Int) ≤ (s.sealed : Int) ∧ s' = { s with sealed := n } := by
  unfold Sg.take at h
  rw [hl] at h
  simp only at h
  split at h
  · cases h
  · exact ⟨by omega, (Option.some.inj h).symm⟩
theorem take_cut_parts {s s' : Sg} {i n : Nat} {l : Tx} (hl : lineT l = some (.cut n)) (h : s.take i l = some s') : s' = s.above n := by
  unfold Sg.take at h
  rw [hl] at h
  exact (Option.some.inj h).symm
theorem take_trim_parts {s s' : Sg} {i n : Nat} {l : Tx} (hl : lineT l = some (.trim n)) (h : s.take i l = some s') : ¬ (n : Int) ≤ (s.trim : Int) ∧ s' = s.below n := by
  unfold Sg.take at h
  rw [hl] at h
  simp only at h
  split at h
  · cases h
  · exact ⟨by omega, (Option.some.inj h).symm⟩
theorem take_line {s s' : Sg} {i : Nat} {l : Tx} (h : s.take i l = some s') : ∃ ln, lineT l = some ln := by
  unfold Sg.take at h
  cases hl : lineT l with
  | none => rw [hl] at h; cases h
  | some ln => exact ⟨ln, rfl⟩
/-- What is there behind so many lines. -/
def stAt (d : Dk) (i : Nat) : Sg := ((⟨[], 0, 0⟩ : Sg).plays 0 (txs (d.lines.take i))).getD ⟨[], 0, 0⟩
theorem stAt_zero (d : Dk) : stAt d 0 = ⟨[], 0, 0⟩ := rfl
theorem stAt_end {s : Sg} {d : Dk} (h : Ply s d) : stAt d d.lines.length = s := by
  unfold stAt
  rw [List.take_length, h.pl]; rfl
theorem stAt_step {s : Sg} {d : Dk} (h : Ply s d) {i : Nat} {t : ByteArray} (ht : d.lines[i]? = some t) : (stAt d i).take i t.data.toList = some (stAt d (i + 1)) := by
  have hi := (List.getElem?_eq_some_iff.1 ht).1
  have e : txs (d.lines.take (i + 1)) = txs (d.lines.take i) ++ [t.data.toList] := by
    rw [List.take_add_one, ht, txs_app]; rfl
  have hsplit : txs d.lines = txs (d.lines.take (i + 1)) ++ txs (d.lines.drop (i + 1)) := by rw [← txs_app, List.take_append_drop]
  obtain ⟨y, hy⟩ := plays_front (l := txs (d.lines.take (i + 1))) (m := txs (d.lines.drop (i + 1))) (by rw [← hsplit]; exact h.pl)
  have hy2 := hy
  rw [e, plays_app] at hy
  cases hp : (⟨[], 0, 0⟩ : Sg).plays 0 (txs (d.lines.take i)) with
  | none => rw [hp] at hy; cases hy
  | some x =>
    rw [hp] at hy
    simp only [Option.bind_some, Sg.plays, txs_len, List.length_take, Nat.zero_add] at hy
    rw [Nat.min_eq_left (by omega)] at hy
    cases hx : x.take i t.data.toList with
    | none => rw [hx] at hy; cases hy
    | some z =>
      rw [hx] at hy
      have : z = y := Option.some.inj hy
      subst this
      unfold stAt
      rw [hp, hy2]
      exact hx
end Go.Sl

/-! The known example of segments, plainly. -/
set_option linter.unusedVariables false
set_option linter.unusedSimpArgs false
namespace Go.Sl
def kL1 : ByteArray := txB (lineP 5 (rz 0 1))
def kL2 : ByteArray := txB (lineP 7 (rz 0 2))
def kL3 : ByteArray := txB (lineN 115 1)
def kL4 : ByteArray := txB (lineN 116 6)
theorem kL1_le : (lineP 5 (rz 0 1)).length ≤ 32 := lineP_len (by omega) (by omega)
theorem kL2_le : (lineP 7 (rz 0 2)).length ≤ 32 := lineP_len (by omega) (by omega)
theorem kL3_le : (lineN 115 1).length ≤ 8 := lineN_len (by omega)
theorem kL4_le : (lineN 116 6).length ≤ 8 := lineN_len (by omega)
theorem kL2_ge : 3 ≤ kL2.size := by
  unfold kL2
  rw [size_txB]
  unfold lineP recX
  simp only [List.length_append, List.length_cons, List.length_nil]
  omega
def ks1 : Sg := ⟨[(5, (rz 0 1, 0))], 0, 0⟩
def ks2 : Sg := ⟨[(5, (rz 0 1, 0)), (7, (rz 0 2, 1))], 0, 0⟩
def ks4 : Sg := ⟨[(5, (rz 0 1, 0))], 1, 0⟩
def ks5 : Sg := ⟨[], 1, 6⟩
def kd0 : Dk := ⟨1000, [], 0⟩
def kd1 : Dk := ⟨1000, [kL1], 0⟩
def kd1s : Dk := ⟨1000, [kL1], 1⟩
def kd2 : Dk := ⟨1000, [kL1, kL2], 1⟩
def kd4 : Dk := ⟨1000, [kL1, kL3], 2⟩
def kd5 : Dk := ⟨1000, [kL1, kL3, kL4], 3⟩
theorem ku1 : usedL [kL1] ≤ 33 := by have := kL1_le; simp only [usedL, kL1, size_txB]; omega
theorem ku2 : usedL [kL1, kL2] ≤ 66 := by have := kL1_le; have := kL2_le; simp only [usedL, kL1, kL2, size_txB]; omega
theorem ku4 : usedL [kL1, kL3] ≤ 42 := by have := kL1_le; have := kL3_le; simp only [usedL, kL1, kL3, size_txB]; omega
theorem ku5 : usedL [kL1, kL3, kL4] ≤ 51 := by have := kL1_le; have := kL3_le; have := kL4_le; simp only [usedL, kL1, kL3, kL4, size_txB]; omega
theorem kok0 : kd0.Ok := ⟨by decide, by decide, by decide⟩
theorem kok1 : kd1.Ok := ⟨by decide, by have := ku1; show ((usedL [kL1] : Nat) : Int) ≤ 1000; omega, by decide⟩
theorem kok1s : kd1s.Ok := ⟨by decide, by have := ku1; show ((usedL [kL1] : Nat) : Int) ≤ 1000; omega, by decide⟩
theorem kok2 : kd2.Ok := ⟨by decide, by have := ku2; show ((usedL [kL1, kL2] : Nat) : Int) ≤ 1000; omega, by decide⟩
theorem kok4 : kd4.Ok := ⟨by decide, by have := ku4; show ((usedL [kL1, kL3] : Nat) : Int) ≤ 1000; omega, by decide⟩
theorem kok5 : kd5.Ok := ⟨by decide, by have := ku5; show ((usedL [kL1, kL3, kL4] : Nat) : Int) ≤ 1000; omega, by decide⟩
theorem kr01 : checkR (rz 0 1) 8 = 0 := rz_ok (by omega)
theorem kr02 : checkR (rz 0 2) 8 = 0 := rz_ok (by omega)
theorem kr11 : checkR (rz 1 1) 8 = 0 := rz_ok (by omega)
theorem k_put1 : (⟨[], 0, 0⟩ : Sg).put kd0 1 5 (rz 0 1) = (0, ks1, kd1) :=
  put_eq (s := ⟨[], 0, 0⟩) (d := kd0) (by decide) (by decide) (by decide) rfl kr01 (lineP_nl _ _ _) (by
    have := kL1_le
    show ((0 : Nat) : Int) + ((lineP 5 (rz 0 1)).length : Int) + 1 ≤ 1000
    omega)
theorem k_sync : kd1.sync = kd1s := rfl
theorem k_put2 : ks1.put kd1s 1 7 (rz 0 2) = (0, ks2, kd2) :=
  put_eq (s := ks1) (d := kd1s) (by decide) (by decide) (by decide) rfl kr02 (lineP_nl _ _ _) (by
    have := ku1
    have := kL2_le
    show ((usedL [kL1] : Nat) : Int) + ((lineP 7 (rz 0 2)).length : Int) + 1 ≤ 1000
    omega)
theorem k_put3 : ks2.put kd2 1 5 (rz 1 1) = (5, ks2, kd2) := rfl
theorem k_get5 : ks2.get 5 = (rz 0 1, 0) := rfl
theorem k_get6 : ks2.get 6 = (rc0, 9) := rfl
theorem k_l5 : ks2.lastsAt kd2 5 = true := rfl
theorem k_l7 : ks2.lastsAt kd2 7 = false := rfl
theorem k_l6 : ks2.lastsAt kd2 6 = false := rfl
theorem k_crash : kd2.crash 3 = kd1s := by
  have hk : keptD kd2 3 = 1 := by
    show 1 + fitN (max 3 0) [kL2] = 1
    have := kL2_ge
    simp only [fitN]
    rw [if_pos (by omega)]
  unfold Dk.crash
  rw [hk]; rfl
theorem k_ply : Ply ks1 kd1s := by
  have h0 : Ply ⟨[], 0, 0⟩ kd0 := ⟨kok0, rfl⟩
  have htk := take_put (s := ⟨[], 0, 0⟩) (i := 0) (n := 5) (r := rz 0 1) (by decide) (by decide) rfl kr01 (rz_trim _ _)
  exact ply_push (s' := ks1) (n := 1) h0 htk (by decide) (by
    have := kL1_le
    show ((0 : Nat) : Int) + ((lineP 5 (rz 0 1)).length : Int) + 1 ≤ 1000
    omega)
theorem k_get7 : ks1.get 7 = (rc0, 9) := rfl
theorem k_seal : ks1.seal kd1s 1 = ((6, 0), ks4, kd4) :=
  seal_eq (s := ks1) (d := kd1s) (by decide) (by decide) (by
    have := ku1
    have := kL3_le
    show ((usedL [kL1] : Nat) : Int) + ((lineN 115 1).length : Int) + 1 ≤ 1000
    omega)
theorem k_put4 : ks4.put kd4 1 9 (rz 0 2) = (7, ks4, kd4) := rfl
theorem k_trim : ks4.trimAt kd4 6 = (ks5, kd5) :=
  trim_eq (s := ks4) (d := kd4) (by decide) (by
    have := ku4
    have := kL4_le
    show ((usedL [kL1, kL3] : Nat) : Int) + ((lineN 116 6).length : Int) + 1 ≤ 1000
    omega)
theorem k_get5b : ks5.get 5 = (rc0, 8) := rfl
theorem k_all : ks5.all = [] := rfl
end Go.Sl

/-! A pointer against itself. -/
set_option linter.unusedVariables false
set_option linter.unusedSectionVars false
set_option linter.unusedSimpArgs false
namespace Go.Sl
section
variable {P : Program} [tb : Tab P] {rd : Option Nat} {N : Nat} {T : TT} {L L' L1 E : List HP} {Q : Post} {ks : List K}
variable {all : Array Oper} {rest : List Oper} {d : Option Tmp} {ty : TypeId} {pos : String} {aft : Array Edge}
theorem rd_eqPtr {x y : Operand} {t cx e sz n1 : Nat} {z : Value} {ke : TK} {a : Addr} (hx : evO T x = some (.pointer (some a))) (hy : evO T y = some (.pointer (some a))) (hu : P.underlying t = some (.pointer e)) (hte : tget tb.tab e = some ⟨ke, sz + 1, n1, z⟩) :
    Reads P T L ⟨d, .binOp .eql t x y cx, ty, pos, aft, none⟩ (fun u L' => u = .bool true ∧ L' = L) := by
  intro q hq rr oo F hs
  refine ⟨_, L, ⟨rfl, rfl⟩, hs, fun w sat => ?_⟩
  have hsz := sizeOf_ok (tab_ok hte) w
  simp only at hsz
  have he : (Op.equal t (.pointer (some a)) (.pointer (some a))).run P w = .ok true w := by
    unfold Op.equal
    rw [show Op.maxDepth = 9999 + 1 from rfl]
    unfold Op.equalIn
    rw [Sem.run_bind, run_und hu, Result.andThen_ok]
    simp only [Sem.run_bind, hsz, Result.andThen_ok]
    simp [sameAddr]
  have hb : (binOp .eql t (.pointer (some a)) (.pointer (some a))).run P w = .ok (.bool true) w := by
    show (do Pure.pure (.bool (← Op.equal t (.pointer (some a)) (.pointer (some a)))) : Sem Value).run P w = _
    rw [Sem.run_bind, he, Result.andThen_ok, Sem.run_pure]
  simp only [execOp, hq _ _ hx, hq _ _ hy, Sem.run_bind]
  have hg : (eqGuard .eql t x y (.pointer (some a)) (.pointer (some a))).run P w = .ok () w := rfl
  rw [hg, Result.andThen_ok, hb, Result.andThen_ok, Sem.run_pure]
theorem SO.eqPtr {x y : Operand} {t cx e sz n1 : Nat} {z : Value} {ke : TK} {a : Addr} (hx : evO T x = some (.pointer (some a))) (hy : evO T y = some (.pointer (some a))) (hu : P.underlying t = some (.pointer e)) (hte : tget tb.tab e = some ⟨ke, sz + 1, n1, z⟩) (hd : dstOk N d = true)
    (kk : SO P rd N all rest (putD d (.bool true) T) L ks Q) : SO P rd N all (⟨d, .binOp .eql t x y cx, ty, pos, aft, none⟩ :: rest) T L ks Q :=
  SO.reads (rd_eqPtr hx hy hu hte) rfl rfl hd (by rintro _ _ ⟨rfl, rfl⟩; exact kk)
end
end Go.Sl

/-! An array of one's own as a slice of it. -/
set_option linter.unusedVariables false
set_option linter.unusedSectionVars false
set_option linter.unusedSimpArgs false
namespace Go.Sl
theorem ent_arr {b : Nat} {k : IntKind} {l : List Int} {L : List HP} (h : l.length ≤ lim) : Ent (pts b 0 (l.map (Value.int k)) :: L) (sqAt true (RK k) (some ⟨b, 0, none⟩) l.length l.length l :: L) := by
  have hf : ∀ l : List Int, flat (RK k) (l.map fun x => (x, ())) = l.map (Value.int k) := by
    intro l
    induction l with
    | nil => rfl
    | cons x l ih => simp only [List.map_cons, flat, ih]; rfl
  have hz : (l.map fun x => (x, ())).map Prod.fst = l := by rw [List.map_map]; exact List.map_id l
  have h1 := sq_shut (ρ := RK k) (w := true) (a := ⟨b, 0, none⟩) (n := l.length) (c := l.length) (l := l) (L := L) (z := l.map fun x => (x, ())) (sp := []) rfl h (Nat.le_refl _) rfl hz (by simp)
  rw [hf l] at h1
  refine Ent.trans (Ent.cons ?_) h1
  rintro r o hL
  exact ⟨fun _ _ => none, o, fun _ _ => .inl rfl, none_add, fun i v e => (by cases e), fun _ _ => none, o, fun _ _ => .inl rfl, none_add, fun i x h e => trivial, hL⟩
section
variable {P : Program} [tb : Tab P] {rd : Option Nat} {N : Nat} {T : TT} {L L' L1 E : List HP} {Q : Post} {ks : List K}
theorem SK.arr {c : Code} {b n : Nat} {k : IntKind} {cs : List Value} (l : List Int) (hh : Take (pts b 0 cs) L L') (e : cs = l.map (Value.int k)) (hn : l.length = n) (h1 : n ≤ lim)
    (h : SK P rd N (.code c :: ks) T (sqAt true (RK k) (some ⟨b, 0, none⟩) n n l :: L') Q) : SK P rd N (.code c :: ks) T L Q := by
  subst e
  subst hn
  exact SK.shift (fun F w hst => hst.ent (Ent.cons (hh.ent.trans (ent_arr h1)))) h
end
end Go.Sl
