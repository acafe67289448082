/- A part of a proof: a walk over the model by a small separation logic. -/
import Derived.Test.YtbaalaaoggplmaaDoorLib1
import Derived.Laws.Externs
import GoSem.Extern.MapsClone
/-! The rules of reading, for regions with a chain. -/
set_option linter.unusedVariables false
set_option linter.unusedSectionVars false
set_option linter.unusedSimpArgs false
namespace Go.Sl
section
variable {P : Program} [tb : Tab P] {rd : Option Nat} {N : Nat} {T : TT} {L L' L1 L2 E : List HP} {Q : Post} {ks : List K}
variable {all : Array Oper} {rest : XO} {o : Oper} {d : Option Tmp} {ty : TypeId} {pos : String} {aft : Array Edge}
variable {α : Type} {ρ : Rep α}
theorem SX.pure {v : Value} (hg : o.guard = none) (h : pureOp tb.tab T o.op = some v) (hd : dstOk N o.dst = true)
    (k : SX P rd N all rest (putD o.dst v T) L E ks Q) : SX P rd N all (.item 0 o rest) T L E ks Q := SX.reads (reads_pure h) hg hd (by rintro _ _ ⟨rfl, rfl⟩; exact k)
theorem SX.load {x : Operand} {t b off o' : Nat} {vs : List Value} {ti : TI} (hx : evO T x = some (.pointer (some ⟨b, off, none⟩))) (htk : Take (pts b o' vs) L L')
    (ht : tget tb.tab t = some ti) (ho : Nat.ble o' off = true) (hp : packOk ti (cut vs (off - o') ti.size)) (hd : dstOk N d = true)
    (k : SX P rd N all rest (putD d (packV ti (cut vs (off - o') ti.size)) T) L E ks Q) : SX P rd N all (.item 0 ⟨d, .load t x, ty, pos, aft, none⟩ rest) T L E ks Q :=
  SX.reads (rd_load hx htk ht ho hp) rfl hd (by rintro _ _ ⟨rfl, rfl⟩; exact k)
theorem SX.loadR {x : Operand} {t b off o' : Nat} {vs : List Value} {ti : TI} (hx : evO T x = some (.pointer (some ⟨b, off, none⟩))) (htk : Take (rod b o' vs) L L')
    (ht : tget tb.tab t = some ti) (ho : Nat.ble o' off = true) (hp : packOk ti (cut vs (off - o') ti.size)) (hd : dstOk N d = true)
    (k : SX P rd N all rest (putD d (packV ti (cut vs (off - o') ti.size)) T) L E ks Q) : SX P rd N all (.item 0 ⟨d, .load t x, ty, pos, aft, none⟩ rest) T L E ks Q :=
  SX.reads (rd_loadR hx htk ht ho hp) rfl hd (by rintro _ _ ⟨rfl, rfl⟩; exact k)
theorem SX.field {x : Operand} {t i off : Nat} {cs : List Value} {fs : List (Nat × Nat)} {n1 n2 : Nat} {z : Value} {tf : Nat} {ti : TI} (hx : evO T x = some (.agg cs.toArray))
    (ht : tget tb.tab t = some ⟨.st fs, n1, n2, z⟩) (hf : fs[i]? = some (off, tf)) (hti : tget tb.tab tf = some ti) (hp : packOk ti (cut cs off ti.size)) (hd : dstOk N d = true)
    (k : SX P rd N all rest (putD d (packV ti (cut cs off ti.size)) T) L E ks Q) : SX P rd N all (.item 0 ⟨d, .field t x i, ty, pos, aft, none⟩ rest) T L E ks Q :=
  SX.reads (rd_field hx ht hf hti hp) rfl hd (by rintro _ _ ⟨rfl, rfl⟩; exact k)
theorem SX.build {t : Nat} {ps : List (Nat × Operand)} {fs : List (Nat × Nat)} {n1 n2 : Nat} {z : Value} {r : List Value}
    (ht : tget tb.tab t = some ⟨.st fs, n1, n2, z⟩) (ha : allTab tb.tab fs = true) (hb : buildV tb.tab fs T z.cells.toList ps = some r) (hd : dstOk N d = true)
    (k : SX P rd N all rest (putD d (.agg r.toArray) T) L E ks Q) : SX P rd N all (.item 0 ⟨d, .build t ps.toArray, ty, pos, aft, none⟩ rest) T L E ks Q :=
  SX.reads (rd_build ht ha hb) rfl hd (by rintro _ _ ⟨rfl, rfl⟩; exact k)
theorem SX.index {x y : Operand} {t e : Nat} {sz n1 n2 b1 : Nat} {z z2 : Value} {ke : TK} {A : Option Addr} {n c i : Nat} {k : IntKind} {j : Int} {l : List α} (hx : evO T x = some (.slice A n c)) (hy : evO T y = some (.int k j))
    (hh : Has (slAt ρ A n l) L) (ht : tget tb.tab t = some ⟨.sl e, n1, n2, z⟩) (hte : tget tb.tab e = some ⟨ke, sz, b1, z2⟩) (hj : Int.ofNat i = j) (hd : dstOk N d = true) (hi : i < n)
    (kk : ∀ v, l[i]? = some v → SX P rd N all rest (putD d (.pointer (some (eadr A i sz 0))) T) L E ks Q) : SX P rd N all (.item 0 ⟨d, .indexAddr t x y, ty, pos, aft, none⟩ rest) T L E ks Q :=
  SX.reads (rd_index hx hy hh ht hte hj hi) rfl hd (by rintro _ _ ⟨rfl, rfl, u, hu⟩; exact kk u hu)
theorem SX.indexW {x y : Operand} {t e : Nat} {sz n1 n2 b1 : Nat} {z z2 : Value} {ke : TK} {A : Option Addr} {n c c' i : Nat} {k : IntKind} {j : Int} {l : List α} {w' : Bool} (hx : evO T x = some (.slice A n c)) (hy : evO T y = some (.int k j))
    (hh : Take (sqAt w' ρ A n c' l) L L') (ht : tget tb.tab t = some ⟨.sl e, n1, n2, z⟩) (hte : tget tb.tab e = some ⟨ke, sz, b1, z2⟩) (hj : Int.ofNat i = j) (hd : dstOk N d = true) (hi : i < n)
    (kk : ∀ v, l[i]? = some v → SX P rd N all rest (putD d (.pointer (some (eadr A i sz 0))) T) L E ks Q) : SX P rd N all (.item 0 ⟨d, .indexAddr t x y, ty, pos, aft, none⟩ rest) T L E ks Q :=
  SX.reads (rd_indexW hx hy hh ht hte hj hi) rfl hd (by rintro _ _ ⟨rfl, rfl, u, hu⟩; exact kk u hu)
theorem SX.efield {x : Operand} {t f : Nat} {A : Option Addr} {i sz o off tf n1 n2 s1 s2 : Nat} {z z2 : Value} {k2 : TK} {fs : List (Nat × Nat)} (hx : evO T x = some (.pointer (some (eadr A i sz o))))
    (ht : tget tb.tab t = some ⟨.st fs, n1, n2, z⟩) (hf : fs[f]? = some (off, tf)) (htf : tget tb.tab tf = some ⟨k2, s1 + 1, s2, z2⟩) (hd : dstOk N d = true)
    (kk : SX P rd N all rest (putD d (.pointer (some (eadr A i sz (o + off)))) T) L E ks Q) : SX P rd N all (.item 0 ⟨d, .fieldAddr t x f, ty, pos, aft, none⟩ rest) T L E ks Q :=
  SX.reads (rd_efield hx ht hf htf) rfl hd (by rintro _ _ ⟨rfl, rfl⟩; exact kk)
theorem SX.eload {x : Operand} {t : Nat} {ti : TI} {A : Option Addr} {n i sz o : Nat} {l : List α} {u : α} (hx : evO T x = some (.pointer (some (eadr A i sz o)))) (hh : Has (slAt ρ A n l) L) (hu : l[i]? = some u)
    (ht : tget tb.tab t = some ti) (hsz : Nat.beq ρ.sz sz = true) (hp : ∀ h, packOk ti (cut (ρ.cells u h) o ti.size)) (hd : dstOk N d = true)
    (kk : ∀ h, SX P rd N all rest (putD d (packV ti (cut (ρ.cells u h) o ti.size)) T) (ρ.atoms u h ++ L) (ρ.atoms u h ++ E) ks Q) : SX P rd N all (.item 0 ⟨d, .load t x, ty, pos, aft, none⟩ rest) T L E ks Q :=
  SX.reads (rd_eload hx hh hu ht hsz hp) rfl hd (by rintro _ _ ⟨h, rfl, rfl⟩; exact SX.copy (ρ.pers u h) (kk h))
theorem SX.slice {x : Operand} {lo hi : Option Operand} {A : Option Addr} {n c i j t e sz n1 n2 b1 : Nat} {z z2 : Value} {ke : TK} {l : List α} (hx : evO T x = some (.slice A n c)) {vl vh : Option Value} {k1 k2 : IntKind}
    (hlo : evOo T lo = some vl) (hhi : evOo T hi = some vh)
    (hh : Has (slAt ρ A n l) L) (ht : tget tb.tab t = some ⟨.sl e, n1, n2, z⟩) (hte : tget tb.tab e = some ⟨ke, sz, b1, z2⟩) (hsz : Nat.beq ρ.sz sz = true) (hd : dstOk N d = true) (hl : vl = some (.int k1 i) ∨ (vl = none ∧ i = 0)) (hv : vh = some (.int k2 j) ∨ (vh = none ∧ j = n)) (h1 : i ≤ j) (h2 : j ≤ n) (h3 : n ≤ c)
    (kk : ∀ A' c', j - i ≤ c' → SX P rd N all rest (putD d (.slice A' (j - i) c') T) (slAt ρ A' (j - i) ((l.drop i).take (j - i)) :: L) (slAt ρ A' (j - i) ((l.drop i).take (j - i)) :: E) ks Q) : SX P rd N all (.item 0 ⟨d, .slice t x lo hi none, ty, pos, aft, none⟩ rest) T L E ks Q :=
  SX.reads (rd_slice hx hlo hhi hh ht hte hsz hl hv h1 h2 h3) rfl hd (by rintro _ _ ⟨A', c', hc, rfl, rfl⟩; exact SX.copy (M := [_]) (all_cons (pers_slAt _ _ _ _) all_nil) (kk A' c' hc))
theorem SX.pure2 {v : Value} (hg : o.guard = none) (h : pureOp2 tb.tab T o.op = some v) (hd : dstOk N o.dst = true)
    (k : SX P rd N all rest (putD o.dst v T) L E ks Q) : SX P rd N all (.item 0 o rest) T L E ks Q := SX.reads (reads_pure2 h) hg hd (by rintro _ _ ⟨rfl, rfl⟩; exact k)
theorem SX.eloadW {ty : TypeId} {pos : String} {aft : Array Edge} {d : Option Tmp} {α : Type} {ρ : Rep α} {x : Operand} {t : Nat} {ti : TI} {A : Option Addr} {n i sz : Nat} {l : List α} {u : α} (hx : evO T x = some (.pointer (some (eadr A i sz 0)))) (hh : Has (slAt ρ A n l) L) (hu : l[i]? = some u)
    (ht : tget tb.tab t = some ti) (hsz : Nat.beq ρ.sz sz = true) (hk : ti.k.agg = ρ.agg) (h2 : Nat.beq ti.size ρ.sz = true) (hd : dstOk N d = true)
    (kk : ∀ h, SX P rd N all rest (putD d (ρ.val u h) T) (ρ.atoms u h ++ L) (ρ.atoms u h ++ E) ks Q) : SX P rd N all (.item 0 ⟨d, .load t x, ty, pos, aft, none⟩ rest) T L E ks Q :=
  SX.eload hx hh hu ht hsz (fun h => (whole hk h2).2) hd (fun h => by rw [(whole hk h2).1]; exact kk h)
theorem SX.loadW {ty : TypeId} {pos : String} {aft : Array Edge} {d : Option Tmp} {x : Operand} {t b off : Nat} {v : Value} {ti : TI} (hx : evO T x = some (.pointer (some ⟨b, off, none⟩))) (htk : Take (pts b off v.cells.toList) L L')
    (ht : tget tb.tab t = some ti) (h1 : ti.k.agg = true) (h2 : isAggV v = true) (h3 : Nat.beq v.cells.toList.length ti.size = true) (hd : dstOk N d = true)
    (k : SX P rd N all rest (putD d v T) L E ks Q) : SX P rd N all (.item 0 ⟨d, .load t x, ty, pos, aft, none⟩ rest) T L E ks Q :=
  SX.load hx htk ht (by simp) (wholeV h1 h2 h3 off).2 hd (by rw [(wholeV h1 h2 h3 off).1]; exact k)
end
section
variable {P : Program} [tb : Tab P] {rd : Option Nat} {N : Nat} {T : TT} {L L' L1 E : List HP} {Q : Post} {ks : List K}
variable {all : Array Oper} {rest : XO} {d : Option Tmp} {ty : TypeId} {pos : String} {aft : Array Edge}
variable {κ α : Type} [DecidableEq κ] {kr : KR κ} {ρ : Rep α}
theorem SX.lookup {x y : Operand} {t e kt b n1 n2 : Nat} {z0 : Value} {tik tie : TI} {l : List (κ × α)} {key : κ} {ok : Bool} (hx : evO T x = some (.map (some b))) (htk : Take (mpAt kr ρ b l) L L') (hy : evO T y = some (kr.v key))
    (ht : tget tb.tab t = some ⟨.map kt e, n1, n2, z0⟩) (hkt : tget tb.tab kt = some tik) (hkk : kdOf tik.k = some kr.kd) (hte : tget tb.tab e = some tie) (hd : dstOk N d = true)
    (yes : ∀ u h, mget l key = some u → SX P rd N all rest (putD d (lookV ok (ρ.val u h) true) T) (ρ.atoms u h ++ L) (ρ.atoms u h ++ E) ks Q) (no : mget l key = none → SX P rd N all rest (putD d (lookV ok tie.zero false) T) L E ks Q) :
    SX P rd N all (.item 0 ⟨d, .lookup t x y ok, ty, pos, aft, none⟩ rest) T L E ks Q :=
  SX.reads (rd_lookup hx htk hy ht hkt hkk hte) rfl hd (by rintro _ _ (⟨u, h, hg, rfl, rfl⟩ | ⟨hg, rfl, rfl⟩) <;> first | exact SX.copy (ρ.pers _ _) (yes _ _ (by assumption)) | exact no (by assumption))
theorem SX.lenMap {x : Operand} {t e kt b n1 n2 : Nat} {z0 : Value} {l : List (κ × α)} (hx : evO T x = some (.map (some b))) (htk : Take (mpAt kr ρ b l) L L')
    (ht : tget tb.tab t = some ⟨.map kt e, n1, n2, z0⟩) (hd : dstOk N d = true) (k : SX P rd N all rest (putD d (.int .i64 (l.length : Int)) T) L E ks Q) :
    SX P rd N all (.item 0 ⟨d, .call ⟨.builtin .len, #[x], #[t]⟩, ty, pos, aft, none⟩ rest) T L E ks Q :=
  SX.reads (rd_lenMap hx htk ht) rfl hd (by rintro _ _ ⟨rfl, rfl⟩; exact k)
end
section
variable {P : Program} [tb : Tab P] {rd : Option Nat} {N : Nat} {T : TT} {L E : List HP} {Q : Post} {ks : List K} {all : Array Oper} {rest : XO} {d : Option Tmp} {ty : TypeId} {pos : String} {aft : Array Edge}
theorem SX.div {op : BinOp} {t cx : Nat} {x y : Operand} {k : IntKind} {a b : Int} {v : Value} (hx : evO T x = some (.int k a)) (hy : evO T y = some (.int k b)) (h : divV op k a b = some v) (hd : dstOk N d = true)
    (kk : SX P rd N all rest (putD d v T) L E ks Q) : SX P rd N all (.item 0 ⟨d, .binOp op t x y cx, ty, pos, aft, none⟩ rest) T L E ks Q :=
  SX.reads (reads_div hx hy h) rfl hd (by rintro _ _ ⟨rfl, rfl⟩; exact kk)
end
end Go.Sl

/-! Strings: their bytes one by one, joined, compared, cut. -/
set_option linter.unusedVariables false
set_option linter.unusedSectionVars false
set_option linter.unusedSimpArgs false
namespace Go.Sl
def ltS (a b : ByteArray) : Bool := Op.bytesLess a.data.toList b.data.toList
def cmpS (op : BinOp) (a b : ByteArray) : Option Bool := match op with
  | .lss => some (ltS a b)
  | .leq => some (ltS a b || eqS a b)
  | .gtr => some (!(ltS a b || eqS a b))
  | .geq => some (!ltS a b)
  | _ => none
section
variable {P : Program} [tb : Tab P] {rd : Option Nat} {N : Nat} {T : TT} {L E : List HP} {Q : Post} {ks : List K} {RR : TT → List HP → Prop}
variable {all : Array Oper} {rest : List Oper} {restX : XO} {d : Option Tmp} {ty : TypeId} {pos : String} {aft : Array Edge}
/-- An element that is known. -/
theorem rd_indexH {α : Type} {ρ : Rep α} {x y : Operand} {t e : Nat} {sz n1 n2 b1 : Nat} {z z2 : Value} {ke : TK} {A : Option Addr} {n c i : Nat} {k : IntKind} {j : Int} {l : List α} {u : α} (hx : evO T x = some (.slice A n c)) (hy : evO T y = some (.int k j))
    (hh : Has (slAt ρ A n l) L) (ht : tget tb.tab t = some ⟨.sl e, n1, n2, z⟩) (hte : tget tb.tab e = some ⟨ke, sz, b1, z2⟩) (hj : Int.ofNat i = j) (hu : l[i]? = some u) : Reads P T L ⟨d, .indexAddr t x y, ty, pos, aft, none⟩ (fun v L' => v = .pointer (some (eadr A i sz 0)) ∧ L' = L) := by
  intro q hq rr oo F hs
  have hs1 := (show seps L rr _ from hs.choose_spec.choose_spec.2.2.2)
  obtain ⟨h0, h1, h2⟩ := sl_len hh rr _ hs1
  have hl : i < l.length := (List.getElem?_eq_some_iff.1 hu).1
  obtain ⟨v, L', ⟨h3, h4, _⟩, h5, h6⟩ := rd_index (d := d) (ty := ty) (pos := pos) (aft := aft) hx hy hh ht hte hj (by omega) q hq rr oo F hs
  exact ⟨v, L', ⟨h3, h4⟩, h5, h6⟩
theorem rd_sidx {x y : Operand} {t n1 n2 i : Nat} {z : Value} {s : ByteArray} {k : IntKind} {j : Int} (hx : evO T x = some (.string s)) (hy : evO T y = some (.int k j))
    (ht : tget tb.tab t = some ⟨.str, n1, n2, z⟩) (hj : Int.ofNat i = j) (hi : i < s.size) : Reads P T L ⟨d, .index t x y, ty, pos, aft, none⟩ (fun u L' => L' = L ∧ ∃ v, (bytesI s)[i]? = some v ∧ u = .int .u8 v) := by
  intro q hq rr oo F hs
  have hk := (tab_ok ht).k
  simp only [TK.ok] at hk
  have hj' : j = (i : Int) := hj.symm
  subst hj'
  refine ⟨.int .u8 ((s[i]'hi).toNat : Int), L, ⟨rfl, _, ?_, rfl⟩, hs, fun w _ => ?_⟩
  · unfold bytesI
    rw [List.getElem?_map]
    have : s.data.toList[i]? = some (s[i]'hi) := by
      have h2 : i < s.data.toList.length := by simpa using hi
      rw [List.getElem?_eq_getElem h2]
      rfl
    rw [this]; rfl
  · simp only [execOp, hq _ _ hx, hq _ _ hy, Instr.index, asIntOf, Sem.run_bind, Sem.run_pure, run_und hk, Result.andThen_ok]
    have h1 : (if (0 : Int) ≤ (i : Int) then s[(i : Int).toNat]? else none) = some (s[i]'hi) := by
      rw [if_pos (by omega)]
      simp [hi]
    rw [h1]
    rfl
theorem rd_scat {x y : Operand} {t cx : Nat} {a b : ByteArray} (hx : evO T x = some (.string a)) (hy : evO T y = some (.string b)) (hb : a.size + b.size ≤ 9223372036854775807) :
    Reads P T L ⟨d, .binOp .add t x y cx, ty, pos, aft, none⟩ (fun u L' => u = .string (a ++ b) ∧ L' = L) := by
  intro q hq rr oo F hs
  refine ⟨_, L, ⟨rfl, rfl⟩, hs, fun w _ => ?_⟩
  have h1 : (eqGuard .add t x y (.string a) (.string b)).run P w = .ok () w := by unfold eqGuard; simp
  have h2 : ¬ (((a.size + b.size : Nat) : Int) > IntKind.i64.max) := by
    have : IntKind.i64.max = 9223372036854775807 := by decide
    omega
  simp only [execOp, hq _ _ hx, hq _ _ hy, Sem.run_bind, h1, Result.andThen_ok, binOp, Op.stringOp, if_neg h2]
  rfl
theorem rd_scmp {op : BinOp} {x y : Operand} {t cx : Nat} {a b : ByteArray} {v : Bool} (hx : evO T x = some (.string a)) (hy : evO T y = some (.string b)) (hv : cmpS op a b = some v) :
    Reads P T L ⟨d, .binOp op t x y cx, ty, pos, aft, none⟩ (fun u L' => u = .bool v ∧ L' = L) := by
  intro q hq rr oo F hs
  refine ⟨_, L, ⟨rfl, rfl⟩, hs, fun w _ => ?_⟩
  have h1 : (eqGuard op t x y (.string a) (.string b)).run P w = .ok () w := by unfold eqGuard; split <;> simp
  simp only [execOp, hq _ _ hx, hq _ _ hy, Sem.run_bind, h1, Result.andThen_ok, binOp, Op.stringOp, toList_eq]
  unfold cmpS ltS at hv
  split at hv <;> cases hv <;> (simp only [ByteArray.toList_eq]; rfl)
theorem rd_sslice {x : Operand} {lo hi : Option Operand} {s : ByteArray} {i j t n1 n2 : Nat} {z : Value} (hx : evO T x = some (.string s)) {vl vh : Option Value} {k1 k2 : IntKind}
    (hlo : evOo T lo = some vl) (hhi : evOo T hi = some vh) (ht : tget tb.tab t = some ⟨.str, n1, n2, z⟩) (hl : vl = some (.int k1 i) ∨ (vl = none ∧ i = 0)) (hv : vh = some (.int k2 j) ∨ (vh = none ∧ j = s.size)) (h1 : i ≤ j) (h2 : j ≤ s.size) :
    Reads P T L ⟨d, .slice t x lo hi none, ty, pos, aft, none⟩ (fun u L' => u = .string (s.extract i j) ∧ L' = L) := by
  intro q hq rr oo F hs
  have hk := (tab_ok ht).k
  simp only [TK.ok] at hk
  refine ⟨_, L, ⟨rfl, rfl⟩, hs, fun w _ => ?_⟩
  have hb : ∀ (c : BoundsCode) (k : IntKind) (a m : Nat), a ≤ m → (Instr.sliceBound (.int k (a : Int)) m c).run P w = .ok a w := fun c k a m h => by
    simp only [Instr.sliceBound, asIntOf, Sem.run_bind, Sem.run_pure, Result.andThen_ok]
    rw [if_pos ⟨by omega, by omega⟩]
    simp [Sem.run_pure]
  have hbd : (Instr.sliceBounds false s.size s.size vl vh none).run P w = .ok (i, j, s.size) w := by
    rcases hv with rfl | ⟨rfl, rfl⟩ <;> rcases hl with rfl | ⟨rfl, rfl⟩ <;> simp [Instr.sliceBounds, Sem.run_bind, Sem.run_pure, Result.andThen_ok, hb, h1, h2]
  simp only [execOp, hq _ _ hx, evOo_ok hq hlo, evOo_ok hq hhi, Option.map_none, Sem.run_bind, Instr.sliceAt, Instr.slice, run_und hk, Result.andThen_ok, Option.isSome_none, Bool.false_eq_true, if_false, Sem.run_pure, hbd]
theorem SO.sidx {x y : Operand} {t n1 n2 i : Nat} {z : Value} {s : ByteArray} {k : IntKind} {j : Int} (hx : evO T x = some (.string s)) (hy : evO T y = some (.int k j)) (ht : tget tb.tab t = some ⟨.str, n1, n2, z⟩) (hj : Int.ofNat i = j) (hd : dstOk N d = true) (hi : i < s.size)
    (kk : ∀ v, (bytesI s)[i]? = some v → SO P rd N all rest (putD d (.int .u8 v) T) L ks Q) : SO P rd N all (⟨d, .index t x y, ty, pos, aft, none⟩ :: rest) T L ks Q :=
  SO.reads (rd_sidx hx hy ht hj hi) rfl rfl hd (by rintro _ _ ⟨rfl, v, hv, rfl⟩; exact kk v hv)
theorem SQ.sidx {x y : Operand} {t n1 n2 i : Nat} {z : Value} {s : ByteArray} {k : IntKind} {j : Int} (hx : evO T x = some (.string s)) (hy : evO T y = some (.int k j)) (ht : tget tb.tab t = some ⟨.str, n1, n2, z⟩) (hj : Int.ofNat i = j) (hd : dstOk N d = true) (hi : i < s.size)
    (kk : ∀ v, (bytesI s)[i]? = some v → SQ P N all rest (putD d (.int .u8 v) T) L RR) : SQ P N all (⟨d, .index t x y, ty, pos, aft, none⟩ :: rest) T L RR :=
  SQ.reads (rd_sidx hx hy ht hj hi) rfl hd (by rintro _ _ ⟨rfl, v, hv, rfl⟩; exact kk v hv)
theorem SX.sidx {x y : Operand} {t n1 n2 i : Nat} {z : Value} {s : ByteArray} {k : IntKind} {j : Int} (hx : evO T x = some (.string s)) (hy : evO T y = some (.int k j)) (ht : tget tb.tab t = some ⟨.str, n1, n2, z⟩) (hj : Int.ofNat i = j) (hd : dstOk N d = true) (hi : i < s.size)
    (kk : ∀ v, (bytesI s)[i]? = some v → SX P rd N all restX (putD d (.int .u8 v) T) L E ks Q) : SX P rd N all (.item 0 ⟨d, .index t x y, ty, pos, aft, none⟩ restX) T L E ks Q :=
  SX.reads (rd_sidx hx hy ht hj hi) rfl hd (by rintro _ _ ⟨rfl, v, hv, rfl⟩; exact kk v hv)
theorem SO.scat {x y : Operand} {t cx : Nat} {a b : ByteArray} (hx : evO T x = some (.string a)) (hy : evO T y = some (.string b)) (hd : dstOk N d = true) (hb : a.size + b.size ≤ 9223372036854775807)
    (kk : SO P rd N all rest (putD d (.string (a ++ b)) T) L ks Q) : SO P rd N all (⟨d, .binOp .add t x y cx, ty, pos, aft, none⟩ :: rest) T L ks Q :=
  SO.reads (rd_scat hx hy hb) rfl rfl hd (by rintro _ _ ⟨rfl, rfl⟩; exact kk)
theorem SQ.scat {x y : Operand} {t cx : Nat} {a b : ByteArray} (hx : evO T x = some (.string a)) (hy : evO T y = some (.string b)) (hd : dstOk N d = true) (hb : a.size + b.size ≤ 9223372036854775807)
    (kk : SQ P N all rest (putD d (.string (a ++ b)) T) L RR) : SQ P N all (⟨d, .binOp .add t x y cx, ty, pos, aft, none⟩ :: rest) T L RR :=
  SQ.reads (rd_scat hx hy hb) rfl hd (by rintro _ _ ⟨rfl, rfl⟩; exact kk)
theorem SX.scat {x y : Operand} {t cx : Nat} {a b : ByteArray} (hx : evO T x = some (.string a)) (hy : evO T y = some (.string b)) (hd : dstOk N d = true) (hb : a.size + b.size ≤ 9223372036854775807)
    (kk : SX P rd N all restX (putD d (.string (a ++ b)) T) L E ks Q) : SX P rd N all (.item 0 ⟨d, .binOp .add t x y cx, ty, pos, aft, none⟩ restX) T L E ks Q :=
  SX.reads (rd_scat hx hy hb) rfl hd (by rintro _ _ ⟨rfl, rfl⟩; exact kk)
theorem SO.scmp {op : BinOp} {x y : Operand} {t cx : Nat} {a b : ByteArray} {v : Bool} (hx : evO T x = some (.string a)) (hy : evO T y = some (.string b)) (hv : cmpS op a b = some v) (hd : dstOk N d = true)
    (kk : SO P rd N all rest (putD d (.bool v) T) L ks Q) : SO P rd N all (⟨d, .binOp op t x y cx, ty, pos, aft, none⟩ :: rest) T L ks Q :=
  SO.reads (rd_scmp hx hy hv) rfl rfl hd (by rintro _ _ ⟨rfl, rfl⟩; exact kk)
theorem SQ.scmp {op : BinOp} {x y : Operand} {t cx : Nat} {a b : ByteArray} {v : Bool} (hx : evO T x = some (.string a)) (hy : evO T y = some (.string b)) (hv : cmpS op a b = some v) (hd : dstOk N d = true)
    (kk : SQ P N all rest (putD d (.bool v) T) L RR) : SQ P N all (⟨d, .binOp op t x y cx, ty, pos, aft, none⟩ :: rest) T L RR :=
  SQ.reads (rd_scmp hx hy hv) rfl hd (by rintro _ _ ⟨rfl, rfl⟩; exact kk)
theorem SX.scmp {op : BinOp} {x y : Operand} {t cx : Nat} {a b : ByteArray} {v : Bool} (hx : evO T x = some (.string a)) (hy : evO T y = some (.string b)) (hv : cmpS op a b = some v) (hd : dstOk N d = true)
    (kk : SX P rd N all restX (putD d (.bool v) T) L E ks Q) : SX P rd N all (.item 0 ⟨d, .binOp op t x y cx, ty, pos, aft, none⟩ restX) T L E ks Q :=
  SX.reads (rd_scmp hx hy hv) rfl hd (by rintro _ _ ⟨rfl, rfl⟩; exact kk)
theorem SO.sslice {x : Operand} {lo hi : Option Operand} {s : ByteArray} {i j t n1 n2 : Nat} {z : Value} (hx : evO T x = some (.string s)) {vl vh : Option Value} {k1 k2 : IntKind} (hlo : evOo T lo = some vl) (hhi : evOo T hi = some vh) (ht : tget tb.tab t = some ⟨.str, n1, n2, z⟩) (hd : dstOk N d = true) (hl : vl = some (.int k1 i) ∨ (vl = none ∧ i = 0)) (hv : vh = some (.int k2 j) ∨ (vh = none ∧ j = s.size)) (h1 : i ≤ j) (h2 : j ≤ s.size)
    (kk : SO P rd N all rest (putD d (.string (s.extract i j)) T) L ks Q) : SO P rd N all (⟨d, .slice t x lo hi none, ty, pos, aft, none⟩ :: rest) T L ks Q :=
  SO.reads (rd_sslice hx hlo hhi ht hl hv h1 h2) rfl rfl hd (by rintro _ _ ⟨rfl, rfl⟩; exact kk)
theorem SQ.sslice {x : Operand} {lo hi : Option Operand} {s : ByteArray} {i j t n1 n2 : Nat} {z : Value} (hx : evO T x = some (.string s)) {vl vh : Option Value} {k1 k2 : IntKind} (hlo : evOo T lo = some vl) (hhi : evOo T hi = some vh) (ht : tget tb.tab t = some ⟨.str, n1, n2, z⟩) (hd : dstOk N d = true) (hl : vl = some (.int k1 i) ∨ (vl = none ∧ i = 0)) (hv : vh = some (.int k2 j) ∨ (vh = none ∧ j = s.size)) (h1 : i ≤ j) (h2 : j ≤ s.size)
    (kk : SQ P N all rest (putD d (.string (s.extract i j)) T) L RR) : SQ P N all (⟨d, .slice t x lo hi none, ty, pos, aft, none⟩ :: rest) T L RR :=
  SQ.reads (rd_sslice hx hlo hhi ht hl hv h1 h2) rfl hd (by rintro _ _ ⟨rfl, rfl⟩; exact kk)
theorem SX.sslice {x : Operand} {lo hi : Option Operand} {s : ByteArray} {i j t n1 n2 : Nat} {z : Value} (hx : evO T x = some (.string s)) {vl vh : Option Value} {k1 k2 : IntKind} (hlo : evOo T lo = some vl) (hhi : evOo T hi = some vh) (ht : tget tb.tab t = some ⟨.str, n1, n2, z⟩) (hd : dstOk N d = true) (hl : vl = some (.int k1 i) ∨ (vl = none ∧ i = 0)) (hv : vh = some (.int k2 j) ∨ (vh = none ∧ j = s.size)) (h1 : i ≤ j) (h2 : j ≤ s.size)
    (kk : SX P rd N all restX (putD d (.string (s.extract i j)) T) L E ks Q) : SX P rd N all (.item 0 ⟨d, .slice t x lo hi none, ty, pos, aft, none⟩ restX) T L E ks Q :=
  SX.reads (rd_sslice hx hlo hhi ht hl hv h1 h2) rfl hd (by rintro _ _ ⟨rfl, rfl⟩; exact kk)
theorem SO.indexH {α : Type} {ρ : Rep α} {x y : Operand} {t e : Nat} {sz n1 n2 b1 : Nat} {z z2 : Value} {ke : TK} {A : Option Addr} {n c i : Nat} {k : IntKind} {j : Int} {l : List α} {u : α} (hx : evO T x = some (.slice A n c)) (hy : evO T y = some (.int k j)) (hh : Has (slAt ρ A n l) L) (ht : tget tb.tab t = some ⟨.sl e, n1, n2, z⟩) (hte : tget tb.tab e = some ⟨ke, sz, b1, z2⟩) (hj : Int.ofNat i = j) (hd : dstOk N d = true) (hu : l[i]? = some u)
    (kk : SO P rd N all rest (putD d (.pointer (some (eadr A i sz 0))) T) L ks Q) : SO P rd N all (⟨d, .indexAddr t x y, ty, pos, aft, none⟩ :: rest) T L ks Q :=
  SO.reads (rd_indexH hx hy hh ht hte hj hu) rfl rfl hd (by rintro _ _ ⟨rfl, rfl⟩; exact kk)
theorem SQ.indexH {α : Type} {ρ : Rep α} {x y : Operand} {t e : Nat} {sz n1 n2 b1 : Nat} {z z2 : Value} {ke : TK} {A : Option Addr} {n c i : Nat} {k : IntKind} {j : Int} {l : List α} {u : α} (hx : evO T x = some (.slice A n c)) (hy : evO T y = some (.int k j)) (hh : Has (slAt ρ A n l) L) (ht : tget tb.tab t = some ⟨.sl e, n1, n2, z⟩) (hte : tget tb.tab e = some ⟨ke, sz, b1, z2⟩) (hj : Int.ofNat i = j) (hd : dstOk N d = true) (hu : l[i]? = some u)
    (kk : SQ P N all rest (putD d (.pointer (some (eadr A i sz 0))) T) L RR) : SQ P N all (⟨d, .indexAddr t x y, ty, pos, aft, none⟩ :: rest) T L RR :=
  SQ.reads (rd_indexH hx hy hh ht hte hj hu) rfl hd (by rintro _ _ ⟨rfl, rfl⟩; exact kk)
theorem SX.indexH {α : Type} {ρ : Rep α} {x y : Operand} {t e : Nat} {sz n1 n2 b1 : Nat} {z z2 : Value} {ke : TK} {A : Option Addr} {n c i : Nat} {k : IntKind} {j : Int} {l : List α} {u : α} (hx : evO T x = some (.slice A n c)) (hy : evO T y = some (.int k j)) (hh : Has (slAt ρ A n l) L) (ht : tget tb.tab t = some ⟨.sl e, n1, n2, z⟩) (hte : tget tb.tab e = some ⟨ke, sz, b1, z2⟩) (hj : Int.ofNat i = j) (hd : dstOk N d = true) (hu : l[i]? = some u)
    (kk : SX P rd N all restX (putD d (.pointer (some (eadr A i sz 0))) T) L E ks Q) : SX P rd N all (.item 0 ⟨d, .indexAddr t x y, ty, pos, aft, none⟩ restX) T L E ks Q :=
  SX.reads (rd_indexH hx hy hh ht hte hj hu) rfl hd (by rintro _ _ ⟨rfl, rfl⟩; exact kk)
theorem SO.sidxH {x y : Operand} {t n1 n2 i : Nat} {z : Value} {s : ByteArray} {k : IntKind} {j v : Int} (hx : evO T x = some (.string s)) (hy : evO T y = some (.int k j)) (ht : tget tb.tab t = some ⟨.str, n1, n2, z⟩) (hj : Int.ofNat i = j) (hd : dstOk N d = true) (hu : (bytesI s)[i]? = some v)
    (kk : SO P rd N all rest (putD d (.int .u8 v) T) L ks Q) : SO P rd N all (⟨d, .index t x y, ty, pos, aft, none⟩ :: rest) T L ks Q :=
  SO.reads (rd_sidx hx hy ht hj (by have := (List.getElem?_eq_some_iff.1 hu).1; rwa [bytesI_len] at this)) rfl rfl hd (by rintro _ _ ⟨rfl, v, hv, rfl⟩; rw [hu] at hv; cases hv; exact kk)
theorem SQ.sidxH {x y : Operand} {t n1 n2 i : Nat} {z : Value} {s : ByteArray} {k : IntKind} {j v : Int} (hx : evO T x = some (.string s)) (hy : evO T y = some (.int k j)) (ht : tget tb.tab t = some ⟨.str, n1, n2, z⟩) (hj : Int.ofNat i = j) (hd : dstOk N d = true) (hu : (bytesI s)[i]? = some v)
    (kk : SQ P N all rest (putD d (.int .u8 v) T) L RR) : SQ P N all (⟨d, .index t x y, ty, pos, aft, none⟩ :: rest) T L RR :=
  SQ.reads (rd_sidx hx hy ht hj (by have := (List.getElem?_eq_some_iff.1 hu).1; rwa [bytesI_len] at this)) rfl hd (by rintro _ _ ⟨rfl, v, hv, rfl⟩; rw [hu] at hv; cases hv; exact kk)
theorem SX.sidxH {x y : Operand} {t n1 n2 i : Nat} {z : Value} {s : ByteArray} {k : IntKind} {j v : Int} (hx : evO T x = some (.string s)) (hy : evO T y = some (.int k j)) (ht : tget tb.tab t = some ⟨.str, n1, n2, z⟩) (hj : Int.ofNat i = j) (hd : dstOk N d = true) (hu : (bytesI s)[i]? = some v)
    (kk : SX P rd N all restX (putD d (.int .u8 v) T) L E ks Q) : SX P rd N all (.item 0 ⟨d, .index t x y, ty, pos, aft, none⟩ restX) T L E ks Q :=
  SX.reads (rd_sidx hx hy ht hj (by have := (List.getElem?_eq_some_iff.1 hu).1; rwa [bytesI_len] at this)) rfl hd (by rintro _ _ ⟨rfl, v, hv, rfl⟩; rw [hu] at hv; cases hv; exact kk)
end
end Go.Sl

/-! Maps copied; values in an interface. -/
set_option linter.unusedVariables false
set_option linter.unusedSectionVars false
set_option linter.unusedSimpArgs false
namespace Go.Sl
section
variable {P : Program} [tb : Tab P] {rd : Option Nat} {N : Nat} {T : TT} {L L' : List HP} {Q : Post} {ks : List K}
variable {all : Array Oper} {rest : List Oper} {d : Option Tmp} {ty : TypeId} {pos : String} {aft : Array Edge}
variable {κ α : Type} [DecidableEq κ] {kr : KR κ} {ρ : Rep α}
theorem SO.ifaceMap {x : Operand} {t kt e n1 n2 : Nat} {z0 : Value} {v : Value} (hx : evO T x = some v) (ht : tget tb.tab t = some ⟨.map kt e, n1, n2, z0⟩) (hd : dstOk N d = true)
    (k : SO P rd N all rest (putD d (.iface t v) T) L ks Q) : SO P rd N all (⟨d, .makeInterface t x, ty, pos, aft, none⟩ :: rest) T L ks Q := by
  refine SO.reads (R := fun u L' => u = .iface t v ∧ L' = L) ?_ rfl rfl hd (by rintro _ _ ⟨rfl, rfl⟩; exact k)
  intro q hq r oo F hs
  refine ⟨_, L, ⟨rfl, rfl⟩, hs, fun w _ => ?_⟩
  have hk := (tab_ok ht).k
  simp only [TK.ok] at hk
  simp only [execOp, hq _ _ hx, Instr.makeInterface, Sem.run_bind, run_und hk, Result.andThen_ok]
  rfl
theorem SO.assertMap {x : Operand} {t xt kt e n1 n2 : Nat} {z0 : Value} {v : Value} (hx : evO T x = some (.iface t v)) (ht : tget tb.tab t = some ⟨.map kt e, n1, n2, z0⟩) (hd : dstOk N d = true)
    (k : SO P rd N all rest (putD d v T) L ks Q) : SO P rd N all (⟨d, .typeAssert x xt t false, ty, pos, aft, none⟩ :: rest) T L ks Q := by
  refine SO.reads (R := fun u L' => u = v ∧ L' = L) ?_ rfl rfl hd (by rintro _ _ ⟨rfl, rfl⟩; exact k)
  intro q hq r oo F hs
  refine ⟨_, L, ⟨rfl, rfl⟩, hs, fun w _ => ?_⟩
  have hk := (tab_ok ht).k
  simp only [TK.ok] at hk
  simp only [execOp, hq _ _ hx, Instr.typeAssert, Sem.run_bind, run_und hk, Result.andThen_ok, if_true, Bool.false_eq_true, if_false]
  rfl
theorem SO.cloneMap {x : Operand} {tys : Array TypeId} {f : FuncId} {fn : Func} {t b : Nat} {l : List (κ × α)} (hx : evO T x = some (.iface t (.map (some b)))) (htk : Take (mpAt kr ρ b l) L L') (hf : P.funcs[f]? = some fn) (hname : (fn.name == "runtime.NumGoroutine") = false)
    (hb : fn.body.isNone = true) (hn : Extern.findNext fn = none) (he : Extern.find fn = some Extern.MapsClone.clone) (hd : dstOk N d = true)
    (k : ∀ b', SO P rd N all rest (putD d (.iface t (.map (some b'))) T) (mpAt kr ρ b' l :: mpAt kr ρ b l :: L') ks Q) : SO P rd N all (⟨d, .call ⟨.value (.func f), #[x], tys⟩, ty, pos, aft, none⟩ :: rest) T L ks Q := by
  refine SO.run (R := fun u L2 => ∃ b', u = .iface t (.map (some b')) ∧ L2 = mpAt kr ρ b' l :: mpAt kr ρ b l :: L') rfl rfl hd ?_ (by rintro _ _ ⟨b', rfl, rfl⟩; exact k b')
  intro q hq F w hst
  have h1 : St w (mpAt kr ρ b l :: F :: L') := hst.ent ((Ent.cons htk.ent).trans Ent.swap)
  obtain ⟨z, clock, e1, e2, e3, h2⟩ := map_open h1
  have hobj := h2.obj
  have h3 := h2.allocObj (.map (z.map (entM kr ρ)).toArray clock) trivial
  refine ⟨_, _, _, .inl ?_, ⟨w.heap.size, rfl, rfl⟩, h3.ent ?_⟩
  · have hc : (Extern.MapsClone.clone #[.iface t (.map (some b))]).run P w = .ok (.iface t (.map (some w.heap.size))) { w with heap := w.heap.push (.map (z.map (entM kr ρ)).toArray clock) } := by
      have e : Extern.MapsClone.clone #[.iface t (.map (some b))] = (getObj b >>= fun o => match o with
          | .map entries clock => (newObj (.map entries clock) >>= fun n => Pure.pure (.iface t (.map (some n))))
          | _ => stuck "maps.clone: a map expected") := rfl
      rw [e]
      simp [getObj, newObj, Sem.run, Bind.bind, Sem.bind, hobj.1, Pure.pure]
    have hr := run_callFunc_extern (P := P) hf hname hb hn he #[.iface t (.map (some b))] w
    rw [hc] at hr
    simp only [execOp, resolve, Sem.run_bind, hq (.func f) _ rfl]
    simp [Deferred.ofValue, invoke, hq _ _ hx, Sem.run_pure]
    rw [hr]; rfl
  · have e4 : Ent (ob w.heap.size (.map (z.map (entM kr ρ)).toArray clock) :: ob b (.map (z.map (entM kr ρ)).toArray clock) :: memA ρ (z.map fun p => (p.1.2, p.2.1)) :: F :: L')
        (ob w.heap.size (.map (z.map (entM kr ρ)).toArray clock) :: memA ρ (z.map fun p => (p.1.2, p.2.1)) :: ob b (.map (z.map (entM kr ρ)).toArray clock) :: memA ρ (z.map fun p => (p.1.2, p.2.1)) :: F :: L') :=
      Ent.cons ((Ent.cons (Ent.dup (pers_memA _ _))).trans Ent.swap)
    refine e4.trans ((map_shut z clock e1 e2 e3).trans ?_)
    refine (Ent.cons (map_shut z clock e1 e2 e3)).trans ?_
    exact (Ent.cons Ent.swap).trans Ent.swap
end
end Go.Sl
