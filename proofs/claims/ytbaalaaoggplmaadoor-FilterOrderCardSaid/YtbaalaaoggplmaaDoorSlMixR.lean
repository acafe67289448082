/- A part of a proof: a walk over the model by a small separation logic. -/
import Derived.Test.YtbaalaaoggplmaaDoorSlMix
/-! The rules of reading, for regions with new variables. -/
set_option linter.unusedVariables false
set_option linter.unusedSectionVars false
set_option linter.unusedSimpArgs false
namespace Go.Sl
section
variable {P : Program} [tb : Tab P] {rd : Option Nat} {N : Nat} {T : TT} {L L' L1 L2 : List HP} {Q : Post} {ks : List K}
variable {all : Array Oper} {rest : List Oper} {o : Oper} {d : Option Tmp} {ty : TypeId} {pos : String} {aft : Array Edge}
variable {α : Type} {ρ : Rep α}
theorem SR.pure {v : Value} {RR : TT → List HP → Prop} (hg : o.guard = none) (h : pureOp tb.tab T o.op = some v) (hd : dstOk N o.dst = true)
    (k : SR P N all rest (putD o.dst v T) L RR) : SR P N all (o :: rest) T L RR := SR.reads (reads_pure h) hg hd (by rintro _ _ ⟨rfl, rfl⟩; exact k)
theorem SR.load {RR : TT → List HP → Prop} {x : Operand} {t b off o' : Nat} {vs : List Value} {ti : TI} (hx : evO T x = some (.pointer (some ⟨b, off, none⟩))) (htk : Take (pts b o' vs) L L')
    (ht : tget tb.tab t = some ti) (ho : Nat.ble o' off = true) (hp : packOk ti (cut vs (off - o') ti.size)) (hd : dstOk N d = true)
    (k : SR P N all rest (putD d (packV ti (cut vs (off - o') ti.size)) T) L RR) : SR P N all (⟨d, .load t x, ty, pos, aft, none⟩ :: rest) T L RR :=
  SR.reads (rd_load hx htk ht ho hp) rfl hd (by rintro _ _ ⟨rfl, rfl⟩; exact k)
theorem SR.loadR {RR : TT → List HP → Prop} {x : Operand} {t b off o' : Nat} {vs : List Value} {ti : TI} (hx : evO T x = some (.pointer (some ⟨b, off, none⟩))) (htk : Take (rod b o' vs) L L')
    (ht : tget tb.tab t = some ti) (ho : Nat.ble o' off = true) (hp : packOk ti (cut vs (off - o') ti.size)) (hd : dstOk N d = true)
    (k : SR P N all rest (putD d (packV ti (cut vs (off - o') ti.size)) T) L RR) : SR P N all (⟨d, .load t x, ty, pos, aft, none⟩ :: rest) T L RR :=
  SR.reads (rd_loadR hx htk ht ho hp) rfl hd (by rintro _ _ ⟨rfl, rfl⟩; exact k)
theorem SR.field {RR : TT → List HP → Prop} {x : Operand} {t i off : Nat} {cs : List Value} {fs : List (Nat × Nat)} {n1 n2 : Nat} {z : Value} {tf : Nat} {ti : TI} (hx : evO T x = some (.agg cs.toArray))
    (ht : tget tb.tab t = some ⟨.st fs, n1, n2, z⟩) (hf : fs[i]? = some (off, tf)) (hti : tget tb.tab tf = some ti) (hp : packOk ti (cut cs off ti.size)) (hd : dstOk N d = true)
    (k : SR P N all rest (putD d (packV ti (cut cs off ti.size)) T) L RR) : SR P N all (⟨d, .field t x i, ty, pos, aft, none⟩ :: rest) T L RR :=
  SR.reads (rd_field hx ht hf hti hp) rfl hd (by rintro _ _ ⟨rfl, rfl⟩; exact k)
theorem SR.build {RR : TT → List HP → Prop} {t : Nat} {ps : List (Nat × Operand)} {fs : List (Nat × Nat)} {n1 n2 : Nat} {z : Value} {r : List Value}
    (ht : tget tb.tab t = some ⟨.st fs, n1, n2, z⟩) (ha : allTab tb.tab fs = true) (hb : buildV tb.tab fs T z.cells.toList ps = some r) (hd : dstOk N d = true)
    (k : SR P N all rest (putD d (.agg r.toArray) T) L RR) : SR P N all (⟨d, .build t ps.toArray, ty, pos, aft, none⟩ :: rest) T L RR :=
  SR.reads (rd_build ht ha hb) rfl hd (by rintro _ _ ⟨rfl, rfl⟩; exact k)
theorem SR.index {RR : TT → List HP → Prop} {x y : Operand} {t e : Nat} {sz n1 n2 b1 : Nat} {z z2 : Value} {ke : TK} {A : Option Addr} {n c i : Nat} {k : IntKind} {j : Int} {l : List α} (hx : evO T x = some (.slice A n c)) (hy : evO T y = some (.int k j))
    (hh : Has (slAt ρ A n l) L) (ht : tget tb.tab t = some ⟨.sl e, n1, n2, z⟩) (hte : tget tb.tab e = some ⟨ke, sz, b1, z2⟩) (hj : Int.ofNat i = j) (hd : dstOk N d = true) (hi : i < n)
    (kk : ∀ v, l[i]? = some v → SR P N all rest (putD d (.pointer (some (eadr A i sz 0))) T) L RR) : SR P N all (⟨d, .indexAddr t x y, ty, pos, aft, none⟩ :: rest) T L RR :=
  SR.reads (rd_index hx hy hh ht hte hj hi) rfl hd (by rintro _ _ ⟨rfl, rfl, u, hu⟩; exact kk u hu)
theorem SR.indexW {RR : TT → List HP → Prop} {x y : Operand} {t e : Nat} {sz n1 n2 b1 : Nat} {z z2 : Value} {ke : TK} {A : Option Addr} {n c c' i : Nat} {k : IntKind} {j : Int} {l : List α} {w' : Bool} (hx : evO T x = some (.slice A n c)) (hy : evO T y = some (.int k j))
    (hh : Take (sqAt w' ρ A n c' l) L L') (ht : tget tb.tab t = some ⟨.sl e, n1, n2, z⟩) (hte : tget tb.tab e = some ⟨ke, sz, b1, z2⟩) (hj : Int.ofNat i = j) (hd : dstOk N d = true) (hi : i < n)
    (kk : ∀ v, l[i]? = some v → SR P N all rest (putD d (.pointer (some (eadr A i sz 0))) T) L RR) : SR P N all (⟨d, .indexAddr t x y, ty, pos, aft, none⟩ :: rest) T L RR :=
  SR.reads (rd_indexW hx hy hh ht hte hj hi) rfl hd (by rintro _ _ ⟨rfl, rfl, u, hu⟩; exact kk u hu)
theorem SR.efield {RR : TT → List HP → Prop} {x : Operand} {t f : Nat} {A : Option Addr} {i sz o off tf n1 n2 s1 s2 : Nat} {z z2 : Value} {k2 : TK} {fs : List (Nat × Nat)} (hx : evO T x = some (.pointer (some (eadr A i sz o))))
    (ht : tget tb.tab t = some ⟨.st fs, n1, n2, z⟩) (hf : fs[f]? = some (off, tf)) (htf : tget tb.tab tf = some ⟨k2, s1 + 1, s2, z2⟩) (hd : dstOk N d = true)
    (kk : SR P N all rest (putD d (.pointer (some (eadr A i sz (o + off)))) T) L RR) : SR P N all (⟨d, .fieldAddr t x f, ty, pos, aft, none⟩ :: rest) T L RR :=
  SR.reads (rd_efield hx ht hf htf) rfl hd (by rintro _ _ ⟨rfl, rfl⟩; exact kk)
theorem SR.eload {RR : TT → List HP → Prop} {x : Operand} {t : Nat} {ti : TI} {A : Option Addr} {n i sz o : Nat} {l : List α} {u : α} (hx : evO T x = some (.pointer (some (eadr A i sz o)))) (hh : Has (slAt ρ A n l) L) (hu : l[i]? = some u)
    (ht : tget tb.tab t = some ti) (hsz : Nat.beq ρ.sz sz = true) (hp : ∀ h, packOk ti (cut (ρ.cells u h) o ti.size)) (hd : dstOk N d = true)
    (kk : ∀ h, SR P N all rest (putD d (packV ti (cut (ρ.cells u h) o ti.size)) T) (ρ.atoms u h ++ L) RR) : SR P N all (⟨d, .load t x, ty, pos, aft, none⟩ :: rest) T L RR :=
  SR.reads (rd_eload hx hh hu ht hsz hp) rfl hd (by rintro _ _ ⟨h, rfl, rfl⟩; exact kk h)
theorem SR.slice {RR : TT → List HP → Prop} {x : Operand} {lo hi : Option Operand} {A : Option Addr} {n c i j t e sz n1 n2 b1 : Nat} {z z2 : Value} {ke : TK} {l : List α} (hx : evO T x = some (.slice A n c)) {vl vh : Option Value} {k1 k2 : IntKind}
    (hlo : evOo T lo = some vl) (hhi : evOo T hi = some vh)
    (hh : Has (slAt ρ A n l) L) (ht : tget tb.tab t = some ⟨.sl e, n1, n2, z⟩) (hte : tget tb.tab e = some ⟨ke, sz, b1, z2⟩) (hsz : Nat.beq ρ.sz sz = true) (hd : dstOk N d = true) (hl : vl = some (.int k1 i) ∨ (vl = none ∧ i = 0)) (hv : vh = some (.int k2 j) ∨ (vh = none ∧ j = n)) (h1 : i ≤ j) (h2 : j ≤ n) (h3 : n ≤ c)
    (kk : ∀ A' c', j - i ≤ c' → SR P N all rest (putD d (.slice A' (j - i) c') T) (slAt ρ A' (j - i) ((l.drop i).take (j - i)) :: L) RR) : SR P N all (⟨d, .slice t x lo hi none, ty, pos, aft, none⟩ :: rest) T L RR :=
  SR.reads (rd_slice hx hlo hhi hh ht hte hsz hl hv h1 h2 h3) rfl hd (by rintro _ _ ⟨A', c', hc, rfl, rfl⟩; exact kk A' c' hc)
theorem SR.pure2 {v : Value} {RR : TT → List HP → Prop} (hg : o.guard = none) (h : pureOp2 tb.tab T o.op = some v) (hd : dstOk N o.dst = true)
    (k : SR P N all rest (putD o.dst v T) L RR) : SR P N all (o :: rest) T L RR := SR.reads (reads_pure2 h) hg hd (by rintro _ _ ⟨rfl, rfl⟩; exact k)
theorem SR.eloadW {RR : TT → List HP → Prop} {ty : TypeId} {pos : String} {aft : Array Edge} {d : Option Tmp} {α : Type} {ρ : Rep α} {x : Operand} {t : Nat} {ti : TI} {A : Option Addr} {n i sz : Nat} {l : List α} {u : α} (hx : evO T x = some (.pointer (some (eadr A i sz 0)))) (hh : Has (slAt ρ A n l) L) (hu : l[i]? = some u)
    (ht : tget tb.tab t = some ti) (hsz : Nat.beq ρ.sz sz = true) (hk : ti.k.agg = ρ.agg) (h2 : Nat.beq ti.size ρ.sz = true) (hd : dstOk N d = true)
    (kk : ∀ h, SR P N all rest (putD d (ρ.val u h) T) (ρ.atoms u h ++ L) RR) : SR P N all (⟨d, .load t x, ty, pos, aft, none⟩ :: rest) T L RR :=
  SR.eload hx hh hu ht hsz (fun h => (whole hk h2).2) hd (fun h => by rw [(whole hk h2).1]; exact kk h)
theorem SR.loadW {RR : TT → List HP → Prop} {ty : TypeId} {pos : String} {aft : Array Edge} {d : Option Tmp} {x : Operand} {t b off : Nat} {v : Value} {ti : TI} (hx : evO T x = some (.pointer (some ⟨b, off, none⟩))) (htk : Take (pts b off v.cells.toList) L L')
    (ht : tget tb.tab t = some ti) (h1 : ti.k.agg = true) (h2 : isAggV v = true) (h3 : Nat.beq v.cells.toList.length ti.size = true) (hd : dstOk N d = true)
    (k : SR P N all rest (putD d v T) L RR) : SR P N all (⟨d, .load t x, ty, pos, aft, none⟩ :: rest) T L RR :=
  SR.load hx htk ht (by simp) (wholeV h1 h2 h3 off).2 hd (by rw [(wholeV h1 h2 h3 off).1]; exact k)
end
section
variable {P : Program} [tb : Tab P] {rd : Option Nat} {N : Nat} {T : TT} {L L' L1 : List HP} {Q : Post} {ks : List K}
variable {all : Array Oper} {rest : List Oper} {d : Option Tmp} {ty : TypeId} {pos : String} {aft : Array Edge}
variable {κ α : Type} [DecidableEq κ] {kr : KR κ} {ρ : Rep α}
theorem SR.lookup {RR : TT → List HP → Prop} {x y : Operand} {t e kt b n1 n2 : Nat} {z0 : Value} {tik tie : TI} {l : List (κ × α)} {key : κ} {ok : Bool} (hx : evO T x = some (.map (some b))) (htk : Take (mpAt kr ρ b l) L L') (hy : evO T y = some (kr.v key))
    (ht : tget tb.tab t = some ⟨.map kt e, n1, n2, z0⟩) (hkt : tget tb.tab kt = some tik) (hkk : kdOf tik.k = some kr.kd) (hte : tget tb.tab e = some tie) (hd : dstOk N d = true)
    (yes : ∀ u h, mget l key = some u → SR P N all rest (putD d (lookV ok (ρ.val u h) true) T) (ρ.atoms u h ++ L) RR) (no : mget l key = none → SR P N all rest (putD d (lookV ok tie.zero false) T) L RR) :
    SR P N all (⟨d, .lookup t x y ok, ty, pos, aft, none⟩ :: rest) T L RR :=
  SR.reads (rd_lookup hx htk hy ht hkt hkk hte) rfl hd (by rintro _ _ (⟨u, h, hg, rfl, rfl⟩ | ⟨hg, rfl, rfl⟩) <;> first | exact yes _ _ (by assumption) | exact no (by assumption))
theorem SR.lenMap {RR : TT → List HP → Prop} {x : Operand} {t e kt b n1 n2 : Nat} {z0 : Value} {l : List (κ × α)} (hx : evO T x = some (.map (some b))) (htk : Take (mpAt kr ρ b l) L L')
    (ht : tget tb.tab t = some ⟨.map kt e, n1, n2, z0⟩) (hd : dstOk N d = true) (k : SR P N all rest (putD d (.int .i64 (l.length : Int)) T) L RR) :
    SR P N all (⟨d, .call ⟨.builtin .len, #[x], #[t]⟩, ty, pos, aft, none⟩ :: rest) T L RR :=
  SR.reads (rd_lenMap hx htk ht) rfl hd (by rintro _ _ ⟨rfl, rfl⟩; exact k)
end

section
variable {P : Program} [tb : Tab P] {rd : Option Nat} {N : Nat} {l : List Oper} {T : TT} {L : List HP} {Q : Post} {ks : List K} {id : Nat}
/-- No new variable; one. -/
theorem SK.regionM0 (id : Nat) (qs ps rs : List Nat) (hm : P.follows .mixedOrders = true) (hok : mixOk N tb.tab l qs [] ps rs = true) (hnp : ∀ c T L, Q (.panic c) T L → False)
    (h : SR P N l.toArray (pick l qs) T L (fun T' L' => SO P rd N l.toArray (pick l rs) T' L' ks Q)) : SK P rd N (.code (.region id l.toArray true) :: ks) T L Q :=
  SK.regionM qs [] ps rs hm hok hnp (fun r oo F a hs ha => wpStrict_mono (fun a' h' => ⟨h'.1, h'.2.choose, h'.2.choose_spec.choose, h'.2.choose_spec.choose_spec.1, h'.2.choose_spec.choose_spec.2.1, fun _ => h'.2.choose_spec.choose_spec.2.2⟩) _ a (h r oo F a hs ha))
theorem SK.regionM1 (id : Nat) (qs : List Nat) (k : Nat) (ps rs : List Nat) (hm : P.follows .mixedOrders = true) (hok : mixOk N tb.tab l qs [k] ps rs = true) (hnp : ∀ c T L, Q (.panic c) T L → False)
    (h : SR P N l.toArray (pick l qs) T L (fun T' L' => ∀ b : Nat, SO P rd N l.toArray (pick l rs) (putD (dstAt l k) (.pointer (some ⟨b, 0, none⟩)) T') (pts b 0 (zerosAt tb.tab l k) :: L') ks Q)) : SK P rd N (.code (.region id l.toArray true) :: ks) T L Q :=
  SK.regionM qs [k] ps rs hm hok hnp (fun r oo F a hs ha => wpStrict_mono (fun a' h' => ⟨h'.1, h'.2.choose, h'.2.choose_spec.choose, h'.2.choose_spec.choose_spec.1, h'.2.choose_spec.choose_spec.2.1, fun bs => h'.2.choose_spec.choose_spec.2.2 (bs k)⟩) _ a (h r oo F a hs ha))
end

/-! A guard that stands on nothing. -/
def noBool : Value → Bool
  | .bool _ => false
  | _ => true
theorem yield_none {all : Array Oper} {tmps : Array Value} {j t : Nat} {v : Value} (hj : (all[j]?).bind (·.dst) = some t) (ht : tmps[t]? = some v) (hv : noBool v = true) : yielded all tmps j = none := by
  simp only [yielded, hj, Option.bind_some, ht]
  cases v <;> first | (cases hv; done) | rfl
section
variable {P : Program} {rd : Option Nat} {N : Nat} {T : TT} {L : List HP} {Q : Post} {ks : List K} {all : Array Oper} {rest : List Oper} {RR : TT → List HP → Prop}
theorem SO.guardU {j : Nat} {want : Bool} {t : Nat} {v : Value} {dst : Option Tmp} {op : Op} {ty : TypeId} {pos : String} {aft : Array Edge}
    (hj : (all[j]?).bind (·.dst) = some t) (ht : T.get t = some v) (hv : noBool v = true) (hd : dstOk N dst = true)
    (no : SO P rd N all rest (putD dst undef T) L ks Q) : SO P rd N all (⟨dst, op, ty, pos, aft, some (j, want)⟩ :: rest) T L ks Q := by
  intro F a w ok
  have hy := yield_none hj (ok.get _ _ ht) hv
  have hw : Region.wanted (⟨dst, op, ty, pos, aft, some (j, want)⟩ : Oper) (yielded all a.tmps) = false := by simp [Region.wanted, hy]
  simp only [wpListIn, hw]
  exact ⟨fun _ _ => trivial, no F _ _ (ok.putD hd undef)⟩
theorem SQ.guardU {j : Nat} {want : Bool} {t : Nat} {v : Value} {dst : Option Tmp} {op : Op} {ty : TypeId} {pos : String} {aft : Array Edge}
    (hj : (all[j]?).bind (·.dst) = some t) (ht : T.get t = some v) (hv : noBool v = true) (hd : dstOk N dst = true)
    (no : SQ P N all rest (putD dst undef T) L RR) : SQ P N all (⟨dst, op, ty, pos, aft, some (j, want)⟩ :: rest) T L RR := by
  intro r oo F a hs ha
  have hy := yield_none hj (ha.2 _ _ ht) hv
  have hw : Region.wanted (⟨dst, op, ty, pos, aft, some (j, want)⟩ : Oper) (yielded all a.tmps) = false := by simp [Region.wanted, hy]
  simp only [wpQuiet, hw]
  exact wpQuiet_mono (fun a' ⟨h1, h2⟩ => ⟨by rw [h1, put_defers_eq], h2⟩) rest _ (no r oo F _ hs (ha.putD hd undef))
theorem SR.guardU {j : Nat} {want : Bool} {t : Nat} {v : Value} {dst : Option Tmp} {op : Op} {ty : TypeId} {pos : String} {aft : Array Edge}
    (hj : (all[j]?).bind (·.dst) = some t) (ht : T.get t = some v) (hv : noBool v = true) (hd : dstOk N dst = true)
    (no : SR P N all rest (putD dst undef T) L RR) : SR P N all (⟨dst, op, ty, pos, aft, some (j, want)⟩ :: rest) T L RR := by
  intro r oo F a hs ha
  have hy := yield_none hj (ha.2 _ _ ht) hv
  have hw : Region.wanted (⟨dst, op, ty, pos, aft, some (j, want)⟩ : Oper) (yielded all a.tmps) = false := by simp [Region.wanted, hy]
  simp only [wpStrict, hw]
  exact wpStrict_mono (fun a' ⟨h1, h2⟩ => ⟨by rw [h1, put_defers_eq], h2⟩) rest _ (no r oo F _ hs (ha.putD hd undef))
end
end Go.Sl
