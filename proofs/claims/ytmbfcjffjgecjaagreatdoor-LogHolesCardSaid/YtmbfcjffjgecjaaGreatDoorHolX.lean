/- A part of a proof: what functions of the program compute. -/
import Derived.Test.YtmbfcjffjgecjaaGreatDoorLib2
import Derived.Test.YtmbfcjffjgecjaaGreatDoorLib1
set_option linter.unusedSectionVars false
/-! Where the first hole is, plainly. -/
set_option linter.unusedVariables false
set_option linter.unusedSimpArgs false
namespace Go.Sl
/-- The first stripe, from one on, that lost a record; else how many records there are. -/
def holeF (b : Nat → Bool) (c : Nat) : Nat → Nat → Nat
  | 0, _ => c
  | k + 1, i => if !b i && decide (i < c) then i else holeF b c k (i + 1)
theorem holeF_le (b : Nat → Bool) (c : Nat) : ∀ k i, holeF b c k i ≤ c
  | 0, i => Nat.le_refl _
  | k + 1, i => by
    unfold holeF
    split
    · rename_i h
      simp only [Bool.and_eq_true, decide_eq_true_eq] at h
      omega
    · exact holeF_le b c k (i + 1)
theorem holeF_ok (b : Nat → Bool) (c : Nat) : ∀ k i, (∀ j, i ≤ j → j < i + k → j < holeF b c k i → b j = true) ∧ (holeF b c k i = c ∨ (i ≤ holeF b c k i ∧ holeF b c k i < i + k ∧ b (holeF b c k i) = false))
  | 0, i => ⟨fun j h1 h2 => by omega, .inl rfl⟩
  | k + 1, i => by
    have ih := holeF_ok b c k (i + 1)
    have hle := holeF_le b c k (i + 1)
    unfold holeF
    split
    · rename_i h
      simp only [Bool.and_eq_true, decide_eq_true_eq, Bool.not_eq_true'] at h
      exact ⟨fun j h1 _ h3 => by omega, .inr ⟨Nat.le_refl _, by omega, h.1⟩⟩
    · rename_i h
      simp only [Bool.and_eq_true, decide_eq_true_eq, Bool.not_eq_true', not_and] at h
      refine ⟨fun j h1 h2 h3 => ?_, ?_⟩
      · by_cases hj : j = i
        · subst hj
          cases hb : b j with
          | true => rfl
          | false => exact absurd (h hb) (by omega)
        · exact ih.1 j (by omega) (by omega) h3
      · rcases ih.2 with h1 | ⟨h1, h2, h3⟩
        · exact .inl h1
        · exact .inr ⟨by omega, by omega, h3⟩
end Go.Sl
/-! Of records of which some stripes lost theirs: what is there, what is put behind it, plainly. -/
set_option linter.unusedVariables false
set_option linter.unusedSimpArgs false
namespace Go.Sl
/-- A byte's bit. -/
def bitB (w j : Nat) : Bool := decide (w / 2 ^ j % 2 = 1)
/-- Records ahead of a hole, and those that are put there. -/
def hR (H : Nat) (p : Nat) : Rc := if p < H then rz 0 ((p + 1 : Nat) : Int) else rz 1 ((p - H + 1 : Nat) : Int)
/-- Synced from a stripe on. -/
structure HolI (K c t w : Nat) (g : Lg) : Prop where
  sy : SyncI 100000 K c (fun j => decide (t ≤ j ∧ j < K) && bitB w j) (fun p => rz 0 ((p + 1 : Nat) : Int)) g
  own : g.own = ⟨100000, [], 0⟩
theorem HolI.skip {K c t w : Nat} {g : Lg} (h : HolI K c (t + 1) w g) (hb : bitB w t = false) : HolI K c t w g := by
  refine ⟨h.sy.congr fun j hj => ?_, h.own⟩
  by_cases hjt : j = t
  · subst hjt; rw [hb]; simp
  · have : decide (t ≤ j ∧ j < K) = decide (t + 1 ≤ j ∧ j < K) := by apply decide_eq_decide.2; omega
    rw [this]
theorem HolI.step {K c t w : Nat} {g g' : Lg} (h : HolI K c (t + 1) w g) (ht : t < K) (hb : bitB w t = true) (q : LSync g t g') : HolI K c t w g' := by
  obtain ⟨a1, _⟩ := q.rest
  refine ⟨(q.syncI h.sy).congr fun j hj => ?_, a1.trans h.own⟩
  by_cases hjt : j = t
  · subst hjt; rw [hb]; simp [ht]
  · have : decide (t ≤ j ∧ j < K) = decide (t + 1 ≤ j ∧ j < K) := by apply decide_eq_decide.2; omega
    simp only [this, hjt, decide_false, Bool.or_false]
theorem HolI.head {K c w : Nat} {g : Lg} (h : HolI K c 0 w g) (hk : 1 ≤ K ∧ K ≤ 8) : g.head = holeF (bitB w) c K 0 := by
  have hle := holeF_le (bitB w) c K 0
  obtain ⟨h1, h2⟩ := holeF_ok (bitB w) c K 0
  refine h.sy.head hk hle (fun p hp => ?_) ?_
  · have hm : p % K < K := Nat.mod_lt _ (by omega)
    have hl : p % K ≤ p := Nat.mod_le _ _
    rw [h1 (p % K) (Nat.zero_le _) (by omega) (by omega)]
    simp [hm]
  · rcases h2 with h2 | ⟨_, h3, h4⟩
    · exact .inl h2
    · right
      rw [Nat.mod_eq_of_lt (by omega), h4]
      simp
theorem holeF_step {b : Nat → Bool} {c K t : Nat} (ht : t < K) : holeF b c (K - t) t = if !b t && decide (t < c) then t else holeF b c (K - (t + 1)) (t + 1) := by
  rw [show K - t = (K - (t + 1)) + 1 by omega]; rfl
/-- Put behind the hole. -/
structure PutH (K n H i : Nat) (g : Lg) : Prop where
  li : LI 100000 (n + i) (hR H) g
  m : g.m = [(0, (K : Int))]
  trim : g.trim = 0
  next : g.next = H + i
  down : g.down = false
  own : g.own = ⟨100000, [], 0⟩
theorem LBack.putH {K c H n w : Nat} {g g' : Lg} (h : LBack 100000 n (fun p => rz 0 ((p + 1 : Nat) : Int)) g [] g') (h0 : HolI K c 0 w g) (hk : 1 ≤ K ∧ K ≤ 8) (hH : holeF (bitB w) c K 0 = H) : PutH K n H 0 g' := by
  have hn : g'.next = H := by rw [h.next_nil h0.sy.down, h0.head hk, hH]
  refine ⟨h.li.congr fun p _ hp => ?_, h.m.trans h0.sy.m, h.trim.trans h0.sy.trim, by rw [hn]; rfl, h.down, h.own.trans h0.own⟩
  unfold hR
  rw [if_pos (by omega)]
theorem PutH.put {K n H i : Nat} {g g' : Lg} (h : PutH K n H i g) (hn : n + i < 200) (q : LPut g 1 ((i + 1 : Nat) : Int) g') : PutH K n H (i + 1) g' := by
  have hr : hR H g.next = rz 1 ((i + 1 : Nat) : Int) := by
    unfold hR
    rw [h.next, if_neg (by omega), Nat.add_sub_cancel_left]
  obtain ⟨l, e⟩ := q.li h.li hr (by omega) (by omega) (by omega)
  obtain ⟨a1, a2, a3, a4, a5⟩ := q.rest
  exact ⟨l, a2.trans h.m, a3.trans h.trim, by rw [e, h.next]; omega, a5.trans h.down, a1.trans h.own⟩
theorem PutH.sync {K n H i k : Nat} {g g' : Lg} (h : PutH K n H i g) (q : LSync g k g') : PutH K n H i g' := by
  obtain ⟨a1, a2, a3, a4, a5, a6⟩ := q.rest
  exact ⟨q.li h.li, a2.trans h.m, a3.trans h.trim, a6.trans h.next, a5.trans h.down, a1.trans h.own⟩
end Go.Sl
/-! Bits: `x & 1'. -/
set_option linter.unusedVariables false
namespace Go.Sl
section
variable {P : Program} [tb : Tab P] {rd : Option Nat} {N : Nat} {T : TT} {L : List HP} {Q : Post} {ks : List K}
variable {all : Array Oper} {rest : List Oper} {d : Option Tmp} {ty : TypeId} {pos : String} {aft : Array Edge}
theorem rd_bitAnd {x y : Operand} {t cx : Nat} {k : IntKind} {a b : Int} {v : Value} (hx : evO T x = some (.int k a)) (hy : evO T y = some (.int k b)) (hv : Value.int k (k.wrap ((BitVec.ofInt k.bits a &&& BitVec.ofInt k.bits b).toNat : Int)) = v) :
    Reads P T L ⟨d, .binOp .and t x y cx, ty, pos, aft, none⟩ (fun u L' => u = v ∧ L' = L) := by
  intro q hq rr oo F hs
  refine ⟨_, L, ⟨rfl, rfl⟩, hs, fun w _ => ?_⟩
  have h1 : (eqGuard .and t x y (.int k a) (.int k b)).run P w = .ok () w := by unfold eqGuard; simp
  simp only [execOp, hq _ _ hx, hq _ _ hy, Sem.run_bind, h1, Result.andThen_ok, binOp, Op.intBits, Sem.run_pure, hv, ne_eq, not_true_eq_false, if_false]
theorem SO.bitAnd {x y : Operand} {t cx : Nat} {k : IntKind} {a b : Int} {v : Value} (hx : evO T x = some (.int k a)) (hy : evO T y = some (.int k b)) (hv : Value.int k (k.wrap ((BitVec.ofInt k.bits a &&& BitVec.ofInt k.bits b).toNat : Int)) = v) (hd : dstOk N d = true)
    (kk : SO P rd N all rest (putD d v T) L ks Q) : SO P rd N all (⟨d, .binOp .and t x y cx, ty, pos, aft, none⟩ :: rest) T L ks Q :=
  SO.reads (rd_bitAnd hx hy hv) rfl rfl hd (by rintro _ _ ⟨rfl, rfl⟩; exact kk)
end
/-- The lowest bit of a byte. -/
theorem and_one {m : Nat} (h : m < 256) : IntKind.u8.wrap ((BitVec.ofInt IntKind.u8.bits (m : Int) &&& BitVec.ofInt IntKind.u8.bits 1).toNat : Int) = ((m % 2 : Nat) : Int) := by
  have e1 : (BitVec.ofInt IntKind.u8.bits (m : Int) &&& BitVec.ofInt IntKind.u8.bits 1).toNat = m % 2 := by
    rw [BitVec.toNat_and, BitVec.toNat_ofInt, BitVec.toNat_ofInt]
    show ((m : Int) % 256).toNat &&& ((1 : Int) % 256).toNat = m % 2
    rw [show ((m : Int) % 256).toNat = m by omega, show ((1 : Int) % 256).toNat = 1 from rfl, Nat.and_one_is_mod]
  rw [e1]
  simp [IntKind.wrap, IntKind.signed, IntKind.bits]
  omega
/-- A byte, shifted. -/
theorem shr_byte (m j : Nat) : (m : Int).fdiv (2 ^ ((j : Int)).toNat) = ((m / 2 ^ j : Nat) : Int) := by
  rw [Int.toNat_natCast]
  rw [Int.fdiv_eq_ediv_of_nonneg _ (Int.le_of_lt (Int.pow_pos (by decide)))]
  simp
end Go.Sl
