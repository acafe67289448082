/- A part of a proof: a walk over the model by a small separation logic. -/
import Derived.Test.YtbaalaaoggplmaaDoorReps
import Derived.Laws.IdiomStrings
/-! Strings: their bytes. -/
set_option linter.unusedVariables false
set_option linter.unusedSectionVars false
set_option linter.unusedSimpArgs false
namespace Go.Sl

theorem St.allocF {w : World} {L : List HP} (h : St w L) (cs : Array Value) (t : TypeId) (lo hi : Nat) (hlo : cs.size ≤ lo) : St { w with heap := w.heap.push (.cells cs t (lo, hi)) } (pts w.heap.size 0 cs.toList :: L) := by
  obtain ⟨r, o, s, hL⟩ := h
  obtain ⟨n1, n2⟩ := sat_new s
  let x : Own := fun i j => if i = w.heap.size then (cs.toList[j]?).map .val else none
  have dx : x.disj o := fun i j => by
    by_cases hi : i = w.heap.size
    · right
      subst hi
      cases ho : o w.heap.size j with
      | none => rfl
      | some c => exact (n1 _ _ ho).elim
    · left; simp [x, hi]
  have s' := sat_push s (.cells cs t (lo, hi))
  have hself : ({ w with heap := w.heap.push (.cells cs t (lo, hi)) } : World).heap[w.heap.size]? = some (.cells cs t (lo, hi)) := by simp
  have hlow : ∀ k l c, x.add o k l = some c → r.bs.heap.size ≤ k := fun k l c e => by
    rcases Own.add_cases e with e | e
    · simp only [x] at e
      split at e
      · rename_i hk; rw [hk]; exact s.below.size
      · cases e
    · exact s.low _ _ _ e
  refine ⟨r, x.add o, ⟨s'.ro, fun i j v e => ?_, fun i j z e => ?_, fun i j v c e e' => ?_, s'.below, hlow⟩, x, o, dx, Own.le_refl _, ?_, hL⟩
  · rcases Own.add_cases e with e | e
    · by_cases hi' : i = w.heap.size
      · subst hi'
        simp only [x, if_true, Option.map_eq_some_iff] at e
        obtain ⟨u, hu, e⟩ := e
        cases e
        have hj := row_lt hu
        refine ⟨?_, ?_⟩
        · unfold World.cell?; simp only [hself]; simpa using hu
        · unfold World.frozen?; simp only [hself]
          simp at hj
          have : ¬ lo ≤ j := by omega
          simp [this]
      · simp [x, hi'] at e
    · exact s'.val _ _ _ e
  · rcases Own.add_cases e with e | e
    · simp only [x] at e
      split at e
      · simp only [Option.map_eq_some_iff] at e
        obtain ⟨u, hu, e⟩ := e; cases e
      · simp at e
    · exact s'.obj _ _ _ e
  · rcases Own.add_cases e' with e' | e'
    · by_cases hi' : i = w.heap.size
      · subst hi'; exact n2 _ _ e
      · simp [x, hi'] at e'
    · exact s.dis _ _ _ _ e e'
  · intro i v hv
    simp only [x, if_true, Nat.zero_add, hv, Option.map_some]

/-- A string's bytes. -/
def bytesI (s : ByteArray) : List Int := s.data.toList.map fun b => (b.toNat : Int)
theorem bytesI_len (s : ByteArray) : (bytesI s).length = s.size := (List.length_map _).trans Array.length_toList
theorem bytesI_bd {s : ByteArray} {i : Nat} {v : Int} (h : (bytesI s)[i]? = some v) : 0 ≤ v ∧ v < 256 := by
  unfold bytesI at h
  rw [List.getElem?_map, Option.map_eq_some_iff] at h
  obtain ⟨b, _, rfl⟩ := h
  have := b.toNat_lt
  omega

section
variable {P : Program} [tb : Tab P] {rd : Option Nat} {N : Nat} {T : TT} {L L' L1 : List HP} {Q : Post} {ks : List K}
variable {all : Array Oper} {rest : List Oper} {d : Option Tmp} {ty : TypeId} {pos : String} {aft : Array Edge}
/-- A string's bytes as a slice. -/
theorem SO.bytesOf {x : Operand} {t t2 e n1 n2 n3 n4 n5 n6 : Nat} {z0 z1 z2 : Value} {s : ByteArray} (hx : evO T x = some (.string s)) (ht : tget tb.tab t = some ⟨.str, n1, n2, z0⟩) (ht2 : tget tb.tab t2 = some ⟨.sl e, n3, n4, z1⟩) (hte : tget tb.tab e = some ⟨.int .u8, n5, n6, z2⟩)
    (hs : s.size ≤ lim) (hd : dstOk N d = true) (kk : ∀ b c, s.size ≤ c → SO P rd N all rest (putD d (.slice (some ⟨b, 0, none⟩) s.size c) T) (sqAt true RU (some ⟨b, 0, none⟩) s.size c (bytesI s) :: L) ks Q) :
    SO P rd N all (⟨d, .convert t t2 x, ty, pos, aft, none⟩ :: rest) T L ks Q := by
  refine SO.run (R := fun v L2 => ∃ b c, s.size ≤ c ∧ v = .slice (some ⟨b, 0, none⟩) s.size c ∧ L2 = sqAt true RU (some ⟨b, 0, none⟩) s.size c (bytesI s) :: L) rfl rfl hd ?_ (by rintro _ _ ⟨b, c, hc, rfl, rfl⟩; exact kk b c hc)
  intro q hq F w hst
  have h1 := (tab_ok ht).k
  have h2 := (tab_ok ht2).k
  have h3 := (tab_ok hte).k
  simp only [TK.ok] at h1 h2 h3
  have hrun := run_bytes_of_string w t t2 e s h1 h2 h3
  have hcap : s.size ≤ grownCap w s.size 0 e := by
    simp only [grownCap, Question.cut]; omega
  have hst2 := (hst.drew (w.drawn + 1)).allocF (bytesRow s (grownCap w s.size 0 e)) e (bytesRow s (grownCap w s.size 0 e)).size ((bytesRow s (grownCap w s.size 0 e)).size + 1) (Nat.le_refl _)
  refine ⟨_, _, _, .inl ?_, ⟨w.heap.size, grownCap w s.size 0 e, hcap, rfl, rfl⟩, hst2.ent ?_⟩
  · simp only [execOp, hq _ _ hx, Sem.run_bind, hrun, Result.andThen_ok]
    rfl
  · have hl : (bytesRow s (grownCap w s.size 0 e)).toList = flat RU ((bytesI s).map fun v => (v, ())) ++ List.replicate (grownCap w s.size 0 e - s.size) (.int .u8 0) := by
      have : ∀ (l : List UInt8), flat RU ((l.map fun b => (b.toNat : Int)).map fun v => (v, ())) = l.map fun b => Value.int .u8 b.toNat := by
        intro l
        induction l with
        | nil => rfl
        | cons b l ih => simp only [List.map_cons, flat, ih]; rfl
      unfold bytesI
      rw [this]
      unfold bytesRow
      rw [Array.toList_append, Array.toList_map, Array.toList_replicate]
    rw [hl]
    refine (pts_split).trans ?_
    have hfl : (flat RU ((bytesI s).map fun v => (v, ()))).length = s.size * 1 := by
      rw [flat_length, List.length_map, bytesI_len]; rfl
    rw [hfl]
    have hm : ∀ (M : List HP), Ent M (memA RU ((bytesI s).map fun v => (v, ())) :: M) := fun M r o h => ⟨own0, o, fun _ _ => .inl rfl, none_add, fun i u y e => trivial, h⟩
    refine (Ent.cons (Ent.cons (hm _))).trans ?_
    exact (sq_shut (w := true) (ρ := RU) (a := ⟨w.heap.size, 0, none⟩) (l := bytesI s) (bytesI_len s).symm hs hcap rfl (by rw [List.map_map]; exact List.map_id _) (by rw [List.length_replicate]; exact (Nat.mul_one _).symm)).trans Ent.swap
/-- The same, for one who only reads them. -/
theorem SO.bytesOfR {x : Operand} {t t2 e n1 n2 n3 n4 n5 n6 : Nat} {z0 z1 z2 : Value} {s : ByteArray} (hx : evO T x = some (.string s)) (ht : tget tb.tab t = some ⟨.str, n1, n2, z0⟩) (ht2 : tget tb.tab t2 = some ⟨.sl e, n3, n4, z1⟩) (hte : tget tb.tab e = some ⟨.int .u8, n5, n6, z2⟩)
    (hs : s.size ≤ lim) (hd : dstOk N d = true) (kk : ∀ b c, s.size ≤ c → SO P rd N all rest (putD d (.slice (some ⟨b, 0, none⟩) s.size c) T) (slAt RU (some ⟨b, 0, none⟩) s.size (bytesI s) :: L) ks Q) :
    SO P rd N all (⟨d, .convert t t2 x, ty, pos, aft, none⟩ :: rest) T L ks Q :=
  SO.bytesOf hx ht ht2 hte hs hd fun b c hc => SO.shift (fun F w hst => ((((hst.ent Ent.swap).shut).ent (sl_of_sq.trans (Ent.cons Ent.drop))).ent Ent.swap)) (kk b c hc)
end
end Go.Sl
