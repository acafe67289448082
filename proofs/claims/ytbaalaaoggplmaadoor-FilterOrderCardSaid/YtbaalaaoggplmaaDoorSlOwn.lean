/- A part of a proof: a walk over the model by a small separation logic. -/
import Derived.Test.YtbaalaaoggplmaaDoorSlTok
/-! Slices of one's own that are built at once. -/
set_option linter.unusedVariables false
set_option linter.unusedSectionVars false
namespace Go.Sl
section
variable {P : Program} [tb : Tab P] {rd : Option Nat} {N : Nat} {T : TT} {L L' L1 : List HP} {Q : Post} {ks : List K}
variable {all : Array Oper}
/-- Cells of one's own become a slice of one's own. -/
theorem toSq {α : Type} {ρ : Rep α} {b n : Nat} {cs : List Value} {l : List α} (z : List (α × ρ.V)) (hh : Take (pts b 0 cs) L L') (hz : z.map (·.1) = l) (hc : flat ρ z = cs) (hn : n = l.length) (hl : Nat.ble n lim = true) (ha : HasAll (allAtoms ρ z) L') (F : HP) (w : World) (hst : St w (F :: L)) :
    St w (F :: sqAt true ρ (some ⟨b, 0, none⟩) n n l :: L') := by
  have h1 : St w (pts b 0 cs :: F :: L') := hst.ent ((Ent.cons hh.ent).trans Ent.swap)
  subst hc
  have hm : St w (pts b 0 (flat ρ z) :: memA ρ z :: F :: L') := h1.ent (Ent.cons ((Ent.cons (ent_memA ha)).trans Ent.swap))
  have h2 : Ent (memA ρ z :: F :: L') (pts b (0 + n * ρ.sz) [] :: memA ρ z :: F :: L') :=
    fun r o h => ⟨fun _ _ => none, o, fun _ _ => .inl rfl, none_add, fun i v e => by simp at e, h⟩
  have h3 := hm.ent (Ent.cons h2)
  have := h3.ent (sq_shut (w := true) (a := ⟨b, 0, none⟩) hn (Nat.le_of_ble_eq_true hl) (Nat.le_refl n) rfl hz (by simp))
  exact this.ent Ent.swap
theorem toSqR {α : Type} {ρ : Rep α} {b n : Nat} {cs : List Value} {l : List α} (z : List (α × ρ.V)) (hh : Take (pts b 0 cs) L L') (hz : z.map (·.1) = l) (hc : flat ρ z = cs) (hn : n = l.length) (hl : Nat.ble n lim = true) (ha : HasAll (allAtoms ρ z) L') (F : HP) (w : World) (hst : St w (F :: L)) :
    St w (F :: sqAt false ρ (some ⟨b, 0, none⟩) n n l :: L') :=
  (((toSq z hh hz hc hn hl ha F w hst).ent Ent.swap).shut).ent Ent.swap
theorem SO.readable {ops : List Oper} {α : Type} {ρ : Rep α} {A : Option Addr} {n m : Nat} {l : List α} (hh : Take (sqAt false ρ A n m l) L L') (h : SO P rd N all ops T (slAt ρ A n l :: sqAt false ρ A n m l :: L') ks Q) : SO P rd N all ops T L ks Q :=
  SO.shift (fun F w hst => hst.ent (Ent.cons (hh.ent.trans sl_of_sq))) h
end
end Go.Sl
