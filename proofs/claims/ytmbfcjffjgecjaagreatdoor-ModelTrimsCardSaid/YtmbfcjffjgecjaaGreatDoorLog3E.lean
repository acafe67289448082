/- A part of a proof: what functions of the program compute. -/
import Derived.Test.YtmbfcjffjgecjaaGreatDoorLog2E
set_option linter.unusedVariables false
set_option linter.unusedSimpArgs false
set_option maxHeartbeats 0
set_option maxRecDepth 20000
namespace Go.Proofs
attribute [local irreducible] Go.Sl.SO Go.Sl.SQ Go.Sl.SR Go.Sl.SC Go.Sl.SX Go.Sl.SY Go.Sl.eadr Go.Sl.slAt Go.Sl.sqAt Go.Sl.pts Go.Sl.rod Go.Sl.ob Go.Sl.ex Go.Sl.big Go.Sl.pr Go.Sl.tabs Go.Sl.mpAt Go.Sl.mitAt Go.Sl.mitN
open Go.Sl
theorem lhead_does (lb : Nat) (g : Lg) (h : LgOk g) : Does Tryz.prog 61 [.pointer (some ⟨lb, 0, none⟩)] [] (lgAt lb g) Unit (fun _ => True) (fun _ => .int .i64 (g.head : Int)) (fun _ => lgAt lb g) := by
  refine Does.of Tryz.call61 Tryz.func61 rfl rfl rfl all_nil rfl ?_
  unfold Lg.head
  have hb := h.bd
  cases hd : g.down with
  | true =>
    rw [if_pos rfl]
    repeat' (first
 | refine SO.pure rfl rfl rfl ?_
 | refine SO.nil ?_
 | refine SO.load rfl (by repeat constructor) rfl (by rfl) (by exact ⟨rfl, by first | exact fun _ => rfl | exact (fun h => by cases h)⟩) rfl ?_
 | refine SK.seq ?_
 | refine SK.region ?_
 | refine SK.condTP rfl (by first | assumption | (simp only [Go.Sl.bl]; omega)) ?_
 | fail)
    exact SK.retX (.tmp rfl .nil) () trivial rfl (by repeat constructor)
  | false =>
    rw [if_neg (by decide)]
    repeat' (first
 | refine SO.pure rfl rfl rfl ?_
 | refine SO.nil ?_
 | refine SO.load rfl (by repeat constructor) rfl (by rfl) (by exact ⟨rfl, by first | exact fun _ => rfl | exact (fun h => by cases h)⟩) rfl ?_
 | refine SK.seq ?_
 | refine SK.region ?_
 | refine SK.skip ?_
 | refine SK.block ?_
 | refine SK.condFP rfl (by first | assumption | (simp only [Go.Sl.bl]; omega)) ?_
 | fail)
    refine SK.loop (X := {p : Nat // g.trim ≤ p ∧ p ≤ g.next ∧ headF g (g.next - p) p = headF g (g.next - g.trim) g.trim}) (fun p => [(3, .int .i64 (p.1 : Int)), (0, .pointer (some ⟨lb, 0, none⟩)), (2, .int .i64 0)]) (fun _ => lgAt lb g) (fun p => g.next - p.1) ⟨g.trim, Nat.le_refl _, hb.1, rfl⟩ (by repeat constructor) (ent_append_of_takes (by repeat constructor)) ?_
    rintro ⟨p, hp1, hp2, hp3⟩
    dsimp only
    have hw : IntKind.i64.wrap ((p : Int) + 1) = ((p + 1 : Nat) : Int) := by rw [wrap_id (by omega) (by omega)]; omega
    rcases Nat.lt_or_ge p g.next with hlt | hge
    · have hd2 : decide ((p : Int) < (g.next : Int)) = true := decide_eq_true (by omega)
      obtain ⟨sx, hx⟩ := h.at_ (pos := (p : Int)) (by omega)
      have sg := lseg_does lb g (p : Int) sx h (by omega) hx
      have ls := slasts_does sx.sb sx.db sx.mb sx.p sx.s sx.d (p : Int) (h.dk sx (List.mem_of_getElem? hx))
      have hx0 := hx
      have hgl : g.lasts p = sx.s.lastsAt sx.d p := by unfold Lg.lasts; rw [hx]
      have hstep : headF g (g.next - p) p = if g.lasts p = true then headF g (g.next - (p + 1)) (p + 1) else p := by
        obtain ⟨k, hk⟩ : ∃ k, g.next - p = k + 1 := ⟨g.next - p - 1, by omega⟩
        rw [hk, show g.next - (p + 1) = k by omega]; rfl
      refine SK.sbsOpen (k := stripeM g.m p) (by repeat constructor) hx ?_
      cases hla : sx.s.lastsAt sx.d p with
      | true =>
        rw [hla] at ls
        rw [hgl, hla, if_pos rfl] at hstep
        repeat' (first
 | refine SO.call (sg) rfl rfl rfl (by repeat constructor) (by repeat constructor) rfl (fun x hx => ?_)
 | refine SO.call (ls) rfl rfl rfl (by repeat constructor) (by repeat constructor) rfl (fun x hx => ?_)
 | refine SO.pure rfl rfl rfl ?_
 | refine SO.nil ?_
 | refine SO.load rfl (by repeat constructor) rfl (by rfl) (by exact ⟨rfl, by first | exact fun _ => rfl | exact (fun h => by cases h)⟩) rfl ?_
 | refine SK.seq ?_
 | refine SK.region ?_
 | refine SK.condF rfl ?_
 | refine SK.skip ?_
 | refine SK.block ?_
 | refine SK.blk ?_
 | refine SK.condTP rfl (by first | assumption | (simp only [Go.Sl.bl]; omega)) ?_
 | fail)
        refine SK.inv ⟨⟨p + 1, by omega, by omega, by rw [← hp3, hstep]⟩, ?_, ?_, ?_⟩
        · show g.next - (p + 1) < g.next - p
          omega
        · rw [hw]; repeat constructor
        · exact ent_lg hx0 (by repeat constructor)
      | false =>
        rw [hla] at ls
        rw [hgl, hla, if_neg (by decide)] at hstep
        repeat' (first
 | refine SO.call (sg) rfl rfl rfl (by repeat constructor) (by repeat constructor) rfl (fun x hx => ?_)
 | refine SO.call (ls) rfl rfl rfl (by repeat constructor) (by repeat constructor) rfl (fun x hx => ?_)
 | refine SO.pure rfl rfl rfl ?_
 | refine SO.nil ?_
 | refine SO.load rfl (by repeat constructor) rfl (by rfl) (by exact ⟨rfl, by first | exact fun _ => rfl | exact (fun h => by cases h)⟩) rfl ?_
 | refine SK.seq ?_
 | refine SK.region ?_
 | refine SK.condT rfl ?_
 | refine SK.skip ?_
 | refine SK.block ?_
 | refine SK.condTP rfl (by first | assumption | (simp only [Go.Sl.bl]; omega)) ?_
 | fail)
        refine SK.sbsBack (k := stripeM g.m p) sx hx0 (by repeat constructor) ?_
        exact SK.retX (.tmp rfl .nil) () trivial (by rw [← hp3, hstep]; rfl) (by repeat constructor)
    · have hd2 : decide ((p : Int) < (g.next : Int)) = false := decide_eq_false (by omega)
      have hpe : p = g.next := by omega
      subst hpe
      rw [Nat.sub_self] at hp3
      repeat' (first
 | refine SO.pure rfl rfl rfl ?_
 | refine SO.nil ?_
 | refine SO.load rfl (by repeat constructor) rfl (by rfl) (by exact ⟨rfl, by first | exact fun _ => rfl | exact (fun h => by cases h)⟩) rfl ?_
 | refine SK.seq ?_
 | refine SK.region ?_
 | refine SK.exit rfl ?_
 | refine SK.condFP rfl (by first | assumption | (simp only [Go.Sl.bl]; omega)) ?_
 | fail)
      exact SK.retX (.tmp rfl .nil) () trivial (by rw [← hp3]; rfl) (by repeat constructor)
end Go.Proofs
