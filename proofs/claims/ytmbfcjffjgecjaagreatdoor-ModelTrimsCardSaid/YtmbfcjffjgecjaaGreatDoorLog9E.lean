/- A part of a proof: what functions of the program compute. -/
import Derived.Test.YtmbfcjffjgecjaaGreatDoorLog7E
set_option linter.unusedVariables false
set_option linter.unusedSimpArgs false
set_option maxHeartbeats 0
set_option maxRecDepth 20000
namespace Go.Proofs
attribute [local irreducible] Go.Sl.SO Go.Sl.SQ Go.Sl.SR Go.Sl.SC Go.Sl.SX Go.Sl.SY Go.Sl.eadr Go.Sl.slAt Go.Sl.sqAt Go.Sl.pts Go.Sl.rod Go.Sl.ob Go.Sl.ex Go.Sl.big Go.Sl.pr Go.Sl.tabs Go.Sl.mpAt Go.Sl.mitAt Go.Sl.mitN
open Go.Sl
theorem lall_does (lb : Nat) (f : Int) : Does Tryz.prog 71 [.pointer (some ⟨lb, 0, none⟩), .int .i64 f] [] [] (Nat × Nat) (fun _ => True) (fun x => .func (.func 122) #[] #[.pointer (some ⟨x.1, 0, none⟩), .pointer (some ⟨x.2, 0, none⟩)]) (fun x => [pts x.1 0 [.pointer (some ⟨lb, 0, none⟩)], pts x.2 0 [.int .i64 f]]) := by
  refine Does.of Tryz.call71 Tryz.func71 rfl rfl rfl all_nil rfl ?_
  repeat' (first
 | refine SO.pure rfl rfl rfl ?_
 | refine SO.nil ?_
 | refine SK.seq ?_
 | refine SK.region ?_
 | refine SO.box rfl rfl rfl (fun b => ?_)
 | fail)
  exact SK.retX (.tmp rfl .nil) (_, _) trivial rfl (by repeat constructor)
theorem lalliter (b1 b2 lb : Nat) (g : Lg) (f : Nat) (h : LgOk g) (hf : f ≤ g.trim) (ht : g.trim ≤ g.head) : Iter Tryz.prog 122 [.pointer (some ⟨b1, 0, none⟩), .pointer (some ⟨b2, 0, none⟩)] EPR g.rows [] (pts b1 0 [.pointer (some ⟨lb, 0, none⟩)] :: pts b2 0 [.int .i64 (f : Int)] :: lgAt lb g) (fun _ => lgAt lb g) (lgAt lb g) := by
  intro q J Jx hy
  refine Does.of Tryz.call122 Tryz.func122 rfl rfl rfl all_nil rfl ?_
  have hb := h.bd
  have hhl : g.head ≤ g.next := by
    unfold Lg.head
    split
    · omega
    · have := (headF_le g (g.next - g.trim) g.trim).2
      omega
  have he := lhead_does lb g h
  have hmx : (if (f : Int) < (g.trim : Int) then (g.trim : Int) else (f : Int)) = (g.trim : Int) := by split <;> omega
  have hrl := rows_len g
  repeat' (first
 | refine SO.call (he) rfl rfl rfl (by repeat constructor) (by repeat constructor) rfl (fun x hx => ?_)
 | refine SO.pure rfl rfl rfl ?_
 | refine SO.nil ?_
 | refine SO.load rfl (by repeat constructor) rfl (by rfl) (by exact ⟨rfl, by first | exact fun _ => rfl | exact (fun h => by cases h)⟩) rfl ?_
 | refine SK.seq ?_
 | refine SK.region ?_
 | refine SK.block ?_
 | refine SK.regionX 1 (.item 0 0 (.item 0 1 (.item 0 2 (.item 0 3 (.item 0 4 (.item 0 5 (.item 0 6 .nil))))))) [] .nil (by repeat (first | exact .nil | apply PersSub.s | apply PersSub.t | apply PersSub.p | apply PersSub.r | apply PersSub.skip)) (by kernel_rfl) (by kernel_rfl) (fun _ _ _ h => h) ?_
 | refine SX.tail (by rfl) (by repeat (first | exact .nil | apply DropP.s | apply DropP.t | apply DropP.p | apply DropP.r | apply DropP.keep)) ?_
 | refine SX.pure rfl rfl rfl ?_
 | refine SX.pure2 rfl rfl rfl ?_
 | refine SX.load rfl (by repeat constructor) rfl (by rfl) (by exact ⟨rfl, by first | exact fun _ => rfl | exact (fun h => by cases h)⟩) rfl ?_
 | fail)
  rw [hmx]
  refine SK.loop (X := {p : Nat // g.trim ≤ p ∧ p ≤ g.head}) (fun p => [(5, .int .i64 (p.1 : Int)), (4, .int .i64 (g.head : Int)), (1, .pointer (some ⟨b1, 0, none⟩)), (0, yv q)]) (fun p => [J (p.1 - g.trim), pts b1 0 [.pointer (some ⟨lb, 0, none⟩)]] ++ lgAt lb g) (fun p => g.head - p.1) ⟨g.trim, Nat.le_refl _, ht⟩ (by repeat constructor) (by rw [Nat.sub_self]; exact ent_append_of_takes (by repeat constructor)) ?_
  rintro ⟨p, hp1, hp2⟩
  dsimp only
  have hw : IntKind.i64.wrap ((p : Int) + 1) = ((p + 1 : Nat) : Int) := by rw [wrap_id (by omega) (by omega)]; omega
  rcases Nat.lt_or_ge p g.head with hlt | hge
  · have hd1 : decide ((p : Int) < (g.head : Int)) = true := decide_eq_true (by omega)
    obtain ⟨sx, hx⟩ := h.at_ (pos := (p : Int)) (by omega)
    have sg := lseg_does lb g (p : Int) sx h (by omega) hx
    have gt := sget_does sx.sb sx.db sx.mb sx.s p
    have hx0 := hx
    have hrc : g.rcd p = (sx.s.get p).1 := by unfold Lg.rcd; rw [hx]
    have hga : g.rows[p - g.trim]? = some ((p : Int), (sx.s.get p).1) := by
      have := rows_at (g := g) (i := p - g.trim) (by omega)
      rw [show g.trim + (p - g.trim) = p by omega, hrc] at this
      exact this
    generalize (sx.s.get (p : Int)).1 = rr at *
    refine SK.sbsOpen (k := stripeM g.m p) (by repeat constructor) hx ?_
    repeat' (first
 | refine SO.call (sg) rfl rfl rfl (by repeat constructor) (by repeat constructor) rfl (fun x hx => ?_)
 | refine SO.call (gt) rfl rfl rfl (by repeat constructor) (by repeat constructor) rfl (fun x hx => ?_)
 | refine SO.pure rfl rfl rfl ?_
 | refine SO.nil ?_
 | refine SO.loadW rfl (by repeat constructor) rfl rfl rfl (by rfl) rfl ?_
 | refine SO.load rfl (by repeat constructor) rfl (by rfl) (by exact ⟨rfl, by first | exact fun _ => rfl | exact (fun h => by cases h)⟩) rfl ?_
 | refine SK.seq ?_
 | refine SK.region ?_
 | refine SK.skip ?_
 | refine SK.block ?_
 | refine SO.alloc rfl rfl rfl (fun b => ?_)
 | refine SO.storeW rfl rfl (by repeat constructor) rfl (by rfl) (by rfl) (by rfl) ?_
 | refine SK.condTP rfl (by first | assumption | (simp only [Go.Sl.bl]; omega)) ?_
 | fail)
    rename Pl => px
    have hY := hy (p - g.trim) ((p : Int), rr) px hga
    refine SO.callF (vs := EPR.args ((p : Int), rr) px) rfl rfl hY (by repeat constructor) (by repeat constructor) rfl (fun r0 hr0 => ?_)
    cases r0
    · repeat' (first
 | refine SO.pure rfl rfl rfl ?_
 | refine SO.nil ?_
 | refine SK.condT rfl ?_
 | fail)
      refine SK.sbsBack (k := stripeM g.m p) sx hx0 (by repeat constructor) ?_
      exact SK.retX .nil (some (p - g.trim)) (fun j h => by cases h; rw [hrl]; omega) rfl (by repeat constructor)
    · repeat' (first
 | refine SO.pure rfl rfl rfl ?_
 | refine SO.nil ?_
 | refine SK.region ?_
 | refine SK.condF rfl ?_
 | refine SK.skip ?_
 | refine SK.blk ?_
 | fail)
      refine SK.inv ⟨⟨p + 1, by omega, by omega⟩, ?_, ?_, ?_⟩
      · show g.head - (p + 1) < g.head - p
        omega
      · rw [hw]; repeat constructor
      · rw [show p + 1 - g.trim = p - g.trim + 1 by omega]
        exact ent_lgC (C := [J (p - g.trim + 1), pts b1 0 [.pointer (some ⟨lb, 0, none⟩)]]) hx0 (by repeat constructor)
  · have hd1 : decide ((p : Int) < (g.head : Int)) = false := decide_eq_false (by omega)
    obtain rfl : p = g.head := by omega
    repeat' (first
 | refine SO.pure rfl rfl rfl ?_
 | refine SO.nil ?_
 | refine SK.seq ?_
 | refine SK.region ?_
 | refine SK.exit rfl ?_
 | refine SK.condFP rfl (by first | assumption | (simp only [Go.Sl.bl]; omega)) ?_
 | fail)
    rw [← hrl]
    exact SK.endX .nil none (fun _ h => by cases h) rfl (by repeat constructor)
end Go.Proofs
