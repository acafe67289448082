/- A part of a proof: what functions of the program compute. -/
import Derived.Test.YtmbfcjffjgecjaaGreatDoorLog7E
set_option linter.unusedVariables false
set_option linter.unusedSimpArgs false
set_option maxHeartbeats 0
set_option maxRecDepth 20000
namespace Go.Proofs
attribute [local irreducible] Go.Sl.SO Go.Sl.SQ Go.Sl.SR Go.Sl.SC Go.Sl.SX Go.Sl.SY Go.Sl.eadr Go.Sl.slAt Go.Sl.sqAt Go.Sl.pts Go.Sl.rod Go.Sl.ob Go.Sl.ex Go.Sl.big Go.Sl.pr Go.Sl.tabs Go.Sl.mpAt Go.Sl.mitAt Go.Sl.mitN
open Go.Sl
theorem lall_does (lb : Nat) (f : Int) : Does Tryz.prog 71 [.pointer (some ⟨lb, 0, none⟩), .int .i64 f] [] [] (Nat × Nat) (fun _ => True) (fun x => .func (.func 122) #[] #[.pointer (some ⟨x.1, 0, none⟩), .pointer (some ⟨x.2, 0, none⟩)]) (fun x => [pts x.1 0 [.pointer (some ⟨lb, 0, none⟩)], pts x.2 0 [.int .i64 f]]) := by
  refine Does.of Tryz.call71 Tryz.func71 rfl rfl rfl all_nil rfl ?_
  repeat' (first
 | refine SO.pure rfl rfl rfl ?_
 | refine SO.nil ?_
 | refine SK.seq ?_
 | refine SK.region ?_
 | refine SO.box rfl rfl rfl (fun b => ?_)
 | fail)
  exact SK.retX (.tmp rfl .nil) (_, _) trivial rfl (by repeat constructor)
theorem lalliter (b1 b2 lb : Nat) (g : Lg) (f : Nat) (h : LgOk g) (hf : f ≤ g.trim) (ht : g.trim ≤ g.head) : Iter Tryz.prog 122 [.pointer (some ⟨b1, 0, none⟩), .pointer (some ⟨b2, 0, none⟩)] EPR g.rows [] (pts b1 0 [.pointer (some ⟨lb, 0, none⟩)] :: pts b2 0 [.int .i64 (f : Int)] :: lgAt lb g) (fun _ => lgAt lb g) (lgAt lb g) := by
  intro q J Jx hy
  refine Does.of Tryz.call122 Tryz.func122 rfl rfl rfl all_nil rfl ?_
  have hb := h.bd
  have hhl : g.head ≤ g.next := by
    unfold Lg.head
    split
    · omega
    · have := (headF_le g (g.next - g.trim) g.trim).2
      omega
  have he := lhead_does lb g h
  have hmx : (if (f : Int) < (g.trim : Int) then (g.trim : Int) else (f : Int)) = (g.trim : Int) := by split <;> omega
  have hrl := rows_len g
  repeat' (first
 | refine SO.call (he) rfl rfl rfl (by repeat constructor) (by repeat constructor) rfl (fun x hx => ?_)
 | refine SO.pure rfl rfl rfl ?_
 | refine SO.nil ?_
 | refine SO.load rfl (by repeat constructor) rfl (by rfl) (by exact ⟨rfl, by first | exact fun _ => rfl | exact (fun h => by cases h)⟩) rfl ?_
 | refine SK.seq ?_
 | refine SK.region ?_
 | refine SK.block ?_
 | refine SK.regionX 1 (.item 0 0 (.item 0 1 (.item 0 2 (.item 0 3 (.item 0 4 (.item 0 5 (.item 0 6 .nil))))))) [] .nil (by repeat (first | exact .nil | apply PersSub.s | apply PersSub.t | apply PersSub.p | apply PersSub.r | apply PersSub.skip)) (by kernel_rfl) (by kernel_rfl) (fun _ _ _ h => h) ?_
 | refine SX.tail (by rfl) (by repeat (first | exact .nil | apply DropP.s | apply DropP.t | apply DropP.p | apply DropP.r | apply DropP.keep)) ?_
 | refine SX.pure rfl rfl rfl ?_
 | refine SX.pure2 rfl rfl rfl ?_
 | refine SX.load rfl (by repeat constructor) rfl (by rfl) (by exact ⟨rfl, by first | exact fun _ => rfl | exact (fun h => by cases h)⟩) rfl ?_
 | fail)
  rw [hmx]
  refine SK.loop (X := {p : Nat // g.trim ≤ p ∧ p ≤ g.head}) (fun p => [(5, .int .i64 (p.1 : Int)), (4, .int .i64 (g.head : Int)), (1, .pointer (some ⟨b1, 0, none⟩)), (0, yv q)]) (fun p => [J (p.1 - g.trim), pts b1 0 [.pointer (some ⟨lb, 0, none⟩)]] ++ lgAt lb g) (fun p => g.head - p.1) ⟨g.trim, Nat.le_refl _, ht⟩ (by repeat constructor) (by rw [Nat.sub_self]; exact ent_append_of_takes (by repeat constructor)) ?_
  rintro ⟨p, hp1, hp2⟩
  dsimp only
  have hw : IntKind.i64.wrap ((p : Int) + 1) = ((p + 1 : Nat) : Int) := by rw [wrap_id (by omega) (by omega)]; omega
  rcases Nat.lt_or_ge p g.head with hlt | hge
  · have hd1 : decide ((p : Int) < (g.head : Int)) = true := decide_eq_true (by omega)
    obtain ⟨sx, hx⟩ := h.at_ (pos := (p : Int)) (by omega)
    have sg := lseg_does lb g (p : Int) sx h (by omega) hx
    have gt := sget_does sx.sb sx.db sx.mb sx.s p
    have hx0 := hx
    have hrc : g.rcd p = (sx.s.get p).1 := by unfold Lg.rcd; rw [hx]
    have hga : g.rows[p - g.trim]? = some ((p : Int), (sx.s.get p).1) := by
      have := rows_at (g := g) (i := p - g.trim) (by omega)
      rw [show g.trim + (p - g.trim) = p by omega, hrc] at this
      exact this
    generalize (sx.s.get (p : Int)).1 = rr at *
    refine SK.sbsOpen (k := stripeM g.m p) (by repeat constructor) hx ?_
    repeat' (first
 | refine SO.call (sg) rfl rfl rfl (by repeat constructor) (by repeat constructor) rfl (fun x hx => ?_)
 | refine SO.call (gt) rfl rfl rfl (by repeat constructor) (by repeat constructor) rfl (fun x hx => ?_)
 | refine SO.pure rfl rfl rfl ?_
 | refine SO.nil ?_
 | refine SO.loadW rfl (by repeat constructor) rfl rfl rfl (by rfl) rfl ?_
 | refine SO.load rfl (by repeat constructor) rfl (by rfl) (by exact ⟨rfl, by first | exact fun _ => rfl | exact (fun h => by cases h)⟩) rfl ?_
 | refine SK.seq ?_
 | refine SK.region ?_
 | refine SK.skip ?_
 | refine SK.block ?_
 | refine SO.alloc rfl rfl rfl (fun b => ?_)
 | refine SO.storeW rfl rfl (by repeat constructor) rfl (by rfl) (by rfl) (by rfl) ?_
 | refine SK.condTP rfl (by first | assumption | (simp only [Go.Sl.bl]; omega)) ?_
 | fail)
    rename Pl => px
    have hY := hy (p - g.trim) ((p : Int), rr) px hga
    refine SO.callF (vs := EPR.args ((p : Int), rr) px) rfl rfl hY (by repeat constructor) (by repeat constructor) rfl (fun r0 hr0 => ?_)
    cases r0
    · repeat' (first
 | refine SO.pure rfl rfl rfl ?_
 | refine SO.nil ?_
 | refine SK.condT rfl ?_
 | fail)
      refine SK.sbsBack (k := stripeM g.m p) sx hx0 (by repeat constructor) ?_
      exact SK.retX .nil (some (p - g.trim)) (fun j h => by cases h; rw [hrl]; omega) rfl (by repeat constructor)
    · repeat' (first
 | refine SO.pure rfl rfl rfl ?_
 | refine SO.nil ?_
 | refine SK.region ?_
 | refine SK.condF rfl ?_
 | refine SK.skip ?_
 | refine SK.blk ?_
 | fail)
      refine SK.inv ⟨⟨p + 1, by omega, by omega⟩, ?_, ?_, ?_⟩
      · show g.head - (p + 1) < g.head - p
        omega
      · rw [hw]; repeat constructor
      · rw [show p + 1 - g.trim = p - g.trim + 1 by omega]
        exact ent_lgC (C := [J (p - g.trim + 1), pts b1 0 [.pointer (some ⟨lb, 0, none⟩)]]) hx0 (by repeat constructor)
  · have hd1 : decide ((p : Int) < (g.head : Int)) = false := decide_eq_false (by omega)
    obtain rfl : p = g.head := by omega
    repeat' (first
 | refine SO.pure rfl rfl rfl ?_
 | refine SO.nil ?_
 | refine SK.seq ?_
 | refine SK.region ?_
 | refine SK.exit rfl ?_
 | refine SK.condFP rfl (by first | assumption | (simp only [Go.Sl.bl]; omega)) ?_
 | fail)
    rw [← hrl]
    exact SK.endX .nil none (fun _ h => by cases h) rfl (by repeat constructor)
theorem lrows_does (b1 b2 lb : Nat) (g : Lg) (f : Nat) (m : Int) (h : LgOk g) (hf : f ≤ g.trim) (ht : g.trim ≤ g.head) (hm : (g.rows.length : Int) ≤ m) : Does Tryz.prog 42 [.func (.func 122) #[] #[.pointer (some ⟨b1, 0, none⟩), .pointer (some ⟨b2, 0, none⟩)], .int .i64 m] [] (pts b1 0 [.pointer (some ⟨lb, 0, none⟩)] :: pts b2 0 [.int .i64 (f : Int)] :: lgAt lb g) (Pl × Pl) (fun x => g.rows.length ≤ x.1.2 ∧ g.rows.length ≤ x.2.2) (fun x => .tuple #[.slice x.1.1 g.rows.length x.1.2, .slice x.2.1 g.rows.length x.2.2, .bool true])
    (fun x => slAt RI x.1.1 g.rows.length (g.rows.map (·.1)) :: slAt RRec x.2.1 g.rows.length (g.rows.map (·.2)) :: lgAt lb g) := by
  refine Does.of Tryz.call42 Tryz.func42 rfl rfl rfl all_nil rfl ?_
  have hal : g.rows.length ≤ 1048576 := by
    rw [rows_len]
    have := h.bd
    have : g.head ≤ g.next := by
      unfold Lg.head
      split
      · omega
      · have := (headF_le g (g.next - g.trim) g.trim).2
        omega
    omega
  have it := lalliter b1 b2 lb g f h hf ht
  repeat' (first
 | refine SO.pure rfl rfl rfl ?_
 | refine SO.pure2 rfl rfl rfl ?_
 | refine SO.nil ?_
 | refine SK.seq ?_
 | refine SK.region ?_
 | refine SK.condF rfl ?_
 | refine SK.skip ?_
 | refine SK.block ?_
 | refine SO.alloc rfl rfl rfl (fun b => ?_)
 | refine SO.box rfl rfl rfl (fun b => ?_)
 | fail)
  rename_i b3 b4 b5 b6 b7
  refine SK.shift (fun F w hst => hst.ent (Ent.cons (((ent_triv (A := sqAt false RI none 0 0 [])).trans (ent_triv (A := sqAt false RRec none 0 0 []))).trans (ent_closeR (R := []) (A := fun y : Pl × Pl => big [pts b7 0 [.slice y.1.1 0 y.1.2], sqAt false RI y.1.1 0 y.1.2 [], pts b 0 [.slice y.2.1 0 y.2.2], sqAt false RRec y.2.1 0 y.2.2 []]) (x := (((none, 0), (none, 0)) : Pl × Pl)) rfl (by repeat constructor))))) ?_
  refine SK.range it Empty (fun i => [ex fun y : Pl × Pl => big [pts b7 0 [.slice y.1.1 i y.1.2], sqAt false RI y.1.1 i y.1.2 ((g.rows.take i).map (·.1)), pts b 0 [.slice y.2.1 i y.2.2], sqAt false RRec y.2.1 i y.2.2 ((g.rows.take i).map (·.2))], pts b3 0 [.int .i64 m]]) (fun _ => []) (fun y => y.elim) rfl .nil (by repeat constructor) rfl (fun _ _ => rfl) ?_ ?_ (fun y => y.elim)
  · rintro i ⟨k, rr⟩ hid q R hr
    have hil : i < g.rows.length := (List.getElem?_eq_some_iff.1 hr).1
    have hlm : i + 1 ≤ lim := by unfold lim; omega
    have hnm : ¬ m ≤ (i : Int) := by omega
    have e1 : (g.rows.take (i + 1)).map (·.1) = (g.rows.take i).map (·.1) ++ [k] := by rw [List.take_add_one, hr]; simp
    have e2 : (g.rows.take (i + 1)).map (·.2) = (g.rows.take i).map (·.2) ++ [rr] := by rw [List.take_add_one, hr]; simp
    refine SK.openEx (.there (.there .here)) (fun y => ?_)
    refine SK.openBig .here ?_
    repeat' (first
 | refine SO.pure rfl rfl rfl ?_
 | refine SO.nil ?_
 | refine SK.seq ?_
 | refine SK.region ?_
 | refine SO.alloc rfl rfl rfl (fun b => ?_)
 | refine SO.storeW rfl rfl (by repeat constructor) rfl (by rfl) (by rfl) (by rfl) ?_
 | fail)
    refine SK.inv ?_
    repeat' (first
 | refine SO.append (ρ := RI) (w := false) (ys := [k]) rfl rfl (by repeat constructor) (Src.one (h := ()) (by repeat constructor) (by rfl) (by repeat constructor)) rfl rfl rfl rfl rfl rfl rfl (by omega) (fun A3 c3 => ?_)
 | refine SO.append (ρ := RRec) (w := false) (ys := [rr]) rfl rfl (by repeat constructor) (Src.one (h := hid) (by repeat constructor) (by rfl) (by repeat constructor)) rfl rfl rfl rfl rfl rfl rfl (by omega) (fun A4 c4 => ?_)
 | refine SO.pure rfl rfl rfl ?_
 | refine SO.nil ?_
 | refine SO.loadW rfl (by repeat constructor) rfl rfl rfl (by rfl) rfl ?_
 | refine SO.load rfl (by repeat constructor) rfl (by rfl) (by exact ⟨rfl, by first | exact fun _ => rfl | exact (fun h => by cases h)⟩) rfl ?_
 | refine SK.seq ?_
 | refine SK.region ?_
 | refine SK.skip ?_
 | refine SK.block ?_
 | refine SK.blk ?_
 | refine SO.storeW rfl rfl (by repeat constructor) rfl (by rfl) (by rfl) (by rfl) ?_
 | refine SO.buildSlice rfl rfl rfl rfl rfl rfl (fun b => ?_)
 | refine SK.condFP rfl (by first | assumption | (simp only [Go.Sl.bl]; omega)) ?_
 | fail)
    refine SK.nil ?_
    rw [e1, e2]
    show Ent _ (busyA q R :: _)
    refine Ent.trans ?_ Ent.swap
    exact ent_close (R := [busyA q R, pts b3 0 [.int .i64 m]]) (x := (((A3, c3), (A4, c4)) : Pl × Pl)) rfl (by repeat constructor)
  · refine SK.blk ?_
    refine SK.openEx .here (fun y => ?_)
    refine SK.openBig .here ?_
    rw [List.take_length]
    refine SK.know (sq_len (w := false) (ρ := RI) (A := y.1.1) (n := g.rows.length) (c := y.1.2) (l := g.rows.map (·.1)) (by repeat constructor)) ?_
    rintro ⟨-, -, hc1, -⟩
    refine SK.know (sq_len (w := false) (ρ := RRec) (A := y.2.1) (n := g.rows.length) (c := y.2.2) (l := g.rows.map (·.2)) (by repeat constructor)) ?_
    rintro ⟨-, -, hc2, -⟩
    repeat' (first
 | refine SO.nil ?_
 | refine SK.seq ?_
 | refine SO.storeW rfl rfl (by repeat constructor) rfl (by rfl) (by rfl) (by rfl) ?_
 | refine SK.regionX 9 (.item 0 0 (.item 0 1 (.item 1 2 (.item 2 3 (.item 2 4 .nil))))) [] .nil (by repeat (first | exact .nil | apply PersSub.s | apply PersSub.t | apply PersSub.p | apply PersSub.r | apply PersSub.skip)) (by kernel_rfl) (by kernel_rfl) (fun _ _ _ h => h) ?_
 | refine SK.regionX 12 (.item 0 0 (.item 0 1 (.item 1 2 (.item 2 3 (.item 2 4 .nil))))) (rowsL b4 b5 b6) (by repeat constructor) (by repeat (first | exact .nil | apply PersSub.s | apply PersSub.t | apply PersSub.p | apply PersSub.r | apply PersSub.skip)) (by kernel_rfl) (by kernel_rfl) (fun _ _ _ h => h) ?_
 | refine SX.tail (by rfl) (by repeat (first | exact .nil | apply DropP.s | apply DropP.t | apply DropP.p | apply DropP.r | apply DropP.keep)) ?_
 | refine SX.load rfl (by repeat constructor) rfl (by rfl) (by exact ⟨rfl, by first | exact fun _ => rfl | exact (fun h => by cases h)⟩) rfl ?_
 | refine SX.step rfl rfl ?_
 | refine SK.invY ?_
 | refine SY.go ?_
 | fail)
    refine SK.share (ρ := RI) (w' := false) (A := y.1.1) (n := g.rows.length) (m := y.1.2) (l := g.rows.map (·.1)) (by repeat constructor) ?_
    refine SK.share (ρ := RRec) (w' := false) (A := y.2.1) (n := g.rows.length) (m := y.2.2) (l := g.rows.map (·.2)) (by repeat constructor) ?_
    exact SK.retX (.cell rfl (by repeat constructor) rfl rfl (by exact ⟨rfl, fun _ => rfl⟩) (.cell rfl (by repeat constructor) rfl rfl (by exact ⟨rfl, fun _ => rfl⟩) (.cell rfl (by repeat constructor) rfl rfl (by exact ⟨rfl, fun _ => rfl⟩) .nil))) y ⟨hc1, hc2⟩ rfl (by repeat constructor)
end Go.Proofs
