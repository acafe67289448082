/- A part of a proof: what functions of the program compute. -/
import Derived.Test.YtmbfcjffjgecjaaGreatDoorDoc4E
set_option linter.unusedVariables false
set_option linter.unusedSimpArgs false
set_option maxHeartbeats 0
set_option maxRecDepth 20000
namespace Go.Proofs
attribute [local irreducible] Go.Sl.SO Go.Sl.SQ Go.Sl.SR Go.Sl.SC Go.Sl.SX Go.Sl.SY Go.Sl.eadr Go.Sl.slAt Go.Sl.sqAt Go.Sl.pts Go.Sl.rod Go.Sl.ob Go.Sl.ex Go.Sl.big Go.Sl.pr Go.Sl.tabs Go.Sl.mpAt
open Go.Sl
def NewD (z : DD) : Prop := z.room = 50000 ∧ z.lines = [] ∧ z.lasts = 0 ∧ z.l = [] ∧ z.sealed = 0 ∧ z.trimd = 0
abbrev nlE (A : Option Addr) (i c : Nat) (l : List DD) (db : Nat) : List HP := [sqAt false RPt A i c (l.map (·.sb)), pts db 0 [.int .i64 50000, .slice none 0 0, .int .i64 0]]
theorem dnewl_does (K : Nat) (hK : 1 ≤ K ∧ K ≤ 8) (R : Nat → Rc) : Does Tryz.prog 77 [.int .i64 (K : Int), .int .i64 50000] [] [] (Nat × DLg) (fun x => DI 50000 K 0 (fun _ => 0) R x.2) (fun x => .tuple #[.pointer (some ⟨x.1, 0, none⟩), .int .i64 0]) (fun x => dlAt x.1 x.2) := by
  refine Does.of Tryz.call77 Tryz.func77 rfl rfl rfl all_nil rfl ?_
  have h1 : decide ((K : Int) < 1) = false := decide_eq_false (by omega)
  have h2 : decide ((8 : Int) < (K : Int)) = false := decide_eq_false (by omega)
  have nd := dnewd_does 50000 (by decide)
  repeat' (first
 | refine SO.call (nd) rfl rfl rfl (by repeat constructor) (by repeat constructor) rfl (fun x hx => ?_)
 | refine SO.pure rfl rfl rfl ?_
 | refine SO.nil ?_
 | refine SO.guardY rfl rfl ?_
 | refine SO.build rfl rfl rfl rfl ?_
 | refine SK.seq ?_
 | refine SK.region ?_
 | refine SK.condF rfl ?_
 | refine SK.skip ?_
 | refine SK.block ?_
 | refine SO.box rfl rfl rfl (fun b => ?_)
 | refine SO.buildSlice rfl rfl rfl rfl rfl rfl (fun b => ?_)
 | refine SO.guardYP rfl rfl (by first | assumption | (simp only [Go.Sl.bl]; omega)) ?_
 | refine SK.condFP rfl (by first | assumption | (simp only [Go.Sl.bl]; omega)) ?_
 | fail)
  rename_i bm
  revert x
  intro ob
  revert b
  intro lq
  refine SK.shift (toSl (ρ := RSp) (b := bm) (l := [(0, (K : Int))]) [((0, (K : Int)), ())] (by repeat constructor) rfl rfl rfl rfl (by repeat constructor)) ?_
  refine SK.shift (fun F w hst => hst.ent (Ent.cons (ent_triv (A := sqAt false RPt none 0 0 [])))) ?_
  refine SK.shift (fun F w hst => hst.ent (Ent.cons (fam_nil (f := ddAt)))) ?_
  refine SK.loop (X := {y : Nat × Pl × List DD // y.1 ≤ 8 ∧ y.2.2.length = y.1 ∧ ∀ z ∈ y.2.2, NewD z}) (fun y => [(9, .int .i64 (y.1.1 : Int)), (8, .pointer (some ⟨lq, 0, none⟩)), (1, .int .i64 50000)]) (fun y => [pts lq 0 [.pointer (some ⟨ob, 0, none⟩), .slice y.1.2.1.1 y.1.1 y.1.2.1.2, .slice (some ⟨bm, 0, none⟩) 1 1, .int .i64 0, .int .i64 0, .slice none 0 0, .bool false], sqAt false RPt y.1.2.1.1 y.1.1 y.1.2.1.2 (y.1.2.2.map (·.sb)), slAt RSp (some ⟨bm, 0, none⟩) 1 [(0, (K : Int))], famA ddAt y.1.2.2]) (fun y => 8 - y.1.1) ⟨(0, (none, 0), []), Nat.zero_le _, rfl, fun z hz => by cases hz⟩ (by repeat constructor) (ent_append_of_takes (by repeat constructor)) ?_
  rintro ⟨⟨i, ⟨A, c⟩, segs⟩, hi0, hl0, hn0⟩
  have hi : i ≤ 8 := hi0
  have hl : segs.length = i := hl0
  have hn : ∀ z ∈ segs, NewD z := hn0
  dsimp only
  have hwi : IntKind.i64.wrap ((i : Int) + 1) = ((i + 1 : Nat) : Int) := by rw [wrap_id (by omega) (by omega)]; omega
  rcases Nat.lt_or_ge i 8 with hi8 | hi8
  · have hd1 : decide ((i : Int) < 8) = true := decide_eq_true (by omega)
    repeat' (first
 | refine SO.call (nd) rfl rfl rfl (by repeat constructor) (by repeat constructor) rfl (fun x hx => ?_)
 | refine SO.pure rfl rfl rfl ?_
 | refine SO.nil ?_
 | refine SK.seq ?_
 | refine SK.region ?_
 | refine SK.skip ?_
 | refine SK.block ?_
 | refine SK.condTP rfl (by first | assumption | (simp only [Go.Sl.bl]; omega)) ?_
 | fail)
    rename Nat => db
    have op := dopen0_does db 50000
    repeat' (first
 | refine SO.call (op) rfl rfl rfl (by repeat constructor) (by repeat constructor) rfl (fun x hx => ?_)
 | refine SO.nil ?_
 | refine SO.buildSlice rfl rfl rfl rfl rfl rfl (fun b => ?_)
 | refine SK.regionX 11 (.item 0 0 (.item 0 1 (.item 0 5 (.item 0 2 (.item 0 3 (.item 0 4 (.item 1 6 (.item 1 7 (.item 1 8 (.item 0 9 (.item 0 10 (.item 2 11 .nil)))))))))))) (nlE A i c segs db) (by repeat constructor) (by repeat (first | exact .nil | apply PersSub.s | apply PersSub.t | apply PersSub.p | apply PersSub.r | apply PersSub.skip)) (by kernel_rfl) (by kernel_rfl) (fun _ _ _ h => h) ?_
 | refine SX.pure rfl rfl rfl ?_
 | refine SX.load rfl (by repeat constructor) rfl (by rfl) (by exact ⟨rfl, by first | exact fun _ => rfl | exact (fun h => by cases h)⟩) rfl ?_
 | refine SX.step rfl rfl ?_
 | refine SK.invY ?_
 | refine SY.shareGo (by repeat (first | exact .nil | apply PersSub.s | apply PersSub.t | apply PersSub.p | apply PersSub.r | apply PersSub.skip)) ?_
 | refine SY.go ?_
 | fail)
    revert x
    intro sq
    repeat' (first
 | refine SO.append (ρ := RPt) (w := false) (ys := [sq]) rfl rfl (by repeat constructor) (Src.one (h := ()) (by repeat constructor) (by rfl) (by repeat constructor)) rfl rfl rfl rfl rfl rfl rfl (by unfold lim; omega) (fun A5 c5 => ?_)
 | refine SO.pure rfl rfl rfl ?_
 | refine SO.nil ?_
 | refine SK.region ?_
 | refine SK.blk ?_
 | refine SO.store rfl rfl (by repeat constructor) rfl (by rfl) rfl rfl (by rfl) (by rfl) ?_
 | refine SX.tail (by rfl) (by repeat (first | exact .nil | apply DropP.s | apply DropP.t | apply DropP.p | apply DropP.r | apply DropP.keep)) ?_
 | refine SX.pure rfl rfl rfl ?_
 | refine SK.invY ?_
 | refine SY.go ?_
 | fail)
    refine SK.inv ⟨⟨(i + 1, (A5, c5), segs ++ [⟨sq, db, (none, 0), (none, 0), 50000, [], 0, [], 0, 0⟩]), by show i + 1 ≤ 8; omega, by show (segs ++ [_]).length = i + 1; rw [List.length_append, hl]; rfl, ?_⟩, ?_, ?_, ?_⟩
    · intro z hz
      rcases List.mem_append.1 hz with hz | hz
      · exact hn z hz
      · simp at hz; subst hz; exact ⟨rfl, rfl, rfl, rfl, rfl, rfl⟩
    · show 8 - (i + 1) < 8 - i
      omega
    · rw [hwi]; repeat constructor
    · dsimp only
      rw [List.map_append]
      show Ent _ ([pts lq 0 [.pointer (some ⟨ob, 0, none⟩), .slice A5 (i + 1) c5, .slice (some ⟨bm, 0, none⟩) 1 1, .int .i64 0, .int .i64 0, .slice none 0 0, .bool false], sqAt false RPt A5 (i + 1) c5 (segs.map (·.sb) ++ [sq]), slAt RSp (some ⟨bm, 0, none⟩) 1 [(0, (K : Int))]] ++ [famA ddAt (segs ++ [(⟨sq, db, (none, 0), (none, 0), 50000, [], 0, [], 0, 0⟩ : DD)])])
      exact ent_famPush (f := ddAt) (by repeat constructor)
  · have hd1 : decide ((i : Int) < 8) = false := decide_eq_false (by omega)
    obtain rfl : i = 8 := by omega
    repeat' (first
 | refine SO.pure rfl rfl rfl ?_
 | refine SO.nil ?_
 | refine SK.seq ?_
 | refine SK.region ?_
 | refine SK.condF rfl ?_
 | refine SK.exit rfl ?_
 | fail)
    refine SK.share (ρ := RPt) (w' := false) (A := A) (n := 8) (m := c) (l := segs.map (·.sb)) (by repeat constructor) ?_
    refine SK.shift (fun F w hst => hst.ent (Ent.cons (ent_triv (A := slAt RI none 0 [])))) ?_
    refine SK.shift (fun F w hst => hst.ent (Ent.cons (ent_pr (p := ([] : List Int).length ≤ 0) (Nat.le_refl 0)))) ?_
    refine SK.retX (.tmp rfl (.tmp rfl .nil)) (lq, ⟨ob, (A, c), segs, (some ⟨bm, 0, none⟩, 1), [(0, (K : Int))], 0, 0, (none, 0), [], false⟩) ?_ rfl (by simp only [dlAt, dlHd, hl]; repeat constructor)
    refine ⟨rfl, hl, rfl, rfl, rfl, rfl, fun j z hz => ?_, fun p hp => absurd hp (Nat.not_lt_zero p), by decide⟩
    obtain ⟨n1, n2, n3, n4, n5, n6⟩ := hn z (List.mem_of_getElem? hz)
    exact ⟨n4, n2, n3, n5, n6, n1⟩
structure GoodR (R : Nat → Rc) (u : Nat) (cnt : Nat → Nat → Int) : Prop where
  hs : ∀ p, 0 ≤ (R p).site ∧ (R p).site ≤ 63
  hg : ∀ p v, p < u → (∀ i : Nat, getI v (i : Int) = cnt p i) → flawK v (R p) = 0 ∧ ∀ i : Nat, getI (withI v (R p).site.toNat (R p).seq) (i : Int) = cnt (p + 1) i
  hc0 : ∀ i, cnt 0 i = 0
  hlt : ∀ p v, p < u → (∀ i : Nat, getI v (i : Int) = cnt p i) → getI v (R p).site < (R p).seq ∧ getI v (R p).site + 1 = (R p).seq ∧ (0 < (R p).seq ∧ (R p).seq < 1000000) ∧ covI v (R p).dep = true
end Go.Proofs
