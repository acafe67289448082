/- A part of a proof: what functions of the program compute. -/
import Derived.Test.YtmbfcjffjgecjaaGreatDoorDoc4E
set_option linter.unusedVariables false
set_option linter.unusedSimpArgs false
set_option maxHeartbeats 0
set_option maxRecDepth 20000
namespace Go.Proofs
attribute [local irreducible] Go.Sl.SO Go.Sl.SQ Go.Sl.SR Go.Sl.SC Go.Sl.SX Go.Sl.SY Go.Sl.eadr Go.Sl.slAt Go.Sl.sqAt Go.Sl.pts Go.Sl.rod Go.Sl.ob Go.Sl.ex Go.Sl.big Go.Sl.pr Go.Sl.tabs Go.Sl.mpAt
open Go.Sl
def NewD (z : DD) : Prop := z.room = 50000 ∧ z.lines = [] ∧ z.lasts = 0 ∧ z.l = [] ∧ z.sealed = 0 ∧ z.trimd = 0
abbrev nlE (A : Option Addr) (i c : Nat) (l : List DD) (db : Nat) : List HP := [sqAt false RPt A i c (l.map (·.sb)), pts db 0 [.int .i64 50000, .slice none 0 0, .int .i64 0]]
theorem dnewl_does (K : Nat) (hK : 1 ≤ K ∧ K ≤ 8) (R : Nat → Rc) : Does Tryz.prog 77 [.int .i64 (K : Int), .int .i64 50000] [] [] (Nat × DLg) (fun x => DI 50000 K 0 (fun _ => 0) R x.2) (fun x => .tuple #[.pointer (some ⟨x.1, 0, none⟩), .int .i64 0]) (fun x => dlAt x.1 x.2) := by
  refine Does.of Tryz.call77 Tryz.func77 rfl rfl rfl all_nil rfl ?_
  have h1 : decide ((K : Int) < 1) = false := decide_eq_false (by omega)
  have h2 : decide ((8 : Int) < (K : Int)) = false := decide_eq_false (by omega)
  have nd := dnewd_does 50000 (by decide)
  repeat' (first
 | refine SO.call (nd) rfl rfl rfl (by repeat constructor) (by repeat constructor) rfl (fun x hx => ?_)
 | refine SO.pure rfl rfl rfl ?_
 | refine SO.nil ?_
 | refine SO.guardY rfl rfl ?_
 | refine SO.build rfl rfl rfl rfl ?_
 | refine SK.seq ?_
 | refine SK.region ?_
 | refine SK.condF rfl ?_
 | refine SK.skip ?_
 | refine SK.block ?_
 | refine SO.box rfl rfl rfl (fun b => ?_)
 | refine SO.buildSlice rfl rfl rfl rfl rfl rfl (fun b => ?_)
 | refine SO.guardYP rfl rfl (by first | assumption | (simp only [Go.Sl.bl]; omega)) ?_
 | refine SK.condFP rfl (by first | assumption | (simp only [Go.Sl.bl]; omega)) ?_
 | fail)
  rename_i bm
  revert x
  intro ob
  revert b
  intro lq
  refine SK.shift (toSl (ρ := RSp) (b := bm) (l := [(0, (K : Int))]) [((0, (K : Int)), ())] (by repeat constructor) rfl rfl rfl rfl (by repeat constructor)) ?_
  refine SK.shift (fun F w hst => hst.ent (Ent.cons (ent_triv (A := sqAt false RPt none 0 0 [])))) ?_
  refine SK.shift (fun F w hst => hst.ent (Ent.cons (fam_nil (f := ddAt)))) ?_
  refine SK.loop (X := {y : Nat × Pl × List DD // y.1 ≤ 8 ∧ y.2.2.length = y.1 ∧ ∀ z ∈ y.2.2, NewD z}) (fun y => [(9, .int .i64 (y.1.1 : Int)), (8, .pointer (some ⟨lq, 0, none⟩)), (1, .int .i64 50000)]) (fun y => [pts lq 0 [.pointer (some ⟨ob, 0, none⟩), .slice y.1.2.1.1 y.1.1 y.1.2.1.2, .slice (some ⟨bm, 0, none⟩) 1 1, .int .i64 0, .int .i64 0, .slice none 0 0, .bool false], sqAt false RPt y.1.2.1.1 y.1.1 y.1.2.1.2 (y.1.2.2.map (·.sb)), slAt RSp (some ⟨bm, 0, none⟩) 1 [(0, (K : Int))], famA ddAt y.1.2.2]) (fun y => 8 - y.1.1) ⟨(0, (none, 0), []), Nat.zero_le _, rfl, fun z hz => by cases hz⟩ (by repeat constructor) (ent_append_of_takes (by repeat constructor)) ?_
  rintro ⟨⟨i, ⟨A, c⟩, segs⟩, hi0, hl0, hn0⟩
  have hi : i ≤ 8 := hi0
  have hl : segs.length = i := hl0
  have hn : ∀ z ∈ segs, NewD z := hn0
  dsimp only
  have hwi : IntKind.i64.wrap ((i : Int) + 1) = ((i + 1 : Nat) : Int) := by rw [wrap_id (by omega) (by omega)]; omega
  rcases Nat.lt_or_ge i 8 with hi8 | hi8
  · have hd1 : decide ((i : Int) < 8) = true := decide_eq_true (by omega)
    repeat' (first
 | refine SO.call (nd) rfl rfl rfl (by repeat constructor) (by repeat constructor) rfl (fun x hx => ?_)
 | refine SO.pure rfl rfl rfl ?_
 | refine SO.nil ?_
 | refine SK.seq ?_
 | refine SK.region ?_
 | refine SK.skip ?_
 | refine SK.block ?_
 | refine SK.condTP rfl (by first | assumption | (simp only [Go.Sl.bl]; omega)) ?_
 | fail)
    rename Nat => db
    have op := dopen0_does db 50000
    repeat' (first
 | refine SO.call (op) rfl rfl rfl (by repeat constructor) (by repeat constructor) rfl (fun x hx => ?_)
 | refine SO.nil ?_
 | refine SO.buildSlice rfl rfl rfl rfl rfl rfl (fun b => ?_)
 | refine SK.regionX 11 (.item 0 0 (.item 0 1 (.item 0 5 (.item 0 2 (.item 0 3 (.item 0 4 (.item 1 6 (.item 1 7 (.item 1 8 (.item 0 9 (.item 0 10 (.item 2 11 .nil)))))))))))) (nlE A i c segs db) (by repeat constructor) (by repeat (first | exact .nil | apply PersSub.s | apply PersSub.t | apply PersSub.p | apply PersSub.r | apply PersSub.skip)) (by kernel_rfl) (by kernel_rfl) (fun _ _ _ h => h) ?_
 | refine SX.pure rfl rfl rfl ?_
 | refine SX.load rfl (by repeat constructor) rfl (by rfl) (by exact ⟨rfl, by first | exact fun _ => rfl | exact (fun h => by cases h)⟩) rfl ?_
 | refine SX.step rfl rfl ?_
 | refine SK.invY ?_
 | refine SY.shareGo (by repeat (first | exact .nil | apply PersSub.s | apply PersSub.t | apply PersSub.p | apply PersSub.r | apply PersSub.skip)) ?_
 | refine SY.go ?_
 | fail)
    revert x
    intro sq
    repeat' (first
 | refine SO.append (ρ := RPt) (w := false) (ys := [sq]) rfl rfl (by repeat constructor) (Src.one (h := ()) (by repeat constructor) (by rfl) (by repeat constructor)) rfl rfl rfl rfl rfl rfl rfl (by unfold lim; omega) (fun A5 c5 => ?_)
 | refine SO.pure rfl rfl rfl ?_
 | refine SO.nil ?_
 | refine SK.region ?_
 | refine SK.blk ?_
 | refine SO.store rfl rfl (by repeat constructor) rfl (by rfl) rfl rfl (by rfl) (by rfl) ?_
 | refine SX.tail (by rfl) (by repeat (first | exact .nil | apply DropP.s | apply DropP.t | apply DropP.p | apply DropP.r | apply DropP.keep)) ?_
 | refine SX.pure rfl rfl rfl ?_
 | refine SK.invY ?_
 | refine SY.go ?_
 | fail)
    refine SK.inv ⟨⟨(i + 1, (A5, c5), segs ++ [⟨sq, db, (none, 0), (none, 0), 50000, [], 0, [], 0, 0⟩]), by show i + 1 ≤ 8; omega, by show (segs ++ [_]).length = i + 1; rw [List.length_append, hl]; rfl, ?_⟩, ?_, ?_, ?_⟩
    · intro z hz
      rcases List.mem_append.1 hz with hz | hz
      · exact hn z hz
      · simp at hz; subst hz; exact ⟨rfl, rfl, rfl, rfl, rfl, rfl⟩
    · show 8 - (i + 1) < 8 - i
      omega
    · rw [hwi]; repeat constructor
    · dsimp only
      rw [List.map_append]
      show Ent _ ([pts lq 0 [.pointer (some ⟨ob, 0, none⟩), .slice A5 (i + 1) c5, .slice (some ⟨bm, 0, none⟩) 1 1, .int .i64 0, .int .i64 0, .slice none 0 0, .bool false], sqAt false RPt A5 (i + 1) c5 (segs.map (·.sb) ++ [sq]), slAt RSp (some ⟨bm, 0, none⟩) 1 [(0, (K : Int))]] ++ [famA ddAt (segs ++ [(⟨sq, db, (none, 0), (none, 0), 50000, [], 0, [], 0, 0⟩ : DD)])])
      exact ent_famPush (f := ddAt) (by repeat constructor)
  · have hd1 : decide ((i : Int) < 8) = false := decide_eq_false (by omega)
    obtain rfl : i = 8 := by omega
    repeat' (first
 | refine SO.pure rfl rfl rfl ?_
 | refine SO.nil ?_
 | refine SK.seq ?_
 | refine SK.region ?_
 | refine SK.condF rfl ?_
 | refine SK.exit rfl ?_
 | fail)
    refine SK.share (ρ := RPt) (w' := false) (A := A) (n := 8) (m := c) (l := segs.map (·.sb)) (by repeat constructor) ?_
    refine SK.shift (fun F w hst => hst.ent (Ent.cons (ent_triv (A := slAt RI none 0 [])))) ?_
    refine SK.shift (fun F w hst => hst.ent (Ent.cons (ent_pr (p := ([] : List Int).length ≤ 0) (Nat.le_refl 0)))) ?_
    refine SK.retX (.tmp rfl (.tmp rfl .nil)) (lq, ⟨ob, (A, c), segs, (some ⟨bm, 0, none⟩, 1), [(0, (K : Int))], 0, 0, (none, 0), [], false⟩) ?_ rfl (by simp only [dlAt, dlHd, hl]; repeat constructor)
    refine ⟨rfl, hl, rfl, rfl, rfl, rfl, fun j z hz => ?_, fun p hp => absurd hp (Nat.not_lt_zero p), by decide⟩
    obtain ⟨n1, n2, n3, n4, n5, n6⟩ := hn z (List.mem_of_getElem? hz)
    exact ⟨n4, n2, n3, n5, n6, n1⟩
theorem dflaws_does (V A B : Option Addr) (vc nc mc : Nat) (u c2 : Nat) (R : Nat → Rc) (at0 : List Int) (cnt : Nat → Nat → Int) (hu : u ≤ 1000) (hs : ∀ p, 0 ≤ (R p).site ∧ (R p).site ≤ 63) (hg : ∀ p v, p < u → (∀ i : Nat, getI v (i : Int) = cnt p i) → flawK v (R p) = 0 ∧ ∀ i : Nat, getI (withI v (R p).site.toNat (R p).seq) (i : Int) = cnt (p + 1) i) (hc0 : ∀ i, cnt 0 i = 0) (hlt : ∀ p v, p < u → (∀ i : Nat, getI v (i : Int) = cnt p i) → getI v (R p).site < (R p).seq ∧ getI v (R p).site + 1 = (R p).seq ∧ (0 < (R p).seq ∧ (R p).seq < 1000000) ∧ covI v (R p).dep = true) :
    Does Tryz.prog 83 [.slice V 0 vc, .slice A u nc, .slice B u mc] [slAt RI V 0 [], slAt RRec B u (recsD R u)] [] Unit (fun _ => True) (fun _ => .slice none 0 0) (fun _ => []) := by
  refine Does.of Tryz.call83 Tryz.func83 rfl rfl rfl (all_cons (pers_slAt _ _ _ _) (all_cons (pers_slAt _ _ _ _) all_nil)) rfl ?_
  repeat' (first
 | refine SO.pure rfl rfl rfl ?_
 | refine SO.nil ?_
 | refine SK.seq ?_
 | refine SK.region ?_
 | refine SK.block ?_
 | fail)
  refine SK.loop (X := {y : Nat × Pl // y.1 ≤ u}) (fun y => [(8, .int .i64 (y.1.1 : Int)), (7, .slice none 0 0), (0, .slice y.1.2.1 (vecR R y.1.1 0 []).length y.1.2.2), (2, .slice B u mc)]) (fun y => [slAt RI y.1.2.1 (vecR R y.1.1 0 []).length (vecR R y.1.1 0 []), slAt RRec B u (recsD R u)]) (fun y => u - y.1.1) ⟨(0, (V, vc)), Nat.zero_le _⟩ (by repeat constructor) (ent_append_of_takes (by repeat constructor)) ?_
  have hcnt : ∀ p, p ≤ u → ∀ i : Nat, getI (vecR R p 0 []) (i : Int) = cnt p i := by
    intro p
    induction p with
    | zero =>
      intro _ i
      rw [hc0]
      show getI [] (i : Int) = 0
      unfold getI; split <;> simp
    | succ p ih =>
      intro hp i
      rw [vecR_snoc, Nat.zero_add]
      exact (hg p _ (by omega) (ih (by omega))).2 i
  rintro ⟨⟨p, A1, c1⟩, hp0⟩
  have hp : p ≤ u := hp0
  dsimp only
  have hwp : IntKind.i64.wrap ((p : Int) + 1) = ((p + 1 : Nat) : Int) := by rw [wrap_id (by omega) (by omega)]; omega
  rcases Nat.lt_or_ge p u with hpu | hpu
  · have hd1 : decide ((p : Int) < (u : Int)) = true := decide_eq_true (by omega)
    have hr : (recsD R u)[p]? = some (R p) := by unfold recsD; rw [List.getElem?_map, List.getElem?_range hpu]; rfl
    obtain ⟨k1, k2, k3, k4⟩ := hlt p _ hpu (hcnt p hp)
    have hvl := vecR_len R hs p 0 [] (by decide)
    have hsp := hs p
    have es : withI (vecR R p 0 []) (R p).site.toNat (R p).seq = vecR R (p + 1) 0 [] := by rw [vecR_snoc, Nat.zero_add]
    have vg := rget_does A1 (vecR R p 0 []).length c1 (vecR R p 0 []) (R p).site
    have wt := dwith_does A1 (vecR R p 0 []).length c1 (vecR R p 0 []) (R p).site.toNat (R p).seq (by omega) (by omega)
    rw [es, show (((R p).site.toNat : Nat) : Int) = (R p).site by omega] at wt
    generalize vecR R p 0 [] = v at *
    have e1 : decide ((R p).seq ≤ getI v (R p).site) = false := decide_eq_false (by omega)
    have e2 : (!decide ((R p).seq = IntKind.i64.wrap (getI v (R p).site + 1))) = false := by rw [wrap_id (by omega) (by omega)]; simp; omega
    have e3 : decide (getI v (R p).site < (R p).seq) = true := decide_eq_true k1
    have cv := fun (h : Pl) => rcov_does A1 h.1 v.length c1 (R p).dep.length h.2 v (R p).dep
    rw [k4] at cv
    repeat' (first
 | refine SO.call (vg) rfl rfl rfl (by repeat constructor) (by repeat constructor) rfl (fun x hx => ?_)
 | refine SO.call (wt) rfl rfl rfl (by repeat constructor) (by repeat constructor) rfl (fun x hx => ?_)
 | refine SO.call (cv _) rfl rfl rfl (by repeat constructor) (by repeat constructor) rfl (fun x hx => ?_)
 | refine SO.indexH rfl rfl (by repeat constructor) rfl rfl rfl rfl (by assumption) ?_
 | refine SO.pure rfl rfl rfl ?_
 | refine SO.nil ?_
 | refine SO.load rfl (by repeat constructor) rfl (by rfl) (by exact ⟨rfl, by first | exact fun _ => rfl | exact (fun h => by cases h)⟩) rfl ?_
 | refine SO.eloadW rfl (by repeat constructor) (by assumption) rfl (by rfl) rfl (by rfl) rfl (fun hid => ?_)
 | refine SK.seq ?_
 | refine SK.region ?_
 | refine SK.condF rfl ?_
 | refine SK.skip ?_
 | refine SK.block ?_
 | refine SK.blk ?_
 | refine SO.alloc rfl rfl rfl (fun b => ?_)
 | refine SO.storeW rfl rfl (by repeat constructor) rfl (by rfl) (by rfl) (by rfl) ?_
 | refine SK.condTP rfl (by first | assumption | (simp only [Go.Sl.bl]; omega)) ?_
 | refine SK.condFP rfl (by first | assumption | (simp only [Go.Sl.bl]; omega)) ?_
 | refine SK.regionX 7 (.item 0 0 (.item 0 2 (.item 0 3 (.item 0 1 (.item 0 4 (.item 1 5 (.item 0 6 (.item 0 7 .nil)))))))) [] .nil (by repeat (first | exact .nil | apply PersSub.s | apply PersSub.t | apply PersSub.p | apply PersSub.r | apply PersSub.skip)) (by kernel_rfl) (by kernel_rfl) (fun _ _ _ h => h) ?_
 | refine SK.regionX 9 (.item 0 0 (.item 0 2 (.item 0 3 (.item 0 1 (.item 0 4 (.item 1 5 (.item 0 6 (.item 0 7 (.item 0 8 .nil))))))))) [] .nil (by repeat (first | exact .nil | apply PersSub.s | apply PersSub.t | apply PersSub.p | apply PersSub.r | apply PersSub.skip)) (by kernel_rfl) (by kernel_rfl) (fun _ _ _ h => h) ?_
 | refine SK.regionX 15 (.item 0 0 (.item 0 2 (.item 0 3 (.item 0 1 (.item 0 4 (.item 1 5 (.item 0 6 .nil))))))) [] .nil (by repeat (first | exact .nil | apply PersSub.s | apply PersSub.t | apply PersSub.p | apply PersSub.r | apply PersSub.skip)) (by kernel_rfl) (by kernel_rfl) (fun _ _ _ h => h) ?_
 | refine SX.tail (by rfl) (by repeat (first | exact .nil | apply DropP.s | apply DropP.t | apply DropP.p | apply DropP.r | apply DropP.keep)) ?_
 | refine SX.pure rfl rfl rfl ?_
 | refine SX.load rfl (by repeat constructor) rfl (by rfl) (by exact ⟨rfl, by first | exact fun _ => rfl | exact (fun h => by cases h)⟩) rfl ?_
 | refine SX.step rfl rfl ?_
 | refine SK.invY ?_
 | refine SY.shareGo (by repeat (first | exact .nil | apply PersSub.s | apply PersSub.t | apply PersSub.p | apply PersSub.r | apply PersSub.skip)) ?_
 | fail)
    rename Pl => y9
    refine SK.inv ⟨⟨(p + 1, y9), by show p + 1 ≤ u; omega⟩, ?_, ?_, ?_⟩
    · show u - (p + 1) < u - p
      omega
    · rw [hwp]; repeat constructor
    · exact ent_append_of_takes (by repeat constructor)
  · have hd1 : decide ((p : Int) < (u : Int)) = false := decide_eq_false (by omega)
    repeat' (first
 | refine SO.pure rfl rfl rfl ?_
 | refine SO.nil ?_
 | refine SK.seq ?_
 | refine SK.region ?_
 | refine SK.exit rfl ?_
 | refine SK.condFP rfl (by first | assumption | (simp only [Go.Sl.bl]; omega)) ?_
 | fail)
    exact SK.retX (.tmp rfl .nil) () trivial rfl (by repeat constructor)
structure GoodR (R : Nat → Rc) (u : Nat) (cnt : Nat → Nat → Int) : Prop where
  hs : ∀ p, 0 ≤ (R p).site ∧ (R p).site ≤ 63
  hg : ∀ p v, p < u → (∀ i : Nat, getI v (i : Int) = cnt p i) → flawK v (R p) = 0 ∧ ∀ i : Nat, getI (withI v (R p).site.toNat (R p).seq) (i : Int) = cnt (p + 1) i
  hc0 : ∀ i, cnt 0 i = 0
  hlt : ∀ p v, p < u → (∀ i : Nat, getI v (i : Int) = cnt p i) → getI v (R p).site < (R p).seq ∧ getI v (R p).site + 1 = (R p).seq ∧ (0 < (R p).seq ∧ (R p).seq < 1000000) ∧ covI v (R p).dep = true
theorem dright_does (lb : Nat) (d : DLg) (K c u : Nat) (R : Nat → Rc) (cnt : Nat → Nat → Int) (hK : 1 ≤ K ∧ K ≤ 8) (hd : DI 50000 K c (fun _ => u) R d) (hu : u ≤ c) (hg : GoodR R u cnt) : Does Tryz.prog 21 [.pointer (some ⟨lb, 0, none⟩)] [] (dlAt lb d) Unit (fun _ => True) (fun _ => .bool true) (fun _ => dlAt lb d) := by
  refine Does.of Tryz.call21 Tryz.func21 rfl rfl rfl all_nil rfl ?_
  have ro := drows_does lb d K c u R hK hd hu
  have hcb := hd.cb
  have fl := fun (y : Pl × Pl) => dflaws_does d.vA.1 y.1.1 y.2.1 d.vA.2 y.1.2 y.2.2 u 0 R [] cnt (by omega) hg.hs hg.hg hg.hc0 hg.hlt
  have hv := hd.v
  obtain ⟨ob, sA, segs, mA, m, next, trim, vA, v, down⟩ := d
  obtain rfl : v = [] := hv
  dsimp only at fl
  repeat' (first
 | refine SO.call (ro) rfl rfl rfl (by repeat constructor) (by repeat constructor) rfl (fun x hx => ?_)
 | refine SO.call (fl _) rfl rfl rfl (by repeat constructor) (by repeat constructor) rfl (fun x hx => ?_)
 | refine SO.pure rfl rfl rfl ?_
 | refine SO.nil ?_
 | refine SO.load rfl (by repeat constructor) rfl (by rfl) (by exact ⟨rfl, by first | exact fun _ => rfl | exact (fun h => by cases h)⟩) rfl ?_
 | refine SK.seq ?_
 | refine SK.region ?_
 | fail)
  exact SK.retX (.tmp rfl .nil) () trivial rfl (by repeat constructor)
def agreeD (x y : List Rc) : Bool := x.all fun a => y.all fun b => !(decide (a.site = b.site) && decide (a.seq = b.seq) && !sameR a b)
theorem dagree_does (la lb : Nat) (d e : DLg) (K M c1 c2 u1 u2 : Nat) (R S : Nat → Rc) (hK : 1 ≤ K ∧ K ≤ 8) (hM : 1 ≤ M ∧ M ≤ 8) (hd : DI 50000 K c1 (fun _ => u1) R d) (he : DI 50000 M c2 (fun _ => u2) S e) (h1 : u1 ≤ c1) (h2 : u2 ≤ c2) : Does Tryz.prog 23 [.pointer (some ⟨la, 0, none⟩), .pointer (some ⟨lb, 0, none⟩)] [] (dlAt la d ++ dlAt lb e) Unit (fun _ => True) (fun _ => .bool (agreeD (recsD R u1) (recsD S u2))) (fun _ => dlAt la d ++ dlAt lb e) := by
  refine Does.of Tryz.call23 Tryz.func23 rfl rfl rfl all_nil rfl ?_
  have r1 := drows_does la d K c1 u1 R hK hd h1
  have r2 := drows_does lb e M c2 u2 S hM he h2
  have hcb := hd.cb
  have hcb2 := he.cb
  have hlR : ∀ (R : Nat → Rc) (u : Nat), (recsD R u).length = u := fun R u => by unfold recsD; simp
  repeat' (first
 | refine SO.call (r1) rfl rfl rfl (by repeat constructor) (by repeat constructor) rfl (fun x hx => ?_)
 | refine SO.call (r2) rfl rfl rfl (by repeat constructor) (by repeat constructor) rfl (fun x hx => ?_)
 | refine SO.pure rfl rfl rfl ?_
 | refine SO.nil ?_
 | refine SK.seq ?_
 | refine SK.region ?_
 | refine SK.block ?_
 | fail)
  rename Pl × Pl => y2
  revert x
  intro y1 hx9
  refine SK.loop (X := {i : Nat // i ≤ u1 ∧ agreeD ((recsD R u1).take i) (recsD S u2) = true}) (fun i => [(9, .int .i64 (i.1 : Int)), (6, .slice y1.2.1 u1 y1.2.2), (8, .slice y2.2.1 u2 y2.2.2)]) (fun i => [slAt RRec y1.2.1 u1 (recsD R u1), slAt RRec y2.2.1 u2 (recsD S u2)] ++ (dlAt la d ++ dlAt lb e)) (fun i => u1 - i.1) ⟨0, Nat.zero_le _, rfl⟩ (by repeat constructor) (ent_append_of_takes (by repeat constructor)) ?_
  rintro ⟨i, hi, hai⟩
  dsimp only
  have hwi : IntKind.i64.wrap ((i : Int) + 1) = ((i + 1 : Nat) : Int) := by rw [wrap_id (by omega) (by omega)]; omega
  rcases Nat.lt_or_ge i u1 with hil | hil
  · have hd1 : decide ((i : Int) < (u1 : Int)) = true := decide_eq_true (by omega)
    obtain ⟨a, ha⟩ : ∃ a, (recsD R u1)[i]? = some a := ⟨_, List.getElem?_eq_getElem (by rw [hlR]; exact hil)⟩
    repeat' (first
 | refine SO.pure rfl rfl rfl ?_
 | refine SO.nil ?_
 | refine SK.seq ?_
 | refine SK.region ?_
 | refine SK.skip ?_
 | refine SK.block ?_
 | refine SK.condTP rfl (by first | assumption | (simp only [Go.Sl.bl]; omega)) ?_
 | fail)
    refine SK.loop (X := {k : Nat // k ≤ u2 ∧ agreeD [a] ((recsD S u2).take k) = true}) (fun k => [(10, .int .i64 (k.1 : Int)), (9, .int .i64 (i : Int)), (6, .slice y1.2.1 u1 y1.2.2), (8, .slice y2.2.1 u2 y2.2.2)]) (fun k => [slAt RRec y1.2.1 u1 (recsD R u1), slAt RRec y2.2.1 u2 (recsD S u2)] ++ (dlAt la d ++ dlAt lb e)) (fun k => u2 - k.1) ⟨0, Nat.zero_le _, rfl⟩ (by repeat constructor) (ent_append_of_takes (by repeat constructor)) ?_
    rintro ⟨k, hk, hak⟩
    dsimp only
    have hwk : IntKind.i64.wrap ((k : Int) + 1) = ((k + 1 : Nat) : Int) := by rw [wrap_id (by omega) (by omega)]; omega
    rcases Nat.lt_or_ge k u2 with hkl | hkl
    · have hd2 : decide ((k : Int) < (u2 : Int)) = true := decide_eq_true (by omega)
      obtain ⟨b2, hb2⟩ : ∃ a, (recsD S u2)[k]? = some a := ⟨_, List.getElem?_eq_getElem (by rw [hlR]; exact hkl)⟩
      have sm := fun x y => rsame_does a b2 x y
      have hst : agreeD [a] ((recsD S u2).take (k + 1)) = !(decide (a.site = b2.site) && decide (a.seq = b2.seq) && !sameR a b2) := by
        unfold agreeD at hak ⊢
        simp only [List.all_cons, List.all_nil, Bool.and_true] at hak ⊢
        rw [List.take_add_one, hb2, List.all_append, hak]
        simp
      by_cases q1 : a.site = b2.site
      · have e1 : decide (a.site = b2.site) = true := decide_eq_true q1
        by_cases q2 : a.seq = b2.seq
        · have e2 : decide (a.seq = b2.seq) = true := decide_eq_true q2
          cases q3 : sameR a b2 with
          | true =>
            rw [q3] at sm
            rw [e1, e2, q3] at hst
            repeat' (first
 | refine SO.call (sm _ _) rfl rfl rfl (by repeat constructor) (by repeat constructor) rfl (fun x hx => ?_)
 | refine SO.pure rfl rfl rfl ?_
 | refine SO.nil ?_
 | refine SK.seq ?_
 | refine SK.region ?_
 | refine SK.condF rfl ?_
 | refine SK.skip ?_
 | refine SK.block ?_
 | refine SK.blk ?_
 | refine SK.condTP rfl (by first | assumption | (simp only [Go.Sl.bl]; omega)) ?_
 | refine SK.regionX 9 (.item 0 0 (.item 0 1 (.item 0 5 (.item 0 6 (.item 0 2 (.item 0 7 (.item 0 3 (.item 0 8 (.item 0 4 (.item 0 9 (.item 0 10 (.item 0 11 (.item 0 12 (.item 0 13 (.item 0 17 (.item 0 18 (.item 0 14 (.item 0 19 (.item 0 15 (.item 0 20 (.item 0 16 (.item 0 21 (.item 0 22 (.item 0 23 (.item 0 24 (.item 0 25 (.item 0 26 (.item 0 29 (.item 0 30 (.item 0 27 (.item 0 31 (.item 0 28 (.item 0 32 (.item 2 33 (.item 0 34 (.item 0 35 .nil)))))))))))))))))))))))))))))))))))) [] .nil (by repeat (first | exact .nil | apply PersSub.s | apply PersSub.t | apply PersSub.p | apply PersSub.r | apply PersSub.skip)) (by kernel_rfl) (by kernel_rfl) (fun _ _ _ h => h) ?_
 | refine SX.tail (by rfl) (by repeat (first | exact .nil | apply DropP.s | apply DropP.t | apply DropP.p | apply DropP.r | apply DropP.keep)) ?_
 | refine SX.indexH rfl rfl (by repeat constructor) rfl rfl rfl rfl (by assumption) ?_
 | refine SX.pure rfl rfl rfl ?_
 | refine SX.guardY rfl rfl ?_
 | refine SX.efield rfl rfl rfl rfl rfl ?_
 | refine SX.eloadW rfl (by repeat constructor) (by assumption) rfl (by rfl) rfl (by rfl) rfl (fun hid => ?_)
 | refine SX.eload rfl (by repeat constructor) (by assumption) rfl (by rfl) (by exact fun _ => ⟨rfl, fun _ => rfl⟩) rfl (fun hid => ?_)
 | refine SX.eload rfl (by repeat constructor) (by assumption) rfl (by rfl) (by exact fun _ => ⟨rfl, fun h => by cases h⟩) rfl (fun hid => ?_)
 | refine SX.guardYP rfl rfl (by first | assumption | (simp only [Go.Sl.bl]; omega)) ?_
 | refine SX.step rfl rfl ?_
 | refine SK.invY ?_
 | refine SY.shareGo (by repeat (first | exact .nil | apply PersSub.s | apply PersSub.t | apply PersSub.p | apply PersSub.r | apply PersSub.skip)) ?_
 | fail)
            refine SK.inv ⟨⟨k + 1, by omega, by rw [hst]; rfl⟩, ?_, ?_, ?_⟩
            · show u2 - (k + 1) < u2 - k
              omega
            · rw [hwk]; repeat constructor
            · exact ent_append_of_takes (by repeat constructor)
          | false =>
            rw [q3] at sm
            repeat' (first
 | refine SO.call (sm _ _) rfl rfl rfl (by repeat constructor) (by repeat constructor) rfl (fun x hx => ?_)
 | refine SO.pure rfl rfl rfl ?_
 | refine SO.nil ?_
 | refine SK.seq ?_
 | refine SK.region ?_
 | refine SK.condT rfl ?_
 | refine SK.skip ?_
 | refine SK.block ?_
 | refine SK.condTP rfl (by first | assumption | (simp only [Go.Sl.bl]; omega)) ?_
 | refine SK.regionX 9 (.item 0 0 (.item 0 1 (.item 0 5 (.item 0 6 (.item 0 2 (.item 0 7 (.item 0 3 (.item 0 8 (.item 0 4 (.item 0 9 (.item 0 10 (.item 0 11 (.item 0 12 (.item 0 13 (.item 0 17 (.item 0 18 (.item 0 14 (.item 0 19 (.item 0 15 (.item 0 20 (.item 0 16 (.item 0 21 (.item 0 22 (.item 0 23 (.item 0 24 (.item 0 25 (.item 0 26 (.item 0 29 (.item 0 30 (.item 0 27 (.item 0 31 (.item 0 28 (.item 0 32 (.item 2 33 (.item 0 34 (.item 0 35 .nil)))))))))))))))))))))))))))))))))))) [] .nil (by repeat (first | exact .nil | apply PersSub.s | apply PersSub.t | apply PersSub.p | apply PersSub.r | apply PersSub.skip)) (by kernel_rfl) (by kernel_rfl) (fun _ _ _ h => h) ?_
 | refine SX.tail (by rfl) (by repeat (first | exact .nil | apply DropP.s | apply DropP.t | apply DropP.p | apply DropP.r | apply DropP.keep)) ?_
 | refine SX.indexH rfl rfl (by repeat constructor) rfl rfl rfl rfl (by assumption) ?_
 | refine SX.pure rfl rfl rfl ?_
 | refine SX.guardY rfl rfl ?_
 | refine SX.efield rfl rfl rfl rfl rfl ?_
 | refine SX.eloadW rfl (by repeat constructor) (by assumption) rfl (by rfl) rfl (by rfl) rfl (fun hid => ?_)
 | refine SX.eload rfl (by repeat constructor) (by assumption) rfl (by rfl) (by exact fun _ => ⟨rfl, fun _ => rfl⟩) rfl (fun hid => ?_)
 | refine SX.eload rfl (by repeat constructor) (by assumption) rfl (by rfl) (by exact fun _ => ⟨rfl, fun h => by cases h⟩) rfl (fun hid => ?_)
 | refine SX.guardYP rfl rfl (by first | assumption | (simp only [Go.Sl.bl]; omega)) ?_
 | refine SX.step rfl rfl ?_
 | refine SK.invY ?_
 | refine SY.shareGo (by repeat (first | exact .nil | apply PersSub.s | apply PersSub.t | apply PersSub.p | apply PersSub.r | apply PersSub.skip)) ?_
 | fail)
            have hf : agreeD (recsD R u1) (recsD S u2) = false := by
              unfold agreeD
              rw [List.all_eq_false]
              refine ⟨a, List.mem_of_getElem? ha, ?_⟩
              rw [List.all_eq_true]
              intro hall
              have := hall b2 (List.mem_of_getElem? hb2)
              rw [e1, e2, q3] at this
              cases this
            exact SK.retX (.tmp rfl .nil) () trivial (by rw [hf]; rfl) (by repeat constructor)
        · have e2 : decide (a.seq = b2.seq) = false := decide_eq_false q2
          rw [e2, Bool.and_false] at hst
          repeat' (first
 | refine SO.pure rfl rfl rfl ?_
 | refine SO.nil ?_
 | refine SK.seq ?_
 | refine SK.region ?_
 | refine SK.condF rfl ?_
 | refine SK.skip ?_
 | refine SK.block ?_
 | refine SK.blk ?_
 | refine SK.condTP rfl (by first | assumption | (simp only [Go.Sl.bl]; omega)) ?_
 | refine SK.regionX 9 (.item 0 0 (.item 0 1 (.item 0 5 (.item 0 6 (.item 0 2 (.item 0 7 (.item 0 3 (.item 0 8 (.item 0 4 (.item 0 9 (.item 0 10 (.item 0 11 (.item 0 12 (.item 0 13 (.item 0 17 (.item 0 18 (.item 0 14 (.item 0 19 (.item 0 15 (.item 0 20 (.item 0 16 (.item 0 21 (.item 0 22 (.item 0 23 (.item 0 24 (.item 0 25 (.item 0 26 (.item 0 29 (.item 0 30 (.item 0 27 (.item 0 31 (.item 0 28 (.item 0 32 (.item 2 33 (.item 0 34 (.item 0 35 .nil)))))))))))))))))))))))))))))))))))) [] .nil (by repeat (first | exact .nil | apply PersSub.s | apply PersSub.t | apply PersSub.p | apply PersSub.r | apply PersSub.skip)) (by kernel_rfl) (by kernel_rfl) (fun _ _ _ h => h) ?_
 | refine SX.tail (by rfl) (by repeat (first | exact .nil | apply DropP.s | apply DropP.t | apply DropP.p | apply DropP.r | apply DropP.keep)) ?_
 | refine SX.indexH rfl rfl (by repeat constructor) rfl rfl rfl rfl (by assumption) ?_
 | refine SX.pure rfl rfl rfl ?_
 | refine SX.guardY rfl rfl ?_
 | refine SX.guardN rfl rfl rfl ?_
 | refine SX.efield rfl rfl rfl rfl rfl ?_
 | refine SX.eload rfl (by repeat constructor) (by assumption) rfl (by rfl) (by exact fun _ => ⟨rfl, fun _ => rfl⟩) rfl (fun hid => ?_)
 | refine SX.eload rfl (by repeat constructor) (by assumption) rfl (by rfl) (by exact fun _ => ⟨rfl, fun h => by cases h⟩) rfl (fun hid => ?_)
 | refine SX.guardYP rfl rfl (by first | assumption | (simp only [Go.Sl.bl]; omega)) ?_
 | refine SX.guardNP rfl rfl rfl (by first | assumption | (simp only [Go.Sl.bl]; omega)) ?_
 | fail)
          refine SK.inv ⟨⟨k + 1, by omega, by rw [hst]; rfl⟩, ?_, ?_, ?_⟩
          · show u2 - (k + 1) < u2 - k
            omega
          · rw [hwk]; repeat constructor
          · exact ent_append_of_takes (by repeat constructor)
      · have e1 : decide (a.site = b2.site) = false := decide_eq_false q1
        rw [e1, Bool.false_and] at hst
        repeat' (first
 | refine SO.pure rfl rfl rfl ?_
 | refine SO.nil ?_
 | refine SK.seq ?_
 | refine SK.region ?_
 | refine SK.condF rfl ?_
 | refine SK.skip ?_
 | refine SK.block ?_
 | refine SK.blk ?_
 | refine SK.condTP rfl (by first | assumption | (simp only [Go.Sl.bl]; omega)) ?_
 | refine SK.regionX 9 (.item 0 0 (.item 0 1 (.item 0 5 (.item 0 6 (.item 0 2 (.item 0 7 (.item 0 3 (.item 0 8 (.item 0 4 (.item 0 9 (.item 0 10 (.item 0 11 (.item 0 12 (.item 0 13 (.item 0 17 (.item 0 18 (.item 0 14 (.item 0 19 (.item 0 15 (.item 0 20 (.item 0 16 (.item 0 21 (.item 0 22 (.item 0 23 (.item 0 24 (.item 0 25 (.item 0 26 (.item 0 29 (.item 0 30 (.item 0 27 (.item 0 31 (.item 0 28 (.item 0 32 (.item 2 33 (.item 0 34 (.item 0 35 .nil)))))))))))))))))))))))))))))))))))) [] .nil (by repeat (first | exact .nil | apply PersSub.s | apply PersSub.t | apply PersSub.p | apply PersSub.r | apply PersSub.skip)) (by kernel_rfl) (by kernel_rfl) (fun _ _ _ h => h) ?_
 | refine SX.tail (by rfl) (by repeat (first | exact .nil | apply DropP.s | apply DropP.t | apply DropP.p | apply DropP.r | apply DropP.keep)) ?_
 | refine SX.indexH rfl rfl (by repeat constructor) rfl rfl rfl rfl (by assumption) ?_
 | refine SX.pure rfl rfl rfl ?_
 | refine SX.guardN rfl rfl rfl ?_
 | refine SX.efield rfl rfl rfl rfl rfl ?_
 | refine SX.eload rfl (by repeat constructor) (by assumption) rfl (by rfl) (by exact fun _ => ⟨rfl, fun _ => rfl⟩) rfl (fun hid => ?_)
 | refine SX.eload rfl (by repeat constructor) (by assumption) rfl (by rfl) (by exact fun _ => ⟨rfl, fun h => by cases h⟩) rfl (fun hid => ?_)
 | refine SX.guardNP rfl rfl rfl (by first | assumption | (simp only [Go.Sl.bl]; omega)) ?_
 | fail)
        refine SK.inv ⟨⟨k + 1, by omega, by rw [hst]; rfl⟩, ?_, ?_, ?_⟩
        · show u2 - (k + 1) < u2 - k
          omega
        · rw [hwk]; repeat constructor
        · exact ent_append_of_takes (by repeat constructor)
    · have hd2 : decide ((k : Int) < (u2 : Int)) = false := decide_eq_false (by omega)
      repeat' (first
 | refine SO.pure rfl rfl rfl ?_
 | refine SO.nil ?_
 | refine SK.seq ?_
 | refine SK.region ?_
 | refine SK.blk ?_
 | refine SK.exit rfl ?_
 | refine SK.condFP rfl (by first | assumption | (simp only [Go.Sl.bl]; omega)) ?_
 | fail)
      obtain rfl : k = u2 := by omega
      have hak2 : agreeD [a] (recsD S k) = true := by
        have := hak
        rwa [List.take_of_length_le (by rw [hlR]; exact Nat.le_refl _)] at this
      have hst : agreeD ((recsD R u1).take (i + 1)) (recsD S k) = true := by
        unfold agreeD at hai hak2 ⊢
        rw [List.take_add_one, ha, List.all_append, hai]
        simpa using hak2
      refine SK.inv ⟨⟨i + 1, by omega, hst⟩, ?_, ?_, ?_⟩
      · show u1 - (i + 1) < u1 - i
        omega
      · rw [hwi]; repeat constructor
      · exact ent_append_of_takes (by repeat constructor)
  · have hd1 : decide ((i : Int) < (u1 : Int)) = false := decide_eq_false (by omega)
    repeat' (first
 | refine SO.pure rfl rfl rfl ?_
 | refine SO.nil ?_
 | refine SK.seq ?_
 | refine SK.region ?_
 | refine SK.exit rfl ?_
 | refine SK.condFP rfl (by first | assumption | (simp only [Go.Sl.bl]; omega)) ?_
 | fail)
    obtain rfl : i = u1 := by omega
    have hai2 : agreeD (recsD R i) (recsD S u2) = true := by
      have := hai
      rwa [List.take_of_length_le (by rw [hlR]; exact Nat.le_refl _)] at this
    rw [hai2]
    exact SK.retX (.tmp rfl .nil) () trivial rfl (by repeat constructor)
end Go.Proofs
