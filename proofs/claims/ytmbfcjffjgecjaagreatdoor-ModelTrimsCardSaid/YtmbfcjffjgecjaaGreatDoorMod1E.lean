/- A part of a proof: what functions of the program compute. -/
import Derived.Test.YtmbfcjffjgecjaaGreatDoorLog9E
import Derived.Test.YtmbfcjffjgecjaaGreatDoorLib2
set_option linter.unusedVariables false
set_option linter.unusedSimpArgs false
set_option maxHeartbeats 0
set_option maxRecDepth 20000
namespace Go.Proofs
attribute [local irreducible] Go.Sl.SO Go.Sl.SQ Go.Sl.SR Go.Sl.SC Go.Sl.SX Go.Sl.SY Go.Sl.eadr Go.Sl.slAt Go.Sl.sqAt Go.Sl.pts Go.Sl.rod Go.Sl.ob Go.Sl.ex Go.Sl.big Go.Sl.pr Go.Sl.tabs Go.Sl.mpAt Go.Sl.mitAt Go.Sl.mitN
open Go.Sl
theorem mkind_does (A : Option Addr) (n c : Nat) (was : List Int) (r : Rc) (h : Pl) (hb : ∀ i, 0 ≤ getI was i ∧ getI was i ≤ 1000000000) : Does Tryz.prog 73 [.slice A n c, RRec.val r h] [slAt RI A n was, slAt RI h.1 r.dep.length r.dep] [] Unit (fun _ => True) (fun _ => .int .i64 (flawK was r)) (fun _ => []) := by
  refine Does.of Tryz.call73 Tryz.func73 rfl rfl rfl (all_cons (pers_slAt _ _ _ _) (all_cons (pers_slAt _ _ _ _) all_nil)) rfl ?_
  have hw : IntKind.i64.wrap (getI was r.site + 1) = getI was r.site + 1 := wrap_id (by have := hb r.site; omega) (by have := hb r.site; omega)
  have vg := get_does A n c was r.site
  have vc := vcovers_does A h.1 n c r.dep.length h.2 was r.dep
  unfold flawK
  by_cases h1 : r.seq ≤ getI was r.site
  · have d1 := decide_eq_true h1
    rw [if_pos h1]
    repeat' (first
 | refine SO.call (vg) rfl rfl rfl (by repeat constructor) (by repeat constructor) rfl (fun x hx => ?_)
 | refine SO.pure rfl rfl rfl ?_
 | refine SO.nil ?_
 | refine SO.load rfl (by repeat constructor) rfl (by rfl) (by exact ⟨rfl, by first | exact fun _ => rfl | exact (fun h => by cases h)⟩) rfl ?_
 | refine SK.seq ?_
 | refine SK.region ?_
 | refine SK.block ?_
 | refine SO.box rfl rfl rfl (fun b => ?_)
 | refine SK.condTP rfl (by first | assumption | (simp only [Go.Sl.bl]; omega)) ?_
 | fail)
    exact SK.retX (.tmp rfl .nil) () trivial rfl (by repeat constructor)
  · have d1 := decide_eq_false h1
    rw [if_neg h1]
    by_cases h2 : getI was r.site + 1 < r.seq
    · have d2 : decide (IntKind.i64.wrap (getI was r.site + 1) < r.seq) = true := by rw [hw]; exact decide_eq_true h2
      rw [if_pos h2]
      repeat' (first
 | refine SO.call (vg) rfl rfl rfl (by repeat constructor) (by repeat constructor) rfl (fun x hx => ?_)
 | refine SO.pure rfl rfl rfl ?_
 | refine SO.nil ?_
 | refine SO.load rfl (by repeat constructor) rfl (by rfl) (by exact ⟨rfl, by first | exact fun _ => rfl | exact (fun h => by cases h)⟩) rfl ?_
 | refine SK.seq ?_
 | refine SK.region ?_
 | refine SK.block ?_
 | refine SO.box rfl rfl rfl (fun b => ?_)
 | refine SK.condTP rfl (by first | assumption | (simp only [Go.Sl.bl]; omega)) ?_
 | refine SK.condFP rfl (by first | assumption | (simp only [Go.Sl.bl]; omega)) ?_
 | fail)
      exact SK.retX (.tmp rfl .nil) () trivial rfl (by repeat constructor)
    · have d2 : decide (IntKind.i64.wrap (getI was r.site + 1) < r.seq) = false := by rw [hw]; exact decide_eq_false h2
      rw [if_neg h2]
      cases hc : coversB was r.dep with
      | true =>
        rw [hc] at vc
        rw [if_neg (by decide)]
        repeat' (first
 | refine SO.call (vg) rfl rfl rfl (by repeat constructor) (by repeat constructor) rfl (fun x hx => ?_)
 | refine SO.call (vc) rfl rfl rfl (by repeat constructor) (by repeat constructor) rfl (fun x hx => ?_)
 | refine SO.pure rfl rfl rfl ?_
 | refine SO.nil ?_
 | refine SO.load rfl (by repeat constructor) rfl (by rfl) (by exact ⟨rfl, by first | exact fun _ => rfl | exact (fun h => by cases h)⟩) rfl ?_
 | refine SK.seq ?_
 | refine SK.region ?_
 | refine SK.condF rfl ?_
 | refine SK.skip ?_
 | refine SK.block ?_
 | refine SK.blk ?_
 | refine SO.box rfl rfl rfl (fun b => ?_)
 | refine SK.condFP rfl (by first | assumption | (simp only [Go.Sl.bl]; omega)) ?_
 | fail)
        exact SK.retX (.tmp rfl .nil) () trivial rfl (by repeat constructor)
      | false =>
        rw [hc] at vc
        rw [if_pos rfl]
        repeat' (first
 | refine SO.call (vg) rfl rfl rfl (by repeat constructor) (by repeat constructor) rfl (fun x hx => ?_)
 | refine SO.call (vc) rfl rfl rfl (by repeat constructor) (by repeat constructor) rfl (fun x hx => ?_)
 | refine SO.pure rfl rfl rfl ?_
 | refine SO.nil ?_
 | refine SO.load rfl (by repeat constructor) rfl (by rfl) (by exact ⟨rfl, by first | exact fun _ => rfl | exact (fun h => by cases h)⟩) rfl ?_
 | refine SK.seq ?_
 | refine SK.region ?_
 | refine SK.condT rfl ?_
 | refine SK.block ?_
 | refine SO.box rfl rfl rfl (fun b => ?_)
 | refine SK.condFP rfl (by first | assumption | (simp only [Go.Sl.bl]; omega)) ?_
 | fail)
        exact SK.retX (.tmp rfl .nil) () trivial rfl (by repeat constructor)
theorem m24r_does (a b : Int) (A : Option Addr) (n c : Nat) : Does Tryz.prog 72 [.int .i64 a, .int .i64 b, .slice A n c] [] [] Unit (fun _ => True) (fun _ => .agg #[.int .i64 a, .int .i64 b, .slice A n c, .string ⟨#[107]⟩, .string bE]) (fun _ => []) := by
  refine Does.of Tryz.call72 Tryz.func72 rfl rfl rfl all_nil rfl ?_
  repeat' (first
 | refine SO.pure rfl rfl rfl ?_
 | refine SO.nil ?_
 | refine SO.build rfl rfl rfl rfl ?_
 | refine SK.seq ?_
 | refine SK.region ?_
 | refine SO.alloc rfl rfl rfl (fun b => ?_)
 | refine SO.storeW rfl rfl (by repeat constructor) rfl (by rfl) (by rfl) (by rfl) ?_
 | fail)
  exact SK.retX (.cell rfl (by repeat constructor) rfl rfl (by exact ⟨rfl, fun h => by cases h⟩) .nil) () trivial rfl (by repeat constructor)
def numL (l : List Rc) : List (Int × Rc) := l.zipIdx.map fun x => ((x.2 : Int), x.1)
theorem numL_at {l : List Rc} {i : Nat} {r : Rc} (h : l[i]? = some r) : (numL l)[i]? = some ((i : Int), r) := by
  unfold numL
  rw [List.getElem?_map, List.getElem?_zipIdx, h]
  simp
theorem numL_len (l : List Rc) : (numL l).length = l.length := by unfold numL; simp
theorem mnum_does (A : Option Addr) (n c : Nat) : Does Tryz.prog 17 [.slice A n c] [] [] Nat (fun _ => True) (fun x => .func (.func 76) #[] #[.pointer (some ⟨x, 0, none⟩)]) (fun x => [pts x 0 [.slice A n c]]) := by
  refine Does.of Tryz.call17 Tryz.func17 rfl rfl rfl all_nil rfl ?_
  repeat' (first
 | refine SO.pure rfl rfl rfl ?_
 | refine SO.nil ?_
 | refine SK.seq ?_
 | refine SK.region ?_
 | refine SO.box rfl rfl rfl (fun b => ?_)
 | fail)
  exact SK.retX (.tmp rfl .nil) _ trivial rfl (by repeat constructor)
theorem mnumiter (b : Nat) (A : Option Addr) (n c : Nat) (l : List Rc) (hl : l.length ≤ 1048576) : Iter Tryz.prog 76 [.pointer (some ⟨b, 0, none⟩)] EPR (numL l) [] [pts b 0 [.slice A n c], slAt RRec A n l] (fun _ => [slAt RRec A n l]) [slAt RRec A n l] := by
  intro q J Jx hy
  refine Does.of Tryz.call76 Tryz.func76 rfl rfl rfl all_nil rfl ?_
  refine SK.know (sl_len (ρ := RRec) (A := A) (n := n) (l := l) (by repeat constructor)) ?_
  rintro ⟨rfl, hlim, -⟩
  have hnl := numL_len l
  repeat' (first
 | refine SO.pure rfl rfl rfl ?_
 | refine SO.nil ?_
 | refine SK.seq ?_
 | refine SK.region ?_
 | refine SK.block ?_
 | fail)
  refine SK.loop (X := {p : Nat // p ≤ l.length}) (fun p => [(3, .int .i64 (p.1 : Int)), (1, .pointer (some ⟨b, 0, none⟩)), (0, yv q)]) (fun p => [J p.1, pts b 0 [.slice A l.length c], slAt RRec A l.length l]) (fun p => l.length - p.1) ⟨0, Nat.zero_le _⟩ (by repeat constructor) (ent_append_of_takes (by repeat constructor)) ?_
  rintro ⟨p, hp⟩
  dsimp only
  have hw : IntKind.i64.wrap ((p : Int) + 1) = ((p + 1 : Nat) : Int) := by rw [wrap_id (by omega) (by omega)]; omega
  rcases Nat.lt_or_ge p l.length with hlt | hge
  · have hd1 : decide ((p : Int) < (l.length : Int)) = true := decide_eq_true (by omega)
    obtain ⟨rr, hr⟩ : ∃ r, l[p]? = some r := ⟨_, List.getElem?_eq_getElem hlt⟩
    repeat' (first
 | refine SO.indexH rfl rfl (by repeat constructor) rfl rfl rfl rfl (by assumption) ?_
 | refine SO.pure rfl rfl rfl ?_
 | refine SO.nil ?_
 | refine SO.load rfl (by repeat constructor) rfl (by rfl) (by exact ⟨rfl, by first | exact fun _ => rfl | exact (fun h => by cases h)⟩) rfl ?_
 | refine SO.eloadW rfl (by repeat constructor) (by assumption) rfl (by rfl) rfl (by rfl) rfl (fun hid => ?_)
 | refine SK.seq ?_
 | refine SK.region ?_
 | refine SK.skip ?_
 | refine SK.block ?_
 | refine SK.condTP rfl (by first | assumption | (simp only [Go.Sl.bl]; omega)) ?_
 | fail)
    rename Pl => hid
    have hY := hy p ((p : Int), rr) hid (numL_at hr)
    refine SO.callF (vs := EPR.args ((p : Int), rr) hid) rfl rfl hY (by repeat constructor) (by repeat constructor) rfl (fun r0 hr0 => ?_)
    cases r0
    · repeat' (first
 | refine SO.pure rfl rfl rfl ?_
 | refine SO.nil ?_
 | refine SK.condT rfl ?_
 | fail)
      exact SK.retX .nil (some p) (fun j h => by cases h; rw [hnl]; omega) rfl (by repeat constructor)
    · repeat' (first
 | refine SO.pure rfl rfl rfl ?_
 | refine SO.nil ?_
 | refine SK.region ?_
 | refine SK.condF rfl ?_
 | refine SK.skip ?_
 | refine SK.blk ?_
 | fail)
      refine SK.inv ⟨⟨p + 1, by omega⟩, ?_, ?_, ?_⟩
      · show l.length - (p + 1) < l.length - p
        omega
      · rw [hw]; repeat constructor
      · exact ent_append_of_takes (by repeat constructor)
  · have hd1 : decide ((p : Int) < (l.length : Int)) = false := decide_eq_false (by omega)
    obtain rfl : p = l.length := by omega
    repeat' (first
 | refine SO.pure rfl rfl rfl ?_
 | refine SO.nil ?_
 | refine SO.load rfl (by repeat constructor) rfl (by rfl) (by exact ⟨rfl, by first | exact fun _ => rfl | exact (fun h => by cases h)⟩) rfl ?_
 | refine SK.seq ?_
 | refine SK.region ?_
 | refine SK.exit rfl ?_
 | refine SK.condFP rfl (by first | assumption | (simp only [Go.Sl.bl]; omega)) ?_
 | fail)
    rw [← hnl]
    exact SK.endX .nil none (fun _ h => by cases h) rfl (by repeat constructor)
theorem mlog_does (f : FuncId) (caps : Array Value) (A : Option Addr) (n c : Nat) (w : List Int) (l : List (Int × Rc)) (K0 Ke : List HP) (Kb : Nat → List HP) (it : Iter Tryz.prog f caps.toList EPR l [] K0 Kb Ke) (hl : l.length ≤ 1048575) (hw : VBd w) (hr : ∀ x ∈ l, RBd x.2) :
    Does Tryz.prog 16 [.slice A n c, .func (.func f) #[] caps] [slAt RI A n w] [big K0] Pl (fun _ => True) (fun x => .slice x.1 (flawsF w l).length x.2) (fun x => [slAt RSp x.1 (flawsF w l).length (flawsF w l), big Ke]) := by
  refine Does.of Tryz.call16 Tryz.func16 rfl rfl rfl (all_cons (pers_slAt _ _ _ _) all_nil) rfl ?_
  refine SK.know (sl_len (ρ := RI) (A := A) (n := n) (l := w) (by repeat constructor)) ?_
  rintro ⟨rfl, hlim, -⟩
  have fl := flaws_len w
  repeat' (first
 | refine SO.pure rfl rfl rfl ?_
 | refine SO.nil ?_
 | refine SK.seq ?_
 | refine SK.region ?_
 | refine SK.block ?_
 | refine SO.alloc rfl rfl rfl (fun b => ?_)
 | refine SO.box rfl rfl rfl (fun b => ?_)
 | fail)
  rename_i bb
  refine SK.shift (fun F w1 hst => hst.ent (Ent.cons ((ent_triv (A := sqAt false RSp none 0 0 [])).trans (ent_closeR (R := [big K0]) (A := fun y : Pl × Pl => big [pts b 0 [.slice y.1.1 (0 : Nat) y.1.2], sqAt false RSp y.1.1 (0 : Nat) y.1.2 [], pts bb 0 [.slice y.2.1 w.length y.2.2], slAt RI y.2.1 w.length w]) (x := (((none, 0), (A, c)) : Pl × Pl)) rfl (by repeat constructor))))) ?_
  refine SK.range it.bigs Empty (fun i => [ex fun y : Pl × Pl => big [pts b 0 [.slice y.1.1 (flawsF w (l.take i)).length y.1.2], sqAt false RSp y.1.1 (flawsF w (l.take i)).length y.1.2 (flawsF w (l.take i)), pts bb 0 [.slice y.2.1 (vecL w (l.take i)).length y.2.2], slAt RI y.2.1 (vecL w (l.take i)).length (vecL w (l.take i))]]) (fun _ => []) (fun y => y.elim) rfl .nil (by repeat constructor) rfl (fun _ _ => rfl) ?_ ?_ (fun y => y.elim)
  · rintro i ⟨p, r⟩ hid q R hri
    have hil : i < l.length := (List.getElem?_eq_some_iff.1 hri).1
    obtain ⟨e1, e2⟩ := flaws_snoc (w := w) hri
    have hv := hw.take (l := l.take i) fun x hx => hr x (List.mem_of_mem_take hx)
    have hrr : RBd r := hr _ (List.mem_of_getElem? hri)
    have fl2 := fl (l.take i)
    rw [List.length_take] at fl2
    rw [e1, e2]
    generalize vecL w (l.take i) = v at *
    generalize flawsF w (l.take i) = o at *
    have hlm : o.length + 1 ≤ lim := by unfold lim; omega
    have kd := fun A n c h => mkind_does A n c v r h hv.2
    have vg := fun A c => get_does A v.length c v r.site
    have vw := fun A c => vwith_does A v.length c v r.site.toNat (if getI v r.site < r.seq then r.seq else getI v r.site) (by have := hrr.1; omega) (by have := hv.1; omega)
    rw [show ((r.site.toNat : Nat) : Int) = r.site by have := hrr.1; omega] at vw
    have em : withI v r.site.toNat (if getI v r.site < r.seq then r.seq else getI v r.site) = nextV v r := rfl
    rw [em] at vw
    refine SK.openEx (.there (.there .here)) (fun y => ?_)
    refine SK.openBig .here ?_
    repeat' (first
 | refine SO.pure rfl rfl rfl ?_
 | refine SO.nil ?_
 | refine SK.seq ?_
 | refine SK.region ?_
 | refine SO.alloc rfl rfl rfl (fun b => ?_)
 | refine SO.storeW rfl rfl (by repeat constructor) rfl (by rfl) (by rfl) (by rfl) ?_
 | fail)
    refine SK.inv ?_
    by_cases hk : flawK v r = 0
    · rw [if_pos hk, List.append_nil]
      have dk : (!decide (flawK v r = 0)) = false := by simp [hk]
      repeat' (first
 | refine SO.call (kd _ _ _ _) rfl rfl rfl (by repeat constructor) (by repeat constructor) rfl (fun x hx => ?_)
 | refine SO.call (vg _ _) rfl rfl rfl (by repeat constructor) (by repeat constructor) rfl (fun x hx => ?_)
 | refine SO.call (vw _ _) rfl rfl rfl (by repeat constructor) (by repeat constructor) rfl (fun x hx => ?_)
 | refine SO.pure rfl rfl rfl ?_
 | refine SO.nil ?_
 | refine SO.loadW rfl (by repeat constructor) rfl rfl rfl (by rfl) rfl ?_
 | refine SO.load rfl (by repeat constructor) rfl (by rfl) (by exact ⟨rfl, by first | exact fun _ => rfl | exact (fun h => by cases h)⟩) rfl ?_
 | refine SK.seq ?_
 | refine SK.region ?_
 | refine SK.skip ?_
 | refine SK.block ?_
 | refine SK.blk ?_
 | refine SO.storeW rfl rfl (by repeat constructor) rfl (by rfl) (by rfl) (by rfl) ?_
 | refine SK.condFP rfl (by first | assumption | (simp only [Go.Sl.bl]; omega)) ?_
 | refine SK.regionX 8 (.item 0 0 (.item 0 1 (.item 0 3 (.item 0 4 (.item 0 7 (.item 0 2 (.item 0 5 (.item 0 8 (.item 1 6 (.item 0 9 (.item 2 10 (.item 2 11 .nil)))))))))))) [] .nil (by repeat (first | exact .nil | apply PersSub.s | apply PersSub.t | apply PersSub.p | apply PersSub.r | apply PersSub.skip)) (by kernel_rfl) (by kernel_rfl) (fun _ _ _ h => h) ?_
 | refine SX.tail (by rfl) (by repeat (first | exact .nil | apply DropP.s | apply DropP.t | apply DropP.p | apply DropP.r | apply DropP.keep)) ?_
 | refine SX.pure rfl rfl rfl ?_
 | refine SX.pure2 rfl rfl rfl ?_
 | refine SX.load rfl (by repeat constructor) rfl (by rfl) (by exact ⟨rfl, by first | exact fun _ => rfl | exact (fun h => by cases h)⟩) rfl ?_
 | refine SX.step rfl rfl ?_
 | refine SK.invY ?_
 | refine SY.shareGo (by repeat (first | exact .nil | apply PersSub.s | apply PersSub.t | apply PersSub.p | apply PersSub.r | apply PersSub.skip)) ?_
 | fail)
      refine SK.nil ?_
      rename Pl => z
      show Ent _ (busyA q R :: _)
      refine Ent.trans ?_ Ent.swap
      exact ent_close (R := [busyA q R]) (x := (((y.1.1, y.1.2), z) : Pl × Pl)) rfl (by repeat constructor)
    · rw [if_neg hk]
      have dk : (!decide (flawK v r = 0)) = true := by simp [hk]
      repeat' (first
 | refine SO.append (ρ := RSp) (w := false) (ys := [(p, flawK v r)]) rfl rfl (by repeat constructor) (Src.one (h := ()) (by repeat constructor) (by rfl) (by repeat constructor)) rfl rfl rfl rfl rfl rfl rfl (by omega) (fun A3 c3 => ?_)
 | refine SO.call (kd _ _ _ _) rfl rfl rfl (by repeat constructor) (by repeat constructor) rfl (fun x hx => ?_)
 | refine SO.call (vg _ _) rfl rfl rfl (by repeat constructor) (by repeat constructor) rfl (fun x hx => ?_)
 | refine SO.call (vw _ _) rfl rfl rfl (by repeat constructor) (by repeat constructor) rfl (fun x hx => ?_)
 | refine SO.pure rfl rfl rfl ?_
 | refine SO.nil ?_
 | refine SO.loadW rfl (by repeat constructor) rfl rfl rfl (by rfl) rfl ?_
 | refine SO.load rfl (by repeat constructor) rfl (by rfl) (by exact ⟨rfl, by first | exact fun _ => rfl | exact (fun h => by cases h)⟩) rfl ?_
 | refine SO.build rfl rfl rfl rfl ?_
 | refine SK.seq ?_
 | refine SK.region ?_
 | refine SK.block ?_
 | refine SK.blk ?_
 | refine SO.storeW rfl rfl (by repeat constructor) rfl (by rfl) (by rfl) (by rfl) ?_
 | refine SO.buildSlice rfl rfl rfl rfl rfl rfl (fun b => ?_)
 | refine SK.condTP rfl (by first | assumption | (simp only [Go.Sl.bl]; omega)) ?_
 | refine SK.regionX 8 (.item 0 0 (.item 0 1 (.item 0 3 (.item 0 4 (.item 0 7 (.item 0 2 (.item 0 5 (.item 0 8 (.item 1 6 (.item 0 9 (.item 2 10 (.item 2 11 .nil)))))))))))) [] .nil (by repeat (first | exact .nil | apply PersSub.s | apply PersSub.t | apply PersSub.p | apply PersSub.r | apply PersSub.skip)) (by kernel_rfl) (by kernel_rfl) (fun _ _ _ h => h) ?_
 | refine SX.tail (by rfl) (by repeat (first | exact .nil | apply DropP.s | apply DropP.t | apply DropP.p | apply DropP.r | apply DropP.keep)) ?_
 | refine SX.pure rfl rfl rfl ?_
 | refine SX.pure2 rfl rfl rfl ?_
 | refine SX.load rfl (by repeat constructor) rfl (by rfl) (by exact ⟨rfl, by first | exact fun _ => rfl | exact (fun h => by cases h)⟩) rfl ?_
 | refine SX.step rfl rfl ?_
 | refine SK.invY ?_
 | refine SY.shareGo (by repeat (first | exact .nil | apply PersSub.s | apply PersSub.t | apply PersSub.p | apply PersSub.r | apply PersSub.skip)) ?_
 | fail)
      have el : (o ++ [(p, flawK v r)]).length = o.length + 1 := by simp
      simp only [el]
      refine SK.nil ?_
      rename Pl => z
      show Ent _ (busyA q R :: _)
      refine Ent.trans ?_ Ent.swap
      exact ent_close (R := [busyA q R]) (x := (((A3, c3), z) : Pl × Pl)) rfl (by repeat constructor)
  · refine SK.blk ?_
    refine SK.openEx .here (fun y => ?_)
    refine SK.openBig .here ?_
    rw [List.take_length]
    repeat' (first
 | refine SO.pure rfl rfl rfl ?_
 | refine SO.nil ?_
 | refine SO.load rfl (by repeat constructor) rfl (by rfl) (by exact ⟨rfl, by first | exact fun _ => rfl | exact (fun h => by cases h)⟩) rfl ?_
 | refine SK.seq ?_
 | refine SK.region ?_
 | fail)
    refine SK.share (ρ := RSp) (w' := false) (A := y.1.1) (n := (flawsF w l).length) (m := y.1.2) (l := flawsF w l) (by repeat constructor) ?_
    exact SK.retX (.tmp rfl .nil) y.1 trivial rfl (by repeat constructor)
theorem mright_does (lb : Nat) (g : Lg) (h : LgOk g) (hd : g.down = false) (ht : g.trim ≤ g.head) (hw : VBd g.gone) (hr : ∀ x ∈ g.rows, RBd x.2) : Does Tryz.prog 20 [.pointer (some ⟨lb, 0, none⟩)] [] (lgAt lb g) Unit (fun _ => True) (fun _ => .bool (decide (flawsF g.gone g.rows = []))) (fun _ => lgAt lb g) := by
  refine Does.of Tryz.call20 Tryz.func20 rfl rfl rfl all_nil rfl ?_
  have hb := h.bd
  have hrl := rows_len g
  have hhl : g.head ≤ g.next := by
    unfold Lg.head
    rw [hd, if_neg (by decide)]
    have := (headF_le g (g.next - g.trim) g.trim).2
    omega
  have tr := ltrimmed_does lb g hd
  have al := lall_does lb (g.trim : Int)
  repeat' (first
 | refine SO.call (tr) rfl rfl rfl (by repeat constructor) (by repeat constructor) rfl (fun x hx => ?_)
 | refine SO.call (al) rfl rfl rfl (by repeat constructor) (by repeat constructor) rfl (fun x hx => ?_)
 | refine SO.pure rfl rfl rfl ?_
 | refine SO.nil ?_
 | refine SK.seq ?_
 | refine SK.region ?_
 | fail)
  rename Pl => pv
  rename Nat × Nat => z
  refine SO.shift (fun F w hst => hst.ent (Ent.cons (ent_bigOf (A := pts z.1 0 [.pointer (some ⟨lb, 0, none⟩)] :: pts z.2 0 [.int .i64 (g.trim : Int)] :: lgAt lb g) (by repeat constructor)))) ?_
  have ml := mlog_does 122 #[.pointer (some ⟨z.1, 0, none⟩), .pointer (some ⟨z.2, 0, none⟩)] pv.1 g.gone.length pv.2 g.gone g.rows _ _ _ (lalliter z.1 z.2 lb g g.trim h (Nat.le_refl _) ht) (by omega) hw hr
  repeat' (first
 | refine SO.call (ml) rfl rfl rfl (by repeat constructor) (by repeat constructor) rfl (fun x hx => ?_)
 | refine SO.pure rfl rfl rfl ?_
 | refine SO.nil ?_
 | fail)
  refine SK.openBig (by repeat constructor) ?_
  refine SK.retX (.tmp rfl .nil) () trivial ?_ (by repeat constructor)
  show Value.bool (decide (((flawsF g.gone g.rows).length : Int) = 0)) = Value.bool (decide (flawsF g.gone g.rows = []))
  congr 1
  apply decide_eq_decide.2
  rw [← List.length_eq_zero_iff]
  omega
end Go.Proofs
