/- A part of a proof: what functions of the program compute. -/
import Derived.Test.YtmbfcjffjgecjaaGreatDoorPar2E
import Derived.Test.YtmbfcjffjgecjaaGreatDoorLib2
set_option linter.unusedVariables false
set_option linter.unusedSimpArgs false
set_option maxHeartbeats 0
namespace Go.Sl
theorem Does.bigOwn {P : Program} {f : FuncId} {args : List Value} {pers own : List HP} {X : Type} {ok : X → Prop} {ret : X → Value} {out : X → List HP} (s : Does P f args pers own X ok ret out) : Does P f args pers [big own] X ok ret (fun x => [big (out x)]) :=
  ⟨s.entry, s.hpers, fun F w hst => by
    have h1 : St w (F :: (pers ++ own)) := hst.ent (Ent.cons (Ent.app (by
      have := ent_big (A := own) (L := [])
      rw [List.append_nil] at this; exact this)))
    refine (s.calls F w h1).mono ?_
    rintro e w' ⟨x, hx, rfl, hs⟩
    refine ⟨x, hx, rfl, hs.ent (Ent.cons ?_)⟩
    have := big_ent (A := out x) (L := [])
    rw [List.append_nil] at this; exact this⟩
theorem Does.unbig {P : Program} {f : FuncId} {args : List Value} {pers K : List HP} {B : HP} {X : Type} {ok : X → Prop} {ret : X → Value} {C : X → HP} {D : X → List HP} (s : Does P f args pers [B, big K] X ok ret (fun x => [C x, big (D x)])) : Does P f args pers (B :: K) X ok ret (fun x => C x :: D x) :=
  ⟨s.entry, s.hpers, fun F w hst => by
    have h1 : St w (F :: (pers ++ [B, big K])) := hst.ent (Ent.cons (Ent.app (Ent.cons (by
      have := big_ent (A := K) (L := [])
      rw [List.append_nil] at this; exact this))))
    refine (s.calls F w h1).mono ?_
    rintro e w' ⟨x, hx, rfl, hs⟩
    refine ⟨x, hx, rfl, hs.ent (Ent.cons (Ent.cons ?_))⟩
    have := ent_big (A := D x) (L := [])
    rw [List.append_nil] at this; exact this⟩
theorem filter_above {s : Sg} {pos : Int} : s.m.filter (fun p => !decide (pos ≤ p.1)) = (s.above pos).m := by
  unfold Sg.above
  refine List.filter_congr fun p _ => ?_
  by_cases h : pos ≤ p.1
  · have : ¬ p.1 < pos := by omega
    simp [h, this]
  · have : p.1 < pos := by omega
    simp [h, this]
theorem filter_below {s : Sg} {n : Nat} : s.m.filter (fun p => !decide (p.1 < (n : Int))) = (s.below n).m := by
  unfold Sg.below
  refine List.filter_congr fun p _ => ?_
  by_cases h : p.1 < (n : Int)
  · have : ¬ (n : Int) ≤ p.1 := by omega
    simp [h, this]
  · have : (n : Int) ≤ p.1 := by omega
    simp [h, this]
end Go.Sl
namespace Go.Proofs
attribute [local irreducible] Go.Sl.SO Go.Sl.SQ Go.Sl.SR Go.Sl.SC Go.Sl.SX Go.Sl.SY Go.Sl.eadr Go.Sl.slAt Go.Sl.sqAt Go.Sl.pts Go.Sl.rod Go.Sl.ob Go.Sl.ex Go.Sl.big Go.Sl.pr Go.Sl.tabs Go.Sl.mpAt Go.Sl.mitAt Go.Sl.mitN
open Go.Sl
abbrev noteL (db : Nat) (p : Pl) (d : Dk) : List HP := libA :: dkAt db p d
theorem disk_does (sb db mb : Nat) (s : Sg) : Does Tryz.prog 88 [.pointer (some ⟨sb, 0, none⟩)] [] (sgAt sb db mb s) Unit (fun _ => True) (fun _ => .pointer (some ⟨db, 0, none⟩)) (fun _ => sgAt sb db mb s) := by
  refine Does.of Tryz.call88 Tryz.func88 rfl rfl rfl all_nil rfl ?_
  unfold sgAt
  repeat' (first
 | refine SO.pure rfl rfl rfl ?_
 | refine SO.nil ?_
 | refine SO.load rfl (by repeat constructor) rfl (by rfl) (by exact ⟨rfl, by first | exact fun _ => rfl | exact (fun h => by cases h)⟩) rfl ?_
 | refine SK.seq ?_
 | refine SK.region ?_
 | fail)
  exact SK.retX (.tmp rfl .nil) () trivial rfl (by repeat constructor)
theorem cutf_does (bx : Nat) (pos p : Int) (u : Slt) (h : Pl) : Does Tryz.prog 144 [.int .i64 p, RSlt.val u h, .pointer (some ⟨bx, 0, none⟩)] [] [pts bx 0 [.int .i64 pos]] Unit (fun _ => True) (fun _ => .bool (decide (pos ≤ p))) (fun _ => [pts bx 0 [.int .i64 pos]]) := by
  refine Does.of Tryz.call144 Tryz.func144 rfl rfl rfl all_nil rfl ?_
  repeat' (first
 | refine SO.pure rfl rfl rfl ?_
 | refine SO.nil ?_
 | refine SO.load rfl (by repeat constructor) rfl (by rfl) (by exact ⟨rfl, by first | exact fun _ => rfl | exact (fun h => by cases h)⟩) rfl ?_
 | refine SK.seq ?_
 | refine SK.region ?_
 | refine SO.box rfl rfl rfl (fun b => ?_)
 | fail)
  exact SK.retX (.tmp rfl .nil) () trivial rfl (by repeat constructor)
theorem belf_does (bx sb db mb : Nat) (a _b : Value) (pos p : Int) (u : Slt) (h : Pl) : Does Tryz.prog 145 [.int .i64 p, RSlt.val u h, .pointer (some ⟨bx, 0, none⟩)] [] [pts bx 0 [.pointer (some ⟨sb, 0, none⟩)], pts sb 0 [.pointer (some ⟨db, 0, none⟩), .map (some mb), a, .int .i64 pos]] Unit (fun _ => True) (fun _ => .bool (decide (p < pos))) (fun _ => [pts bx 0 [.pointer (some ⟨sb, 0, none⟩)], pts sb 0 [.pointer (some ⟨db, 0, none⟩), .map (some mb), a, .int .i64 pos]]) := by
  refine Does.of Tryz.call145 Tryz.func145 rfl rfl rfl all_nil rfl ?_
  repeat' (first
 | refine SO.pure rfl rfl rfl ?_
 | refine SO.nil ?_
 | refine SO.load rfl (by repeat constructor) rfl (by rfl) (by exact ⟨rfl, by first | exact fun _ => rfl | exact (fun h => by cases h)⟩) rfl ?_
 | refine SK.seq ?_
 | refine SK.region ?_
 | refine SO.box rfl rfl rfl (fun b => ?_)
 | fail)
  exact SK.retX (.tmp rfl .nil) () trivial rfl (by repeat constructor)
theorem delf_does (mb : Nat) (l : List (Int × Slt)) (f : FuncId) (caps : Array Value) (A : HP) (g : Int → Bool)
    (hg : ∀ (k : Int) (u : Slt) (h : Pl), Does Tryz.prog f ([.int .i64 k, RSlt.val u h] ++ caps.toList) [] [A] Unit (fun _ => True) (fun _ => .bool (g k)) (fun _ => [A])) :
    Does Tryz.prog 143 [.map (some mb), .func (.func f) #[] caps] [] [mpAt (KI .i64) RSlt mb l, A] Unit (fun _ => True) (fun _ => .tuple #[]) (fun _ => [mpAt (KI .i64) RSlt mb (l.filter fun p => !g p.1), A]) := by
  refine Does.of Tryz.call143 Tryz.func143 rfl rfl rfl all_nil rfl ?_
  refine SK.know (mp_nodup (kr := KI .i64) (ρ := RSlt) (b := mb) (l := l) (by repeat constructor)) (fun hnd => ?_)
  have hI := delI_zero (g := g) hnd
  repeat' (first
 | refine SO.pure rfl rfl rfl ?_
 | refine SK.seq ?_
 | refine SK.region ?_
 | fail)
  refine SO.rangeMap (kr := KI .i64) (ρ := RSlt) rfl (by repeat constructor) rfl rfl (fun r => ?_)
  repeat' (first
 | refine SO.nil ?_
 | refine SK.block ?_
 | fail)
  refine SK.loop (X := {x : List (Int × Slt) × List (Int × Slt) // DelI g l x.1 x.2}) (fun x => [(7, .pointer (some ⟨r, 0, none⟩)), (1, .func (.func f) #[] caps), (0, .map (some mb))]) (fun x => [mitAt (KI .i64) RSlt r mb x.1.1 x.1.2, A]) (fun x => x.1.2.length) ⟨(l, l), hI⟩ (by repeat constructor) (ent_append_of_takes (by repeat constructor)) ?_
  rintro ⟨⟨l1, left⟩, hJ0⟩
  have hJ : DelI g l l1 left := hJ0
  dsimp only
  repeat' (first
 | refine SK.seq ?_
 | refine SK.region ?_
 | fail)
  refine SO.nextMapN (kr := KI .i64) (ρ := RSlt) rfl (by repeat constructor) rfl ?_ ?_
  · rintro rfl
    refine SO.itMap (kr := KI .i64) (ρ := RSlt) (by repeat constructor) ?_
    rw [delI_end hJ]
    repeat' (first
 | refine SO.pure rfl rfl rfl ?_
 | refine SO.nil ?_
 | refine SK.seq ?_
 | refine SK.condF rfl ?_
 | refine SK.exit rfl ?_
 | fail)
    exact SK.endX .nil () trivial rfl (by repeat constructor)
  · intro k u h hk hkl
    have hkm : k ∈ keysM left := List.mem_map.2 ⟨_, hk, rfl⟩
    have hlt := mdel_lt hkm
    have hno : k ∉ keysM (mdel left k) := fun hm => ((mdel_keys hJ.ndl).1 hm).2 rfl
    repeat' (first
 | refine SO.pure rfl rfl rfl ?_
 | refine SO.nil ?_
 | refine SK.seq ?_
 | refine SK.region ?_
 | refine SK.condT rfl ?_
 | refine SK.skip ?_
 | refine SK.block ?_
 | fail)
    refine SO.entry (kr := KI .i64) (ρ := RSlt) rfl (by repeat constructor) rfl ?_
    repeat' (first
 | refine SO.pure rfl rfl rfl ?_
 | refine SO.nil ?_
 | refine SO.loadW rfl (by repeat constructor) rfl rfl rfl (by rfl) rfl ?_
 | refine SK.seq ?_
 | refine SK.region ?_
 | refine SO.alloc rfl rfl rfl (fun b => ?_)
 | refine SO.storeW rfl rfl (by repeat constructor) rfl (by rfl) (by rfl) (by rfl) ?_
 | fail)
    refine SO.callF (vs := [.int .i64 k, RSlt.val u h]) rfl rfl ((hg k u h).toF rfl) .nil (by repeat constructor) rfl (fun _ _ => ?_)
    refine SO.itAt (kr := KI .i64) (ρ := RSlt) (by repeat constructor) ?_
    cases hgk : g k with
    | true =>
      repeat' (first
 | refine SO.pure rfl rfl rfl ?_
 | refine SO.nil ?_
 | refine SK.region ?_
 | refine SK.condT rfl ?_
 | fail)
      refine SO.deleteIt (kr := KI .i64) (ρ := RSlt) (l := l1) (left := mdel left k) (key := k) rfl (by repeat constructor) rfl rfl rfl rfl hno rfl ?_
      repeat' (first
 | refine SO.nil ?_
 | refine SK.blk ?_
 | fail)
      refine SK.inv ⟨⟨(mdel l1 k, mdel left k), delI_yes hJ hgk⟩, hlt, by repeat constructor, ?_⟩
      exact ent_append_of_takes (by repeat constructor)
    | false =>
      repeat' (first
 | refine SO.nil ?_
 | refine SK.condF rfl ?_
 | refine SK.skip ?_
 | refine SK.blk ?_
 | fail)
      refine SK.inv ⟨⟨(l1, mdel left k), delI_no hJ hgk⟩, hlt, by repeat constructor, ?_⟩
      exact ent_append_of_takes (by repeat constructor)
theorem scut_does (sb db mb : Nat) (s : Sg) (pos : Int) : Does Tryz.prog 107 [.pointer (some ⟨sb, 0, none⟩), .int .i64 pos] [] (sgAt sb db mb s) Unit (fun _ => True) (fun _ => .tuple #[]) (fun _ => sgAt sb db mb (s.above pos)) := by
  refine Does.of Tryz.call107 Tryz.func107 rfl rfl rfl all_nil rfl ?_
  unfold sgAt
  rw [← filter_above]
  repeat' (first
 | refine SO.pure rfl rfl rfl ?_
 | refine SO.nil ?_
 | refine SO.load rfl (by repeat constructor) rfl (by rfl) (by exact ⟨rfl, by first | exact fun _ => rfl | exact (fun h => by cases h)⟩) rfl ?_
 | refine SK.seq ?_
 | refine SK.region ?_
 | refine SO.box rfl rfl rfl (fun b => ?_)
 | fail)
  have hd := delf_does mb s.m 144 #[.pointer (some ⟨b, 0, none⟩)] (pts b 0 [.int .i64 pos]) (fun p => decide (pos ≤ p)) (fun k u h => cutf_does b pos k u h)
  repeat' (first
 | refine SO.call (hd) rfl rfl rfl (by repeat constructor) (by repeat constructor) rfl (fun x hx => ?_)
 | refine SO.nil ?_
 | fail)
  exact SK.endX .nil () trivial rfl (by repeat constructor)
theorem sbelow_does (sb db mb : Nat) (s : Sg) (n : Nat) : Does Tryz.prog 108 [.pointer (some ⟨sb, 0, none⟩), .int .i64 (n : Int)] [] (sgAt sb db mb s) Unit (fun _ => True) (fun _ => .tuple #[]) (fun _ => sgAt sb db mb (s.below n)) := by
  refine Does.of Tryz.call108 Tryz.func108 rfl rfl rfl all_nil rfl ?_
  unfold sgAt
  rw [← filter_below]
  repeat' (first
 | refine SO.pure rfl rfl rfl ?_
 | refine SO.nil ?_
 | refine SO.load rfl (by repeat constructor) rfl (by rfl) (by exact ⟨rfl, by first | exact fun _ => rfl | exact (fun h => by cases h)⟩) rfl ?_
 | refine SK.seq ?_
 | refine SK.region ?_
 | refine SO.box rfl rfl rfl (fun b => ?_)
 | refine SO.store rfl rfl (by repeat constructor) rfl (by rfl) rfl rfl (by rfl) (by rfl) ?_
 | fail)
  have hd := (delf_does mb s.m 145 #[.pointer (some ⟨b, 0, none⟩)] (big [pts b 0 [.pointer (some ⟨sb, 0, none⟩)], pts sb 0 [.pointer (some ⟨db, 0, none⟩), .map (some mb), .int .i64 (s.sealed : Int), .int .i64 (n : Int)]]) (fun p => decide (p < (n : Int))) (fun k u h => (belf_does b sb db mb (.int .i64 (s.sealed : Int)) .nilIface (n : Int) k u h).bigOwn)).unbig
  repeat' (first
 | refine SO.call (hd) rfl rfl rfl (by repeat constructor) (by repeat constructor) rfl (fun x hx => ?_)
 | refine SO.nil ?_
 | fail)
  exact SK.endX .nil () trivial rfl (by repeat constructor)
theorem note_does (sb db mb : Nat) (p : Pl) (s : Sg) (d : Dk) (k : UInt8) (n : Nat) (h : d.Ok) (hn : n ≤ 2147483647) : Does Tryz.prog 106 [.pointer (some ⟨sb, 0, none⟩), .string ⟨#[k]⟩, .int .i64 (n : Int)] [libA] (sgAt sb db mb s ++ dkAt db p d) Pl (fun _ => True) (fun _ => .int .i64 (Sg.note d k n).1) (fun p => sgAt sb db mb s ++ dkAt db p (Sg.note d k n).2) := by
  refine Does.of Tryz.call106 Tryz.func106 rfl rfl rfl (all_cons pers_lib all_nil) rfl ?_
  have i1 := itoa_does (n : Int) (by omega)
  rw [Int.toNat_natCast] at i1
  have l1 := dec_len 9 n (by omega)
  generalize hux : txB (Lib.decDigits n) = uu at *
  have s1 : uu.size ≤ 10 := by rw [← hux, size_txB]; exact l1
  have z1 : (⟨#[32]⟩ : ByteArray).size = 1 := rfl
  have z2 : (⟨#[k]⟩ : ByteArray).size = 1 := rfl
  have t1 : ((⟨#[k]⟩ : ByteArray) ++ ⟨#[32]⟩).size ≤ 2 := by rw [ByteArray.size_append]; omega
  have t2 : ((⟨#[k]⟩ : ByteArray) ++ ⟨#[32]⟩ ++ uu).size ≤ 12 := by rw [ByteArray.size_append]; omega
  have hw := dwrite_does db p d ((⟨#[k]⟩ : ByteArray) ++ ⟨#[32]⟩ ++ uu) h (by omega)
  have eline : (⟨#[k]⟩ : ByteArray) ++ ⟨#[32]⟩ ++ uu = txB (lineN k n) := by
    rw [← hux]
    show txB [k] ++ txB [32] ++ txB (Lib.decDigits n) = _
    simp only [txB_app]
    unfold lineN
    simp
  simp only [sgAt, dkAt, List.cons_append, List.nil_append]
  repeat' (first
 | refine SO.call (i1) rfl rfl rfl (by repeat constructor) (by repeat constructor) rfl (fun x hx => ?_)
 | refine SO.call (hw) rfl rfl rfl (by repeat constructor) (by repeat constructor) rfl (fun x hx => ?_)
 | refine SO.pure rfl rfl rfl ?_
 | refine SO.nil ?_
 | refine SK.seq ?_
 | refine SK.region ?_
 | refine SK.regionX 1 (.item 0 0 (.item 0 4 (.item 0 6 (.item 0 1 (.item 0 5 (.item 0 2 (.item 0 3 (.item 1 7 (.item 0 8 (.item 2 9 (.item 0 10 .nil))))))))))) (noteL db p d) (by repeat constructor) (by repeat (first | exact .nil | apply PersSub.s | apply PersSub.t | apply PersSub.p | apply PersSub.r | apply PersSub.skip)) (by kernel_rfl) (by kernel_rfl) (fun _ _ _ h => h) ?_
 | refine SX.tail (by rfl) (by repeat (first | exact .nil | apply DropP.s | apply DropP.t | apply DropP.p | apply DropP.r | apply DropP.keep)) ?_
 | refine SX.pure rfl rfl rfl ?_
 | refine SX.load rfl (by repeat constructor) rfl (by rfl) (by exact ⟨rfl, by first | exact fun _ => rfl | exact (fun h => by cases h)⟩) rfl ?_
 | refine SX.scat rfl rfl rfl (by first | assumption | omega | exact Nat.le_of_ble_eq_true rfl | (simp only [decide_eq_true_eq, decide_eq_false_iff_not] at *; omega)) ?_
 | refine SX.step rfl rfl ?_
 | refine SK.invY ?_
 | refine SY.shareGo (by repeat (first | exact .nil | apply PersSub.s | apply PersSub.t | apply PersSub.p | apply PersSub.r | apply PersSub.skip)) ?_
 | fail)
  rw [eline]
  unfold Sg.note
  rename Pl => px
  by_cases he : (d.write (txB (lineN k n))).1 = 0
  · rw [if_pos he, decide_eq_true he]
    repeat' (first
 | refine SO.call (dsync_does db px (d.write (txB (lineN k n))).2) rfl rfl rfl (by repeat constructor) (by repeat constructor) rfl (fun x hx => ?_)
 | refine SO.pure rfl rfl rfl ?_
 | refine SO.nil ?_
 | refine SO.load rfl (by repeat constructor) rfl (by rfl) (by exact ⟨rfl, by first | exact fun _ => rfl | exact (fun h => by cases h)⟩) rfl ?_
 | refine SK.seq ?_
 | refine SK.region ?_
 | refine SK.condT rfl ?_
 | fail)
    refine SK.retX (.tmp rfl .nil) px trivial ?_ (by repeat constructor)
    rw [he]; rfl
  · rw [if_neg he, decide_eq_false he]
    repeat' (first
 | refine SO.pure rfl rfl rfl ?_
 | refine SO.nil ?_
 | refine SK.seq ?_
 | refine SK.region ?_
 | refine SK.condF rfl ?_
 | refine SK.skip ?_
 | fail)
    exact SK.retX (.tmp rfl .nil) px trivial rfl (by repeat constructor)
end Go.Proofs
