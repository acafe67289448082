/- A part of a proof: what functions of the program compute. -/
import Derived.Test.YtmbfcjffjgecjaaGreatDoorShE
import Derived.Test.YtmbfcjffjgecjaaGreatDoorTabE
import Derived.Test.YtmbfcjffjgecjaaGreatDoorLib1
import Derived.Test.YtmbfcjffjgecjaaGreatDoorLib2
import Derived.Shelf.Strings.SlTrimAscii
import Derived.Lib.SmallJoins
set_option linter.unusedVariables false
set_option linter.unusedSimpArgs false
set_option maxHeartbeats 0
namespace Go.Sl
theorem below_drews {B : Nat} {a w : World} (h : Go.RowKit.Below B a w) (n : Nat) : Go.RowKit.Below B a (w.drewN n) := ⟨h.os, h.tape, h.output, h.size, h.block⟩
theorem below_grow (w : World) (os : Array Obj) : Go.RowKit.Below w.heap.size w (Go.Sort.grow w os) := ⟨rfl, rfl, rfl, by simp [Go.Sort.grow], fun k hk => by simp [Go.Sort.grow, Array.getElem?_append_left hk]⟩
theorem indexB_has (c : UInt8) : ∀ l : Tx, decide (0 ≤ Lib.indexByte l c) = hasC c l
  | [] => by simp [Lib.indexByte, hasC]
  | b :: l => by
    have ih := indexB_has c l
    have hge : ∀ m : Tx, -1 ≤ Lib.indexByte m c := by
      intro m
      induction m with
      | nil => simp [Lib.indexByte]
      | cons x m ih2 => simp only [Lib.indexByte]; split <;> (try split) <;> omega
    have h1 := hge l
    rw [has_cons, ← ih]
    simp only [Lib.indexByte]
    by_cases hb : b = c
    · subst hb; simp
    · have hb2 : (b == c) = false := by simpa using hb
      simp only [hb2, Bool.false_eq_true, if_false, hb, decide_false, Bool.false_or]
      by_cases hm : Lib.indexByte l c = -1
      · simp [hm]
      · have : (Lib.indexByte l c == -1) = false := by simpa using hm
        simp only [this, Bool.false_eq_true, if_false]
        have h2 : 0 ≤ Lib.indexByte l c := by omega
        rw [decide_eq_true h2, decide_eq_true (show 0 ≤ Lib.indexByte l c + 1 by omega)]
end Go.Sl
namespace Go.Proofs
attribute [local irreducible] Go.Sl.SO Go.Sl.SQ Go.Sl.SR Go.Sl.SC Go.Sl.SX Go.Sl.SY Go.Sl.eadr Go.Sl.slAt Go.Sl.sqAt Go.Sl.pts Go.Sl.rod Go.Sl.ob Go.Sl.ex Go.Sl.big Go.Sl.pr Go.Sl.tabs Go.Sl.mpAt
open Go.Sl Go.RowKit
structure LibP (w : World) : Prop where
  ml : ∃ m : Int, w.cell? ⟨0, 0, none⟩ = some (.int .i64 m)
  pow : Lib.TabIs Tryz.prog w "internal/strconv.uint64pow10" .u64 Lib.pow10Tab
  sz : 0 < w.heap.size
theorem LibP.stays {a w : World} (h : LibP a) (hb : Below a.heap.size a w) : LibP w := by
  obtain ⟨⟨m, hm⟩, hp, hs⟩ := h
  have c0 : w.cell? ⟨0, 0, none⟩ = a.cell? ⟨0, 0, none⟩ := hb.cell (p := ⟨0, 0, none⟩) hs
  exact ⟨⟨m, c0.trans hm⟩, Go.Joins.tab_stays (g := 1) (by kernel_rfl) hp hb (Nat.le_refl _), Nat.lt_of_lt_of_le hs hb.size⟩
def libA : HP := Go.Sl.start LibP
theorem pers_lib : Pers libA := Go.Sl.pers_start _
theorem lib_at {w : World} {L : List HP} (h : St w (libA :: L)) : LibP w := by
  obtain ⟨r, o, s, a, b, d, le, hp, hL⟩ := h
  exact LibP.stays hp s.below
theorem contains_does (s : ByteArray) : Does Tryz.prog 89 [.string s, .string ⟨#[10]⟩] [] [] Unit (fun _ => True) (fun _ => .bool (nlT s)) (fun _ => []) :=
  Does.ofCalls Tryz.call89 all_nil fun F w hst => (Tryz.strings_Contains_one s 10 w).mono fun e w' ⟨h1, h2⟩ => ⟨by rw [h1, indexB_has]; rfl, by rw [h2]; exact Below.refl _ _⟩
theorem cut_does (s sep : ByteArray) (hs : s.size < 4294967281) : Does Tryz.prog 127 [.string s, .string sep] [libA] [] Unit (fun _ => True) (fun _ => .tuple #[.string (txB (Lib.cut s.data.toList sep.data.toList).1), .string (txB (Lib.cut s.data.toList sep.data.toList).2.1), .bool (Lib.cut s.data.toList sep.data.toList).2.2]) (fun _ => []) :=
  Does.ofCalls Tryz.call127 (all_cons pers_lib all_nil) fun F w hst => by
    obtain ⟨m, hm⟩ := (lib_at (hst.ent Ent.swap)).ml
    exact (Tryz.strings_Cut s sep m w hs hm).mono fun e w' ⟨h1, n, h2⟩ => ⟨h1, by rw [h2]; exact below_drews (Below.refl _ _) n⟩
theorem itoa_does (n : Int) (h : 0 ≤ n ∧ n ≤ 9223372036854775807) : Does Tryz.prog 101 [.int .i64 n] [libA] [] Unit (fun _ => True) (fun _ => .string (txB (Lib.decDigits n.toNat))) (fun _ => []) :=
  Does.ofCalls Tryz.call101 (all_cons pers_lib all_nil) fun F w hst => by
    have hp := (lib_at (hst.ent Ent.swap)).pow
    refine (Tryz.strconv_Itoa n (by omega) h.2 w hp).mono fun e w' ⟨h1, k, os, h2⟩ => ⟨?_, ?_⟩
    · rw [h1]
      unfold Lib.itoa
      rw [if_neg (by omega)]; rfl
    · rw [h2]
      exact (below_drews (Below.refl w.heap.size w) k).trans (below_grow (w.drewN k) os)
theorem atoi_ok (s : ByteArray) (hs : s.size ≤ 281474976710656) (v : Int) (h : Lib.atoiAll s.data.toList = .ok v) : Does Tryz.prog 159 [.string s] [] [] Unit (fun _ => True) (fun _ => .tuple #[.int .i64 v, .nilIface]) (fun _ => []) :=
  Does.ofCalls Tryz.call159 all_nil fun F w hst => (Tryz.strconv_Atoi_ok s (by omega) v h w).mono fun e w' ⟨h1, h2⟩ => ⟨h1, by
    rcases h2 with rfl | ⟨t, rfl⟩
    · exact Below.refl _ _
    · exact Lib.bytesWorld_below _ _ _⟩
theorem strim_does (s : ByteArray) (hs : s.size ≤ 9223372036854775807) : Does Tryz.prog 158 [.string s, .string ⟨#[48, 49, 50, 51, 52, 53, 54, 55, 56, 57]⟩] [] [] Unit (fun _ => True) (fun _ => .string (txB (Lib.trimS s.data.toList digs))) (fun _ => []) :=
  Does.ofCalls Tryz.call158 all_nil fun F w hst => (Any.strings_Trim_laid Tryz.lays160 (by kernel_rfl) s ⟨#[48, 49, 50, 51, 52, 53, 54, 55, 56, 57]⟩ w hs (by decide) (ascii_of_all (by decide))).mono fun e w' ⟨h1, h2⟩ => ⟨h1, h2⟩
theorem cutp_does (s p : ByteArray) : Does Tryz.prog 173 [.string s, .string p] [] [] Unit (fun _ => True) (fun _ => .tuple #[.string (txB (Lib.trimPrefix s.data.toList p.data.toList)), .bool (Lib.hasPrefix s.data.toList p.data.toList)]) (fun _ => []) :=
  Does.ofCalls Tryz.call173 all_nil fun F w hst => (Tryz.strings_CutPrefix s p w).mono fun e w' ⟨h1, h2⟩ => ⟨h1, by rw [h2]; exact Below.refl _ _⟩
theorem cuts_does (s p : ByteArray) (hs : s.size ≤ 9223372036854775807) : Does Tryz.prog 174 [.string s, .string p] [] [] Unit (fun _ => True) (fun _ => .tuple #[.string (txB (Lib.trimSuffix s.data.toList p.data.toList)), .bool (Lib.hasSuffix s.data.toList p.data.toList)]) (fun _ => []) :=
  Does.ofCalls Tryz.call174 all_nil fun F w hst => (Tryz.strings_CutSuffix s p w hs).mono fun e w' ⟨h1, h2⟩ => ⟨h1, by rw [h2]; exact Below.refl _ _⟩
theorem sort_does (x : Pl) (l : List Int) : Does Tryz.prog 141 [.slice x.1 l.length x.2] [] [sqAt true RI x.1 l.length x.2 l] Unit (fun _ => True) (fun _ => .tuple #[]) (fun _ => [sqAt true RI x.1 l.length x.2 (sortI l)]) := by
  refine ⟨Tryz.call141, all_nil, fun F w hst => ?_⟩
  have h1 : St w (sqAt true RI x.1 l.length x.2 l :: F :: []) := hst.ent Ent.swap
  obtain ⟨A, c⟩ := x
  dsimp only at h1 ⊢
  have hss : sortI l = l.mergeSort fun x y => decide (x ≤ y) := by
    refine ris_uniq (sort_ris l) ?_ ((sort_perm l).trans (List.mergeSort_perm l _).symm)
    have := List.pairwise_mergeSort (le := fun x y : Int => decide (x ≤ y)) (by intro a b c h1 h2; simp at *; omega) (by intro a b; simp; omega) l
    exact this.imp (fun h => by simpa using h)
  cases A with
  | none =>
    have h2 := (fun (h : St w (sqAt true RI none l.length c l :: F :: [])) => let ⟨r, o, s, hs⟩ := h; sq_len (ρ := RI) (w := true) .here r o hs) h1
    obtain ⟨rfl, -⟩ := h2.2.2.2 rfl
    refine (Tryz.slices_Sort_int_none none c w).mono ?_
    rintro e w' ⟨rfl, rfl⟩
    exact ⟨(), trivial, rfl, h1.ent Ent.swap⟩
  | some a =>
    obtain ⟨ha, hnc, sp, hsp, h2⟩ := sq_cells plain_RI h1
    have h0 := (fun (h : St w (sqAt true RI (some a) l.length c l :: F :: [])) => let ⟨r, o, s, hs⟩ := h; sq_len (ρ := RI) (w := true) .here r o hs) h1
    rw [cellsOf_RI] at h2
    by_cases hz : l = []
    · subst hz
      refine (Tryz.slices_Sort_int_none (some a) c w).mono ?_
      rintro e w' ⟨rfl, rfl⟩
      exact ⟨(), trivial, rfl, h1.ent Ent.swap⟩
    · have hH := holds_pts h2
      have hlt : a.block < w.heap.size := by
        obtain ⟨b, l2, rfl⟩ : ∃ b l2, l = b :: l2 := by cases l with
          | nil => exact absurd rfl hz
          | cons b l2 => exact ⟨b, l2, rfl⟩
        obtain ⟨hc, _⟩ := h2.cell (i := 0) (v := vI b) rfl
        obtain ⟨c1, e1, f1, hh, _⟩ := cell_block hc
        exact (Array.getElem?_eq_some_iff.1 hh).1
      have hlim : l.length < 4611686018427387904 := by have := h0.2.1; unfold lim at this; omega
      have hcall := Tryz.slices_Sort_int a.block a.off c l w hH hlt hlim
      rw [← ha] at hcall
      refine hcall.mono ?_
      rintro e w' ⟨rfl, n, os, rfl⟩
      refine ⟨(), trivial, rfl, ?_⟩
      have h3 : St (Go.Sort.ahead w n) (pts a.block a.off (l.map vI ++ sp) :: F :: []) := h2.drew _
      have h4 := h3.putRow (us := l.mergeSort fun x y => decide (x ≤ y)) (List.mergeSort_perm l _).length_eq
      have h5 := h4.grow (below_grow _ os)
      rw [← hss] at h5
      have hl2 : (sortI l).length = l.length := (sort_perm l).length_eq
      rw [hss, ← hss]
      rw [← cellsOf_RI] at h5
      have h6 := h5.ent (cells_sq plain_RI (n := l.length) (c := c) hl2.symm h0.2.1 hnc hsp)
      rw [← ha] at h6
      exact h6.ent Ent.swap
theorem splitB_parts (s : ByteArray) (c : UInt8) : (Lib.splitB ⟨#[c]⟩ 0 (Lib.countB s ⟨#[c]⟩) s) = (partsC c s.data.toList).map txB := by
  have h1 := Lib.splitB_data ⟨#[c]⟩ 0 (Lib.countB s ⟨#[c]⟩) s
  have h2 : (Lib.splitB ⟨#[c]⟩ 0 (Lib.countB s ⟨#[c]⟩) s).map (·.data.toList) = partsC c s.data.toList := by
    rw [h1]
    exact splitL1 c s.data.toList.length s.data.toList (Nat.le_refl _)
  rw [← h2, List.map_map]
  conv => lhs; rw [← List.map_id (Lib.splitB ⟨#[c]⟩ 0 (Lib.countB s ⟨#[c]⟩) s)]
  exact List.map_congr_left fun x _ => (txB_tx x).symm
theorem flat_RS (l : List ByteArray) : flat RS (l.map fun x => (x, ())) = l.map Value.string := by
  induction l with
  | nil => rfl
  | cons x l ih =>
    rw [List.map_cons, List.map_cons]
    show RS.cells x () ++ flat RS (l.map fun x => (x, ())) = _
    rw [ih]; rfl
theorem split_does (s : ByteArray) (c : UInt8) (hs : s.size < 1048576) : Does Tryz.prog 175 [.string s, .string ⟨#[c]⟩] [libA] [] Nat (fun _ => True) (fun b => .slice (some ⟨b, 0, none⟩) (partsC c s.data.toList).length (partsC c s.data.toList).length) (fun b => [slAt RS (some ⟨b, 0, none⟩) (partsC c s.data.toList).length ((partsC c s.data.toList).map txB)]) := by
  refine ⟨Tryz.call175, all_cons pers_lib all_nil, fun F w hst => ?_⟩
  have hst1 : St w (F :: [libA]) := hst
  obtain ⟨m, hm⟩ := (lib_at (hst1.ent Ent.swap)).ml
  have hlen : Lib.countB s ⟨#[c]⟩ + 1 = (partsC c s.data.toList).length := by
    have := Lib.splitB_all ⟨#[c]⟩ (Nat.le_refl 1) 0 _ s rfl
    rw [splitB_parts, List.length_map] at this
    exact this.symm
  have hle := Lib.countB_le ⟨#[c]⟩ (Nat.le_refl 1) s.size s (Nat.le_refl _)
  refine (Tryz.strings_Split s ⟨#[c]⟩ m w (by omega) hm (Nat.le_refl 1)).mono ?_
  rintro e w' ⟨rfl, rfl⟩
  refine ⟨w.heap.size, trivial, by rw [hlen], ?_⟩
  rw [splitB_parts]
  have h1 : St (w.alloc (.cells (((partsC c s.data.toList).map txB).map Value.string).toArray 9)) (pts w.heap.size 0 (((partsC c s.data.toList).map txB).map Value.string) :: F :: [libA]) := by
    have := hst1.alloc (((partsC c s.data.toList).map txB).map Value.string).toArray 9
    exact this
  have h2 := toSl (ρ := RS) (l := (partsC c s.data.toList).map txB) (n := (partsC c s.data.toList).length) (((partsC c s.data.toList).map txB).map fun x => (x, ())) .here (by rw [List.map_map]; exact List.map_id _) (flat_RS _) (by rw [List.length_map]) (Nat.ble_eq_true_of_le (by rw [← hlen]; unfold lim; omega)) (by
    have : ∀ l : List ByteArray, allAtoms RS (l.map fun x => (x, ())) = [] := by
      intro l
      induction l with
      | nil => rfl
      | cons x l ih => simp only [List.map_cons, allAtoms, ih]; rfl
    rw [this]; exact .nil) F _ (h1.ent Ent.swap)
  exact h2.ent (Ent.cons (Ent.cons ent_nil))
theorem join_does (x : Pl) (l : List ByteArray) (sep : ByteArray) (hc : l.length ≤ x.2) (hl : (Lib.join (l.map (·.data.toList)) sep.data.toList).length ≤ 140737488355328) : Does Tryz.prog 148 [.slice x.1 l.length x.2, .string sep] [slAt RS x.1 l.length l] [] Unit (fun _ => True) (fun _ => .string (txB (Lib.join (l.map (·.data.toList)) sep.data.toList))) (fun _ => []) := by
  obtain ⟨A, c⟩ := x
  refine Does.ofCalls Tryz.call148 (all_cons (pers_slAt _ _ _ _) all_nil) fun F w hst => ?_
  dsimp only at hst hc ⊢
  have h1 : St w (slAt RS A l.length l :: F :: []) := hst.ent Ent.swap
  obtain ⟨h0, hlim, hnil, hsome⟩ := sl_open h1
  by_cases hz : l = []
  · subst hz
    refine (Tryz.strings_Join_none A c sep w).mono ?_
    rintro e w' ⟨rfl, rfl⟩
    exact ⟨rfl, Below.refl _ _⟩
  · cases A with
    | none => exact absurd (hnil rfl) hz
    | some a =>
      obtain ⟨hs, z, hzl, h2⟩ := hsome a rfl
      have hne : l.length ≠ 0 := fun h => hz (List.length_eq_zero_iff.1 h)
      have ha := addr_eta (hs hne)
      have hz2 : z = l.map fun x => (x, ()) := by
        rw [← hzl, List.map_map]
        conv => lhs; rw [← List.map_id z]
        exact List.map_congr_left fun p _ => rfl
      have hfl : flat RS z = l.map Value.string := by rw [hz2]; exact flat_RS l
      have h3 : St w (rod a.block a.off (l.map Value.string) :: memA RS z :: F :: []) := by
        rw [← hfl]; exact h2
      have hcell : ∀ (j : Nat) (x : ByteArray), l[j]? = some x → w.cell? ⟨a.block, a.off + j, none⟩ = some (.string x) := fun j x hx => h3.rcell (by rw [List.getElem?_map, hx]; rfl)
      have hlt : a.block < w.heap.size := by
        obtain ⟨c1, e1, f1, hh, _⟩ := cell_block (hcell 0 l[0] (List.getElem?_eq_getElem (by omega)))
        exact (Array.getElem?_eq_some_iff.1 hh).1
      have := Tryz.strings_Join a.block a.off c l sep w hcell hlt (by unfold lim at hlim; omega) hc hl
      rw [← ha] at this
      exact this
end Go.Proofs
