/- A part of a proof: what functions of the program compute. -/
import Derived.Test.YtmbfcjffjgecjaaGreatDoorParE
import Derived.Test.YtmbfcjffjgecjaaGreatDoorLib2
set_option linter.unusedVariables false
set_option linter.unusedSimpArgs false
set_option maxHeartbeats 0
namespace Go.Sl
theorem words_size {c : UInt8} : ∀ {l w : Tx}, w ∈ partsC c l → w.length ≤ l.length
  | [], w, h => by simp [partsC] at h; subst h; simp
  | b :: l, w, h => by
    simp only [partsC] at h
    split at h
    · rcases List.mem_cons.1 h with rfl | h
      · simp
      · have := words_size h; simp; omega
    · split at h
      · rename_i p ps hp
        rcases List.mem_cons.1 h with rfl | h
        · have := words_size (l := l) (w := p) (by rw [hp]; simp); simp; omega
        · have := words_size (l := l) (w := w) (by rw [hp]; simp [h]); simp; omega
      · simp at h; subst h; simp
end Go.Sl
namespace Go.Proofs
attribute [local irreducible] Go.Sl.SO Go.Sl.SQ Go.Sl.SR Go.Sl.SC Go.Sl.SX Go.Sl.SY Go.Sl.eadr Go.Sl.slAt Go.Sl.sqAt Go.Sl.pts Go.Sl.rod Go.Sl.ob Go.Sl.ex Go.Sl.big Go.Sl.pr Go.Sl.tabs Go.Sl.mpAt
open Go.Sl
theorem vparse_ok (s : ByteArray) (v : List Int) (hs : s.size ≤ 1048575) (h : vecT s.data.toList = some v) : Does Tryz.prog 150 [.string s] [libA] [] Pl (fun x => v.length ≤ x.2) (fun x => .tuple #[.slice x.1 v.length x.2, .int .i64 0]) (fun x => [slAt RI x.1 v.length v]) := by
  refine Does.of Tryz.call150 Tryz.func150 rfl rfl rfl (all_cons pers_lib all_nil) rfl ?_
  obtain ⟨m, hm, hcase⟩ := vecT_parts h
  have hml : m.length + 2 = s.size := by
    have := congrArg List.length hm
    rw [show s.data.toList.length = s.size from Array.length_toList] at this
    simp at this; omega
  have h1 := cutp_does s ⟨#[91]⟩
  have e1 : Lib.trimPrefix s.data.toList (⟨#[91]⟩ : ByteArray).data.toList = m ++ [93] := by rw [hm]; simp [Lib.trimPrefix, Lib.hasPrefix, List.isPrefixOf]
  have e2 : Lib.hasPrefix s.data.toList (⟨#[91]⟩ : ByteArray).data.toList = true := by rw [hm]; simp [Lib.hasPrefix, List.isPrefixOf]
  rw [e1, e2] at h1
  have h2 := cuts_does (txB (m ++ [93])) ⟨#[93]⟩ (by rw [size_txB]; simp; omega)
  have e4 : Lib.hasSuffix (txB (m ++ [93])).data.toList (⟨#[93]⟩ : ByteArray).data.toList = true := by
    rw [tx_txB]
    show List.isSuffixOf [93] (m ++ [93]) = true
    rw [List.isSuffixOf_iff_suffix]; exact List.suffix_append _ _
  have e3 : Lib.trimSuffix (txB (m ++ [93])).data.toList (⟨#[93]⟩ : ByteArray).data.toList = m := by
    unfold Lib.trimSuffix
    rw [if_pos e4, tx_txB]
    show (m ++ [93]).take ((m ++ [93]).length - 1) = m
    rw [List.length_append]; simp
  rw [e3, e4] at h2
  rcases hcase with ⟨rfl, rfl⟩ | ⟨hne, hw⟩
  · have e5 : eqS (txB []) ⟨#[]⟩ = true := by decide
    repeat' (first
 | refine SO.call (h1) rfl rfl rfl (by repeat constructor) (by repeat constructor) rfl (fun x hx => ?_)
 | refine SO.call (h2) rfl rfl rfl (by repeat constructor) (by repeat constructor) rfl (fun x hx => ?_)
 | refine SO.pure rfl rfl rfl ?_
 | refine SO.nil ?_
 | refine SO.guardY rfl rfl ?_
 | refine SK.seq ?_
 | refine SK.region ?_
 | refine SK.condT rfl ?_
 | refine SK.condF rfl ?_
 | refine SK.skip ?_
 | fail)
    rw [e5]
    skip
    refine SK.ret ⟨_, .tmp rfl (.tmp rfl .nil), (none, 0), Nat.le_refl _, rfl, ?_⟩
    exact (ent_triv (A := slAt RI none 0 [])).trans (ent_append_of_takes (by repeat constructor))
  · have e5 : eqS (txB m) ⟨#[]⟩ = false := by
      rw [Bool.eq_false_iff]; intro he
      have := congrArg (fun b : ByteArray => b.data.toList) (eqS_iff.1 he)
      simp only [tx_txB] at this
      exact hne this
    repeat' (first
 | refine SO.call (h1) rfl rfl rfl (by repeat constructor) (by repeat constructor) rfl (fun x hx => ?_)
 | refine SO.call (h2) rfl rfl rfl (by repeat constructor) (by repeat constructor) rfl (fun x hx => ?_)
 | refine SO.pure rfl rfl rfl ?_
 | refine SO.nil ?_
 | refine SO.guardY rfl rfl ?_
 | refine SK.seq ?_
 | refine SK.region ?_
 | refine SK.condF rfl ?_
 | refine SK.skip ?_
 | refine SK.condFP rfl (by first | assumption | (simp only [Go.Sl.bl]; omega)) ?_
 | fail)
    rw [e5]
    obtain ⟨hw1, hw2, hw3, rfl⟩ := wordsV_parts hw
    have hsp := split_does (txB m) 32 (by rw [size_txB]; omega)
    rw [tx_txB] at hsp
    have hwz : ∀ w ∈ partsC 32 m, w.length ≤ 1048575 := fun w hw => by have := words_size hw; omega
    have hpn := partsC_ne 32 m
    generalize partsC 32 m = ws at *
    repeat' (first
 | refine SO.call (hsp) rfl rfl rfl (by repeat constructor) (by repeat constructor) rfl (fun x hx => ?_)
 | refine SO.pure rfl rfl rfl ?_
 | refine SO.nil ?_
 | refine SK.seq ?_
 | refine SK.region ?_
 | refine SK.block ?_
 | fail)
    refine SK.shift (fun F w hst => hst.ent (Ent.cons (ent_triv (A := sqAt false RI none 0 0 [])))) ?_
    refine SK.loop (X := {i : Nat // i ≤ ws.length} × Pl) (fun y => [(36, .int .i64 (y.1.1 : Int)), (35, .int .i64 (ws.length : Int)), (34, .slice (some ⟨x, 0, none⟩) ws.length ws.length), (9, .slice (some ⟨x, 0, none⟩) ws.length ws.length), (8, .int .i64 0), (7, .slice y.2.1 y.1.1 y.2.2)])
      (fun y => [libA, slAt RS (some ⟨x, 0, none⟩) ws.length (ws.map txB), sqAt false RI y.2.1 y.1.1 y.2.2 ((ws.take y.1.1).map fun w => (valD w : Int))]) (fun y => ws.length - y.1.1) (⟨0, Nat.zero_le _⟩, (none, 0)) (by repeat constructor) (ent_append_of_takes (by repeat constructor)) ?_
    rintro ⟨⟨i, hi⟩, A0, c0⟩
    dsimp only
    have hwi := wrapn (show i ≤ lim by unfold lim; omega)
    rcases Nat.lt_or_ge i ws.length with hil | hil
    · have hd1 : decide ((i : Int) < (ws.length : Int)) = true := decide_eq_true (by omega)
      obtain ⟨wd, hwd⟩ : ∃ wd, ws[i]? = some wd := ⟨_, List.getElem?_eq_getElem hil⟩
      have hu : (ws.map txB)[i]? = some (txB wd) := by rw [List.getElem?_map, hwd]; rfl
      have hmem := List.mem_of_getElem? hwd
      have hnum := number_does (txB wd) 1048576 (valD wd) (by rw [size_txB]; have := hwz wd hmem; omega) (by rw [tx_txB]; unfold numT; rw [if_pos (hw1 wd hmem)]) (by decide)
      have hlm : i + 1 ≤ lim := by unfold lim; omega
      repeat' (first
 | refine SO.indexH rfl rfl (by repeat constructor) rfl rfl rfl rfl (by assumption) ?_
 | refine SO.pure rfl rfl rfl ?_
 | refine SO.nil ?_
 | refine SO.eloadW rfl (by repeat constructor) (by assumption) rfl (by rfl) rfl (by rfl) rfl (fun hid => ?_)
 | refine SK.seq ?_
 | refine SK.region ?_
 | refine SK.skip ?_
 | refine SK.block ?_
 | refine SK.condTP rfl (by first | assumption | (simp only [Go.Sl.bl]; omega)) ?_
 | fail)
      rw [hd1]
      repeat' (first
 | refine SO.append (ρ := RI) (w := false) (ys := [((valD wd : Nat) : Int)]) rfl rfl (by repeat constructor) (Src.one (h := ()) (by repeat constructor) (by rfl) (by repeat constructor)) rfl rfl rfl rfl rfl rfl rfl (by omega) (fun A3 c3 => ?_)
 | refine SO.call (hnum) rfl rfl rfl (by repeat constructor) (by repeat constructor) rfl (fun x hx => ?_)
 | refine SO.pure rfl rfl rfl ?_
 | refine SO.pure2 rfl rfl rfl ?_
 | refine SO.nil ?_
 | refine SK.seq ?_
 | refine SK.region ?_
 | refine SK.condF rfl ?_
 | refine SK.skip ?_
 | refine SK.blk ?_
 | refine SO.buildSlice rfl rfl rfl rfl rfl rfl (fun b => ?_)
 | fail)
      refine SK.inv ⟨(⟨i + 1, by omega⟩, (A3, c3)), ?_, ?_, ?_⟩
      · show ws.length - (i + 1) < ws.length - i
        omega
      · rw [hwi]; repeat constructor
      · have e6 : (ws.take (i + 1)).map (fun w => (valD w : Int)) = (ws.take i).map (fun w => (valD w : Int)) ++ [(valD wd : Int)] := by
          rw [List.take_add_one, hwd]; simp
        dsimp only
        rw [e6]
        exact ent_append_of_takes (by repeat constructor)
    · have hd1 : decide ((i : Int) < (ws.length : Int)) = false := decide_eq_false (by omega)
      obtain rfl : i = ws.length := by omega
      have hpos : 0 < ws.length := by
        rcases Nat.eq_zero_or_pos ws.length with hz | hz
        · exact absurd (List.length_eq_zero_iff.1 hz) hpn
        · exact hz
      have hwl : IntKind.i64.wrap ((ws.length : Int) - 1) = ((ws.length - 1 : Nat) : Int) := by rw [wrap_id (by omega) (by omega)]; omega
      obtain ⟨wd, hwd⟩ : ∃ wd, ws[ws.length - 1]? = some wd := ⟨_, List.getElem?_eq_getElem (by omega)⟩
      have hu : (ws.map txB)[ws.length - 1]? = some (txB wd) := by rw [List.getElem?_map, hwd]; rfl
      have hne2 : eqS (txB wd) ⟨#[48]⟩ = false := by
        rw [Bool.eq_false_iff]; intro he
        have := congrArg (fun b : ByteArray => b.data.toList) (eqS_iff.1 he)
        simp only [tx_txB] at this
        refine hw2 ?_
        rw [List.getLast?_eq_getElem?, hwd, this]
      refine SK.know (sq_len (w := false) (ρ := RI) (A := A0) (n := ws.length) (c := c0) (l := (ws.take ws.length).map fun w => (valD w : Int)) (by repeat constructor)) ?_
      rintro ⟨-, -, hc3, -⟩
      repeat' (first
 | refine SO.pure rfl rfl rfl ?_
 | refine SO.nil ?_
 | refine SK.seq ?_
 | refine SK.region ?_
 | refine SK.block ?_
 | refine SK.exit rfl ?_
 | refine SK.condFP rfl (by first | assumption | (simp only [Go.Sl.bl]; omega)) ?_
 | fail)
      rw [hd1]
      skip
      rw [hwl]
      repeat' (first
 | refine SO.indexH rfl rfl (by repeat constructor) rfl rfl rfl rfl (by assumption) ?_
 | refine SO.pure rfl rfl rfl ?_
 | refine SO.nil ?_
 | refine SO.guardY rfl rfl ?_
 | refine SO.eloadW rfl (by repeat constructor) (by assumption) rfl (by rfl) rfl (by rfl) rfl (fun hid => ?_)
 | refine SK.seq ?_
 | refine SK.region ?_
 | refine SK.skip ?_
 | refine SK.blk ?_
 | refine SK.condFP rfl (by first | assumption | (simp only [Go.Sl.bl]; omega)) ?_
 | fail)
      rw [hne2]
      skip
      have el : (ws.map fun w => (valD w : Int)).length = ws.length := List.length_map _
      simp only [List.take_length]
      refine SK.share (ρ := RI) (w' := false) (A := A0) (n := ws.length) (m := c0) (l := ws.map fun w => (valD w : Int)) (by repeat constructor) ?_
      refine SK.ret ⟨_, .tmp rfl (.tmp rfl .nil), (A0, c0), by rw [el]; exact hc3, by rw [el]; rfl, ?_⟩
      rw [el]
      exact ent_append_of_takes (by repeat constructor)
theorem rparse_ok (s : ByteArray) (r : Rc) (hs : s.size ≤ 1048575) (h : recT s.data.toList = some r) : Does Tryz.prog 129 [.string s] [libA, tabs 4 5] [] Pl (fun x => r.dep.length ≤ x.2) (fun x => .tuple #[RRec.val r x, .int .i64 0]) (fun x => RRec.atoms r x) := by
  refine Does.of Tryz.call129 Tryz.func129 rfl rfl rfl (all_cons pers_lib (all_cons (pers_tabs _ _) all_nil)) rfl ?_
  obtain ⟨a, l1, bb, l2, c, l3, k, v, xa, yb, z, h1, h2, h3, h4, h5, h6, h7, rfl, hc⟩ := recT_parts h
  have hsl : s.data.toList.length = s.size := Array.length_toList
  have n1 := cut1_len h1
  have n2 := cut1_len h2
  have n3 := cut2_len h3
  have n4 := cut1_len h4
  have c1 := cut_does s ⟨#[58]⟩ (by omega)
  have e1 := cutL1 58 s.data.toList
  rw [h1] at e1
  rw [show Lib.cut s.data.toList (⟨#[58]⟩ : ByteArray).data.toList = (a, l1, true) from e1] at c1
  have c2 := cut_does (txB l1) ⟨#[32]⟩ (by rw [size_txB]; omega)
  have e2 := cutL1 32 l1
  rw [h2] at e2
  rw [show Lib.cut (txB l1).data.toList (⟨#[32]⟩ : ByteArray).data.toList = (bb, l2, true) by rw [tx_txB]; exact e2] at c2
  have c3 := cut_does (txB l2) ⟨#[93, 32]⟩ (by rw [size_txB]; omega)
  have e3 := cutL2 93 32 l2
  rw [h3] at e3
  rw [show Lib.cut (txB l2).data.toList (⟨#[93, 32]⟩ : ByteArray).data.toList = (c, l3, true) by rw [tx_txB]; exact e3] at c3
  have c4 := cut_does (txB l3) ⟨#[61]⟩ (by rw [size_txB]; omega)
  have e4 := cutL1 61 l3
  rw [h4] at e4
  rw [show Lib.cut (txB l3).data.toList (⟨#[61]⟩ : ByteArray).data.toList = (k, v, true) by rw [tx_txB]; exact e4] at c4
  have d1 := number_does (txB a) 2147483647 xa (by rw [size_txB]; omega) (by rw [tx_txB]; exact h5) (by decide)
  have d2 := number_does (txB bb) 2147483647 yb (by rw [size_txB]; omega) (by rw [tx_txB]; exact h6) (by decide)
  have ecat : txB c ++ ⟨#[93]⟩ = txB (c ++ [93]) := txB_app c [93]
  have vp := vparse_ok (txB c ++ ⟨#[93]⟩) z (by rw [ecat, size_txB]; simp; omega) (by rw [ecat, tx_txB]; exact h7)
  have hsz : (txB c).size + (⟨#[93]⟩ : ByteArray).size ≤ 9223372036854775807 := by rw [size_txB]; show c.length + 1 ≤ _; omega
  have hvs : (txB v).size ≤ lim := by rw [size_txB]; unfold lim; omega
  have chk := fun p => check_does (⟨xa, yb, z, txB k, txB v⟩ : Rc) p 8 hvs
  rw [hc] at chk
  repeat' (first
 | refine SO.call (c1) rfl rfl rfl (by repeat constructor) (by repeat constructor) rfl (fun x hx => ?_)
 | refine SO.call (c2) rfl rfl rfl (by repeat constructor) (by repeat constructor) rfl (fun x hx => ?_)
 | refine SO.call (c3) rfl rfl rfl (by repeat constructor) (by repeat constructor) rfl (fun x hx => ?_)
 | refine SO.call (c4) rfl rfl rfl (by repeat constructor) (by repeat constructor) rfl (fun x hx => ?_)
 | refine SO.call (d1) rfl rfl rfl (by repeat constructor) (by repeat constructor) rfl (fun x hx => ?_)
 | refine SO.call (d2) rfl rfl rfl (by repeat constructor) (by repeat constructor) rfl (fun x hx => ?_)
 | refine SO.call (vp) rfl rfl rfl (by repeat constructor) (by repeat constructor) rfl (fun x hx => ?_)
 | refine SO.pure rfl rfl rfl ?_
 | refine SO.nil ?_
 | refine SO.guardY rfl rfl ?_
 | refine SO.loadW rfl (by repeat constructor) rfl rfl rfl (by rfl) rfl ?_
 | refine SO.build rfl rfl rfl rfl ?_
 | refine SK.seq ?_
 | refine SK.region ?_
 | refine SK.condF rfl ?_
 | refine SK.skip ?_
 | refine SO.alloc rfl rfl rfl (fun b => ?_)
 | refine SO.storeW rfl rfl (by repeat constructor) rfl (by rfl) (by rfl) (by rfl) ?_
 | refine SO.scat rfl rfl rfl (by first | assumption | omega | exact Nat.le_of_ble_eq_true rfl | (simp only [decide_eq_true_eq, decide_eq_false_iff_not] at *; omega)) ?_
 | fail)
  rename Pl => px
  rename z.length ≤ px.2 => hpx
  repeat' (first
 | refine SO.call (chk px) rfl rfl rfl (by repeat constructor) (by repeat constructor) rfl (fun x hx => ?_)
 | refine SO.pure rfl rfl rfl ?_
 | refine SO.nil ?_
 | refine SO.loadW rfl (by repeat constructor) rfl rfl rfl (by rfl) rfl ?_
 | refine SK.seq ?_
 | refine SK.region ?_
 | refine SK.condF rfl ?_
 | refine SK.skip ?_
 | refine SO.storeW rfl rfl (by repeat constructor) rfl (by rfl) (by rfl) (by rfl) ?_
 | fail)
  refine SK.ret ⟨_, .cell rfl (by repeat constructor) rfl rfl (by exact ⟨rfl, fun h => by cases h⟩) (.tmp rfl .nil), px, hpx, rfl, ?_⟩
  exact (ent_pr (p := z.length ≤ px.2) hpx).trans (ent_append_of_takes (by repeat constructor))
end Go.Proofs
