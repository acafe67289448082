/- A part of a proof: what functions of the program compute. -/
import Derived.Test.YtmbfcjffjgecjaaGreatDoorLog5E
import Derived.Test.YtmbfcjffjgecjaaGreatDoorLib2
set_option linter.unusedVariables false
set_option linter.unusedSimpArgs false
set_option maxHeartbeats 0
set_option maxRecDepth 20000
namespace Go.Sl
theorem ext_txB (r : Tx) (i j : Nat) : (txB r).extract i j = txB ((r.take j).drop i) := by
  apply ByteArray.ext
  apply Array.ext'
  simp [txB, ByteArray.data_extract, List.extract_eq_take_drop, List.drop_take]
end Go.Sl
namespace Go.Proofs
attribute [local irreducible] Go.Sl.SO Go.Sl.SQ Go.Sl.SR Go.Sl.SC Go.Sl.SX Go.Sl.SY Go.Sl.eadr Go.Sl.slAt Go.Sl.sqAt Go.Sl.pts Go.Sl.rod Go.Sl.ob Go.Sl.ex Go.Sl.big Go.Sl.pr Go.Sl.tabs Go.Sl.mpAt Go.Sl.mitAt Go.Sl.mitN
open Go.Sl
def ES : Enc ByteArray where
  V := Unit
  args := fun x _ => [.string x]
  atoms := fun _ _ => []
  pers := fun _ _ _ h => by cases h
theorem index_does (s : ByteArray) (c : UInt8) : Does Tryz.prog 126 [.string s, .string ⟨#[c]⟩] [] [] Unit (fun _ => True) (fun _ => .int .i64 (Lib.indexByte s.data.toList c)) (fun _ => []) :=
  Does.ofCalls Tryz.call126 all_nil fun F w hst => (Tryz.strings_Index_one s c w).mono fun e w' ⟨h1, h2⟩ => ⟨h1, by rw [h2]; exact Go.RowKit.Below.refl _ _⟩
theorem splititer (bp bs bn : Nat) (s : Tx) (c : UInt8) (hs : s.length ≤ 1048576) : Iter Tryz.prog 241 [.pointer (some ⟨bp, 0, none⟩), .pointer (some ⟨bs, 0, none⟩), .pointer (some ⟨bn, 0, none⟩)] ES ((partsC c s).map txB) [] [pts bp 0 [.string ⟨#[c]⟩], pts bs 0 [.string (txB s)], pts bn 0 [.int .i64 0]] (fun _ => []) [] := by
  intro q J Jx hy
  refine Does.of Tryz.call241 Tryz.func241 rfl rfl rfl all_nil rfl ?_
  have hz : (⟨#[c]⟩ : ByteArray).size = 1 := rfl
  have hd0 : decide (((⟨#[c]⟩ : ByteArray).size : Int) = 0) = false := decide_eq_false (by omega)
  have hpl : ((partsC c s).map txB).length = (partsC c s).length := List.length_map _
  repeat' (first
 | refine SO.pure rfl rfl rfl ?_
 | refine SO.nil ?_
 | refine SO.load rfl (by repeat constructor) rfl (by rfl) (by exact ⟨rfl, by first | exact fun _ => rfl | exact (fun h => by cases h)⟩) rfl ?_
 | refine SK.seq ?_
 | refine SK.region ?_
 | refine SK.condF rfl ?_
 | refine SK.skip ?_
 | refine SK.block ?_
 | fail)
  refine SK.loop (X := {x : Nat × Tx // (partsC c s).drop x.1 = partsC c x.2 ∧ x.2.length ≤ s.length}) (fun x => [(3, .pointer (some ⟨bn, 0, none⟩)), (2, .pointer (some ⟨bs, 0, none⟩)), (1, .pointer (some ⟨bp, 0, none⟩)), (0, yv q)]) (fun x => [J x.1.1, pts bp 0 [.string ⟨#[c]⟩], pts bs 0 [.string (txB x.1.2)], pts bn 0 [.int .i64 0]]) (fun x => x.1.2.length) ⟨(0, s), rfl, Nat.le_refl _⟩ (by repeat constructor) (ent_append_of_takes (by repeat constructor)) ?_
  rintro ⟨⟨k, r⟩, hk, hr⟩
  dsimp only at hk hr ⊢
  have ix := index_does (txB r) c
  rw [tx_txB] at ix
  rcases indexB_parts c r with ⟨h1, h2⟩ | ⟨i, h1, h2, h3⟩
  · rw [h1] at ix
    have hd1 : decide ((-1 : Int) < 0) = true := by decide
    have hg : ((partsC c s).map txB)[k]? = some (txB r) := by
      have := congrArg (fun l => l[0]?) hk
      simp only [List.getElem?_drop, Nat.add_zero, h2] at this
      rw [List.getElem?_map, this]; rfl
    have hkl : (partsC c s).length = k + 1 := by
      have := congrArg List.length hk
      rw [List.length_drop, h2] at this
      simp only [List.length_cons, List.length_nil] at this
      omega
    repeat' (first
 | refine SO.call (ix) rfl rfl rfl (by repeat constructor) (by repeat constructor) rfl (fun x hx => ?_)
 | refine SO.pure rfl rfl rfl ?_
 | refine SO.nil ?_
 | refine SO.load rfl (by repeat constructor) rfl (by rfl) (by exact ⟨rfl, by first | exact fun _ => rfl | exact (fun h => by cases h)⟩) rfl ?_
 | refine SK.seq ?_
 | refine SK.region ?_
 | refine SK.condT rfl ?_
 | refine SK.block ?_
 | refine SK.exit rfl ?_
 | fail)
    have hY := hy k (txB r) () hg
    refine SO.callF (vs := ES.args (txB r) ()) rfl rfl hY (by repeat constructor) (by repeat constructor) rfl (fun rr hrr => ?_)
    cases rr
    · repeat' (first
 | refine SO.nil ?_
 | fail)
      exact SK.endX .nil (some k) (fun j h => by cases h; rw [hpl]; omega) rfl (by repeat constructor)
    · repeat' (first
 | refine SO.nil ?_
 | fail)
      rw [show ((partsC c s).map txB).length = k + 1 by omega]
      exact SK.endX .nil none (fun _ h => by cases h) rfl (by repeat constructor)
  · rw [h1] at ix
    have hd1 : decide ((i : Int) < 0) = false := decide_eq_false (by omega)
    have hw1 : IntKind.i64.wrap ((i : Int) + 0) = ((i : Nat) : Int) := by rw [wrap_id (by omega) (by omega)]; omega
    have hw2 : IntKind.i64.wrap ((i : Int) + ((⟨#[c]⟩ : ByteArray).size : Int)) = ((i + 1 : Nat) : Int) := by rw [hz, wrap_id (by omega) (by omega)]; omega
    have hsz : (txB r).size = r.length := size_txB r
    have hg : ((partsC c s).map txB)[k]? = some (txB (r.take i)) := by
      have := congrArg (fun l => l[0]?) hk
      simp only [List.getElem?_drop, Nat.add_zero, h3] at this
      rw [List.getElem?_map, this]; rfl
    have hk2 : (partsC c s).drop (k + 1) = partsC c (r.drop (i + 1)) := by
      rw [← List.drop_drop, hk, h3]; rfl
    repeat' (first
 | refine SO.call (ix) rfl rfl rfl (by repeat constructor) (by repeat constructor) rfl (fun x hx => ?_)
 | refine SO.pure rfl rfl rfl ?_
 | refine SO.nil ?_
 | refine SO.load rfl (by repeat constructor) rfl (by rfl) (by exact ⟨rfl, by first | exact fun _ => rfl | exact (fun h => by cases h)⟩) rfl ?_
 | refine SK.seq ?_
 | refine SK.region ?_
 | refine SK.condF rfl ?_
 | refine SK.skip ?_
 | refine SK.block ?_
 | fail)
    rw [hw1]
    repeat' (first
 | refine SO.pure rfl rfl rfl ?_
 | refine SO.nil ?_
 | refine SK.seq ?_
 | refine SK.region ?_
 | refine SO.sslice (k1 := .i64) (k2 := .i64) rfl rfl rfl rfl rfl (by first | exact .inl rfl | exact .inr ⟨rfl, rfl⟩) (by first | exact .inl rfl | exact .inr ⟨rfl, rfl⟩) (by first | assumption | omega | exact Nat.le_of_ble_eq_true rfl | (simp only [decide_eq_true_eq, decide_eq_false_iff_not] at *; omega)) (by first | assumption | omega | exact Nat.le_of_ble_eq_true rfl | (simp only [decide_eq_true_eq, decide_eq_false_iff_not] at *; omega)) ?_
 | fail)
    rw [ext_txB, List.drop_zero]
    have hY := hy k (txB (r.take i)) () hg
    refine SO.callF (vs := ES.args (txB (r.take i)) ()) rfl rfl hY (by repeat constructor) (by repeat constructor) rfl (fun rr hrr => ?_)
    cases rr
    · repeat' (first
 | refine SO.pure rfl rfl rfl ?_
 | refine SO.nil ?_
 | refine SK.condT rfl ?_
 | fail)
      exact SK.retX .nil (some k) (fun j h => by cases h; rw [hpl]; have := (List.getElem?_eq_some_iff.1 hg).1; rw [hpl] at this; exact this) rfl (by repeat constructor)
    · repeat' (first
 | refine SO.pure rfl rfl rfl ?_
 | refine SO.nil ?_
 | refine SO.load rfl (by repeat constructor) rfl (by rfl) (by exact ⟨rfl, by first | exact fun _ => rfl | exact (fun h => by cases h)⟩) rfl ?_
 | refine SK.region ?_
 | refine SK.condF rfl ?_
 | refine SK.skip ?_
 | fail)
      rw [hw2]
      repeat' (first
 | refine SO.nil ?_
 | refine SK.blk ?_
 | refine SO.storeW rfl rfl (by repeat constructor) rfl (by rfl) (by rfl) (by rfl) ?_
 | refine SO.sslice (k1 := .i64) (k2 := .i64) rfl rfl rfl rfl rfl (by first | exact .inl rfl | exact .inr ⟨rfl, rfl⟩) (by first | exact .inl rfl | exact .inr ⟨rfl, rfl⟩) (by first | assumption | omega | exact Nat.le_of_ble_eq_true rfl | (simp only [decide_eq_true_eq, decide_eq_false_iff_not] at *; omega)) (by first | assumption | omega | exact Nat.le_of_ble_eq_true rfl | (simp only [decide_eq_true_eq, decide_eq_false_iff_not] at *; omega)) ?_
 | fail)
      rw [ext_txB, hsz, List.take_length]
      refine SK.inv ⟨⟨(k + 1, r.drop (i + 1)), hk2, by show (r.drop (i + 1)).length ≤ s.length; rw [List.length_drop]; omega⟩, ?_, ?_, ?_⟩
      · show (r.drop (i + 1)).length < r.length
        rw [List.length_drop]; omega
      · repeat constructor
      · exact ent_append_of_takes (by repeat constructor)
theorem split0_does (s p : ByteArray) : Does Tryz.prog 214 [.string s, .string p, .int .i64 0] [] [] (Nat × Nat × Nat) (fun _ => True) (fun x => .func (.func 241) #[] #[.pointer (some ⟨x.1, 0, none⟩), .pointer (some ⟨x.2.1, 0, none⟩), .pointer (some ⟨x.2.2, 0, none⟩)]) (fun x => [pts x.1 0 [.string p], pts x.2.1 0 [.string s], pts x.2.2 0 [.int .i64 0]]) := by
  refine Does.of Tryz.call214 Tryz.func214 rfl rfl rfl all_nil rfl ?_
  repeat' (first
 | refine SO.pure rfl rfl rfl ?_
 | refine SO.nil ?_
 | refine SK.seq ?_
 | refine SK.region ?_
 | refine SO.box rfl rfl rfl (fun b => ?_)
 | fail)
  exact SK.retX (.tmp rfl .nil) (_, _, _) trivial rfl (by repeat constructor)
theorem splits_does (s p : ByteArray) : Does Tryz.prog 172 [.string s, .string p] [] [] (Nat × Nat × Nat) (fun _ => True) (fun x => .func (.func 241) #[] #[.pointer (some ⟨x.1, 0, none⟩), .pointer (some ⟨x.2.1, 0, none⟩), .pointer (some ⟨x.2.2, 0, none⟩)]) (fun x => [pts x.1 0 [.string p], pts x.2.1 0 [.string s], pts x.2.2 0 [.int .i64 0]]) := by
  refine Does.of Tryz.call172 Tryz.func172 rfl rfl rfl all_nil rfl ?_
  repeat' (first
 | refine SO.call (split0_does s p) rfl rfl rfl (by repeat constructor) (by repeat constructor) rfl (fun x hx => ?_)
 | refine SO.pure rfl rfl rfl ?_
 | refine SO.nil ?_
 | refine SK.seq ?_
 | refine SK.region ?_
 | fail)
  rename Nat × Nat × Nat => y
  exact SK.retX (.tmp rfl .nil) y trivial rfl (by repeat constructor)
theorem mparse_does (m : List (Int × Int)) (h : MapOk m) (hl : m.length ≤ 101) : Does Tryz.prog 149 [.string (txB (mapX m))] [libA] [] Pl (fun _ => True) (fun x => .tuple #[.slice x.1 m.length x.2, .int .i64 0]) (fun x => [slAt RSp x.1 m.length m]) := by
  refine Does.of Tryz.call149 Tryz.func149 rfl rfl rfl (all_cons pers_lib all_nil) rfl ?_
  have hne : m ≠ [] := fun he => by have := h.len.1; rw [he] at this; exact absurd this (by decide)
  have e0 : eqS (txB (mapX m)) ⟨#[]⟩ = false := eqS_ne (map_ne hne)
  have e1 : (!eqS (txB (mapX m)) ⟨#[]⟩) = true := by rw [e0]; rfl
  have hmx := map_len h.bd
  have it := splititer
  have hpl : ((partsC 32 (mapX m)).map txB).length = m.length := by rw [map_parts hne]; simp
  have spl := splits_does (txB (mapX m)) ⟨#[32]⟩
  repeat' (first
 | refine SO.call (spl) rfl rfl rfl (by repeat constructor) (by repeat constructor) rfl (fun x hx => ?_)
 | refine SO.pure rfl rfl rfl ?_
 | refine SO.nil ?_
 | refine SK.seq ?_
 | refine SK.region ?_
 | refine SK.block ?_
 | refine SO.alloc rfl rfl rfl (fun b => ?_)
 | refine SK.condTP rfl (by first | assumption | (simp only [Go.Sl.bl]; omega)) ?_
 | fail)
  refine SK.shift (fun F w hst => hst.ent (Ent.cons ((ent_triv (A := sqAt false RSp none 0 0 [])).trans (ent_closeR (R := []) (A := fun y : Pl => big [pts b 0 [.slice y.1 0 y.2], sqAt false RSp y.1 0 y.2 []]) (x := ((none, 0) : Pl)) rfl (by repeat constructor))))) ?_
  refine SK.range (splititer x.1 x.2.1 x.2.2 (mapX m) 32 (by omega)) Empty (fun i => [ex fun y : Pl => big [pts b 0 [.slice y.1 i y.2], sqAt false RSp y.1 i y.2 (m.take i)], libA]) (fun _ => []) (fun y => y.elim) rfl (by repeat constructor) (by repeat constructor) rfl (fun _ _ => rfl) ?_ ?_ (fun y => y.elim)
  · rintro i u hid q R hr
    rw [List.getElem?_map, map_parts hne, List.getElem?_map] at hr
    obtain ⟨⟨f, k⟩, hx⟩ : ∃ x, m[i]? = some x := by
      cases hm : m[i]? with
      | none => rw [hm] at hr; cases hr
      | some x => exact ⟨x, rfl⟩
    rw [hx] at hr
    obtain rfl := Option.some.inj hr
    obtain ⟨b1, b2, b3, b4⟩ := h.bd _ (List.mem_of_getElem? hx)
    dsimp only at b1 b2 b3 b4
    obtain ⟨f, rfl⟩ := Int.eq_ofNat_of_zero_le b1
    obtain ⟨k, rfl⟩ := Int.eq_ofNat_of_zero_le (a := k) (by omega)
    have hil : i < m.length := (List.getElem?_eq_some_iff.1 hx).1
    have hlm : i + 1 ≤ lim := by unfold lim; omega
    have hsl := span_len (h.bd _ (List.mem_of_getElem? hx))
    have c1 := cut_does (txB (spanX ((f : Int), (k : Int)))) ⟨#[47]⟩ (by rw [size_txB]; omega)
    rw [tx_txB, show (⟨#[47]⟩ : ByteArray).data.toList = [47] from rfl, span_cut] at c1
    simp only [Int.toNat_natCast] at c1
    have d1 := dec_len 9 f (by omega)
    have d2 := dec_len 0 k (by omega)
    have n1 := number_does (txB (Lib.decDigits f)) 2147483647 f (by rw [size_txB]; omega) (by rw [tx_txB]; exact num_nat (by omega)) (by decide)
    have n2 := number_does (txB (Lib.decDigits k)) 2147483647 k (by rw [size_txB]; omega) (by rw [tx_txB]; exact num_nat (by omega)) (by decide)
    have e6 : m.take (i + 1) = m.take i ++ [((f : Int), (k : Int))] := by rw [List.take_add_one, hx]; simp
    refine SK.openEx .here (fun y => ?_)
    refine SK.openBig .here ?_
    repeat' (first
 | refine SO.pure rfl rfl rfl ?_
 | refine SO.nil ?_
 | refine SK.region ?_
 | fail)
    refine SK.inv ?_
    repeat' (first
 | refine SO.append (ρ := RSp) (w := false) (ys := [((f : Int), (k : Int))]) rfl rfl (by repeat constructor) (Src.one (h := ()) (by repeat constructor) (by rfl) (by repeat constructor)) rfl rfl rfl rfl rfl rfl rfl (by omega) (fun A3 c3 => ?_)
 | refine SO.call (c1) rfl rfl rfl (by repeat constructor) (by repeat constructor) rfl (fun x hx => ?_)
 | refine SO.call (n1) rfl rfl rfl (by repeat constructor) (by repeat constructor) rfl (fun x hx => ?_)
 | refine SO.call (n2) rfl rfl rfl (by repeat constructor) (by repeat constructor) rfl (fun x hx => ?_)
 | refine SO.pure rfl rfl rfl ?_
 | refine SO.nil ?_
 | refine SO.guardY rfl rfl ?_
 | refine SO.load rfl (by repeat constructor) rfl (by rfl) (by exact ⟨rfl, by first | exact fun _ => rfl | exact (fun h => by cases h)⟩) rfl ?_
 | refine SO.build rfl rfl rfl rfl ?_
 | refine SK.seq ?_
 | refine SK.region ?_
 | refine SK.condF rfl ?_
 | refine SK.skip ?_
 | refine SK.block ?_
 | refine SK.blk ?_
 | refine SO.storeW rfl rfl (by repeat constructor) rfl (by rfl) (by rfl) (by rfl) ?_
 | refine SO.buildSlice rfl rfl rfl rfl rfl rfl (fun b => ?_)
 | fail)
    refine SK.nil ?_
    rw [e6]
    show Ent _ (busyA q R :: _)
    refine Ent.trans ?_ Ent.swap
    exact ent_close (R := [busyA q R, libA]) (x := ((A3, c3) : Pl)) rfl (by repeat constructor)
  · refine SK.blk ?_
    rw [hpl, List.take_length]
    refine SK.openEx .here (fun y => ?_)
    refine SK.openBig .here ?_
    refine SK.share (ρ := RSp) (w' := false) (A := y.1) (n := m.length) (m := y.2) (l := m) (by repeat constructor) ?_
    have ck := mchk_does y.1 m.length y.2 m h
    repeat' (first
 | refine SO.call (ck) rfl rfl rfl (by repeat constructor) (by repeat constructor) rfl (fun x hx => ?_)
 | refine SO.pure rfl rfl rfl ?_
 | refine SO.nil ?_
 | refine SO.load rfl (by repeat constructor) rfl (by rfl) (by exact ⟨rfl, by first | exact fun _ => rfl | exact (fun h => by cases h)⟩) rfl ?_
 | refine SK.seq ?_
 | refine SK.region ?_
 | refine SK.condF rfl ?_
 | refine SK.skip ?_
 | refine SO.storeW rfl rfl (by repeat constructor) rfl (by rfl) (by rfl) (by rfl) ?_
 | fail)
    exact SK.retX (.cell rfl (by repeat constructor) rfl rfl (by exact ⟨rfl, fun _ => rfl⟩) (.cell rfl (by repeat constructor) rfl rfl (by exact ⟨rfl, fun _ => rfl⟩) .nil)) y trivial rfl (by repeat constructor)
end Go.Proofs
