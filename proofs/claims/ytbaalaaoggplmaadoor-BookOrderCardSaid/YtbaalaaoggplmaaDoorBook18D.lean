/- A part of a proof: what functions of the program compute. -/
import Derived.Test.YtbaalaaoggplmaaDoorBook14D
import Derived.Test.YtbaalaaoggplmaaDoorLib2
set_option linter.unusedVariables false
set_option linter.unusedSimpArgs false
set_option maxHeartbeats 0
namespace Go.Proofs
attribute [local irreducible] Go.Sl.SO Go.Sl.SQ Go.Sl.SR Go.Sl.SC Go.Sl.SX Go.Sl.SY Go.Sl.eadr Go.Sl.slAt Go.Sl.sqAt Go.Sl.pts Go.Sl.rod Go.Sl.ob Go.Sl.ex Go.Sl.big Go.Sl.pr Go.Sl.tabs Go.Sl.mpAt
open Go.Sl
theorem same_self (A B : Option Addr) (c c2 : Nat) (a : List Cl) : Does Tryd.prog 33 [.slice A a.length c, .slice B a.length c2] [slAt RCl A a.length a, slAt RCl B a.length a] [] Unit (fun _ => True) (fun _ => .bool true) (fun _ => []) := by
  have h := same_does A B a.length a.length c c2 a a
  rwa [decide_eq_true (rfl : a = a)] at h
theorem order_long (A : Option Addr) (n c : Nat) (B : Option Addr) (m c2 : Nat) (h : 12 < n ∨ m < n) : Does Tryd.prog 8 [.slice A n c, .slice B m c2] [tabs 1 2] [] Unit (fun _ => True) (fun _ => .bool true) (fun _ => []) := by
  refine Does.of Tryd.call8 Tryd.func8 rfl rfl rfl (all_cons (pers_tabs _ _) all_nil) rfl ?_
  repeat' (first
    | (refine SO.call (bknown_does) rfl rfl rfl (by repeat constructor) (by repeat constructor) rfl (fun x hx => ?_))
    | (refine SO.pure rfl rfl rfl ?_)
    | (refine SO.nil ?_)
    | (refine SK.seq ?_)
    | (refine SK.region ?_)
    | (refine SK.condF rfl ?_)
    | (refine SK.skip ?_)
    | fail)
  by_cases h12 : 12 < n
  · rw [decide_eq_true (show (12 : Int) < (n : Int) by omega)]
    repeat' (first
    | (refine SO.pure rfl rfl rfl ?_)
    | (refine SO.nil ?_)
    | (refine SO.guardN rfl rfl rfl ?_)
    | (refine SK.seq ?_)
    | (refine SK.region ?_)
    | (refine SK.condT rfl ?_)
    | fail)
    exact SK.retX (.tmp rfl .nil) () trivial rfl (by repeat constructor)
  · rw [decide_eq_false (show ¬ (12 : Int) < (n : Int) by omega)]
    repeat' (first
    | (refine SO.pure rfl rfl rfl ?_)
    | (refine SO.nil ?_)
    | (refine SO.guardY rfl rfl ?_)
    | (refine SK.seq ?_)
    | (refine SK.region ?_)
    | (refine SK.condTP rfl (by first | assumption | (simp only [decide_eq_true_eq, decide_eq_false_iff_not, Bool.not_eq_true', Bool.not_eq_false', Bool.not_true, Bool.not_false, Bool.not_not]; omega)) ?_)
    | fail)
    rw [decide_eq_true (show (m : Int) < (n : Int) by omega)]
    skip
    exact SK.retX (.tmp rfl .nil) () trivial rfl (by repeat constructor)
theorem order_does (A : Option Addr) (n c : Nat) (l : List Int) (B : Option Addr) (m c2 : Nat) (o : List Int) (m2 : Nat) (h12 : n ≤ 12) (hm : n ≤ m2) (hm2 : m2 ≤ m) (hl : ∀ v ∈ l, 0 ≤ v ∧ v ≤ 255) (ho : ∀ v ∈ o, 0 ≤ v ∧ v ≤ 255) : Does Tryd.prog 8 [.slice A n c, .slice B m c2] [tabs 1 2, slAt RU A n l, slAt RU B m2 o] [] Unit (fun _ => True) (fun _ => .bool true) (fun _ => []) := by
  refine Does.of Tryd.call8 Tryd.func8 rfl rfl rfl (all_cons (pers_tabs _ _) (all_cons (pers_slAt _ _ _ _) (all_cons (pers_slAt _ _ _ _) all_nil))) rfl ?_
  refine SK.know (sl_len (ρ := RU) (A := A) (n := n) (l := l) (by repeat constructor)) ?_
  rintro ⟨rfl, hlim, -⟩
  refine SK.know (sl_len (ρ := RU) (A := B) (n := m2) (l := o) (by repeat constructor)) ?_
  rintro ⟨rfl, hlim2, -⟩
  repeat' (first
    | (refine SO.call (bknown_does) rfl rfl rfl (by repeat constructor) (by repeat constructor) rfl (fun x hx => ?_))
    | (refine SO.pure rfl rfl rfl ?_)
    | (refine SO.nil ?_)
    | (refine SO.guardY rfl rfl ?_)
    | (refine SK.seq ?_)
    | (refine SK.region ?_)
    | (refine SK.condF rfl ?_)
    | (refine SK.skip ?_)
    | (refine SK.block ?_)
    | (refine SO.guardYP rfl rfl (by first | assumption | (simp only [decide_eq_true_eq, decide_eq_false_iff_not, Bool.not_eq_true', Bool.not_eq_false', Bool.not_true, Bool.not_false, Bool.not_not]; omega)) ?_)
    | (refine SK.condFP rfl (by first | assumption | (simp only [decide_eq_true_eq, decide_eq_false_iff_not, Bool.not_eq_true', Bool.not_eq_false', Bool.not_true, Bool.not_false, Bool.not_not]; omega)) ?_)
    | fail)
  rw [decide_eq_false (show ¬ (12 : Int) < (l.length : Int) by omega)]
  skip
  rw [decide_eq_false (show ¬ (m : Int) < (l.length : Int) by omega)]
  skip
  -- the first book
  have hlen := ordA_len h12
  refine SK.loop (X := {z : Nat × Pl // z.1 ≤ l.length}) (fun z => [(7, .int .i64 (z.1.1 : Int)), (5, .slice z.1.2.1 (bookAt [] (ordL l) z.1.1).length z.1.2.2), (6, .slice none 0 0), (0, .slice A l.length c), (1, .slice B m c2)]) (fun z => [slAt RCl z.1.2.1 (bookAt [] (ordL l) z.1.1).length (bookAt [] (ordL l) z.1.1), tabs 1 2, slAt RU A l.length l, slAt RU B o.length o]) (fun z => l.length - z.1.1) ⟨(0, (none, 0)), Nat.zero_le _⟩ (by repeat constructor) ((ent_triv (A := slAt RCl none 0 [])).trans (ent_append_of_takes (by repeat constructor))) ?_
  rintro ⟨⟨i, ⟨A0, c0⟩⟩, hi⟩
  dsimp only at hi ⊢
  have hwi := wrapn (show i ≤ lim by omega)
  have hbl := hlen i hi
  rcases Nat.lt_or_ge i l.length with hil | hil
  · have hd1 : decide ((i : Int) < (l.length : Int)) = true := decide_eq_true (by omega)
    obtain ⟨u, hu⟩ : ∃ u, l[i]? = some u := ⟨_, List.getElem?_eq_getElem hil⟩
    obtain ⟨hu0, hu1⟩ := hl u (List.mem_of_getElem? hu)
    have hs := bookAt_step (b := []) (ordL_get hu)
    have hput := bput_does A0 (bookAt [] (ordL l) i).length c0 (bookAt [] (ordL l) i) (ordC i u) (none, 0) (bookAt_ris List.Pairwise.nil _ _) (by unfold lim; omega)
    have hdk := dec_does i (by omega)
    have hdv := dec_does u.toNat (by omega)
    have hks := decS_size i
    have h1s : (⟨#[107]⟩ : ByteArray).size = 1 := rfl
    repeat' (first
    | (refine SO.pure rfl rfl rfl ?_)
    | (refine SO.nil ?_)
    | (refine SK.seq ?_)
    | (refine SK.region ?_)
    | (refine SK.skip ?_)
    | (refine SK.block ?_)
    | (refine SK.condTP rfl (by first | assumption | (simp only [decide_eq_true_eq, decide_eq_false_iff_not, Bool.not_eq_true', Bool.not_eq_false', Bool.not_true, Bool.not_false, Bool.not_not]; omega)) ?_)
    | (refine SK.regionX 9 (.item 0 0 (.item 0 1 (.item 0 3 (.item 0 6 (.item 0 7 (.item 0 2 (.item 0 8 (.item 0 9 (.item 0 10 (.item 1 4 (.item 0 5 (.item 1 11 (.item 0 12 (.item 2 13 (.item 2 14 .nil))))))))))))))) [] .nil (by repeat (first | exact .nil | apply PersSub.s | apply PersSub.t | apply PersSub.p | apply PersSub.r | apply PersSub.skip)) (by kernel_rfl) (by kernel_rfl) (fun _ _ _ h => h) ?_)
    | (refine SX.indexH rfl rfl (by repeat constructor) rfl rfl rfl rfl (by assumption) ?_)
    | (refine SX.pure rfl rfl rfl ?_)
    | (refine SX.eloadW rfl (by repeat constructor) (by assumption) rfl (by rfl) rfl (by rfl) rfl (fun hid => ?_))
    | (refine SX.step rfl rfl ?_)
    | fail)
    rw [hd1]
    repeat' (first
    | (refine SO.call (hdk) rfl rfl rfl (by repeat constructor) (by repeat constructor) rfl (fun x hx => ?_))
    | (refine SO.nil ?_)
    | (refine SX.scat rfl rfl rfl (by first | assumption | omega | exact Nat.le_of_ble_eq_true rfl | (simp only [decide_eq_true_eq, decide_eq_false_iff_not] at *; omega)) ?_)
    | (refine SX.step rfl rfl ?_)
    | (refine SK.invY ?_)
    | (refine SY.shareGo (by repeat (first | exact .nil | apply PersSub.s | apply PersSub.t | apply PersSub.p | apply PersSub.r | apply PersSub.skip)) ?_)
    | fail)
    rw [hwi, show IntKind.i64.wrap u = ((u.toNat : Nat) : Int) by rw [wrap_id (by omega) (by omega)]; omega]
    repeat' (first
    | (refine SO.call (hdv) rfl rfl rfl (by repeat constructor) (by repeat constructor) rfl (fun x hx => ?_))
    | (refine SO.call (hput) rfl rfl rfl (by repeat constructor) (by repeat constructor) rfl (fun x hx => ?_))
    | (refine SO.pure rfl rfl rfl ?_)
    | (refine SO.nil ?_)
    | (refine SK.region ?_)
    | (refine SK.blk ?_)
    | (refine SX.tail (by rfl) (by repeat (first | exact .nil | apply DropP.s | apply DropP.t | apply DropP.p | apply DropP.r | apply DropP.keep)) ?_)
    | (refine SX.build rfl rfl rfl rfl ?_)
    | (refine SK.invY ?_)
    | (refine SY.shareGo (by repeat (first | exact .nil | apply PersSub.s | apply PersSub.t | apply PersSub.p | apply PersSub.r | apply PersSub.skip)) ?_)
    | fail)
    rw [← hs]
    refine SK.inv ⟨⟨(i + 1, x), by show i + 1 ≤ l.length; omega⟩, ?_, ?_, ?_⟩
    · show l.length - (i + 1) < l.length - i
      omega
    · rw [hwi]; repeat constructor
    · exact ent_append_of_takes (by repeat constructor)
  have hd1 : decide ((i : Int) < (l.length : Int)) = false := decide_eq_false (by omega)
  obtain rfl : i = l.length := by omega
  repeat' (first
    | (refine SO.pure rfl rfl rfl ?_)
    | (refine SO.nil ?_)
    | (refine SK.seq ?_)
    | (refine SK.region ?_)
    | (refine SK.exit rfl ?_)
    | (refine SK.condFP rfl (by first | assumption | (simp only [decide_eq_true_eq, decide_eq_false_iff_not, Bool.not_eq_true', Bool.not_eq_false', Bool.not_true, Bool.not_false, Bool.not_not]; omega)) ?_)
    | fail)
  rw [hd1]
  repeat' (first
    | (refine SO.makeSlice (ρ := RI) (u := 0) (h := ()) rfl rfl rfl rfl rfl rfl rfl rfl (by unfold lim; omega) rfl (fun b => ?_))
    | (refine SO.pure rfl rfl rfl ?_)
    | (refine SO.nil ?_)
    | (refine SK.seq ?_)
    | (refine SK.region ?_)
    | (refine SK.block ?_)
    | fail)
  -- the numbers
  revert b
  intro b8
  refine SK.loop (X := {i : Nat // i ≤ l.length}) (fun i => [(9, .int .i64 (i.1 : Int)), (8, .slice (some ⟨b8, 0, none⟩) l.length l.length), (5, .slice A0 (bookAt [] (ordL l) l.length).length c0), (6, .slice none 0 0), (0, .slice A l.length c), (1, .slice B m c2)]) (fun i => [sqAt true RI (some ⟨b8, 0, none⟩) l.length l.length (initL l.length i.1), slAt RCl A0 (bookAt [] (ordL l) l.length).length (bookAt [] (ordL l) l.length), tabs 1 2, slAt RU A l.length l, slAt RU B o.length o]) (fun i => l.length - i.1) ⟨0, Nat.zero_le _⟩ (by repeat constructor) (ent_append_of_takes (by repeat constructor)) ?_
  rintro ⟨i, hi9⟩
  dsimp only
  have hwi9 := wrapn (show i ≤ lim by omega)
  rcases Nat.lt_or_ge i l.length with hil | hil
  · have hd1 : decide ((i : Int) < (l.length : Int)) = true := decide_eq_true (by omega)
    repeat' (first
    | (refine SO.pure rfl rfl rfl ?_)
    | (refine SO.nil ?_)
    | (refine SO.indexW rfl rfl (by repeat constructor) rfl rfl rfl rfl (by first | assumption | omega | exact Nat.le_of_ble_eq_true rfl | (simp only [decide_eq_true_eq, decide_eq_false_iff_not] at *; omega)) (fun v hv => ?_))
    | (refine SK.seq ?_)
    | (refine SK.region ?_)
    | (refine SK.skip ?_)
    | (refine SK.block ?_)
    | (refine SK.condTP rfl (by first | assumption | (simp only [decide_eq_true_eq, decide_eq_false_iff_not, Bool.not_eq_true', Bool.not_eq_false', Bool.not_true, Bool.not_false, Bool.not_not]; omega)) ?_)
    | fail)
    rw [hd1]
    repeat' (first
    | (refine SO.estoreW (ρ := RI) (h := ()) (u := (i : Int)) rfl rfl (by repeat constructor) (by repeat constructor) rfl rfl rfl (by omega) ?_)
    | (refine SO.pure rfl rfl rfl ?_)
    | (refine SO.nil ?_)
    | (refine SK.region ?_)
    | (refine SK.blk ?_)
    | fail)
    rw [initL_step hil]
    refine SK.inv ⟨⟨i + 1, by omega⟩, ?_, ?_, ?_⟩
    · show l.length - (i + 1) < l.length - i
      omega
    · rw [hwi9]; repeat constructor
    · exact ent_append_of_takes (by repeat constructor)
  have hd9 : decide ((i : Int) < (l.length : Int)) = false := decide_eq_false (by omega)
  obtain rfl : i = l.length := by omega
  rw [initL_end]
  refine SK.share (ρ := RI) (by repeat constructor) ?_
  repeat' (first
    | (refine SO.pure rfl rfl rfl ?_)
    | (refine SO.nil ?_)
    | (refine SK.seq ?_)
    | (refine SK.region ?_)
    | (refine SK.block ?_)
    | (refine SK.exit rfl ?_)
    | (refine SK.condFP rfl (by first | assumption | (simp only [decide_eq_true_eq, decide_eq_false_iff_not, Bool.not_eq_true', Bool.not_eq_false', Bool.not_true, Bool.not_false, Bool.not_not]; omega)) ?_)
    | fail)
  rw [hd9]
  skip
  -- the second book
  refine SK.loop (X := {z : List Nat × List Nat × Pl × Pl // (z.1 ++ z.2.1).Perm (List.range l.length) ∧ z.1.length ≤ z.2.2.1.2}) (fun z => [(10, .int .i64 (z.1.2.1.length : Int)), (8, .slice z.1.2.2.1.1 z.1.1.length z.1.2.2.1.2), (6, .slice z.1.2.2.2.1 (ordB l z.1.2.1).length z.1.2.2.2.2), (5, .slice A0 (bookAt [] (ordL l) l.length).length c0), (0, .slice A l.length c), (1, .slice B m c2)])
    (fun z => [slAt RI z.1.2.2.1.1 z.1.1.length (z.1.1.map fun k : Nat => (k : Int)), slAt RCl z.1.2.2.2.1 (ordB l z.1.2.1).length (ordB l z.1.2.1), slAt RCl A0 (bookAt [] (ordL l) l.length).length (bookAt [] (ordL l) l.length), tabs 1 2, slAt RU A l.length l, slAt RU B o.length o]) (fun z => l.length - z.1.2.1.length) ⟨(List.range l.length, [], (some ⟨b8, 0, none⟩, l.length), (none, 0)), by simp, by simp⟩ (by simp only [List.length_range]; repeat constructor) ((ent_triv (A := slAt RCl none 0 [])).trans (by simp only [List.length_range]; exact ent_append_of_takes (by repeat constructor))) ?_
  rintro ⟨⟨left, js, ⟨A8, c8⟩, ⟨A6, c6⟩⟩, hp, hc8⟩
  dsimp only at hp hc8 ⊢
  have hpl := hp.length_eq
  rw [List.length_append, List.length_range] at hpl
  have hjl : js.length ≤ lim := by omega
  have hwi3 := wrapn hjl
  rcases Nat.lt_or_ge js.length l.length with hil3 | hil3
  · have hd3 : decide ((js.length : Int) < (l.length : Int)) = true := decide_eq_true (by omega)
    obtain ⟨v, hv⟩ : ∃ v, o[js.length]? = some v := ⟨_, List.getElem?_eq_getElem (by omega)⟩
    obtain ⟨hv0, hv1⟩ := ho v (List.mem_of_getElem? hv)
    have hwv : IntKind.i64.wrap v = v := wrap_id (by omega) (by omega)
    have hlp : 0 < left.length := by omega
    obtain ⟨k, hk, hkm⟩ : ∃ k : Nat, k < left.length ∧ v.tmod (left.length : Int) = (k : Int) := by
      refine ⟨v.toNat % left.length, Nat.mod_lt _ hlp, ?_⟩
      conv => lhs; rw [show v = ((v.toNat : Nat) : Int) by omega]
      rfl
    obtain ⟨j, hj⟩ : ∃ j, left[k]? = some j := ⟨_, List.getElem?_eq_getElem hk⟩
    have hjk : (left.map fun k : Nat => (k : Int))[k]? = some (j : Int) := by rw [List.getElem?_map, hj]; rfl
    have hjn : j < l.length := by
      have : j ∈ List.range l.length := hp.mem_iff.1 (List.mem_append.2 (.inl (List.mem_of_getElem? hj)))
      simpa using this
    obtain ⟨u, hu⟩ : ∃ u, l[j]? = some u := ⟨_, List.getElem?_eq_getElem hjn⟩
    obtain ⟨hu0, hu1⟩ := hl u (List.mem_of_getElem? hu)
    have hgd : l.getD j 0 = u := by rw [List.getD_eq_getElem?_getD, hu]; rfl
    have hwk : IntKind.i64.wrap ((k : Int) + 1) = ((k + 1 : Nat) : Int) := wrapn (by omega)
    have hwj : IntKind.i64.wrap ((j : Int) + 1) = ((j + 1 : Nat) : Int) := wrapn (by omega)
    have hwu : IntKind.i64.wrap u = ((u.toNat : Nat) : Int) := by rw [wrap_id (by omega) (by omega)]; omega
    have hdj := dec_does j (by omega)
    have hdu := dec_does u.toNat (by omega)
    have hks := decS_size j
    have h1s : (⟨#[107]⟩ : ByteArray).size = 1 := rfl
    have hob := ordB_len l js
    have hob2 : (putB (ordB l js) (clOf (ordZ j))).length ≤ (ordB l js).length + 1 := by rw [putB_ins]; exact insB_len
    have hputz := bput_does A6 (ordB l js).length c6 (ordB l js) (ordZ j) (none, 0) (ordB_ris l js) (by unfold lim; omega)
    have hsB : ordB l (js ++ [j]) = putB (putB (ordB l js) (clOf (ordZ j))) (clOf (ordC j u)) := by rw [ordB_step, hgd]
    have hml : (left.map fun k : Nat => (k : Int)).length = left.length := by simp
    have eL : [] ++ ((left.map fun k : Nat => (k : Int)).drop 0).take (k - 0) ++ ((left.map fun k : Nat => (k : Int)).drop (k + 1)).take (left.length - (k + 1)) = (left.take k ++ left.drop (k + 1)).map fun k : Nat => (k : Int) := by
      rw [List.take_of_length_le (l := (left.map fun k : Nat => (k : Int)).drop (k + 1)) (by simp)]
      simp
    have eN : 0 + (k - 0) + (left.length - (k + 1)) = (left.take k ++ left.drop (k + 1)).length := by simp; omega
    repeat' (first
    | (refine SO.pure rfl rfl rfl ?_)
    | (refine SO.nil ?_)
    | (refine SK.seq ?_)
    | (refine SK.region ?_)
    | (refine SK.skip ?_)
    | (refine SK.block ?_)
    | (refine SK.condTP rfl (by first | assumption | (simp only [decide_eq_true_eq, decide_eq_false_iff_not, Bool.not_eq_true', Bool.not_eq_false', Bool.not_true, Bool.not_false, Bool.not_not]; omega)) ?_)
    | fail)
    rw [hd3]
    repeat' (first
    | (refine SO.indexP (ρ := RU) (A := B) rfl rfl (by repeat constructor) rfl rfl rfl rfl (by omega) (by assumption) ?_)
    | (refine SO.div rfl rfl (rem_ne (by omega)) rfl ?_)
    | (refine SO.pure rfl rfl rfl ?_)
    | (refine SO.nil ?_)
    | (refine SO.eloadW rfl (by repeat constructor) (by assumption) rfl (by rfl) rfl (by rfl) rfl (fun hid => ?_))
    | (refine SK.seq ?_)
    | (refine SK.region ?_)
    | fail)
    rw [hwv, hkm]
    repeat' (first
    | (refine SX.slice (ρ := RI) (k1 := .i64) (k2 := .i64) rfl rfl rfl (by repeat constructor) rfl rfl (by rfl) rfl (by exact .inr ⟨rfl, rfl⟩) (by exact .inl rfl) (by omega) (by omega) (by assumption) (fun As cs hcs => SX.copy (M := [slAt RI As _ _]) (all_cons (pers_slAt _ _ _ _) all_nil) ?_))
    | (refine SO.indexH rfl rfl (by repeat constructor) rfl rfl rfl rfl (by assumption) ?_)
    | (refine SO.pure rfl rfl rfl ?_)
    | (refine SO.nil ?_)
    | (refine SO.eloadW rfl (by repeat constructor) (by assumption) rfl (by rfl) rfl (by rfl) rfl (fun hid => ?_))
    | (refine SK.seq ?_)
    | (refine SK.regionX 20 (.item 0 1 (.item 0 2 (.item 0 5 (.item 0 6 (.item 0 3 (.item 0 7 (.item 0 8 (.item 1 0 (.item 1 4 (.item 2 9 (.item 2 10 .nil))))))))))) [] .nil (by repeat (first | exact .nil | apply PersSub.s | apply PersSub.t | apply PersSub.p | apply PersSub.r | apply PersSub.skip)) (by kernel_rfl) (by kernel_rfl) (fun _ _ _ h => h) ?_)
    | (refine SX.pure rfl rfl rfl ?_)
    | fail)
    rw [hwk]
    repeat' (first
    | (refine SO.buildSlice rfl rfl rfl rfl rfl rfl (fun b => SO.shift (toSqR (ρ := RI) (b := b) (n := 0) (l := []) [] (by repeat constructor) rfl rfl rfl rfl .nil) ?_))
    | (refine SO.append (ρ := RI) (w := false) rfl rfl (by repeat constructor) (Src.sl (by repeat constructor)) rfl rfl rfl rfl rfl rfl rfl (by unfold lim; omega) (fun A4 c4 => ?_))
    | (refine SX.slice (ρ := RI) (k1 := .i64) (k2 := .i64) rfl rfl rfl (by repeat constructor) rfl rfl (by rfl) rfl (by exact .inl rfl) (by exact .inr ⟨rfl, rfl⟩) (by omega) (by omega) (by assumption) (fun As cs hcs => SX.copy (M := [slAt RI As _ _]) (all_cons (pers_slAt _ _ _ _) all_nil) ?_))
    | (refine SO.pure rfl rfl rfl ?_)
    | (refine SO.nil ?_)
    | (refine SK.seq ?_)
    | (refine SK.region ?_)
    | (refine SX.tail (by rfl) (by repeat (first | exact .nil | apply DropP.s | apply DropP.t | apply DropP.p | apply DropP.r | apply DropP.keep)) ?_)
    | (refine SX.step rfl rfl ?_)
    | (refine SK.invY ?_)
    | (refine SY.go ?_)
    | fail)
    rw [eN, eL]
    refine SO.know (sq_len (w := false) (ρ := RI) (A := A4) (n := (left.take k ++ left.drop (k + 1)).length) (c := c4) (l := (left.take k ++ left.drop (k + 1)).map fun k : Nat => (k : Int)) (by repeat constructor)) ?_
    rintro ⟨-, -, hc4, -⟩
    refine SO.share (ρ := RI) (A := A4) (by repeat constructor) ?_
    repeat' (first
    | (refine SO.call (hdj) rfl rfl rfl (by repeat constructor) (by repeat constructor) rfl (fun x hx => ?_))
    | (refine SO.call (hputz) rfl rfl rfl (by repeat constructor) (by repeat constructor) rfl (fun x hx => ?_))
    | (refine SO.pure rfl rfl rfl ?_)
    | (refine SO.nil ?_)
    | (refine SO.build rfl rfl rfl rfl ?_)
    | (refine SO.scat rfl rfl rfl (by first | assumption | omega | exact Nat.le_of_ble_eq_true rfl | (simp only [decide_eq_true_eq, decide_eq_false_iff_not] at *; omega)) ?_)
    | (refine SK.regionX 22 (.item 0 0 (.item 0 1 (.item 0 3 (.item 0 6 (.item 0 7 (.item 0 2 (.item 0 8 (.item 0 9 (.item 0 10 (.item 1 4 (.item 0 5 (.item 1 11 (.item 0 12 (.item 2 13 (.item 2 14 .nil))))))))))))))) [] .nil (by repeat (first | exact .nil | apply PersSub.s | apply PersSub.t | apply PersSub.p | apply PersSub.r | apply PersSub.skip)) (by kernel_rfl) (by kernel_rfl) (fun _ _ _ h => h) ?_)
    | (refine SX.indexH rfl rfl (by repeat constructor) rfl rfl rfl rfl (by assumption) ?_)
    | (refine SX.pure rfl rfl rfl ?_)
    | (refine SX.eloadW rfl (by repeat constructor) (by assumption) rfl (by rfl) rfl (by rfl) rfl (fun hid => ?_))
    | (refine SX.scat rfl rfl rfl (by first | assumption | omega | exact Nat.le_of_ble_eq_true rfl | (simp only [decide_eq_true_eq, decide_eq_false_iff_not] at *; omega)) ?_)
    | (refine SX.step rfl rfl ?_)
    | (refine SK.invY ?_)
    | (refine SY.shareGo (by repeat (first | exact .nil | apply PersSub.s | apply PersSub.t | apply PersSub.p | apply PersSub.r | apply PersSub.skip)) ?_)
    | fail)
    rename_i xz hxz
    have hputc := bput_does xz.1 (putB (ordB l js) (clOf (ordZ j))).length xz.2 (putB (ordB l js) (clOf (ordZ j))) (ordC j u) (none, 0) (by rw [putB_ins]; exact insB_ris (ordB_ris l js)) (by unfold lim; omega)
    rw [hwj, hwu]
    repeat' (first
    | (refine SO.call (hdu) rfl rfl rfl (by repeat constructor) (by repeat constructor) rfl (fun x hx => ?_))
    | (refine SO.call (hputc) rfl rfl rfl (by repeat constructor) (by repeat constructor) rfl (fun x hx => ?_))
    | (refine SO.pure rfl rfl rfl ?_)
    | (refine SO.nil ?_)
    | (refine SK.region ?_)
    | (refine SK.blk ?_)
    | (refine SX.tail (by rfl) (by repeat (first | exact .nil | apply DropP.s | apply DropP.t | apply DropP.p | apply DropP.r | apply DropP.keep)) ?_)
    | (refine SX.build rfl rfl rfl rfl ?_)
    | (refine SK.invY ?_)
    | (refine SY.shareGo (by repeat (first | exact .nil | apply PersSub.s | apply PersSub.t | apply PersSub.p | apply PersSub.r | apply PersSub.skip)) ?_)
    | fail)
    rw [← hsB, hwi3, show ((js.length + 1 : Nat) : Int) = (((js ++ [j]).length : Nat) : Int) by simp]
    refine SK.inv ⟨⟨(left.take k ++ left.drop (k + 1), js ++ [j], (A4, c4), x), perm_take hp hj, hc4⟩, ?_, by repeat constructor, ent_append_of_takes (by repeat constructor)⟩
    show l.length - (js ++ [j]).length < l.length - js.length
    rw [List.length_append]
    simp only [List.length_cons, List.length_nil]
    omega
  have hd3 : decide ((js.length : Int) < (l.length : Int)) = false := decide_eq_false (by omega)
  obtain rfl : left = [] := List.length_eq_zero_iff.1 (by omega)
  rw [List.nil_append] at hp
  rw [← ord_same h12 hp]
  have hgd := ordA_good h12 hl
  have hch := bcheck_does A0 (bookAt [] (ordL l) l.length).length c0 (bookAt [] (ordL l) l.length) (fun y hy => by have := ordA_vals hy; unfold lim; omega)
  rw [hgd] at hch
  have hss := fun A' B' c' d' => same_self A' B' c' d' (bookAt [] (ordL l) l.length)
  repeat' (first
    | (refine SO.pure rfl rfl rfl ?_)
    | (refine SO.nil ?_)
    | (refine SK.seq ?_)
    | (refine SK.region ?_)
    | (refine SK.exit rfl ?_)
    | (refine SK.condFP rfl (by first | assumption | (simp only [decide_eq_true_eq, decide_eq_false_iff_not, Bool.not_eq_true', Bool.not_eq_false', Bool.not_true, Bool.not_false, Bool.not_not]; omega)) ?_)
    | fail)
  rw [hd3]
  repeat' (first
    | (refine SO.call (hss _ _ _ _) rfl rfl rfl (by repeat constructor) (by repeat constructor) rfl (fun x hx => ?_))
    | (refine SO.call (hch) rfl rfl rfl (by repeat constructor) (by repeat constructor) rfl (fun x hx => ?_))
    | (refine SO.pure rfl rfl rfl ?_)
    | (refine SO.nil ?_)
    | (refine SO.guardY rfl rfl ?_)
    | (refine SO.guardYP rfl rfl (by first | assumption | (simp only [decide_eq_true_eq, decide_eq_false_iff_not, Bool.not_eq_true', Bool.not_eq_false', Bool.not_true, Bool.not_false, Bool.not_not]; omega)) ?_)
    | fail)
  rw [decide_eq_true (show ((bookAt [] (ordL l) l.length).length : Int) = (l.length : Int) by omega)]
  skip
  exact SK.retX (.tmp rfl .nil) () trivial rfl (by repeat constructor)
end Go.Proofs
