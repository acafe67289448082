/- A part of a proof: what functions of the program compute. -/
import Derived.Test.YtmbfcjffjgecjaaGreatDoorTxtE
import Derived.Test.YtmbfcjffjgecjaaGreatDoorDiskE
import Derived.Test.YtmbfcjffjgecjaaGreatDoorLib1
import Derived.Test.YtmbfcjffjgecjaaGreatDoorLib2
set_option linter.unusedVariables false
set_option linter.unusedSimpArgs false
set_option maxHeartbeats 0
namespace Go.Proofs
attribute [local irreducible] Go.Sl.SO Go.Sl.SQ Go.Sl.SR Go.Sl.SC Go.Sl.SX Go.Sl.SY Go.Sl.eadr Go.Sl.slAt Go.Sl.sqAt Go.Sl.pts Go.Sl.rod Go.Sl.ob Go.Sl.ex Go.Sl.big Go.Sl.pr Go.Sl.tabs Go.Sl.mpAt
open Go.Sl
abbrev dkMid (db : Nat) (p : Pl) (d : Dk) : List HP := [pts db 1 [.slice p.1 d.lines.length p.2], sqAt false RS p.1 d.lines.length p.2 d.lines]
theorem dlines1_does (db : Nat) (A : Option Addr) (n c : Nat) : Does Tryz.prog 36 [.pointer (some ⟨db, 0, none⟩)] [] [pts db 1 [.slice A n c]] Nat (fun _ => True) (fun y => .func (.func 99) #[] #[.pointer (some ⟨y, 0, none⟩)]) (fun y => [pts y 0 [.slice A n c], pts db 1 [.slice A n c]]) := by
  refine Does.of Tryz.call36 Tryz.func36 rfl rfl rfl all_nil rfl ?_
  repeat' (first
 | refine SO.pure rfl rfl rfl ?_
 | refine SO.nil ?_
 | refine SO.load rfl (by repeat constructor) rfl (by rfl) (by exact ⟨rfl, by first | exact fun _ => rfl | exact (fun h => by cases h)⟩) rfl ?_
 | refine SK.seq ?_
 | refine SK.region ?_
 | refine SO.alloc rfl rfl rfl (fun b => ?_)
 | refine SO.storeW rfl rfl (by repeat constructor) rfl (by rfl) (by rfl) (by rfl) ?_
 | fail)
  exact SK.retX (.tmp rfl .nil) _ trivial rfl (by repeat constructor)
theorem dused1_does (db : Nat) (p : Pl) (d : Dk) (h : d.Ok) : Does Tryz.prog 90 [.pointer (some ⟨db, 0, none⟩)] [] [pts db 1 [.slice p.1 d.lines.length p.2], sqAt false RS p.1 d.lines.length p.2 d.lines] Unit (fun _ => True) (fun _ => .int .i64 (usedL d.lines : Int)) (fun _ => [pts db 1 [.slice p.1 d.lines.length p.2], sqAt false RS p.1 d.lines.length p.2 d.lines]) := by
  refine Does.of Tryz.call90 Tryz.func90 rfl rfl rfl all_nil rfl ?_
  have hbd := h.room
  have hus := h.used
  repeat' (first
 | refine SO.call (dlines1_does _ _ _ _) rfl rfl rfl (by repeat constructor) (by repeat constructor) rfl (fun x hx => ?_)
 | refine SO.pure rfl rfl rfl ?_
 | refine SO.nil ?_
 | refine SK.seq ?_
 | refine SK.region ?_
 | refine SK.block ?_
 | refine SO.alloc rfl rfl rfl (fun b => ?_)
 | refine SO.storeW rfl rfl (by repeat constructor) rfl (by rfl) (by rfl) (by rfl) ?_
 | fail)
  simp only [List.cons_append, List.nil_append]
  refine SK.readable (ρ := RS) (by repeat constructor) ?_
  have hzl : d.lines.zipIdx.length = d.lines.length := by simp
  refine SK.range (lniter x p.1 d.lines.length p.2 d.lines) Empty (fun i => [pts b 0 [.int .i64 (usedL (d.lines.take i) : Int)]]) (fun _ => []) (fun y => y.elim) rfl (by repeat constructor) (by repeat constructor) rfl (fun _ _ => rfl) ?_ ?_ (fun y => y.elim)
  · rintro i ⟨s, j⟩ hid q R hr
    have hs : d.lines[i]? = some s := (zip_of hr).1
    obtain rfl : j = i := (zip_of hr).2
    have h1 := usedL_step hs
    have h2 := usedL_take d.lines (j + 1)
    have hw1 : IntKind.i64.wrap ((s.size : Int) + 1) = (s.size : Int) + 1 := wrap_id (by omega) (by omega)
    have hw2 : IntKind.i64.wrap ((usedL (d.lines.take j) : Int) + ((s.size : Int) + 1)) = ((usedL (d.lines.take (j + 1)) : Nat) : Int) := by rw [wrap_id (by omega) (by omega), h1]; omega
    repeat' (first
 | refine SO.pure rfl rfl rfl ?_
 | refine SO.nil ?_
 | refine SK.region ?_
 | fail)
    refine SK.inv ?_
    repeat' (first
 | refine SO.pure rfl rfl rfl ?_
 | refine SO.nil ?_
 | refine SO.load rfl (by repeat constructor) rfl (by rfl) (by exact ⟨rfl, by first | exact fun _ => rfl | exact (fun h => by cases h)⟩) rfl ?_
 | refine SK.region ?_
 | refine SK.block ?_
 | refine SK.blk ?_
 | refine SO.storeW rfl rfl (by repeat constructor) rfl (by rfl) (by rfl) (by rfl) ?_
 | fail)
    dsimp only
    rw [hw1, hw2]
    refine SK.nil ?_
    exact ent_append_of_takes (by repeat constructor)
  · refine SK.blk ?_
    repeat' (first
 | refine SO.pure rfl rfl rfl ?_
 | refine SO.nil ?_
 | refine SO.load rfl (by repeat constructor) rfl (by rfl) (by exact ⟨rfl, by first | exact fun _ => rfl | exact (fun h => by cases h)⟩) rfl ?_
 | refine SK.seq ?_
 | refine SK.region ?_
 | fail)
    have e1 : d.lines.take d.lines.zipIdx.length = d.lines := by rw [hzl, List.take_length]
    rw [e1]
    exact SK.retX (.tmp rfl .nil) () trivial rfl (by repeat constructor)
theorem dwrite_does (db : Nat) (p : Pl) (d : Dk) (s : ByteArray) (h : d.Ok) (hs : s.size ≤ 4611686018427387904) : Does Tryz.prog 30 [.pointer (some ⟨db, 0, none⟩), .string s] [] (dkAt db p d) Pl (fun _ => True) (fun _ => .int .i64 (d.write s).1) (fun p => dkAt db p (d.write s).2) := by
  refine Does.of Tryz.call30 Tryz.func30 rfl rfl rfl all_nil rfl ?_
  have hln := h.len
  have hus := h.used
  have hrm := h.room
  unfold Dk.write
  cases hn : nlT s with
  | true =>
    rw [if_pos rfl]
    have hc := contains_does s
    rw [hn] at hc
    repeat' (first
 | refine SO.call (hc) rfl rfl rfl (by repeat constructor) (by repeat constructor) rfl (fun x hx => ?_)
 | refine SO.pure rfl rfl rfl ?_
 | refine SO.nil ?_
 | refine SK.seq ?_
 | refine SK.region ?_
 | refine SK.condT rfl ?_
 | refine SK.block ?_
 | fail)
    exact SK.retX (.tmp rfl .nil) p trivial rfl (by repeat constructor)
  | false =>
    rw [if_neg (by decide)]
    have hc := contains_does s
    rw [hn] at hc
    have hw1 : IntKind.i64.wrap ((s.size : Int) + 1) = (s.size : Int) + 1 := wrap_id (by omega) (by omega)
    have hw2 : IntKind.i64.wrap (d.room - (usedL d.lines : Int)) = d.room - (usedL d.lines : Int) := wrap_id (by omega) (by omega)
    refine SK.shift (fun F w hst => hst.ent (Ent.cons (dk_split (b := db) (x := p) (d := d) (L := [])))) ?_
    repeat' (first
 | refine SO.call (hc) rfl rfl rfl (by repeat constructor) (by repeat constructor) rfl (fun x hx => ?_)
 | refine SO.call (dused1_does db p d h) rfl rfl rfl (by repeat constructor) (by repeat constructor) rfl (fun x hx => ?_)
 | refine SO.pure rfl rfl rfl ?_
 | refine SO.nil ?_
 | refine SK.seq ?_
 | refine SK.region ?_
 | refine SK.condF rfl ?_
 | refine SK.block ?_
 | refine SK.regionX 3 (.item 0 0 (.item 0 3 (.item 0 7 (.item 0 1 (.item 0 4 (.item 0 2 (.item 0 5 (.item 0 6 (.item 1 8 (.item 0 9 (.item 0 10 (.item 0 11 .nil)))))))))))) (dkMid db p d) (by repeat constructor) (by repeat (first | exact .nil | apply PersSub.s | apply PersSub.t | apply PersSub.p | apply PersSub.r | apply PersSub.skip)) (by kernel_rfl) (by kernel_rfl) (fun _ _ _ h => h) ?_
 | refine SX.tail (by rfl) (by repeat (first | exact .nil | apply DropP.s | apply DropP.t | apply DropP.p | apply DropP.r | apply DropP.keep)) ?_
 | refine SX.pure rfl rfl rfl ?_
 | refine SX.load rfl (by repeat constructor) rfl (by rfl) (by exact ⟨rfl, by first | exact fun _ => rfl | exact (fun h => by cases h)⟩) rfl ?_
 | refine SX.step rfl rfl ?_
 | refine SK.invY ?_
 | refine SY.shareGo (by repeat (first | exact .nil | apply PersSub.s | apply PersSub.t | apply PersSub.p | apply PersSub.r | apply PersSub.skip)) ?_
 | fail)
    rw [hw1, hw2]
    by_cases hf : d.room - (usedL d.lines : Int) < (s.size : Int) + 1
    · rw [if_pos hf, decide_eq_true hf]
      repeat' (first
 | refine SO.pure rfl rfl rfl ?_
 | refine SO.nil ?_
 | refine SK.seq ?_
 | refine SK.region ?_
 | refine SK.condT rfl ?_
 | fail)
      refine SK.ret ⟨_, .tmp rfl .nil, p, trivial, rfl, ?_⟩
      exact (ent_append_of_takes (As := dkParts db p d ++ []) (by repeat constructor)).trans dk_join
    · rw [if_neg hf, decide_eq_false hf]
      have hlm : d.lines.length + 1 ≤ lim := by unfold lim; omega
      repeat' (first
 | refine SO.append (ρ := RS) (w := false) (ys := [s]) rfl rfl (by repeat constructor) (Src.one (h := ()) (by repeat constructor) (by rfl) (by repeat constructor)) rfl rfl rfl rfl rfl rfl rfl (by omega) (fun A3 c3 => ?_)
 | refine SO.pure rfl rfl rfl ?_
 | refine SO.nil ?_
 | refine SO.load rfl (by repeat constructor) rfl (by rfl) (by exact ⟨rfl, by first | exact fun _ => rfl | exact (fun h => by cases h)⟩) rfl ?_
 | refine SK.seq ?_
 | refine SK.region ?_
 | refine SK.condF rfl ?_
 | refine SK.skip ?_
 | refine SK.blk ?_
 | refine SO.storeW rfl rfl (by repeat constructor) rfl (by rfl) (by rfl) (by rfl) ?_
 | refine SO.buildSlice rfl rfl rfl rfl rfl rfl (fun b => ?_)
 | fail)
      have e : (d.lines ++ [s]).length = d.lines.length + 1 := by simp
      refine SK.ret ⟨_, .tmp rfl .nil, (A3, c3), trivial, rfl, ?_⟩
      have hj := dk_join (b := db) (x := (A3, c3)) (d := ⟨d.room, d.lines ++ [s], d.lasts⟩) (L := [])
      simp only [dkAt, dkParts, e] at hj ⊢
      exact (ent_append_of_takes (by repeat constructor)).trans hj
theorem number_does (s : ByteArray) (m n : Nat) (hs : s.size ≤ 1048576) (h : numT m s.data.toList = some n) (hm : m ≤ 2147483647) : Does Tryz.prog 128 [.string s, .int .i64 (m : Int)] [] [] Unit (fun _ => True) (fun _ => .tuple #[.int .i64 (n : Int), .int .i64 0]) (fun _ => []) := by
  refine Does.of Tryz.call128 Tryz.func128 rfl rfl rfl all_nil rfl ?_
  unfold numT at h
  have hcv : canD s.data.toList = true ∧ valD s.data.toList ≤ m := by
    by_cases hc : canD s.data.toList = true ∧ valD s.data.toList ≤ m
    · exact hc
    · rw [if_neg hc] at h; cases h
  rw [if_pos hcv] at h
  obtain rfl : valD s.data.toList = n := Option.some.inj h
  obtain ⟨hc, hv⟩ := hcv
  have hat := (atoi_can hc).1 (by omega)
  have hform := mt (form_can s.data.toList).2 (by rw [hc]; decide)
  have h1 : s ≠ bE := fun he => hform (.inl (by rw [he]; rfl))
  have h2 : Lib.trimS s.data.toList digs = [] := Decidable.byContradiction fun he => hform (.inr (.inl he))
  have h3 : s.data.toList.head? = some 48 → s = ⟨#[48]⟩ := fun he => Decidable.byContradiction fun hne => hform (.inr (.inr ⟨he, fun hl => hne (by rw [← txB_tx s, hl]; rfl)⟩))
  have ht := strim_does s (by omega)
  rw [h2] at ht
  have ha := atoi_ok s (by omega) _ hat
  have e1 : eqS s ⟨#[]⟩ = false := by
    rw [Bool.eq_false_iff]; intro he; exact h1 (eqS_iff.1 he)
  have e2 : (!eqS (txB []) ⟨#[]⟩) = false := by decide
  repeat' (first
 | refine SO.call (ht) rfl rfl rfl (by repeat constructor) (by repeat constructor) rfl (fun x hx => ?_)
 | refine SO.call (ha) rfl rfl rfl (by repeat constructor) (by repeat constructor) rfl (fun x hx => ?_)
 | refine SO.pure rfl rfl rfl ?_
 | refine SO.nil ?_
 | refine SO.guardY rfl rfl ?_
 | refine SK.seq ?_
 | refine SK.region ?_
 | refine SO.guardYP rfl rfl (by first | assumption | (simp only [Go.Sl.bl]; omega)) ?_
 | fail)
  rw [e1]
  have h0 : 0 < s.size := by
    rcases Nat.eq_zero_or_pos s.size with hz | hz
    · refine absurd ?_ h1
      have : s.data.toList = [] := List.eq_nil_of_length_eq_zero (by rw [← hz]; exact Array.length_toList)
      rw [← txB_tx s, this]; rfl
    · exact hz
  repeat' (first
 | refine SO.pure rfl rfl rfl ?_
 | refine SO.guardY rfl rfl ?_
 | refine SO.sidx rfl rfl rfl rfl rfl (by first | assumption | omega | exact Nat.le_of_ble_eq_true rfl | (simp only [decide_eq_true_eq, decide_eq_false_iff_not] at *; omega)) (fun v hv => ?_)
 | fail)
  by_cases hv48 : v = 48
  · have hs48 : s = ⟨#[48]⟩ := by
      refine h3 ?_
      subst hv48
      unfold bytesI at hv
      rw [List.getElem?_map, Option.map_eq_some_iff] at hv
      obtain ⟨b, hb, hb2⟩ := hv
      rw [List.head?_eq_getElem?, hb]
      congr 1
      apply UInt8.toNat.inj
      have : ((b.toNat : Nat) : Int) = 48 := hb2
      show b.toNat = 48
      omega
    have e3 : (!eqS s ⟨#[48]⟩) = false := by
      have : eqS s ⟨#[48]⟩ = true := eqS_iff.2 hs48
      rw [this]; rfl
    rw [decide_eq_true hv48]
    repeat' (first
 | refine SO.neqNil rfl rfl Tryz.underlying219 rfl ?_
 | refine SO.call (ht) rfl rfl rfl (by repeat constructor) (by repeat constructor) rfl (fun x hx => ?_)
 | refine SO.call (ha) rfl rfl rfl (by repeat constructor) (by repeat constructor) rfl (fun x hx => ?_)
 | refine SO.pure rfl rfl rfl ?_
 | refine SO.nil ?_
 | refine SO.guardY rfl rfl ?_
 | refine SK.seq ?_
 | refine SK.region ?_
 | refine SK.skip ?_
 | refine SK.condFP rfl (by first | assumption | (simp only [Go.Sl.bl]; omega)) ?_
 | fail)
    rw [e3]
    skip
    exact SK.retX (.tmp rfl (.tmp rfl .nil)) () trivial rfl (by repeat constructor)
  · rw [decide_eq_false hv48]
    repeat' (first
 | refine SO.neqNil rfl rfl Tryz.underlying219 rfl ?_
 | refine SO.call (ht) rfl rfl rfl (by repeat constructor) (by repeat constructor) rfl (fun x hx => ?_)
 | refine SO.call (ha) rfl rfl rfl (by repeat constructor) (by repeat constructor) rfl (fun x hx => ?_)
 | refine SO.pure rfl rfl rfl ?_
 | refine SO.nil ?_
 | refine SO.guardY rfl rfl ?_
 | refine SO.guardN rfl rfl rfl ?_
 | refine SK.seq ?_
 | refine SK.region ?_
 | refine SK.condF rfl ?_
 | refine SK.skip ?_
 | refine SK.condFP rfl (by first | assumption | (simp only [Go.Sl.bl]; omega)) ?_
 | fail)
    exact SK.retX (.tmp rfl (.tmp rfl .nil)) () trivial rfl (by repeat constructor)
end Go.Proofs
