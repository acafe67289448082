/- A part of a proof: what functions of the program compute. -/
import Derived.Test.YtmbfcjffjgecjaaGreatDoorSeg2E
import Derived.Test.YtmbfcjffjgecjaaGreatDoorLib2
set_option linter.unusedVariables false
set_option linter.unusedSimpArgs false
set_option maxHeartbeats 0
namespace Go.Proofs
attribute [local irreducible] Go.Sl.SO Go.Sl.SQ Go.Sl.SR Go.Sl.SC Go.Sl.SX Go.Sl.SY Go.Sl.eadr Go.Sl.slAt Go.Sl.sqAt Go.Sl.pts Go.Sl.rod Go.Sl.ob Go.Sl.ex Go.Sl.big Go.Sl.pr Go.Sl.tabs Go.Sl.mpAt Go.Sl.mitAt Go.Sl.mitN
open Go.Sl
theorem eqS_ne {a b : Tx} (h : a ≠ b) : eqS (txB a) ⟨b.toArray⟩ = false := by
  rw [Bool.eq_false_iff]; intro he
  have := congrArg (fun x : ByteArray => x.data.toList) (eqS_iff.1 he)
  simp [txB] at this
  exact h this
theorem take_ok (sb db mb : Nat) (s s' : Sg) (i : Nat) (t : ByteArray) (ht : t.size ≤ 1048575) (h : s.take i t.data.toList = some s') : Does Tryz.prog 93 [.pointer (some ⟨sb, 0, none⟩), .int .i64 (i : Int), .string t] [libA, tabs 4 5] (sgAt sb db mb s) Unit (fun _ => True) (fun _ => .bool true) (fun _ => sgAt sb db mb s') := by
  refine Does.of Tryz.call93 Tryz.func93 rfl rfl rfl (all_cons pers_lib (all_cons (pers_tabs _ _) all_nil)) rfl ?_
  have hsl : t.data.toList.length = t.size := Array.length_toList
  obtain ⟨ln, hln⟩ := take_line h
  rcases lineT_parts hln with ⟨l1, w, l2, n, r, h1, h2, h3, h4, rfl⟩ | ⟨k, w, n, h1, h2, h3, hk⟩
  · have n1 := cut1_len h1
    have n2 := cut1_len h2
    have c1 := cut_does t ⟨#[32]⟩ (by omega)
    have e1 := cutL1 32 t.data.toList
    rw [h1] at e1
    rw [show Lib.cut t.data.toList (⟨#[32]⟩ : ByteArray).data.toList = ([112], l1, true) from e1] at c1
    have c2 := cut_does (txB l1) ⟨#[32]⟩ (by rw [size_txB]; omega)
    have e2 := cutL1 32 l1
    rw [h2] at e2
    rw [show Lib.cut (txB l1).data.toList (⟨#[32]⟩ : ByteArray).data.toList = (w, l2, true) by rw [tx_txB]; exact e2] at c2
    have d1 := number_does (txB w) 2147483647 n (by rw [size_txB]; omega) (by rw [tx_txB]; exact h3) (by decide)
    have pr1 := rparse_ok (txB l2) r (by rw [size_txB]; omega) (by rw [tx_txB]; exact h4)
    obtain ⟨hg, htr, rfl⟩ := take_put_parts hln h
    have e5 : eqS (txB ([112], l1, true).1) ⟨#[112]⟩ = true := by show eqS (txB [112]) ⟨#[112]⟩ = true; decide
    unfold sgAt
    repeat' (first
 | refine SO.call (c1) rfl rfl rfl (by repeat constructor) (by repeat constructor) rfl (fun x hx => ?_)
 | refine SO.call (c2) rfl rfl rfl (by repeat constructor) (by repeat constructor) rfl (fun x hx => ?_)
 | refine SO.call (d1) rfl rfl rfl (by repeat constructor) (by repeat constructor) rfl (fun x hx => ?_)
 | refine SO.call (pr1) rfl rfl rfl (by repeat constructor) (by repeat constructor) rfl (fun x hx => ?_)
 | refine SO.pure rfl rfl rfl ?_
 | refine SO.pure2 rfl rfl rfl ?_
 | refine SO.nil ?_
 | refine SO.guardY rfl rfl ?_
 | refine SO.load rfl (by repeat constructor) rfl (by rfl) (by exact ⟨rfl, by first | exact fun _ => rfl | exact (fun h => by cases h)⟩) rfl ?_
 | refine SK.seq ?_
 | refine SK.region ?_
 | refine SK.condT rfl ?_
 | refine SK.condF rfl ?_
 | refine SK.skip ?_
 | refine SK.block ?_
 | refine SO.alloc rfl rfl rfl (fun b => ?_)
 | refine SO.storeW rfl rfl (by repeat constructor) rfl (by rfl) (by rfl) (by rfl) ?_
 | fail)
    rw [e5]
    skip
    rename Pl => px
    refine SO.lookup (kr := KI .i64) (ρ := RSlt) rfl (by repeat constructor) (by rfl) rfl rfl (by rfl) rfl rfl (fun u hid hu => by rw [hg] at hu; cases hu) (fun hu => ?_)
    repeat' (first
 | refine SO.mapUpdate (kr := KI .i64) (ρ := RSlt) (u := (r, i)) (h := px) (key := (n : Int)) rfl (by repeat constructor) rfl rfl (by repeat constructor) rfl rfl rfl ?_
 | refine SO.pure rfl rfl rfl ?_
 | refine SO.nil ?_
 | refine SO.guardY rfl rfl ?_
 | refine SO.load rfl (by repeat constructor) rfl (by rfl) (by exact ⟨rfl, by first | exact fun _ => rfl | exact (fun h => by cases h)⟩) rfl ?_
 | refine SK.seq ?_
 | refine SK.region ?_
 | refine SK.skip ?_
 | refine SK.blk ?_
 | refine SO.alloc rfl rfl rfl (fun b => ?_)
 | refine SO.storeW rfl rfl (by repeat constructor) rfl (by rfl) (by rfl) (by rfl) ?_
 | refine SK.condFP rfl (by first | assumption | (simp only [Go.Sl.bl]; omega)) ?_
 | refine SK.regionX 13 (.item 0 0 (.item 0 4 (.item 0 5 (.item 0 6 (.item 0 1 (.item 0 7 (.item 0 2 (.item 0 3 (.item 2 8 .nil))))))))) (segL sb db mb s) (by repeat constructor) (by repeat (first | exact .nil | apply PersSub.s | apply PersSub.t | apply PersSub.p | apply PersSub.r | apply PersSub.skip)) (by kernel_rfl) (by kernel_rfl) (fun _ _ _ h => h) ?_
 | refine SX.tail (by rfl) (by repeat (first | exact .nil | apply DropP.s | apply DropP.t | apply DropP.p | apply DropP.r | apply DropP.keep)) ?_
 | refine SX.pure rfl rfl rfl ?_
 | refine SX.loadW rfl (by repeat constructor) rfl rfl rfl (by rfl) rfl ?_
 | refine SX.load rfl (by repeat constructor) rfl (by rfl) (by exact ⟨rfl, by first | exact fun _ => rfl | exact (fun h => by cases h)⟩) rfl ?_
 | refine SX.build rfl rfl rfl rfl ?_
 | fail)
    exact SK.retX (.tmp rfl .nil) () trivial rfl (by repeat constructor)
  · have n1 := cut1_len h1
    have c1 := cut_does t ⟨#[32]⟩ (by omega)
    have e1 := cutL1 32 t.data.toList
    rw [h1] at e1
    rw [show Lib.cut t.data.toList (⟨#[32]⟩ : ByteArray).data.toList = ([k], w, true) from e1] at c1
    have c2 := cut_does (txB w) ⟨#[32]⟩ (by rw [size_txB]; omega)
    have e2 := cutL1 32 w
    unfold cut1 at e2
    rw [if_neg (by rw [h2]; decide)] at e2
    rw [show Lib.cut (txB w).data.toList (⟨#[32]⟩ : ByteArray).data.toList = (w, [], false) by rw [tx_txB]; exact e2] at c2
    have d1 := number_does (txB w) 2147483647 n (by rw [size_txB]; omega) (by rw [tx_txB]; exact h3) (by decide)
    have hkp : k ≠ 112 := by rcases hk with ⟨rfl, _⟩ | ⟨rfl, _⟩ | ⟨rfl, _⟩ <;> decide
    have e5 : eqS (txB ([k], w, true).1) ⟨#[112]⟩ = false := eqS_ne (a := [k]) (b := [112]) (by simpa using hkp)
    unfold sgAt
    repeat' (first
 | refine SO.call (c1) rfl rfl rfl (by repeat constructor) (by repeat constructor) rfl (fun x hx => ?_)
 | refine SO.call (c2) rfl rfl rfl (by repeat constructor) (by repeat constructor) rfl (fun x hx => ?_)
 | refine SO.call (d1) rfl rfl rfl (by repeat constructor) (by repeat constructor) rfl (fun x hx => ?_)
 | refine SO.pure rfl rfl rfl ?_
 | refine SO.pure2 rfl rfl rfl ?_
 | refine SO.nil ?_
 | refine SO.guardY rfl rfl ?_
 | refine SK.seq ?_
 | refine SK.region ?_
 | fail)
    rw [e5]
    repeat' (first
 | refine SO.pure rfl rfl rfl ?_
 | refine SO.nil ?_
 | refine SK.seq ?_
 | refine SK.region ?_
 | refine SK.condF rfl ?_
 | refine SK.skip ?_
 | refine SK.block ?_
 | refine SK.condFP rfl (by first | assumption | (simp only [Go.Sl.bl]; omega)) ?_
 | fail)
    rcases hk with ⟨rfl, rfl⟩ | ⟨rfl, rfl⟩ | ⟨rfl, rfl⟩
    · obtain ⟨hn, rfl⟩ := take_seal_parts hln h
      have e6 : eqS (txB (([115] : Tx), w, true).1) ⟨#[115]⟩ = true := by show eqS (txB [115]) ⟨#[115]⟩ = true; decide
      rw [e6]
      repeat' (first
 | refine SO.pure rfl rfl rfl ?_
 | refine SO.nil ?_
 | refine SO.load rfl (by repeat constructor) rfl (by rfl) (by exact ⟨rfl, by first | exact fun _ => rfl | exact (fun h => by cases h)⟩) rfl ?_
 | refine SK.seq ?_
 | refine SK.region ?_
 | refine SK.condT rfl ?_
 | refine SK.skip ?_
 | refine SK.blk ?_
 | refine SO.store rfl rfl (by repeat constructor) rfl (by rfl) rfl rfl (by rfl) (by rfl) ?_
 | refine SK.condFP rfl (by first | assumption | (simp only [Go.Sl.bl]; omega)) ?_
 | fail)
      exact SK.retX (.tmp rfl .nil) () trivial rfl (by repeat constructor)
    · obtain rfl := take_cut_parts hln h
      have e6 : eqS (txB (([99] : Tx), w, true).1) ⟨#[115]⟩ = false := by show eqS (txB [99]) ⟨#[115]⟩ = false; decide
      have e7 : eqS (txB (([99] : Tx), w, true).1) ⟨#[99]⟩ = true := by show eqS (txB [99]) ⟨#[99]⟩ = true; decide
      rw [e6]
      repeat' (first
 | refine SO.pure rfl rfl rfl ?_
 | refine SO.nil ?_
 | refine SK.seq ?_
 | refine SK.region ?_
 | refine SK.condT rfl ?_
 | refine SK.condF rfl ?_
 | fail)
      rw [e7]
      repeat' (first
 | refine SO.call (scut_does sb db mb s (n : Int)) rfl rfl rfl (by repeat constructor) (by repeat constructor) rfl (fun x hx => ?_)
 | refine SO.pure rfl rfl rfl ?_
 | refine SO.nil ?_
 | refine SK.seq ?_
 | refine SK.region ?_
 | refine SK.blk ?_
 | fail)
      exact SK.retX (.tmp rfl .nil) () trivial rfl (by repeat constructor)
    · obtain ⟨hn, rfl⟩ := take_trim_parts hln h
      have e6 : eqS (txB (([116] : Tx), w, true).1) ⟨#[115]⟩ = false := by show eqS (txB [116]) ⟨#[115]⟩ = false; decide
      have e7 : eqS (txB (([116] : Tx), w, true).1) ⟨#[99]⟩ = false := by show eqS (txB [116]) ⟨#[99]⟩ = false; decide
      have e8 : eqS (txB (([116] : Tx), w, true).1) ⟨#[116]⟩ = true := by show eqS (txB [116]) ⟨#[116]⟩ = true; decide
      rw [e6]
      repeat' (first
 | refine SO.pure rfl rfl rfl ?_
 | refine SO.nil ?_
 | refine SO.load rfl (by repeat constructor) rfl (by rfl) (by exact ⟨rfl, by first | exact fun _ => rfl | exact (fun h => by cases h)⟩) rfl ?_
 | refine SK.seq ?_
 | refine SK.region ?_
 | refine SK.condT rfl ?_
 | refine SK.condF rfl ?_
 | refine SK.skip ?_
 | refine SK.condFP rfl (by first | assumption | (simp only [Go.Sl.bl]; omega)) ?_
 | fail)
      rw [e7]
      skip
      rw [e8]
      repeat' (first
 | refine SO.call (sbelow_does sb db mb s n) rfl rfl rfl (by repeat constructor) (by repeat constructor) rfl (fun x hx => ?_)
 | refine SO.pure rfl rfl rfl ?_
 | refine SO.nil ?_
 | refine SK.seq ?_
 | refine SK.region ?_
 | refine SK.blk ?_
 | fail)
      exact SK.retX (.tmp rfl .nil) () trivial rfl (by repeat constructor)
theorem sopen_does (db : Nat) (p : Pl) (s : Sg) (d : Dk) (h : Ply s d) : Does Tryz.prog 32 [.pointer (some ⟨db, 0, none⟩)] [libA, tabs 4 5] (dkAt db p d) (Nat × Nat) (fun _ => True) (fun x => .tuple #[.pointer (some ⟨x.1, 0, none⟩), .int .i64 0]) (fun x => sgAt x.1 db x.2 s ++ dkAt db p d) := by
  refine Does.of Tryz.call32 Tryz.func32 rfl rfl rfl (all_cons pers_lib (all_cons (pers_tabs _ _) all_nil)) rfl ?_
  have hok := h.ok
  have hln := hok.len
  simp only [dkAt, List.cons_append, List.nil_append]
  repeat' (first
 | refine SO.makeMap (kr := KI .i64) (ρ := RSlt) rfl (fun mb => ?_)
 | refine SO.call (dlines_does db p d) rfl rfl rfl (by repeat constructor) (by repeat constructor) rfl (fun x hx => ?_)
 | refine SO.pure rfl rfl rfl ?_
 | refine SO.nil ?_
 | refine SO.load rfl (by repeat constructor) rfl (by rfl) (by exact ⟨rfl, by first | exact fun _ => rfl | exact (fun h => by cases h)⟩) rfl ?_
 | refine SO.build rfl rfl rfl rfl ?_
 | refine SK.seq ?_
 | refine SK.region ?_
 | refine SK.block ?_
 | refine SO.alloc rfl rfl rfl (fun b => ?_)
 | refine SO.box rfl rfl rfl (fun b => ?_)
 | refine SO.storeW rfl rfl (by repeat constructor) rfl (by rfl) (by rfl) (by rfl) ?_
 | refine SK.scope (fun _ _ _ h => h) ?_
 | refine SK.label ?_
 | fail)
  rename_i b1 sb
  simp only [dkAt, List.cons_append, List.nil_append]
  refine SK.readable (ρ := RS) (by repeat constructor) ?_
  have hzl : d.lines.zipIdx.length = d.lines.length := by simp
  refine SK.range (lniter x p.1 d.lines.length p.2 d.lines) Empty (fun i => [pts b 0 [.pointer (some ⟨sb, 0, none⟩)], pts sb 0 [.pointer (some ⟨db, 0, none⟩), .map (some mb), .int .i64 ((stAt d i).sealed : Int), .int .i64 ((stAt d i).trim : Int)], mpAt (KI .i64) RSlt mb (stAt d i).m, libA, tabs 4 5]) (fun _ => []) (fun y => y.elim) rfl (by repeat constructor) (by repeat constructor) rfl (fun _ _ => rfl) ?_ ?_ (fun y => y.elim)
  · rintro i ⟨t, j⟩ hid q R hr
    have hs : d.lines[i]? = some t := (zip_of hr).1
    obtain rfl : j = i := (zip_of hr).2
    have hsz := hok.size (List.mem_of_getElem? hs)
    have htk := take_ok sb db mb (stAt d j) (stAt d (j + 1)) j t (by omega) (stAt_step h hs)
    repeat' (first
 | refine SO.pure rfl rfl rfl ?_
 | refine SO.nil ?_
 | refine SK.seq ?_
 | refine SK.region ?_
 | fail)
    refine SK.inv ?_
    repeat' (first
 | refine SO.call (htk) rfl rfl rfl (by repeat constructor) (by repeat constructor) rfl (fun x hx => ?_)
 | refine SO.pure rfl rfl rfl ?_
 | refine SO.nil ?_
 | refine SO.load rfl (by repeat constructor) rfl (by rfl) (by exact ⟨rfl, by first | exact fun _ => rfl | exact (fun h => by cases h)⟩) rfl ?_
 | refine SK.seq ?_
 | refine SK.region ?_
 | refine SK.condF rfl ?_
 | refine SK.skip ?_
 | refine SK.block ?_
 | refine SK.blk ?_
 | fail)
    refine SK.nil ?_
    exact ent_append_of_takes (by repeat constructor)
  · rw [hzl, stAt_end h]
    refine SK.blk ?_
    repeat' (first
 | refine SO.pure rfl rfl rfl ?_
 | refine SO.nil ?_
 | refine SO.load rfl (by repeat constructor) rfl (by rfl) (by exact ⟨rfl, by first | exact fun _ => rfl | exact (fun h => by cases h)⟩) rfl ?_
 | refine SK.seq ?_
 | refine SK.region ?_
 | fail)
    exact SK.retX (.tmp rfl (.tmp rfl .nil)) (sb, mb) trivial rfl (by repeat constructor)
end Go.Proofs
