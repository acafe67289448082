/- A part of a proof: what functions of the program compute. -/
import Derived.Test.YtmbfcjffjgecjaaGreatDoorLog14E
set_option linter.unusedVariables false
set_option linter.unusedSimpArgs false
set_option maxHeartbeats 0
set_option maxRecDepth 20000
namespace Go.Proofs
attribute [local irreducible] Go.Sl.SO Go.Sl.SQ Go.Sl.SR Go.Sl.SC Go.Sl.SX Go.Sl.SY Go.Sl.eadr Go.Sl.slAt Go.Sl.sqAt Go.Sl.pts Go.Sl.rod Go.Sl.ob Go.Sl.ex Go.Sl.big Go.Sl.pr Go.Sl.tabs Go.Sl.mpAt Go.Sl.mitAt Go.Sl.mitN
open Go.Sl
abbrev textL : List HP := [libA]
theorem rtext_does (r : Rc) (h : Pl) (hr : checkR r 8 = 0) (hc : r.dep.length ≤ h.2) : Does Tryz.prog 102 [RRec.val r h] [libA, slAt RI h.1 r.dep.length r.dep] [] Unit (fun _ => True) (fun _ => .string (txB (recX r))) (fun _ => []) := by
  refine Does.of Tryz.call102 Tryz.func102 rfl rfl rfl (all_cons pers_lib (all_cons (pers_slAt _ _ _ _) all_nil)) rfl ?_
  have ok := rok_of hr
  have k1 := ok.site; have k2 := ok.seq; have k3 := ok.len; have k4 := ok.key; have k5 := ok.vlen
  have i1 := itoa_does r.site (by omega)
  have i2 := itoa_does r.seq (by omega)
  have l1 := dec_len 0 r.site.toNat (by omega)
  have l2 := dec_len 6 r.seq.toNat (by omega)
  have l3 := vecX_le ok.dep
  have vt := vtext_does h.1 r.dep.length h.2 r.dep ok.dep (by omega) hc
  generalize hux : txB (Lib.decDigits r.site.toNat) = uu at *
  generalize hvy : txB (Lib.decDigits r.seq.toNat) = vv at *
  generalize hwz : txB (vecX r.dep) = ww at *
  have s1 : uu.size ≤ 1 := by rw [← hux, size_txB]; exact l1
  have s2 : vv.size ≤ 7 := by rw [← hvy, size_txB]; exact l2
  have s3 : ww.size ≤ 66 := by rw [← hwz, size_txB]; omega
  have z0 : (⟨#[58]⟩ : ByteArray).size = 1 := rfl
  have z1 : (⟨#[32]⟩ : ByteArray).size = 1 := rfl
  have z2 : (⟨#[61]⟩ : ByteArray).size = 1 := rfl
  have t1 : (uu ++ ⟨#[58]⟩).size ≤ 2 := by rw [ByteArray.size_append]; omega
  have t2 : (uu ++ ⟨#[58]⟩ ++ vv).size ≤ 9 := by rw [ByteArray.size_append]; omega
  have t3 : (uu ++ ⟨#[58]⟩ ++ vv ++ ⟨#[32]⟩).size ≤ 10 := by rw [ByteArray.size_append]; omega
  have t4 : (uu ++ ⟨#[58]⟩ ++ vv ++ ⟨#[32]⟩ ++ ww).size ≤ 76 := by rw [ByteArray.size_append]; omega
  have t5 : (uu ++ ⟨#[58]⟩ ++ vv ++ ⟨#[32]⟩ ++ ww ++ ⟨#[32]⟩).size ≤ 77 := by rw [ByteArray.size_append]; omega
  have t6 : (uu ++ ⟨#[58]⟩ ++ vv ++ ⟨#[32]⟩ ++ ww ++ ⟨#[32]⟩ ++ r.key).size ≤ 85 := by rw [ByteArray.size_append]; omega
  have t7 : (uu ++ ⟨#[58]⟩ ++ vv ++ ⟨#[32]⟩ ++ ww ++ ⟨#[32]⟩ ++ r.key ++ ⟨#[61]⟩).size ≤ 86 := by rw [ByteArray.size_append]; omega
  repeat' (first
 | refine SO.call (i1) rfl rfl rfl (by repeat constructor) (by repeat constructor) rfl (fun x hx => ?_)
 | refine SO.call (i2) rfl rfl rfl (by repeat constructor) (by repeat constructor) rfl (fun x hx => ?_)
 | refine SO.call (vt) rfl rfl rfl (by repeat constructor) (by repeat constructor) rfl (fun x hx => ?_)
 | refine SO.pure rfl rfl rfl ?_
 | refine SO.nil ?_
 | refine SK.seq ?_
 | refine SK.region ?_
 | refine SO.box rfl rfl rfl (fun b => ?_)
 | refine SK.regionX 1 (.item 0 0 (.item 0 4 (.item 0 9 (.item 0 14 (.item 0 18 (.item 0 1 (.item 0 5 (.item 0 10 (.item 0 15 (.item 0 19 (.item 1 2 (.item 0 3 (.item 1 6 (.item 0 7 (.item 0 8 (.item 1 11 (.item 0 12 (.item 0 13 (.item 0 16 (.item 0 17 (.item 0 20 (.item 0 21 .nil)))))))))))))))))))))) (textL) (by repeat constructor) (by repeat (first | exact .nil | apply PersSub.s | apply PersSub.t | apply PersSub.p | apply PersSub.r | apply PersSub.skip)) (by kernel_rfl) (by kernel_rfl) (fun _ _ _ h => h) ?_
 | refine SX.tail (by rfl) (by repeat (first | exact .nil | apply DropP.s | apply DropP.t | apply DropP.p | apply DropP.r | apply DropP.keep)) ?_
 | refine SX.pure rfl rfl rfl ?_
 | refine SX.load rfl (by repeat constructor) rfl (by rfl) (by exact ⟨rfl, by first | exact fun _ => rfl | exact (fun h => by cases h)⟩) rfl ?_
 | refine SX.scat rfl rfl rfl (by first | assumption | omega | exact Nat.le_of_ble_eq_true rfl | (simp only [decide_eq_true_eq, decide_eq_false_iff_not] at *; omega)) ?_
 | refine SX.step rfl rfl ?_
 | refine SK.invY ?_
 | refine SY.shareGo (by repeat (first | exact .nil | apply PersSub.s | apply PersSub.t | apply PersSub.p | apply PersSub.r | apply PersSub.skip)) ?_
 | fail)
  refine SK.retX (.tmp rfl .nil) () trivial ?_ (by repeat constructor)
  show Value.string (uu ++ txB [58] ++ vv ++ txB [32] ++ ww ++ txB [32] ++ txB r.key.data.toList ++ txB [61] ++ txB r.val.data.toList) = _
  rw [← hux, ← hvy, ← hwz]
  simp only [txB_app]
  unfold recX
  show Value.string (txB _) = Value.string (txB _)
  congr 2
  simp
theorem sputG_does (sb db mb : Nat) (p h : Pl) (s : Sg) (d : Dk) (ep pos : Int) (r : Rc) (hd : d.Ok) (hr : checkR r 8 = 0) (hc : r.dep.length ≤ h.2) (hp : pos < 9223372036854775807) : Does Tryz.prog 40 [.pointer (some ⟨sb, 0, none⟩), .int .i64 ep, .int .i64 pos, RRec.val r h] ([libA, tabs 4 5] ++ RRec.atoms r h) (sgAt sb db mb s ++ dkAt db p d) Pl (fun _ => True) (fun x => .int .i64 (s.put d ep pos r).1) (fun x => sgAt sb db mb (s.put d ep pos r).2.1 ++ dkAt db x (s.put d ep pos r).2.2) := by
  refine Does.of Tryz.call40 Tryz.func40 rfl rfl rfl (all_cons pers_lib (all_cons (pers_tabs _ _) (RRec.pers _ _))) rfl ?_
  have hmx : (if pos < ep then ep else pos) = max pos ep := by split <;> omega
  have ok := rok_of hr
  have k5 := ok.vlen
  by_cases h1 : pos < 0 ∨ ep < 1 ∨ 2147483647 < pos ∨ 2147483647 < ep
  · have e : s.put d ep pos r = (1, s, d) := by unfold Sg.put; rw [if_pos h1]
    rw [e]
    simp only [sgAt, dkAt, List.cons_append, List.nil_append]
    by_cases h2 : pos < 0
    · repeat' (first
 | refine SO.pure rfl rfl rfl ?_
 | refine SO.nil ?_
 | refine SO.guardN rfl rfl rfl ?_
 | refine SK.seq ?_
 | refine SK.region ?_
 | refine SK.condT rfl ?_
 | refine SK.block ?_
 | refine SO.box rfl rfl rfl (fun b => ?_)
 | refine SO.guardNP rfl rfl rfl (by first | assumption | (simp only [Go.Sl.bl]; omega)) ?_
 | fail)
      exact SK.retX (.tmp rfl .nil) p trivial rfl (by repeat constructor)
    · by_cases h3 : ep < 1
      · repeat' (first
 | refine SO.pure rfl rfl rfl ?_
 | refine SO.nil ?_
 | refine SO.guardY rfl rfl ?_
 | refine SO.guardN rfl rfl rfl ?_
 | refine SK.seq ?_
 | refine SK.region ?_
 | refine SK.condT rfl ?_
 | refine SK.block ?_
 | refine SO.box rfl rfl rfl (fun b => ?_)
 | refine SO.guardYP rfl rfl (by first | assumption | (simp only [Go.Sl.bl]; omega)) ?_
 | refine SO.guardNP rfl rfl rfl (by first | assumption | (simp only [Go.Sl.bl]; omega)) ?_
 | fail)
        exact SK.retX (.tmp rfl .nil) p trivial rfl (by repeat constructor)
      · have h4 : 2147483647 < (if pos < ep then ep else pos) := by rw [hmx]; omega
        repeat' (first
 | refine SO.pure rfl rfl rfl ?_
 | refine SO.pure2 rfl rfl rfl ?_
 | refine SO.nil ?_
 | refine SO.guardY rfl rfl ?_
 | refine SK.seq ?_
 | refine SK.region ?_
 | refine SK.block ?_
 | refine SO.box rfl rfl rfl (fun b => ?_)
 | refine SO.guardYP rfl rfl (by first | assumption | (simp only [Go.Sl.bl]; omega)) ?_
 | refine SK.condTP rfl (by first | assumption | (simp only [Go.Sl.bl]; omega)) ?_
 | fail)
        exact SK.retX (.tmp rfl .nil) p trivial rfl (by repeat constructor)
  · have h4 : ¬ 2147483647 < (if pos < ep then ep else pos) := by rw [hmx]; omega
    by_cases h5 : ep ≤ (s.sealed : Int)
    · have e : s.put d ep pos r = (7, s, d) := by unfold Sg.put; rw [if_neg h1, if_pos h5]
      rw [e]
      simp only [sgAt, dkAt, List.cons_append, List.nil_append]
      repeat' (first
 | refine SO.pure rfl rfl rfl ?_
 | refine SO.pure2 rfl rfl rfl ?_
 | refine SO.nil ?_
 | refine SO.guardY rfl rfl ?_
 | refine SO.load rfl (by repeat constructor) rfl (by rfl) (by exact ⟨rfl, by first | exact fun _ => rfl | exact (fun h => by cases h)⟩) rfl ?_
 | refine SK.seq ?_
 | refine SK.region ?_
 | refine SK.block ?_
 | refine SO.box rfl rfl rfl (fun b => ?_)
 | refine SO.guardYP rfl rfl (by first | assumption | (simp only [Go.Sl.bl]; omega)) ?_
 | refine SK.condTP rfl (by first | assumption | (simp only [Go.Sl.bl]; omega)) ?_
 | refine SK.condFP rfl (by first | assumption | (simp only [Go.Sl.bl]; omega)) ?_
 | fail)
      exact SK.retX (.tmp rfl .nil) p trivial rfl (by repeat constructor)
    · by_cases h6 : pos < (s.trim : Int)
      · have e : s.put d ep pos r = (8, s, d) := by unfold Sg.put; rw [if_neg h1, if_neg h5, if_pos h6]
        rw [e]
        simp only [sgAt, dkAt, List.cons_append, List.nil_append]
        repeat' (first
 | refine SO.pure rfl rfl rfl ?_
 | refine SO.pure2 rfl rfl rfl ?_
 | refine SO.nil ?_
 | refine SO.guardY rfl rfl ?_
 | refine SO.load rfl (by repeat constructor) rfl (by rfl) (by exact ⟨rfl, by first | exact fun _ => rfl | exact (fun h => by cases h)⟩) rfl ?_
 | refine SK.seq ?_
 | refine SK.region ?_
 | refine SK.block ?_
 | refine SO.box rfl rfl rfl (fun b => ?_)
 | refine SO.guardYP rfl rfl (by first | assumption | (simp only [Go.Sl.bl]; omega)) ?_
 | refine SK.condTP rfl (by first | assumption | (simp only [Go.Sl.bl]; omega)) ?_
 | refine SK.condFP rfl (by first | assumption | (simp only [Go.Sl.bl]; omega)) ?_
 | fail)
        exact SK.retX (.tmp rfl .nil) p trivial rfl (by repeat constructor)
      · cases hu0 : mget s.m pos with
        | some u0 =>
          have e : s.put d ep pos r = (5, s, d) := by unfold Sg.put; rw [if_neg h1, if_neg h5, if_neg h6, if_pos (by rw [hu0]; rfl)]
          rw [e]
          simp only [sgAt, dkAt, List.cons_append, List.nil_append]
          repeat' (first
 | refine SO.pure rfl rfl rfl ?_
 | refine SO.pure2 rfl rfl rfl ?_
 | refine SO.nil ?_
 | refine SO.guardY rfl rfl ?_
 | refine SO.load rfl (by repeat constructor) rfl (by rfl) (by exact ⟨rfl, by first | exact fun _ => rfl | exact (fun h => by cases h)⟩) rfl ?_
 | refine SK.seq ?_
 | refine SK.region ?_
 | refine SK.skip ?_
 | refine SK.block ?_
 | refine SK.blk ?_
 | refine SO.box rfl rfl rfl (fun b => ?_)
 | refine SO.guardYP rfl rfl (by first | assumption | (simp only [Go.Sl.bl]; omega)) ?_
 | refine SK.condFP rfl (by first | assumption | (simp only [Go.Sl.bl]; omega)) ?_
 | fail)
          refine SO.lookup (kr := KI .i64) (ρ := RSlt) rfl (by repeat constructor) (by rfl) rfl rfl (by rfl) rfl rfl (fun u hid hu => ?_) (fun hu => by rw [hu0] at hu; cases hu)
          repeat' (first
 | refine SO.pure rfl rfl rfl ?_
 | refine SO.nil ?_
 | refine SK.seq ?_
 | refine SK.region ?_
 | refine SK.condT rfl ?_
 | refine SO.alloc rfl rfl rfl (fun b => ?_)
 | refine SO.storeW rfl rfl (by repeat constructor) rfl (by rfl) (by rfl) (by rfl) ?_
 | fail)
          exact SK.retX (.tmp rfl .nil) p trivial rfl (by repeat constructor)
        | none =>
          have chk := check_does r h 8 (show r.val.size ≤ lim by unfold lim; omega)
          rw [hr] at chk
          have i1 := itoa_does pos (by omega)
          have l1 := dec_len 9 pos.toNat (by omega)
          have rt := rtext_does r h hr hc
          have l2 := recX_le hr
          generalize hux : txB (Lib.decDigits pos.toNat) = uu at *
          have s1 : uu.size ≤ 10 := by rw [← hux, size_txB]; exact l1
          have s2 : (txB (recX r)).size ≤ 102 := by rw [size_txB]; exact l2
          have z1 : (⟨#[32]⟩ : ByteArray).size = 1 := rfl
          have z2 : (⟨#[112, 32]⟩ : ByteArray).size = 2 := rfl
          have t1 : ((⟨#[112, 32]⟩ : ByteArray) ++ uu).size ≤ 12 := by rw [ByteArray.size_append]; omega
          have t2 : ((⟨#[112, 32]⟩ : ByteArray) ++ uu ++ ⟨#[32]⟩).size ≤ 13 := by rw [ByteArray.size_append]; omega
          have t3 : ((⟨#[112, 32]⟩ : ByteArray) ++ uu ++ ⟨#[32]⟩ ++ txB (recX r)).size ≤ 115 := by rw [ByteArray.size_append]; omega
          have hw := dwrite_does db p d ((⟨#[112, 32]⟩ : ByteArray) ++ uu ++ ⟨#[32]⟩ ++ txB (recX r)) hd (by omega)
          have eline : (⟨#[112, 32]⟩ : ByteArray) ++ uu ++ ⟨#[32]⟩ ++ txB (recX r) = txB (lineP pos.toNat r) := by
            rw [← hux]
            show txB [112, 32] ++ txB _ ++ txB [32] ++ txB _ = _
            simp only [txB_app]
            unfold lineP
            show txB _ = txB _
            congr 1
            simp
          repeat' (first
 | refine SO.pure rfl rfl rfl ?_
 | refine SO.pure2 rfl rfl rfl ?_
 | refine SO.nil ?_
 | refine SO.guardY rfl rfl ?_
 | refine SO.load rfl (by repeat constructor) rfl (by rfl) (by exact ⟨rfl, by first | exact fun _ => rfl | exact (fun h => by cases h)⟩) rfl ?_
 | refine SK.seq ?_
 | refine SK.region ?_
 | refine SK.skip ?_
 | refine SK.block ?_
 | refine SK.blk ?_
 | refine SO.box rfl rfl rfl (fun b => ?_)
 | refine SO.guardYP rfl rfl (by first | assumption | (simp only [Go.Sl.bl]; omega)) ?_
 | refine SK.condFP rfl (by first | assumption | (simp only [Go.Sl.bl]; omega)) ?_
 | fail)
          refine SO.lookup (kr := KI .i64) (ρ := RSlt) rfl (by repeat constructor) (by rfl) rfl rfl (by rfl) rfl rfl (fun u hid hu => by rw [hu0] at hu; cases hu) (fun hu => ?_)
          repeat' (first
 | refine SO.call (chk) rfl rfl rfl (by repeat constructor) (by repeat constructor) rfl (fun x hx => ?_)
 | refine SO.call (dlen_does db p d) rfl rfl rfl (by repeat constructor) (by repeat constructor) rfl (fun x hx => ?_)
 | refine SO.call (i1) rfl rfl rfl (by repeat constructor) (by repeat constructor) rfl (fun x hx => ?_)
 | refine SO.call (rt) rfl rfl rfl (by repeat constructor) (by repeat constructor) rfl (fun x hx => ?_)
 | refine SO.call (hw) rfl rfl rfl (by repeat constructor) (by repeat constructor) rfl (fun x hx => ?_)
 | refine SO.pure rfl rfl rfl ?_
 | refine SO.nil ?_
 | refine SO.loadW rfl (by repeat constructor) rfl rfl rfl (by rfl) rfl ?_
 | refine SO.load rfl (by repeat constructor) rfl (by rfl) (by exact ⟨rfl, by first | exact fun _ => rfl | exact (fun h => by cases h)⟩) rfl ?_
 | refine SK.seq ?_
 | refine SK.region ?_
 | refine SK.condF rfl ?_
 | refine SK.skip ?_
 | refine SO.alloc rfl rfl rfl (fun b => ?_)
 | refine SO.storeW rfl rfl (by repeat constructor) rfl (by rfl) (by rfl) (by rfl) ?_
 | refine SK.regionX 14 (.item 0 0 (.item 0 4 (.item 0 8 (.item 0 1 (.item 0 2 (.item 0 3 (.item 1 5 (.item 0 6 (.item 0 7 (.item 1 9 (.item 0 10 (.item 2 11 (.item 0 12 .nil))))))))))))) (noteL db p d) (by repeat constructor) (by repeat (first | exact .nil | apply PersSub.s | apply PersSub.t | apply PersSub.p | apply PersSub.r | apply PersSub.skip)) (by kernel_rfl) (by kernel_rfl) (fun _ _ _ h => h) ?_
 | refine SK.regionX 17 (.item 0 0 (.item 0 4 (.item 0 5 (.item 0 6 (.item 0 1 (.item 0 7 (.item 0 2 (.item 0 3 (.item 2 8 .nil))))))))) [] .nil (by repeat (first | exact .nil | apply PersSub.s | apply PersSub.t | apply PersSub.p | apply PersSub.r | apply PersSub.skip)) (by kernel_rfl) (by kernel_rfl) (fun _ _ _ h => h) ?_
 | refine SX.tail (by rfl) (by repeat (first | exact .nil | apply DropP.s | apply DropP.t | apply DropP.p | apply DropP.r | apply DropP.keep)) ?_
 | refine SX.pure rfl rfl rfl ?_
 | refine SX.loadW rfl (by repeat constructor) rfl rfl rfl (by rfl) rfl ?_
 | refine SX.load rfl (by repeat constructor) rfl (by rfl) (by exact ⟨rfl, by first | exact fun _ => rfl | exact (fun h => by cases h)⟩) rfl ?_
 | refine SX.scat rfl rfl rfl (by first | assumption | omega | exact Nat.le_of_ble_eq_true rfl | (simp only [decide_eq_true_eq, decide_eq_false_iff_not] at *; omega)) ?_
 | refine SX.step rfl rfl ?_
 | refine SK.invY ?_
 | refine SY.shareGo (by repeat (first | exact .nil | apply PersSub.s | apply PersSub.t | apply PersSub.p | apply PersSub.r | apply PersSub.skip)) ?_
 | fail)
          rw [eline]
          rename Pl => px
          by_cases he : (d.write (txB (lineP pos.toNat r))).1 = 0
          · have e : s.put d ep pos r = (0, { s with m := mput s.m pos (r, d.lines.length) }, (d.write (txB (lineP pos.toNat r))).2) := by
              unfold Sg.put
              rw [if_neg h1, if_neg h5, if_neg h6, if_neg (by rw [hu0]; simp), if_neg (fun hc => hc hr), if_neg (fun hc => hc he)]
            rw [e, decide_eq_true he]
            repeat' (first
 | refine SO.mapUpdate (kr := KI .i64) (ρ := RSlt) (u := (r, d.lines.length)) (h := h) (key := pos) rfl (by repeat constructor) rfl rfl (by repeat constructor) rfl rfl rfl ?_
 | refine SO.pure rfl rfl rfl ?_
 | refine SO.nil ?_
 | refine SK.seq ?_
 | refine SK.region ?_
 | refine SK.condF rfl ?_
 | refine SK.skip ?_
 | refine SK.regionX 14 (.item 0 0 (.item 0 4 (.item 0 8 (.item 0 1 (.item 0 2 (.item 0 3 (.item 1 5 (.item 0 6 (.item 0 7 (.item 1 9 (.item 0 10 (.item 2 11 (.item 0 12 .nil))))))))))))) [] .nil (by repeat (first | exact .nil | apply PersSub.s | apply PersSub.t | apply PersSub.p | apply PersSub.r | apply PersSub.skip)) (by kernel_rfl) (by kernel_rfl) (fun _ _ _ h => h) ?_
 | refine SK.regionX 17 (.item 0 0 (.item 0 4 (.item 0 5 (.item 0 6 (.item 0 1 (.item 0 7 (.item 0 2 (.item 0 3 (.item 2 8 .nil))))))))) (segL sb db mb s) (by repeat constructor) (by repeat (first | exact .nil | apply PersSub.s | apply PersSub.t | apply PersSub.p | apply PersSub.r | apply PersSub.skip)) (by kernel_rfl) (by kernel_rfl) (fun _ _ _ h => h) ?_
 | refine SX.tail (by rfl) (by repeat (first | exact .nil | apply DropP.s | apply DropP.t | apply DropP.p | apply DropP.r | apply DropP.keep)) ?_
 | refine SX.pure rfl rfl rfl ?_
 | refine SX.loadW rfl (by repeat constructor) rfl rfl rfl (by rfl) rfl ?_
 | refine SX.load rfl (by repeat constructor) rfl (by rfl) (by exact ⟨rfl, by first | exact fun _ => rfl | exact (fun h => by cases h)⟩) rfl ?_
 | refine SX.build rfl rfl rfl rfl ?_
 | fail)
            exact SK.retX (.tmp rfl .nil) px trivial rfl (by repeat constructor)
          · have e : s.put d ep pos r = ((d.write (txB (lineP pos.toNat r))).1, s, d) := by
              unfold Sg.put
              rw [if_neg h1, if_neg h5, if_neg h6, if_neg (by rw [hu0]; simp), if_neg (fun hc => hc hr), if_pos he]
            have e2 : (d.write (txB (lineP pos.toNat r))).2 = d := write_no he
            rw [e, decide_eq_false he, e2]
            repeat' (first
 | refine SO.pure rfl rfl rfl ?_
 | refine SO.nil ?_
 | refine SK.seq ?_
 | refine SK.region ?_
 | refine SK.condT rfl ?_
 | fail)
            exact SK.retX (.tmp rfl .nil) px trivial rfl (by repeat constructor)
theorem lputG_does (lb : Nat) (g : Lg) (r : Rc) (z : Pl) (sx : SB) (h : LgOk g) (hd : g.down = false) (hx : g.segs[stripeM g.m g.next]? = some sx)
    (sp : Does Tryz.prog 40 [.pointer (some ⟨sx.sb, 0, none⟩), .int .i64 (epochM g.m g.next), .int .i64 (g.next : Int), RRec.val r z] ([libA, tabs 4 5] ++ RRec.atoms r z) (sbAt sx) Pl (fun _ => True) (fun _ => .int .i64 (sx.s.put sx.d (epochM g.m g.next) g.next r).1) (fun p => sgAt sx.sb sx.db sx.mb (sx.s.put sx.d (epochM g.m g.next) g.next r).2.1 ++ dkAt sx.db p (sx.s.put sx.d (epochM g.m g.next) g.next r).2.2)) :
    Does Tryz.prog 58 [.pointer (some ⟨lb, 0, none⟩), .int .i64 (g.next : Int), RRec.val r z] ([libA, tabs 4 5] ++ RRec.atoms r z) (lgAt lb g) Pl (fun _ => True) (fun _ => .int .i64 (sx.s.put sx.d (epochM g.m g.next) g.next r).1) (fun p => lgAt lb (g.putG sx p (sx.s.put sx.d (epochM g.m g.next) g.next r))) := by
  refine Does.of Tryz.call58 Tryz.func58 rfl rfl rfl (all_cons pers_lib (all_cons (pers_tabs _ _) (RRec.pers _ _))) rfl ?_
  have hb := h.bd
  have sg := lseg_does lb g (g.next : Int) sx h (by omega) hx
  have hn : (!decide ((g.next : Int) = (g.next : Int))) = false := by simp
  have hw : IntKind.i64.wrap ((g.next : Int) + 1) = ((g.next + 1 : Nat) : Int) := by rw [wrap_id (by omega) (by omega)]; omega
  have hk : stripeM g.m g.next < g.segs.length := (List.getElem?_eq_some_iff.1 hx).1
  have hx0 := hx
  refine SK.sbsOpen (k := stripeM g.m g.next) (by repeat constructor) hx ?_
  generalize sx.s.put sx.d (epochM g.m g.next) g.next r = y at *
  obtain ⟨e, s', d'⟩ := y
  dsimp only at sp ⊢
  by_cases he : e = 0
  · subst he
    repeat' (first
 | refine SO.call (sg) rfl rfl rfl (by repeat constructor) (by repeat constructor) rfl (fun x hx => ?_)
 | refine SO.call (sp) rfl rfl rfl (by repeat constructor) (by repeat constructor) rfl (fun x hx => ?_)
 | refine SO.pure rfl rfl rfl ?_
 | refine SO.nil ?_
 | refine SO.loadW rfl (by repeat constructor) rfl rfl rfl (by rfl) rfl ?_
 | refine SO.load rfl (by repeat constructor) rfl (by rfl) (by exact ⟨rfl, by first | exact fun _ => rfl | exact (fun h => by cases h)⟩) rfl ?_
 | refine SK.seq ?_
 | refine SK.region ?_
 | refine SK.condT rfl ?_
 | refine SK.skip ?_
 | refine SK.block ?_
 | refine SK.blk ?_
 | refine SO.box rfl rfl rfl (fun b => ?_)
 | refine SO.store rfl rfl (by repeat constructor) rfl (by rfl) rfl rfl (by rfl) (by rfl) ?_
 | refine SK.condFP rfl (by first | assumption | (simp only [Go.Sl.bl]; omega)) ?_
 | fail)
    rename Pl => px
    refine SK.sbsShut (k := stripeM g.m g.next) (sx.upd px (s', d')) hk (by repeat constructor) ?_
    rw [hw]
    exact SK.retX (.tmp rfl .nil) px trivial rfl (by simp only [lgAt, Lg.putG, List.length_set, sb_map hx0, if_true]; repeat constructor)
  · have he2 : decide (e = 0) = false := decide_eq_false he
    repeat' (first
 | refine SO.call (sg) rfl rfl rfl (by repeat constructor) (by repeat constructor) rfl (fun x hx => ?_)
 | refine SO.call (sp) rfl rfl rfl (by repeat constructor) (by repeat constructor) rfl (fun x hx => ?_)
 | refine SO.pure rfl rfl rfl ?_
 | refine SO.nil ?_
 | refine SO.loadW rfl (by repeat constructor) rfl rfl rfl (by rfl) rfl ?_
 | refine SO.load rfl (by repeat constructor) rfl (by rfl) (by exact ⟨rfl, by first | exact fun _ => rfl | exact (fun h => by cases h)⟩) rfl ?_
 | refine SK.seq ?_
 | refine SK.region ?_
 | refine SK.skip ?_
 | refine SK.block ?_
 | refine SK.blk ?_
 | refine SO.box rfl rfl rfl (fun b => ?_)
 | refine SK.condFP rfl (by first | assumption | (simp only [Go.Sl.bl]; omega)) ?_
 | fail)
    rename Pl => px
    refine SK.sbsShut (k := stripeM g.m g.next) (sx.upd px (s', d')) hk (by repeat constructor) ?_
    exact SK.retX (.tmp rfl .nil) px trivial rfl (by simp only [lgAt, Lg.putG, List.length_set, sb_map hx0, if_neg he]; repeat constructor)
theorem lputGR (lb : Nat) {g : Lg} {room : Int} {n : Nat} {R : Nat → Rc} {r : Rc} (z : Pl) (h : LI room n R g) (hd : g.down = false) (hr : R g.next = r) (hk : SmR r) (hz : r.dep.length ≤ z.2) (hroom : (128 * n + 128 : Int) ≤ room) (hn : n < 7000) :
    Does Tryz.prog 58 [.pointer (some ⟨lb, 0, none⟩), .int .i64 (g.next : Int), RRec.val r z] ([libA, tabs 4 5] ++ RRec.atoms r z) (lgAt lb g) Lg (fun g' => LPutR g r g') (fun _ => .int .i64 0) (fun g' => lgAt lb g') := by
  obtain ⟨sx, hx⟩ := h.ok.at_ (pos := (g.next : Int)) (by omega)
  have hb := h.bd
  have s := lputG_does lb g r z sx h.ok hd hx (sputG_does sx.sb sx.db sx.mb sx.p z sx.s sx.d (epochM g.m g.next) g.next r (h.ok.dk sx (List.mem_of_getElem? hx)) hk.1 hz (by omega))
  obtain ⟨h1, _⟩ := li_put h hr hk hroom hn hx
  exact s.mapX (fun p => g.putG sx p (sx.s.put sx.d (epochM g.m g.next) g.next r)) (fun p _ => ⟨sx, p, hx, rfl⟩) (fun _ => by rw [h1]) (fun _ => rfl)
theorem lput0R (lb : Nat) {g : Lg} {room : Int} {n : Nat} {R : Nat → Rc} {r : Rc} (h : LI room n R g) (hd : g.down = false) (hr : R g.next = r) (hk : SmR r) (hz : r.dep = []) (hroom : (128 * n + 128 : Int) ≤ room) (hn : n < 7000) :
    Does Tryz.prog 58 [.pointer (some ⟨lb, 0, none⟩), .int .i64 (g.next : Int), RRec.val r (none, 0)] [libA, tabs 4 5] (lgAt lb g) Lg (fun g' => LPutR g r g') (fun _ => .int .i64 0) (fun g' => lgAt lb g') := by
  have s := lputGR lb (none, 0) h hd hr hk (by rw [hz]; exact Nat.le_refl _) hroom hn
  refine s.less (all_cons pers_lib (all_cons (pers_tabs _ _) all_nil)) (.cons .here (.cons (.there .here) (.cons ?_ (.cons ?_ .nil))))
  · show Has (slAt RI none r.dep.length r.dep) _
    rw [hz]; exact (show Has (slAt RI none 0 []) _ from .triv)
  · show Has (pr (r.dep.length ≤ 0)) _
    rw [hz]; exact (show Has (pr (([] : List Int).length ≤ 0)) _ from .triv)
end Go.Proofs
