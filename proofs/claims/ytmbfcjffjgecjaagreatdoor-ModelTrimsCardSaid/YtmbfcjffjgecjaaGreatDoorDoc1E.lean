/- A part of a proof: what functions of the program compute. -/
import Derived.Test.YtmbfcjffjgecjaaGreatDoorParE
import Derived.Test.YtmbfcjffjgecjaaGreatDoorRef2E
import Derived.Test.YtmbfcjffjgecjaaGreatDoorLib2
import Derived.Test.YtmbfcjffjgecjaaGreatDoorLib1
set_option linter.unusedVariables false
set_option linter.unusedSimpArgs false
set_option maxHeartbeats 0
set_option maxRecDepth 20000
namespace Go.Proofs
attribute [local irreducible] Go.Sl.SO Go.Sl.SQ Go.Sl.SR Go.Sl.SC Go.Sl.SX Go.Sl.SY Go.Sl.eadr Go.Sl.slAt Go.Sl.sqAt Go.Sl.pts Go.Sl.rod Go.Sl.ob Go.Sl.ex Go.Sl.big Go.Sl.pr Go.Sl.tabs Go.Sl.mpAt
open Go.Sl
theorem dec_step {m : Nat} (h : ¬ m < 10) : Lib.decDigits m = Lib.decDigits (m / 10) ++ [UInt8.ofNat (48 + m % 10)] := by
  rw [Lib.decDigits, dif_neg h]
theorem dec_one {m : Nat} (h : m < 10) : Lib.decDigits m = [UInt8.ofNat (48 + m % 10)] := by
  rw [Lib.decDigits, dif_pos h, Nat.mod_eq_of_lt h]
theorem byt_one (k : Nat) : bytesS [48 + ((k : Nat) : Int)] = txB [UInt8.ofNat (48 + k)] := by
  unfold bytesS txB
  simp only [List.map_cons, List.map_nil]
  rw [show (48 + (k : Int)).toNat = 48 + k by omega]
theorem ddec_does (m : Nat) (hm : m < 1000000000000) : Does Tryz.prog 78 [.int .i64 (m : Int)] [] [] Unit (fun _ => True) (fun _ => .string (txB (Lib.decDigits m))) (fun _ => []) := by
  refine Does.of Tryz.call78 Tryz.func78 rfl rfl rfl all_nil rfl ?_
  have hln := dec_len 11 m hm
  have hdig : ∀ k : Nat, Value.int .u8 (IntKind.u8.wrap (IntKind.i64.wrap (48 + (k : Int).tmod 10))) = .int .u8 (48 + ((k % 10 : Nat) : Int)) := fun k => by
    have h1 : (k : Int).tmod 10 = ((k % 10 : Nat) : Int) := rfl
    rw [h1, wrap_id (by omega) (by omega)]
    congr 1
    simp only [IntKind.wrap, IntKind.bits, IntKind.signed]; simp; omega
  have hneg : decide ((m : Int) < 0) = false := decide_eq_false (by omega)
  repeat' (first
 | refine SO.pure rfl rfl rfl ?_
 | refine SO.pure2 rfl rfl rfl ?_
 | refine SO.nil ?_
 | refine SK.seq ?_
 | refine SK.region ?_
 | refine SK.condF rfl ?_
 | refine SK.skip ?_
 | refine SO.buildSlice rfl rfl rfl rfl rfl rfl (fun b => ?_)
 | fail)
  rw [hdig m]
  refine SO.strOf (l := [48 + ((m % 10 : Nat) : Int)]) rfl rfl rfl rfl (by repeat constructor) rfl rfl rfl ?_
  rw [byt_one]
  repeat' (first
 | refine SO.pure rfl rfl rfl ?_
 | refine SO.nil ?_
 | refine SK.seq ?_
 | refine SK.block ?_
 | fail)
  refine SK.loop (X := {z : Nat × Tx // z.1 ≤ m ∧ Lib.decDigits m = (if z.1 < 10 then [] else Lib.decDigits (z.1 / 10)) ++ z.2}) (fun z => [(0, .int .i64 (z.1.1 : Int)), (3, .string (txB z.1.2))]) (fun z => []) (fun z => z.1.1) ⟨(m, [UInt8.ofNat (48 + m % 10)]), Nat.le_refl m, by
    by_cases h : m < 10
    · rw [if_pos h]; exact dec_one h
    · rw [if_neg h]; exact dec_step h⟩ (by repeat constructor) (ent_append_of_takes (by repeat constructor)) ?_
  rintro ⟨⟨n, s⟩, hnm, hs⟩
  dsimp only at hnm hs ⊢
  have hsz : (txB s).size ≤ 12 := by
    have := congrArg List.length hs
    rw [List.length_append] at this
    rw [size_txB]; omega
  by_cases h10 : n < 10
  · have hd : decide ((10 : Int) ≤ (n : Int)) = false := decide_eq_false (by omega)
    have e : Lib.decDigits m = s := by rw [hs, if_pos h10]; rfl
    rw [e]
    repeat' (first
 | refine SO.pure rfl rfl rfl ?_
 | refine SO.nil ?_
 | refine SK.seq ?_
 | refine SK.region ?_
 | refine SK.exit rfl ?_
 | refine SK.condFP rfl (by first | assumption | (simp only [Go.Sl.bl]; omega)) ?_
 | fail)
    exact SK.retX (.tmp rfl .nil) () trivial rfl (by repeat constructor)
  · have hd : decide ((10 : Int) ≤ (n : Int)) = true := decide_eq_true (by omega)
    have hq : IntKind.i64.wrap ((n : Int).tdiv 10) = ((n / 10 : Nat) : Int) := by
      have h1 : (n : Int).tdiv 10 = ((n / 10 : Nat) : Int) := rfl
      rw [h1, wrap_id (by omega) (by omega)]
    repeat' (first
 | refine SO.pure rfl rfl rfl ?_
 | refine SO.pure2 rfl rfl rfl ?_
 | refine SO.nil ?_
 | refine SK.seq ?_
 | refine SK.region ?_
 | refine SK.skip ?_
 | refine SK.block ?_
 | refine SO.buildSlice rfl rfl rfl rfl rfl rfl (fun b => ?_)
 | refine SK.condTP rfl (by first | assumption | (simp only [Go.Sl.bl]; omega)) ?_
 | fail)
    rw [hq, hdig (n / 10)]
    refine SO.strOf (l := [48 + ((n / 10 % 10 : Nat) : Int)]) rfl rfl rfl rfl (by repeat constructor) rfl rfl rfl ?_
    rw [byt_one]
    have hd1 : (txB [UInt8.ofNat (48 + n / 10 % 10)]).size = 1 := rfl
    repeat' (first
 | refine SO.pure rfl rfl rfl ?_
 | refine SO.nil ?_
 | refine SK.blk ?_
 | refine SO.scat rfl rfl rfl (by first | assumption | omega | exact Nat.le_of_ble_eq_true rfl | (simp only [decide_eq_true_eq, decide_eq_false_iff_not] at *; omega)) ?_
 | fail)
    rw [txB_app]
    refine SK.inv ⟨⟨(n / 10, [UInt8.ofNat (48 + n / 10 % 10)] ++ s), by show n / 10 ≤ m; omega, ?_⟩, ?_, ?_, ?_⟩
    · show Lib.decDigits m = (if n / 10 < 10 then [] else Lib.decDigits (n / 10 / 10)) ++ ([UInt8.ofNat (48 + n / 10 % 10)] ++ s)
      rw [hs, if_neg h10]
      by_cases h : n / 10 < 10
      · rw [if_pos h, dec_one h]; rfl
      · rw [if_neg h, dec_step h]; simp
    · show n / 10 < n
      omega
    · repeat constructor
    · exact ent_append_of_takes (by repeat constructor)
theorem dfind_no (s : Tx) (c : UInt8) (h : hasC c s = false) (hl : s.length ≤ 1048576) : Does Tryz.prog 91 [.string (txB s), .int .u8 (c.toNat : Int), .int .i64 0] [] [] Unit (fun _ => True) (fun _ => .int .i64 (-1)) (fun _ => []) := by
  refine Does.of Tryz.call91 Tryz.func91 rfl rfl rfl all_nil rfl ?_
  have hsz := size_txB s
  repeat' (first
 | refine SO.pure rfl rfl rfl ?_
 | refine SO.nil ?_
 | refine SK.seq ?_
 | refine SK.region ?_
 | refine SK.block ?_
 | fail)
  refine SK.loop (X := {i : Nat // i ≤ s.length}) (fun i => [(7, .int .i64 (i.1 : Int)), (0, .string (txB s)), (1, .int .u8 (c.toNat : Int))]) (fun i => []) (fun i => s.length - i.1) ⟨0, Nat.zero_le _⟩ (by repeat constructor) (ent_append_of_takes (by repeat constructor)) ?_
  rintro ⟨i, hi⟩
  dsimp only
  have hwi : IntKind.i64.wrap ((i : Int) + 1) = ((i + 1 : Nat) : Int) := by rw [wrap_id (by omega) (by omega)]; omega
  rcases Nat.lt_or_ge i s.length with hil | hil
  · have hd1 : decide ((i : Int) < ((txB s).size : Int)) = true := decide_eq_true (by omega)
    obtain ⟨x, hx⟩ : ∃ x, s[i]? = some x := ⟨_, List.getElem?_eq_getElem hil⟩
    have hv : (bytesI (txB s))[i]? = some (x.toNat : Int) := by
      unfold bytesI txB
      rw [List.getElem?_map]
      simp only [hx, Option.map_some]
    have hne : decide ((x.toNat : Int) = (c.toNat : Int)) = false := decide_eq_false fun he => by
      have e : x = c := UInt8.toNat_inj.1 (by omega)
      subst e
      unfold hasC at h
      rw [List.any_eq_false] at h
      exact h x (List.mem_of_getElem? hx) (decide_eq_true rfl)
    repeat' (first
 | refine SO.sidxH rfl rfl rfl rfl rfl (by assumption) ?_
 | refine SO.pure rfl rfl rfl ?_
 | refine SO.nil ?_
 | refine SK.seq ?_
 | refine SK.region ?_
 | refine SK.skip ?_
 | refine SK.block ?_
 | refine SK.blk ?_
 | refine SK.condTP rfl (by first | assumption | (simp only [Go.Sl.bl]; omega)) ?_
 | refine SK.condFP rfl (by first | assumption | (simp only [Go.Sl.bl]; omega)) ?_
 | fail)
    refine SK.inv ⟨⟨i + 1, by omega⟩, ?_, ?_, ?_⟩
    · show s.length - (i + 1) < s.length - i
      omega
    · rw [hwi]; repeat constructor
    · exact ent_append_of_takes (by repeat constructor)
  · have hd1 : decide ((i : Int) < ((txB s).size : Int)) = false := decide_eq_false (by omega)
    repeat' (first
 | refine SO.pure rfl rfl rfl ?_
 | refine SO.nil ?_
 | refine SK.seq ?_
 | refine SK.region ?_
 | refine SK.exit rfl ?_
 | refine SK.condFP rfl (by first | assumption | (simp only [Go.Sl.bl]; omega)) ?_
 | fail)
    exact SK.retX (.tmp rfl .nil) () trivial rfl (by repeat constructor)
theorem dvt_nil (A : Option Addr) (c : Nat) : Does Tryz.prog 178 [.slice A 0 c] [] [] Unit (fun _ => True) (fun _ => .string (txB [91, 93])) (fun _ => []) := by
  refine Does.of Tryz.call178 Tryz.func178 rfl rfl rfl all_nil rfl ?_
  have hd : decide ((0 : Int) < 0) = false := by decide
  repeat' (first
 | refine SO.pure rfl rfl rfl ?_
 | refine SO.nil ?_
 | refine SK.seq ?_
 | refine SK.region ?_
 | refine SK.block ?_
 | fail)
  refine SK.loop (X := Unit) (fun _ => [(3, .int .i64 0), (0, .slice A 0 c)]) (fun _ => []) (fun _ => 0) () (by repeat constructor) (fun _ _ _ => trivial) ?_
  intro _
  repeat' (first
 | refine SO.pure rfl rfl rfl ?_
 | refine SO.nil ?_
 | refine SO.guardN rfl rfl rfl ?_
 | refine SK.seq ?_
 | refine SK.region ?_
 | refine SK.condF rfl ?_
 | refine SK.block ?_
 | refine SK.exit rfl ?_
 | fail)
  refine SK.loop (X := Unit) (fun _ => [(3, .int .i64 0), (5, .int .i64 0), (4, .string ⟨#[91]⟩)]) (fun _ => []) (fun _ => 0) () (by repeat constructor) (fun _ _ _ => trivial) ?_
  intro _
  have z1 : (⟨#[91]⟩ : ByteArray).size = 1 := rfl
  have z2 : (⟨#[93]⟩ : ByteArray).size = 1 := rfl
  repeat' (first
 | refine SO.pure rfl rfl rfl ?_
 | refine SO.nil ?_
 | refine SK.seq ?_
 | refine SK.region ?_
 | refine SK.condF rfl ?_
 | refine SK.exit rfl ?_
 | refine SO.scat rfl rfl rfl (by first | assumption | omega | exact Nat.le_of_ble_eq_true rfl | (simp only [decide_eq_true_eq, decide_eq_false_iff_not] at *; omega)) ?_
 | fail)
  exact SK.retX (.tmp rfl .nil) () trivial rfl (by repeat constructor)
theorem drt_nil (r : Rc) (h : Pl) (hr : checkR r 8 = 0) (hn : r.dep = []) : Does Tryz.prog 155 [RRec.val r h] [] [] Unit (fun _ => True) (fun _ => .string (txB (recX r))) (fun _ => []) := by
  obtain ⟨site, seq, dep, key, val⟩ := r
  obtain rfl : dep = [] := hn
  refine Does.of Tryz.call155 Tryz.func155 rfl rfl rfl all_nil rfl ?_
  have ok := rok_of hr
  have k1 := ok.site; have k2 := ok.seq; have k4 := ok.key; have k5 := ok.vlen
  dsimp only at k1 k2 k4 k5
  obtain ⟨a, rfl⟩ := Int.eq_ofNat_of_zero_le k1.1
  obtain ⟨b, rfl⟩ := Int.eq_ofNat_of_zero_le (show 0 ≤ seq by omega)
  have i1 := ddec_does a (by omega)
  have i2 := ddec_does b (by omega)
  have l1 := dec_len 0 a (by omega)
  have l2 := dec_len 6 b (by omega)
  have hrx : txB (recX ⟨(a : Int), (b : Int), [], key, val⟩) = txB (Lib.decDigits a) ++ txB [58] ++ txB (Lib.decDigits b) ++ txB [32] ++ txB [91, 93] ++ txB [32] ++ txB key.data.toList ++ txB [61] ++ txB val.data.toList := by
    simp only [txB_app]
    unfold recX
    congr 1
    simp [vecX, trimV, joinX]
  rw [hrx]
  generalize hux : txB (Lib.decDigits a) = uu at *
  generalize hvy : txB (Lib.decDigits b) = vv at *
  have s1 : uu.size ≤ 1 := by rw [← hux, size_txB]; exact l1
  have s2 : vv.size ≤ 7 := by rw [← hvy, size_txB]; exact l2
  have z0 : (⟨#[58]⟩ : ByteArray).size = 1 := rfl
  have z1 : (⟨#[32]⟩ : ByteArray).size = 1 := rfl
  have z2 : (⟨#[61]⟩ : ByteArray).size = 1 := rfl
  have z3 : (txB [91, 93]).size = 2 := rfl
  have t1 : (uu ++ ⟨#[58]⟩).size ≤ 2 := by rw [ByteArray.size_append]; omega
  have t2 : (uu ++ ⟨#[58]⟩ ++ vv).size ≤ 9 := by rw [ByteArray.size_append]; omega
  have t3 : (uu ++ ⟨#[58]⟩ ++ vv ++ ⟨#[32]⟩).size ≤ 10 := by rw [ByteArray.size_append]; omega
  have t4 : (uu ++ ⟨#[58]⟩ ++ vv ++ ⟨#[32]⟩ ++ txB [91, 93]).size ≤ 12 := by rw [ByteArray.size_append]; omega
  have t5 : (uu ++ ⟨#[58]⟩ ++ vv ++ ⟨#[32]⟩ ++ txB [91, 93] ++ ⟨#[32]⟩).size ≤ 13 := by rw [ByteArray.size_append]; omega
  have t6 : (uu ++ ⟨#[58]⟩ ++ vv ++ ⟨#[32]⟩ ++ txB [91, 93] ++ ⟨#[32]⟩ ++ key).size ≤ 21 := by rw [ByteArray.size_append]; omega
  have t7 : (uu ++ ⟨#[58]⟩ ++ vv ++ ⟨#[32]⟩ ++ txB [91, 93] ++ ⟨#[32]⟩ ++ key ++ ⟨#[61]⟩).size ≤ 22 := by rw [ByteArray.size_append]; omega
  repeat' (first
 | refine SO.call (i1) rfl rfl rfl (by repeat constructor) (by repeat constructor) rfl (fun x hx => ?_)
 | refine SO.call (i2) rfl rfl rfl (by repeat constructor) (by repeat constructor) rfl (fun x hx => ?_)
 | refine SO.call (dvt_nil h.1 h.2) rfl rfl rfl (by repeat constructor) (by repeat constructor) rfl (fun x hx => ?_)
 | refine SO.pure rfl rfl rfl ?_
 | refine SO.nil ?_
 | refine SK.seq ?_
 | refine SK.region ?_
 | refine SO.box rfl rfl rfl (fun b => ?_)
 | refine SK.regionX 1 (.item 0 0 (.item 0 4 (.item 0 9 (.item 0 14 (.item 0 18 (.item 0 1 (.item 0 5 (.item 0 10 (.item 0 15 (.item 0 19 (.item 1 2 (.item 0 3 (.item 1 6 (.item 0 7 (.item 0 8 (.item 1 11 (.item 0 12 (.item 0 13 (.item 0 16 (.item 0 17 (.item 0 20 (.item 0 21 .nil)))))))))))))))))))))) [] .nil (by repeat (first | exact .nil | apply PersSub.s | apply PersSub.t | apply PersSub.p | apply PersSub.r | apply PersSub.skip)) (by kernel_rfl) (by kernel_rfl) (fun _ _ _ h => h) ?_
 | refine SX.tail (by rfl) (by repeat (first | exact .nil | apply DropP.s | apply DropP.t | apply DropP.p | apply DropP.r | apply DropP.keep)) ?_
 | refine SX.pure rfl rfl rfl ?_
 | refine SX.load rfl (by repeat constructor) rfl (by rfl) (by exact ⟨rfl, by first | exact fun _ => rfl | exact (fun h => by cases h)⟩) rfl ?_
 | refine SX.scat rfl rfl rfl (by first | assumption | omega | exact Nat.le_of_ble_eq_true rfl | (simp only [decide_eq_true_eq, decide_eq_false_iff_not] at *; omega)) ?_
 | refine SX.step rfl rfl ?_
 | refine SK.invY ?_
 | refine SY.shareGo (by repeat (first | exact .nil | apply PersSub.s | apply PersSub.t | apply PersSub.p | apply PersSub.r | apply PersSub.skip)) ?_
 | fail)
  exact SK.retX (.tmp rfl .nil) () trivial rfl (by repeat constructor)
abbrev duD (dd : DD) : List HP := [pts dd.db 1 [.slice dd.dp.1 dd.lines.length dd.dp.2], slAt RS dd.dp.1 dd.lines.length dd.lines]
theorem dused_doc (dd : DD) (h : (usedL dd.lines : Int) ≤ 1048576) : Does Tryz.prog 92 [.pointer (some ⟨dd.db, 0, none⟩)] [] (duD dd) Unit (fun _ => True) (fun _ => .int .i64 (usedL dd.lines : Int)) (fun _ => duD dd) := by
  refine Does.of Tryz.call92 Tryz.func92 rfl rfl rfl all_nil rfl ?_
  have hln := usedL_len dd.lines
  repeat' (first
 | refine SO.pure rfl rfl rfl ?_
 | refine SO.nil ?_
 | refine SK.seq ?_
 | refine SK.region ?_
 | refine SK.block ?_
 | fail)
  refine SK.loop (X := {i : Nat // i ≤ dd.lines.length}) (fun i => [(4, .int .i64 (i.1 : Int)), (3, .int .i64 (usedL (dd.lines.take i.1) : Int)), (0, .pointer (some ⟨dd.db, 0, none⟩))]) (fun i => duD dd) (fun i => dd.lines.length - i.1) ⟨0, Nat.zero_le _⟩ (by repeat constructor) (ent_append_of_takes (by repeat constructor)) ?_
  rintro ⟨i, hi⟩
  dsimp only
  have hwi : IntKind.i64.wrap ((i : Int) + 1) = ((i + 1 : Nat) : Int) := by rw [wrap_id (by omega) (by omega)]; omega
  rcases Nat.lt_or_ge i dd.lines.length with hil | hil
  · have hd1 : decide ((i : Int) < (dd.lines.length : Int)) = true := decide_eq_true (by omega)
    obtain ⟨t, ht⟩ : ∃ t, dd.lines[i]? = some t := ⟨_, List.getElem?_eq_getElem hil⟩
    have e1 : usedL (dd.lines.take (i + 1)) = usedL (dd.lines.take i) + (t.size + 1) := by
      rw [List.take_add_one, ht, usedL_app]
      rfl
    have e2 : usedL (dd.lines.take (i + 1)) ≤ usedL dd.lines := usedL_take _ _
    have hw1 : IntKind.i64.wrap ((usedL (dd.lines.take i) : Int) + (t.size : Int)) = ((usedL (dd.lines.take i) + t.size : Nat) : Int) := by rw [wrap_id (by omega) (by omega)]; omega
    have hw2 : IntKind.i64.wrap (((usedL (dd.lines.take i) + t.size : Nat) : Int) + 1) = ((usedL (dd.lines.take (i + 1)) : Nat) : Int) := by rw [wrap_id (by omega) (by omega)]; omega
    repeat' (first
 | refine SO.indexH rfl rfl (by repeat constructor) rfl rfl rfl rfl (by assumption) ?_
 | refine SO.pure rfl rfl rfl ?_
 | refine SO.nil ?_
 | refine SO.load rfl (by repeat constructor) rfl (by rfl) (by exact ⟨rfl, by first | exact fun _ => rfl | exact (fun h => by cases h)⟩) rfl ?_
 | refine SO.eloadW rfl (by repeat constructor) (by assumption) rfl (by rfl) rfl (by rfl) rfl (fun hid => ?_)
 | refine SK.seq ?_
 | refine SK.region ?_
 | refine SK.skip ?_
 | refine SK.block ?_
 | refine SK.blk ?_
 | refine SK.condTP rfl (by first | assumption | (simp only [Go.Sl.bl]; omega)) ?_
 | fail)
    rw [hw1, hw2]
    refine SK.inv ⟨⟨i + 1, by omega⟩, ?_, ?_, ?_⟩
    · show dd.lines.length - (i + 1) < dd.lines.length - i
      omega
    · rw [hwi]; repeat constructor
    · exact ent_append_of_takes (by repeat constructor)
  · have hd1 : decide ((i : Int) < (dd.lines.length : Int)) = false := decide_eq_false (by omega)
    obtain rfl : i = dd.lines.length := by omega
    rw [List.take_length]
    repeat' (first
 | refine SO.pure rfl rfl rfl ?_
 | refine SO.nil ?_
 | refine SO.load rfl (by repeat constructor) rfl (by rfl) (by exact ⟨rfl, by first | exact fun _ => rfl | exact (fun h => by cases h)⟩) rfl ?_
 | refine SK.seq ?_
 | refine SK.region ?_
 | refine SK.exit rfl ?_
 | refine SK.condFP rfl (by first | assumption | (simp only [Go.Sl.bl]; omega)) ?_
 | fail)
    exact SK.retX (.tmp rfl .nil) () trivial rfl (by repeat constructor)
theorem dwrite_doc (dd : DD) (t : Tx) (h1 : hasC 10 t = false) (h2 : (usedL dd.lines : Int) + t.length + 1 ≤ dd.room) (h3 : dd.room ≤ 1048576) : Does Tryz.prog 31 [.pointer (some ⟨dd.db, 0, none⟩), .string (txB t)] [] (ddD dd) Pl (fun _ => True) (fun _ => .int .i64 0) (fun y => ddD { dd with dp := y, lines := dd.lines ++ [txB t] }) := by
  refine Does.of Tryz.call31 Tryz.func31 rfl rfl rfl all_nil rfl ?_
  have fd := dfind_no t 10 h1 (by omega)
  have us := dused_doc dd (by omega)
  have hln := usedL_len dd.lines
  have hsz := size_txB t
  have hd1 : decide ((0 : Int) ≤ -1) = false := by decide
  have hw1 : IntKind.i64.wrap (((txB t).size : Int) + 1) = ((t.length + 1 : Nat) : Int) := by rw [wrap_id (by omega) (by omega)]; omega
  have hw2 : IntKind.i64.wrap (dd.room - (usedL dd.lines : Int)) = dd.room - (usedL dd.lines : Int) := wrap_id (by omega) (by omega)
  have hd2 : decide (dd.room - (usedL dd.lines : Int) < ((t.length + 1 : Nat) : Int)) = false := decide_eq_false (by omega)
  refine SK.know (sl_len (ρ := RS) (A := dd.dp.1) (n := dd.lines.length) (l := dd.lines) (by repeat constructor)) ?_
  rintro ⟨-, hlim, -⟩
  refine SK.shift (fun F w hst => hst.ent (Ent.cons pts_three)) ?_
  repeat' (first
 | refine SO.call (fd) rfl rfl rfl (by repeat constructor) (by repeat constructor) rfl (fun x hx => ?_)
 | refine SO.call (us) rfl rfl rfl (by repeat constructor) (by repeat constructor) rfl (fun x hx => ?_)
 | refine SO.pure rfl rfl rfl ?_
 | refine SO.nil ?_
 | refine SO.load rfl (by repeat constructor) rfl (by rfl) (by exact ⟨rfl, by first | exact fun _ => rfl | exact (fun h => by cases h)⟩) rfl ?_
 | refine SK.seq ?_
 | refine SK.region ?_
 | refine SK.condF rfl ?_
 | refine SK.skip ?_
 | refine SO.buildSlice rfl rfl rfl rfl rfl rfl (fun b => ?_)
 | refine SK.condFP rfl (by first | assumption | (simp only [Go.Sl.bl]; omega)) ?_
 | refine SK.regionX 3 (.item 0 0 (.item 0 3 (.item 0 7 (.item 0 1 (.item 0 4 (.item 0 2 (.item 0 5 (.item 0 6 (.item 1 8 (.item 0 9 (.item 0 10 .nil))))))))))) (duD dd) (by repeat constructor) (by repeat (first | exact .nil | apply PersSub.s | apply PersSub.t | apply PersSub.p | apply PersSub.r | apply PersSub.skip)) (by kernel_rfl) (by kernel_rfl) (fun _ _ _ h => h) ?_
 | refine SX.tail (by rfl) (by repeat (first | exact .nil | apply DropP.s | apply DropP.t | apply DropP.p | apply DropP.r | apply DropP.keep)) ?_
 | refine SX.pure rfl rfl rfl ?_
 | refine SX.load rfl (by repeat constructor) rfl (by rfl) (by exact ⟨rfl, by first | exact fun _ => rfl | exact (fun h => by cases h)⟩) rfl ?_
 | refine SX.step rfl rfl ?_
 | refine SK.invY ?_
 | refine SY.shareGo (by repeat (first | exact .nil | apply PersSub.s | apply PersSub.t | apply PersSub.p | apply PersSub.r | apply PersSub.skip)) ?_
 | fail)
  rw [hw1, hw2]
  skip
  refine SO.shift (toSq (ρ := RS) (l := []) [] (by repeat constructor) rfl rfl rfl rfl (by repeat constructor)) ?_
  repeat' (first
 | refine SO.append (ρ := RS) (w := true) rfl rfl (by repeat constructor) (Src.sl (by repeat constructor)) rfl rfl rfl rfl rfl rfl rfl (by unfold lim; omega) (fun A4 c4 => ?_)
 | refine SO.append (ρ := RS) (w := true) (ys := [txB t]) rfl rfl (by repeat constructor) (Src.one (h := ()) (by repeat constructor) (by rfl) (by repeat constructor)) rfl rfl rfl rfl rfl rfl rfl (by unfold lim; omega) (fun A5 c5 => ?_)
 | refine SO.pure rfl rfl rfl ?_
 | refine SO.nil ?_
 | refine SK.seq ?_
 | refine SK.region ?_
 | refine SO.storeW rfl rfl (by repeat constructor) rfl (by rfl) (by rfl) (by rfl) ?_
 | refine SO.buildSlice rfl rfl rfl rfl rfl rfl (fun b => ?_)
 | fail)
  simp only [Nat.zero_add, List.nil_append]
  have el : (dd.lines ++ [txB t]).length = dd.lines.length + 1 := by simp
  refine SK.know (sq_len (w := true) (ρ := RS) (A := A5) (n := dd.lines.length + 1) (c := c5) (l := dd.lines ++ [txB t]) (by repeat constructor)) ?_
  rintro ⟨-, -, hc5, -⟩
  refine SK.share (ρ := RS) (w' := true) (A := A5) (n := dd.lines.length + 1) (m := c5) (l := dd.lines ++ [txB t]) (by repeat constructor) ?_
  refine SK.shift (fun F w hst => hst.ent (Ent.cons ((Takes.ent (As := [pts dd.db 0 [.int .i64 dd.room], pts dd.db 1 [.slice A5 (dd.lines.length + 1) c5], pts dd.db 2 [.int .i64 dd.lasts]]) (by repeat constructor)).trans three_pts))) ?_
  refine SK.shift (fun F w hst => hst.ent (Ent.cons (ent_pr hc5))) ?_
  exact SK.retX (.tmp rfl .nil) (A5, c5) trivial rfl (by simp only [ddD, el]; repeat constructor)
theorem dnewd_does (room : Int) (h : 1 ≤ room ∧ room ≤ 1048576) : Does Tryz.prog 29 [.int .i64 room] [] [] Nat (fun _ => True) (fun x => .tuple #[.pointer (some ⟨x, 0, none⟩), .int .i64 0]) (fun x => [pts x 0 [.int .i64 room, .slice none 0 0, .int .i64 0]]) := by
  refine Does.of Tryz.call29 Tryz.func29 rfl rfl rfl all_nil rfl ?_
  have h1 : decide (room < 1) = false := decide_eq_false (by omega)
  have h2 : decide (1048576 < room) = false := decide_eq_false (by omega)
  repeat' (first
 | refine SO.pure rfl rfl rfl ?_
 | refine SO.nil ?_
 | refine SO.guardY rfl rfl ?_
 | refine SO.build rfl rfl rfl rfl ?_
 | refine SK.seq ?_
 | refine SK.region ?_
 | refine SK.skip ?_
 | refine SO.box rfl rfl rfl (fun b => ?_)
 | refine SO.guardYP rfl rfl (by first | assumption | (simp only [Go.Sl.bl]; omega)) ?_
 | refine SK.condFP rfl (by first | assumption | (simp only [Go.Sl.bl]; omega)) ?_
 | fail)
  exact SK.retX (.tmp rfl (.tmp rfl .nil)) _ trivial rfl (by repeat constructor)
theorem dsync_doc (dd : DD) : Does Tryz.prog 96 [.pointer (some ⟨dd.db, 0, none⟩)] [] (ddD dd) Unit (fun _ => True) (fun _ => .tuple #[]) (fun _ => ddD { dd with lasts := (dd.lines.length : Int) }) := by
  refine Does.of Tryz.call96 Tryz.func96 rfl rfl rfl all_nil rfl ?_
  repeat' (first
 | refine SO.pure rfl rfl rfl ?_
 | refine SO.nil ?_
 | refine SO.load rfl (by repeat constructor) rfl (by rfl) (by exact ⟨rfl, by first | exact fun _ => rfl | exact (fun h => by cases h)⟩) rfl ?_
 | refine SK.region ?_
 | refine SO.store rfl rfl (by repeat constructor) rfl (by rfl) rfl rfl (by rfl) (by rfl) ?_
 | fail)
  exact SK.endX .nil () trivial rfl (by repeat constructor)
theorem dopen0_does (db : Nat) (room : Int) : Does Tryz.prog 33 [.pointer (some ⟨db, 0, none⟩)] [] [pts db 0 [.int .i64 room, .slice none 0 0, .int .i64 0]] Nat (fun _ => True) (fun x => .pointer (some ⟨x, 0, none⟩)) (fun x => ddAt ⟨x, db, (none, 0), (none, 0), room, [], 0, [], 0, 0⟩) := by
  refine Does.of Tryz.call33 Tryz.func33 rfl rfl rfl all_nil rfl ?_
  have hd : decide ((0 : Int) < 0) = false := by decide
  repeat' (first
 | refine SO.pure rfl rfl rfl ?_
 | refine SO.nil ?_
 | refine SO.build rfl rfl rfl rfl ?_
 | refine SK.seq ?_
 | refine SK.region ?_
 | refine SK.block ?_
 | refine SO.box rfl rfl rfl (fun b => ?_)
 | fail)
  refine SK.loop (X := Unit) (fun _ => [(4, .int .i64 0), (3, .pointer (some ⟨b, 0, none⟩)), (0, .pointer (some ⟨db, 0, none⟩))]) (fun _ => [pts db 0 [.int .i64 room, .slice none 0 0, .int .i64 0], pts b 0 [.pointer (some ⟨db, 0, none⟩), .slice none 0 0, .int .i64 0, .int .i64 0]]) (fun _ => 0) () (by repeat constructor) (ent_append_of_takes (by repeat constructor)) ?_
  intro _
  repeat' (first
 | refine SO.pure rfl rfl rfl ?_
 | refine SO.nil ?_
 | refine SO.load rfl (by repeat constructor) rfl (by rfl) (by exact ⟨rfl, by first | exact fun _ => rfl | exact (fun h => by cases h)⟩) rfl ?_
 | refine SK.seq ?_
 | refine SK.region ?_
 | refine SK.condF rfl ?_
 | refine SK.exit rfl ?_
 | fail)
  refine SK.shift (fun F w hst => hst.ent (Ent.cons (ent_triv (A := slAt RDS none 0 [])))) ?_
  refine SK.shift (fun F w hst => hst.ent (Ent.cons (ent_triv (A := slAt RS none 0 [])))) ?_
  refine SK.shift (fun F w hst => hst.ent (Ent.cons (ent_pr (p := ([] : List (Int × Rc × Int)).length ≤ 0) (Nat.le_refl 0)))) ?_
  refine SK.shift (fun F w hst => hst.ent (Ent.cons (ent_pr (p := ([] : List ByteArray).length ≤ 0) (Nat.le_refl 0)))) ?_
  exact SK.retX (.tmp rfl .nil) b trivial rfl (by repeat constructor)
end Go.Proofs
