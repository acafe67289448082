/- A part of a proof: what functions of the program compute. -/
import Derived.Test.YtmbfcjffjgecjaaGreatDoorVecE
import Derived.Test.YtmbfcjffjgecjaaGreatDoorLib1
import Derived.Test.YtmbfcjffjgecjaaGreatDoorLib2
set_option linter.unusedVariables false
set_option linter.unusedSimpArgs false
set_option maxHeartbeats 0
namespace Go.Proofs
attribute [local irreducible] Go.Sl.SO Go.Sl.SQ Go.Sl.SR Go.Sl.SC Go.Sl.SX Go.Sl.SY Go.Sl.eadr Go.Sl.slAt Go.Sl.sqAt Go.Sl.pts Go.Sl.rod Go.Sl.ob Go.Sl.ex Go.Sl.big Go.Sl.pr Go.Sl.tabs Go.Sl.mpAt
open Go.Sl
theorem dnew_does (room : Int) (h : 1 ≤ room ∧ room ≤ 1048576) : Does Tryz.prog 28 [.int .i64 room] [] [] Nat (fun _ => True) (fun b => .tuple #[.pointer (some ⟨b, 0, none⟩), .int .i64 0]) (fun b => dkAt b (none, 0) ⟨room, [], 0⟩) := by
  refine Does.of Tryz.call28 Tryz.func28 rfl rfl rfl all_nil rfl ?_
  have h1 : decide (room < 1) = false := decide_eq_false (by omega)
  have h2 : decide (1048576 < room) = false := decide_eq_false (by omega)
  repeat' (first
 | refine SO.pure rfl rfl rfl ?_
 | refine SO.nil ?_
 | refine SO.guardY rfl rfl ?_
 | refine SO.build rfl rfl rfl rfl ?_
 | refine SK.seq ?_
 | refine SK.region ?_
 | refine SK.skip ?_
 | refine SO.box rfl rfl rfl (fun b => ?_)
 | refine SO.guardYP rfl rfl (by first | assumption | (simp only [Go.Sl.bl]; omega)) ?_
 | refine SK.condFP rfl (by first | assumption | (simp only [Go.Sl.bl]; omega)) ?_
 | fail)
  rw [h1]
  skip
  rw [h2]
  skip
  refine SK.ret ⟨_, .tmp rfl (.tmp rfl .nil), b, trivial, rfl, ?_⟩
  exact (ent_triv (A := sqAt false RS none 0 0 [])).trans (ent_append_of_takes (by repeat constructor))
theorem dlen_does (b : Nat) (x : Pl) (d : Dk) : Does Tryz.prog 98 [.pointer (some ⟨b, 0, none⟩)] [] (dkAt b x d) Unit (fun _ => True) (fun _ => .int .i64 (d.lines.length : Int)) (fun _ => dkAt b x d) := by
  refine Does.of Tryz.call98 Tryz.func98 rfl rfl rfl all_nil rfl ?_
  unfold dkAt
  repeat' (first
 | refine SO.pure rfl rfl rfl ?_
 | refine SO.nil ?_
 | refine SO.load rfl (by repeat constructor) rfl (by rfl) (by exact ⟨rfl, by first | exact fun _ => rfl | exact (fun h => by cases h)⟩) rfl ?_
 | refine SK.seq ?_
 | refine SK.region ?_
 | fail)
  exact SK.retX (.tmp rfl .nil) () trivial rfl (by repeat constructor)
theorem dwaits_does (b : Nat) (x : Pl) (d : Dk) (h : d.Ok) : Does Tryz.prog 38 [.pointer (some ⟨b, 0, none⟩)] [] (dkAt b x d) Unit (fun _ => True) (fun _ => .int .i64 ((d.lines.length : Int) - (d.lasts : Int))) (fun _ => dkAt b x d) := by
  refine Does.of Tryz.call38 Tryz.func38 rfl rfl rfl all_nil rfl ?_
  unfold dkAt
  have h1 := h.len
  have h2 := h.lasts
  have hw : IntKind.i64.wrap ((d.lines.length : Int) - (d.lasts : Int)) = (d.lines.length : Int) - (d.lasts : Int) := wrap_id (by omega) (by omega)
  repeat' (first
 | refine SO.pure rfl rfl rfl ?_
 | refine SO.nil ?_
 | refine SK.seq ?_
 | refine SK.region ?_
 | refine SK.regionX 1 (.item 0 0 (.item 0 5 (.item 0 1 (.item 0 6 (.item 0 2 (.item 0 7 (.item 0 3 (.item 0 8 (.item 0 4 (.item 0 9 (.item 0 10 .nil))))))))))) [] .nil (by repeat (first | exact .nil | apply PersSub.s | apply PersSub.t | apply PersSub.p | apply PersSub.r | apply PersSub.skip)) (by kernel_rfl) (by kernel_rfl) (fun _ _ _ h => h) ?_
 | refine SX.tail (by rfl) (by repeat (first | exact .nil | apply DropP.s | apply DropP.t | apply DropP.p | apply DropP.r | apply DropP.keep)) ?_
 | refine SX.pure rfl rfl rfl ?_
 | refine SX.load rfl (by repeat constructor) rfl (by rfl) (by exact ⟨rfl, by first | exact fun _ => rfl | exact (fun h => by cases h)⟩) rfl ?_
 | fail)
  refine SK.retX (.tmp rfl .nil) () trivial ?_ (by repeat constructor)
  show Value.int .i64 _ = _
  rw [hw]
theorem dsync_does (b : Nat) (x : Pl) (d : Dk) : Does Tryz.prog 87 [.pointer (some ⟨b, 0, none⟩)] [] (dkAt b x d) Unit (fun _ => True) (fun _ => .tuple #[]) (fun _ => dkAt b x d.sync) := by
  refine Does.of Tryz.call87 Tryz.func87 rfl rfl rfl all_nil rfl ?_
  unfold dkAt
  repeat' (first
 | refine SO.pure rfl rfl rfl ?_
 | refine SO.nil ?_
 | refine SO.load rfl (by repeat constructor) rfl (by rfl) (by exact ⟨rfl, by first | exact fun _ => rfl | exact (fun h => by cases h)⟩) rfl ?_
 | refine SK.region ?_
 | refine SO.store rfl rfl (by repeat constructor) rfl (by rfl) rfl rfl (by rfl) (by rfl) ?_
 | fail)
  exact SK.endX .nil () trivial rfl (by unfold Dk.sync; repeat constructor)
theorem dsync_front (db : Nat) (A : Option Addr) (d : Dk) (j : Nat) (hj : j ≤ d.lines.length) : Does Tryz.prog 87 [.pointer (some ⟨db, 0, none⟩)] [] [pts db 0 [.int .i64 d.room, .slice A j j, .int .i64 (d.lasts : Int)], sqAt false RS A j j (d.lines.take j)] Unit (fun _ => True) (fun _ => .tuple #[]) (fun _ => dkAt db (A, j) (d.front j)) := by
  have e : (d.lines.take j).length = j := by rw [List.length_take]; omega
  have t := dsync_does db (A, j) ⟨d.room, d.lines.take j, d.lasts⟩
  simp only [dkAt, Dk.sync, e] at t
  simpa only [dkAt, Dk.front, e] using t
theorem dlines_does (b : Nat) (x : Pl) (d : Dk) : Does Tryz.prog 36 [.pointer (some ⟨b, 0, none⟩)] [] (dkAt b x d) Nat (fun _ => True) (fun y => .func (.func 99) #[] #[.pointer (some ⟨y, 0, none⟩)]) (fun y => pts y 0 [.slice x.1 d.lines.length x.2] :: dkAt b x d) := by
  refine Does.of Tryz.call36 Tryz.func36 rfl rfl rfl all_nil rfl ?_
  unfold dkAt
  repeat' (first
 | refine SO.pure rfl rfl rfl ?_
 | refine SO.nil ?_
 | refine SO.load rfl (by repeat constructor) rfl (by rfl) (by exact ⟨rfl, by first | exact fun _ => rfl | exact (fun h => by cases h)⟩) rfl ?_
 | refine SK.seq ?_
 | refine SK.region ?_
 | refine SO.alloc rfl rfl rfl (fun b => ?_)
 | refine SO.storeW rfl rfl (by repeat constructor) rfl (by rfl) (by rfl) (by rfl) ?_
 | fail)
  exact SK.retX (.tmp rfl .nil) _ trivial rfl (by repeat constructor)
theorem lniter (bx : Nat) (A : Option Addr) (n c : Nat) (l : List ByteArray) : Iter Tryz.prog 99 [.pointer (some ⟨bx, 0, none⟩)] ELn l.zipIdx [slAt RS A n l] [pts bx 0 [.slice A n c]] (fun _ => []) [] := by
  intro q J Jx hy
  refine Does.of Tryz.call99 Tryz.func99 rfl rfl rfl (all_cons (pers_slAt _ _ _ _) all_nil) rfl ?_
  refine SK.know (sl_len (ρ := RS) (A := A) (n := n) (l := l) (by repeat constructor)) ?_
  rintro ⟨rfl, hlim, -⟩
  have hzl : l.zipIdx.length = l.length := by simp
  repeat' (first
 | refine SO.pure rfl rfl rfl ?_
 | refine SO.nil ?_
 | refine SO.load rfl (by repeat constructor) rfl (by rfl) (by exact ⟨rfl, by first | exact fun _ => rfl | exact (fun h => by cases h)⟩) rfl ?_
 | refine SK.seq ?_
 | refine SK.region ?_
 | refine SK.block ?_
 | fail)
  refine SK.loop (X := {i : Nat // i ≤ l.length}) (fun i => [(7, .int .i64 (i.1 : Int)), (6, .int .i64 (l.length : Int)), (5, .slice A l.length c), (1, .pointer (some ⟨bx, 0, none⟩)), (0, yv q)]) (fun i => [J i.1, pts bx 0 [.slice A l.length c], slAt RS A l.length l]) (fun i => l.length - i.1) ⟨0, by omega⟩ (by repeat constructor) (ent_append_of_takes (by repeat constructor)) ?_
  rintro ⟨i, hi⟩
  dsimp only
  have hwi := wrapn (show i ≤ lim by omega)
  rcases Nat.lt_or_ge i l.length with hil | hil
  · have hd1 : decide ((i : Int) < (l.length : Int)) = true := decide_eq_true (by omega)
    obtain ⟨u, hu⟩ : ∃ u, l[i]? = some u := ⟨_, List.getElem?_eq_getElem hil⟩
    repeat' (first
 | refine SO.indexH rfl rfl (by repeat constructor) rfl rfl rfl rfl (by assumption) ?_
 | refine SO.pure rfl rfl rfl ?_
 | refine SO.nil ?_
 | refine SO.eloadW rfl (by repeat constructor) (by assumption) rfl (by rfl) rfl (by rfl) rfl (fun hid => ?_)
 | refine SK.seq ?_
 | refine SK.region ?_
 | refine SK.skip ?_
 | refine SK.block ?_
 | refine SK.condTP rfl (by first | assumption | (simp only [Go.Sl.bl]; omega)) ?_
 | fail)
    rw [hd1]
    skip
    have hY := hy i (u, i) hid (zip_get hu)
    refine SO.callF (vs := ELn.args (u, i) hid) rfl rfl hY (by repeat constructor) (by repeat constructor) rfl (fun rr hrr => ?_)
    cases rr
    · repeat' (first
 | refine SO.pure rfl rfl rfl ?_
 | refine SO.nil ?_
 | refine SK.condT rfl ?_
 | fail)
      exact SK.retX .nil (some i) (fun j h => by cases h; omega) rfl (by repeat constructor)
    · repeat' (first
 | refine SO.pure rfl rfl rfl ?_
 | refine SO.nil ?_
 | refine SK.region ?_
 | refine SK.condF rfl ?_
 | refine SK.skip ?_
 | refine SK.blk ?_
 | fail)
      refine SK.inv ⟨⟨i + 1, by omega⟩, ?_, ?_, ?_⟩
      · show l.length - (i + 1) < l.length - i
        omega
      · rw [hwi]; repeat constructor
      · exact ent_append_of_takes (by repeat constructor)
  · have hd1 : decide ((i : Int) < (l.length : Int)) = false := decide_eq_false (by omega)
    obtain rfl : i = l.length := by omega
    repeat' (first
 | refine SO.pure rfl rfl rfl ?_
 | refine SO.nil ?_
 | refine SK.seq ?_
 | refine SK.region ?_
 | refine SK.exit rfl ?_
 | refine SK.condFP rfl (by first | assumption | (simp only [Go.Sl.bl]; omega)) ?_
 | fail)
    rw [hd1]
    skip
    rw [← hzl]
    exact SK.endX .nil none (fun _ h => by cases h) rfl (by repeat constructor)
theorem dcrash_does (db : Nat) (p : Pl) (d : Dk) (k : Int) (h : d.Ok) (hkl : k ≤ 9223372036854775807) : Does Tryz.prog 46 [.pointer (some ⟨db, 0, none⟩), .int .i64 k] [] (dkAt db p d) Pl (fun _ => True) (fun _ => .tuple #[]) (fun p => dkAt db p (d.crash k)) := by
  refine Does.of Tryz.call46 Tryz.func46 rfl rfl rfl all_nil rfl ?_
  have hln := h.len
  have hla := h.lasts
  have hkp := kept_le h k
  repeat' (first
 | refine SO.call (dlines_does db p d) rfl rfl rfl (by repeat constructor) (by repeat constructor) rfl (fun x hx => ?_)
 | refine SO.pure2 rfl rfl rfl ?_
 | refine SO.nil ?_
 | refine SO.load rfl (by repeat constructor) rfl (by rfl) (by exact ⟨rfl, by first | exact fun _ => rfl | exact (fun h => by cases h)⟩) rfl ?_
 | refine SK.seq ?_
 | refine SK.region ?_
 | refine SK.block ?_
 | refine SO.alloc rfl rfl rfl (fun b => ?_)
 | refine SO.box rfl rfl rfl (fun b => ?_)
 | refine SO.storeW rfl rfl (by repeat constructor) rfl (by rfl) (by rfl) (by rfl) ?_
 | refine SK.scope (fun _ _ _ h => h) ?_
 | refine SK.label ?_
 | fail)
  rename_i tb kb
  simp only [dkAt, List.cons_append, List.nil_append, max0]
  have hk0 : (0 : Int) ≤ max k 0 := by omega
  have hk1 : max k 0 ≤ 9223372036854775807 := by omega
  unfold Dk.crash
  have hkd : keptD d k = d.lasts + fitN (max k 0) (d.lines.drop d.lasts) := rfl
  generalize max k 0 = k0 at *
  generalize keptD d k = kd at *
  refine SK.readable (ρ := RS) (by repeat constructor) ?_
  have hzl : d.lines.zipIdx.length = d.lines.length := by simp
  have e0 : keepAt d k0 0 = k0 := by unfold keepAt; rw [if_pos (Nat.zero_le _)]
  refine SK.shift (fun F w hst => hst.ent (Ent.cons (ent_pr (p := CrashI d k0 0) (crashI_zero hk0)))) ?_
  rw [← e0]
  refine SK.rangeI (lniter x p.1 d.lines.length p.2 d.lines) Unit (fun i => [pr (CrashI d k0 i), pts b 0 [.int .i64 (i : Int)], pts kb 0 [.int .i64 (keepAt d k0 i)], pts tb 0 [.pointer (some ⟨db, 0, none⟩)], pts db 0 [.int .i64 d.room, .slice p.1 d.lines.length p.2, .int .i64 (d.lasts : Int)]])
    (fun i _ => [pr (kd = i), pts b 0 [.int .i64 (i : Int)], pts tb 0 [.pointer (some ⟨db, 0, none⟩)], pts db 0 [.int .i64 d.room, .slice p.1 d.lines.length p.2, .int .i64 (d.lasts : Int)]]) (fun _ => .exit 0) rfl (by repeat constructor) (by repeat constructor) rfl (fun _ _ => rfl) ?_ ?_ ?_
  · rintro i ⟨s, j⟩ hid q R hr
    have hs : d.lines[i]? = some s := (zip_of hr).1
    obtain rfl : j = i := (zip_of hr).2
    have hil := (List.getElem?_eq_some_iff.1 hs).1
    have hsz := h.size (List.mem_of_getElem? hs)
    have hwj : IntKind.i64.wrap ((j : Int) + 1) = ((j + 1 : Nat) : Int) := by rw [wrap_id (by omega) (by omega)]; omega
    refine SK.openPr .here (fun hI => ?_)
    have hnn := hI.nn
    have hle := keepAt_le (d := d) (k := k0) (i := j)
    have hw1 : IntKind.i64.wrap ((s.size : Int) + 1) = (s.size : Int) + 1 := wrap_id (by omega) (by omega)
    have hw2 : IntKind.i64.wrap (keepAt d k0 j - ((s.size : Int) + 1)) = keepAt d k0 j - ((s.size : Int) + 1) := wrap_id (by omega) (by omega)
    rcases Nat.lt_or_ge j d.lasts with hj | hj
    · obtain ⟨hI2, e2⟩ := crashI_old hI hj
      repeat' (first
 | refine SO.pure rfl rfl rfl ?_
 | refine SO.nil ?_
 | refine SK.seq ?_
 | refine SK.region ?_
 | fail)
      refine SK.inv ?_
      repeat' (first
 | refine SO.pure rfl rfl rfl ?_
 | refine SO.nil ?_
 | refine SO.load rfl (by repeat constructor) rfl (by rfl) (by exact ⟨rfl, by first | exact fun _ => rfl | exact (fun h => by cases h)⟩) rfl ?_
 | refine SK.seq ?_
 | refine SK.region ?_
 | refine SK.block ?_
 | refine SK.exit rfl ?_
 | refine SO.storeW rfl rfl (by repeat constructor) rfl (by rfl) (by rfl) (by rfl) ?_
 | refine SK.condTP rfl (by first | assumption | (simp only [Go.Sl.bl]; omega)) ?_
 | fail)
      dsimp only
      rw [hwj, ← e2]
      refine SK.nil ?_
      exact (ent_pr (p := CrashI d k0 (j + 1)) hI2).trans (ent_append_of_takes (by repeat constructor))
    · repeat' (first
 | refine SO.pure rfl rfl rfl ?_
 | refine SO.nil ?_
 | refine SK.seq ?_
 | refine SK.region ?_
 | fail)
      refine SK.inv ?_
      repeat' (first
 | refine SO.pure rfl rfl rfl ?_
 | refine SO.nil ?_
 | refine SO.load rfl (by repeat constructor) rfl (by rfl) (by exact ⟨rfl, by first | exact fun _ => rfl | exact (fun h => by cases h)⟩) rfl ?_
 | refine SK.seq ?_
 | refine SK.region ?_
 | refine SK.skip ?_
 | refine SK.block ?_
 | refine SO.storeW rfl rfl (by repeat constructor) rfl (by rfl) (by rfl) (by rfl) ?_
 | refine SK.condFP rfl (by first | assumption | (simp only [Go.Sl.bl]; omega)) ?_
 | fail)
      dsimp only
      rw [hw1, hw2]
      by_cases hneg : keepAt d k0 j - ((s.size : Int) + 1) < 0
      · have hst := crashI_stop hI hj hs hneg
        have hd1 : decide (keepAt d k0 j - ((s.size : Int) + 1) < 0) = true := decide_eq_true hneg
        rw [hd1]
        repeat' (first
 | refine SK.condT rfl ?_
 | fail)
        refine SK.exitOut rfl ?_
        refine ⟨(), rfl, ?_⟩
        exact (ent_pr (p := kd = j) (hkd.trans hst)).trans (ent_append_of_takes (by repeat constructor))
      · obtain ⟨hI2, e2⟩ := crashI_new hI hj hs hneg
        have hd1 : decide (keepAt d k0 j - ((s.size : Int) + 1) < 0) = false := decide_eq_false hneg
        rw [hd1]
        repeat' (first
 | refine SO.pure rfl rfl rfl ?_
 | refine SO.nil ?_
 | refine SK.region ?_
 | refine SK.condF rfl ?_
 | refine SK.skip ?_
 | refine SK.blk ?_
 | refine SO.storeW rfl rfl (by repeat constructor) rfl (by rfl) (by rfl) (by rfl) ?_
 | fail)
        dsimp only
        rw [hwj, ← e2]
        refine SK.nil ?_
        exact (ent_pr (p := CrashI d k0 (j + 1)) hI2).trans (ent_append_of_takes (by repeat constructor))
  · rw [hzl]
    refine SK.blk ?_
    refine SK.openPr .here (fun hI => ?_)
    obtain rfl : kd = d.lines.length := hkd.trans (crashI_done hI hla)
    repeat' (first
 | refine SX.clip (ρ := RS) rfl rfl rfl (by repeat constructor) rfl rfl rfl (by omega) ?_
 | refine SO.nil ?_
 | refine SO.load rfl (by repeat constructor) rfl (by rfl) (by exact ⟨rfl, by first | exact fun _ => rfl | exact (fun h => by cases h)⟩) rfl ?_
 | refine SK.seq ?_
 | refine SK.region ?_
 | refine SO.store rfl rfl (by repeat constructor) rfl (by rfl) rfl rfl (by rfl) (by rfl) ?_
 | refine SK.regionX 11 (.item 0 0 (.item 0 1 (.item 0 5 (.item 0 6 (.item 0 2 (.item 0 3 (.item 0 4 (.item 0 7 (.item 0 8 (.item 0 9 (.item 2 10 .nil))))))))))) [] .nil (by repeat (first | exact .nil | apply PersSub.s | apply PersSub.t | apply PersSub.p | apply PersSub.r | apply PersSub.skip)) (by kernel_rfl) (by kernel_rfl) (fun _ _ _ h => h) ?_
 | refine SX.tail (by rfl) (by repeat (first | exact .nil | apply DropP.s | apply DropP.t | apply DropP.p | apply DropP.r | apply DropP.keep)) ?_
 | refine SX.pure rfl rfl rfl ?_
 | refine SX.load rfl (by repeat constructor) rfl (by rfl) (by exact ⟨rfl, by first | exact fun _ => rfl | exact (fun h => by cases h)⟩) rfl ?_
 | fail)
    refine SO.clipS (ρ := RS) d.lines.length (by repeat constructor) (Nat.le_refl _) ?_
    repeat' (first
 | refine SO.call (dsync_front db p.1 d d.lines.length (Nat.le_refl _)) rfl rfl rfl (by repeat constructor) (by repeat constructor) rfl (fun x hx => ?_)
 | refine SO.nil ?_
 | fail)
    exact SK.endX .nil (p.1, d.lines.length) trivial rfl (by repeat constructor)
  · rintro _ i hi
    refine SK.openPr .here (fun hI => ?_)
    obtain rfl : kd = i := hI
    repeat' (first
 | refine SX.clip (ρ := RS) rfl rfl rfl (by repeat constructor) rfl rfl rfl (by omega) ?_
 | refine SO.nil ?_
 | refine SO.load rfl (by repeat constructor) rfl (by rfl) (by exact ⟨rfl, by first | exact fun _ => rfl | exact (fun h => by cases h)⟩) rfl ?_
 | refine SK.seq ?_
 | refine SK.region ?_
 | refine SK.exit rfl ?_
 | refine SO.store rfl rfl (by repeat constructor) rfl (by rfl) rfl rfl (by rfl) (by rfl) ?_
 | refine SK.regionX 11 (.item 0 0 (.item 0 1 (.item 0 5 (.item 0 6 (.item 0 2 (.item 0 3 (.item 0 4 (.item 0 7 (.item 0 8 (.item 0 9 (.item 2 10 .nil))))))))))) [] .nil (by repeat (first | exact .nil | apply PersSub.s | apply PersSub.t | apply PersSub.p | apply PersSub.r | apply PersSub.skip)) (by kernel_rfl) (by kernel_rfl) (fun _ _ _ h => h) ?_
 | refine SX.tail (by rfl) (by repeat (first | exact .nil | apply DropP.s | apply DropP.t | apply DropP.p | apply DropP.r | apply DropP.keep)) ?_
 | refine SX.pure rfl rfl rfl ?_
 | refine SX.load rfl (by repeat constructor) rfl (by rfl) (by exact ⟨rfl, by first | exact fun _ => rfl | exact (fun h => by cases h)⟩) rfl ?_
 | fail)
    refine SO.clipS (ρ := RS) kd (by repeat constructor) hkp ?_
    repeat' (first
 | refine SO.call (dsync_front db p.1 d kd hkp) rfl rfl rfl (by repeat constructor) (by repeat constructor) rfl (fun x hx => ?_)
 | refine SO.nil ?_
 | fail)
    exact SK.endX .nil (p.1, kd) trivial rfl (by repeat constructor)
end Go.Proofs
