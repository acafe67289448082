/- A part of a proof: what functions of the program compute. -/
import Derived.Test.YtmbfcjffjgecjaaGreatDoorSeg1E
set_option linter.unusedVariables false
set_option linter.unusedSimpArgs false
set_option maxHeartbeats 0
namespace Go.Sl
theorem write_no {d : Dk} {t : ByteArray} (h : ¬ (d.write t).1 = 0) : (d.write t).2 = d := by
  unfold Dk.write at h ⊢
  split
  · rfl
  · split
    · rfl
    · rename_i h1 h2
      rw [if_neg h1, if_neg h2] at h
      exact absurd rfl h
end Go.Sl
namespace Go.Proofs
attribute [local irreducible] Go.Sl.SO Go.Sl.SQ Go.Sl.SR Go.Sl.SC Go.Sl.SX Go.Sl.SY Go.Sl.eadr Go.Sl.slAt Go.Sl.sqAt Go.Sl.pts Go.Sl.rod Go.Sl.ob Go.Sl.ex Go.Sl.big Go.Sl.pr Go.Sl.tabs Go.Sl.mpAt Go.Sl.mitAt Go.Sl.mitN
open Go.Sl
abbrev segL (sb db mb : Nat) (s : Sg) : List HP := [mpAt (KI .i64) RSlt mb s.m]
theorem sget_does (sb db mb : Nat) (s : Sg) (pos : Int) : Does Tryz.prog 49 [.pointer (some ⟨sb, 0, none⟩), .int .i64 pos] [] (sgAt sb db mb s) Pl (fun _ => True) (fun x => .tuple #[RRec.val (s.get pos).1 x, .int .i64 (s.get pos).2]) (fun x => RRec.atoms (s.get pos).1 x ++ sgAt sb db mb s) := by
  refine Does.of Tryz.call49 Tryz.func49 rfl rfl rfl all_nil rfl ?_
  unfold sgAt Sg.get
  by_cases h1 : pos < (s.trim : Int)
  · rw [if_pos h1]
    have hd := decide_eq_true h1
    repeat' (first
 | refine SO.pure rfl rfl rfl ?_
 | refine SO.nil ?_
 | refine SO.load rfl (by repeat constructor) rfl (by rfl) (by exact ⟨rfl, by first | exact fun _ => rfl | exact (fun h => by cases h)⟩) rfl ?_
 | refine SO.build rfl rfl rfl rfl ?_
 | refine SK.seq ?_
 | refine SK.region ?_
 | refine SO.alloc rfl rfl rfl (fun b => ?_)
 | refine SO.storeW rfl rfl (by repeat constructor) rfl (by rfl) (by rfl) (by rfl) ?_
 | refine SK.condTP rfl (by first | assumption | (simp only [Go.Sl.bl]; omega)) ?_
 | fail)
    refine SK.ret ⟨_, .cell rfl (by repeat constructor) rfl rfl (by exact ⟨rfl, fun h => by cases h⟩) (.tmp rfl .nil), (none, 0), trivial, rfl, ?_⟩
    exact (ent_triv (A := pr (([] : List Int).length ≤ 0))).trans ((ent_triv (A := slAt RI none 0 [])).trans (ent_append_of_takes (by repeat constructor)))
  · rw [if_neg h1]
    repeat' (first
 | refine SO.pure rfl rfl rfl ?_
 | refine SO.nil ?_
 | refine SO.load rfl (by repeat constructor) rfl (by rfl) (by exact ⟨rfl, by first | exact fun _ => rfl | exact (fun h => by cases h)⟩) rfl ?_
 | refine SK.seq ?_
 | refine SK.region ?_
 | refine SK.skip ?_
 | refine SO.alloc rfl rfl rfl (fun b => ?_)
 | refine SK.condFP rfl (by first | assumption | (simp only [Go.Sl.bl]; omega)) ?_
 | fail)
    refine SO.lookup (kr := KI .i64) (ρ := RSlt) rfl (by repeat constructor) (by rfl) rfl rfl (by rfl) rfl rfl (fun u hid hu => ?_) (fun hu => ?_)
    · rw [hu]
      repeat' (first
 | refine SO.pure rfl rfl rfl ?_
 | refine SO.nil ?_
 | refine SO.load rfl (by repeat constructor) rfl (by rfl) (by exact ⟨rfl, by first | exact fun _ => rfl | exact (fun h => by cases h)⟩) rfl ?_
 | refine SK.seq ?_
 | refine SK.region ?_
 | refine SK.condF rfl ?_
 | refine SK.skip ?_
 | refine SO.alloc rfl rfl rfl (fun b => ?_)
 | refine SO.storeW rfl rfl (by repeat constructor) rfl (by rfl) (by rfl) (by rfl) ?_
 | fail)
      exact SK.retX (.cell rfl (by repeat constructor) rfl rfl (by exact ⟨rfl, fun h => by cases h⟩) (.tmp rfl .nil)) hid trivial rfl (by repeat constructor)
    · rw [hu]
      repeat' (first
 | refine SO.pure rfl rfl rfl ?_
 | refine SO.nil ?_
 | refine SO.build rfl rfl rfl rfl ?_
 | refine SK.seq ?_
 | refine SK.region ?_
 | refine SK.condT rfl ?_
 | refine SO.alloc rfl rfl rfl (fun b => ?_)
 | refine SO.storeW rfl rfl (by repeat constructor) rfl (by rfl) (by rfl) (by rfl) ?_
 | fail)
      refine SK.ret ⟨_, .cell rfl (by repeat constructor) rfl rfl (by exact ⟨rfl, fun h => by cases h⟩) (.tmp rfl .nil), (none, 0), trivial, rfl, ?_⟩
      exact (ent_triv (A := pr (([] : List Int).length ≤ 0))).trans ((ent_triv (A := slAt RI none 0 [])).trans (ent_append_of_takes (by repeat constructor)))
theorem slasts_does (sb db mb : Nat) (p : Pl) (s : Sg) (d : Dk) (pos : Int) (h : d.Ok) : Does Tryz.prog 50 [.pointer (some ⟨sb, 0, none⟩), .int .i64 pos] [] (sgAt sb db mb s ++ dkAt db p d) Unit (fun _ => True) (fun x => .bool (s.lastsAt d pos)) (fun x => sgAt sb db mb s ++ dkAt db p d) := by
  refine Does.of Tryz.call50 Tryz.func50 rfl rfl rfl all_nil rfl ?_
  unfold Sg.lastsAt
  simp only [sgAt, dkAt, List.cons_append, List.nil_append]
  repeat' (first
 | refine SO.pure rfl rfl rfl ?_
 | refine SO.nil ?_
 | refine SO.load rfl (by repeat constructor) rfl (by rfl) (by exact ⟨rfl, by first | exact fun _ => rfl | exact (fun h => by cases h)⟩) rfl ?_
 | refine SK.seq ?_
 | refine SK.region ?_
 | fail)
  refine SO.lookup (kr := KI .i64) (ρ := RSlt) rfl (by repeat constructor) (by rfl) rfl rfl (by rfl) rfl rfl (fun u hid hu => ?_) (fun hu => ?_)
  · rw [hu]
    repeat' (first
 | refine SO.call (dlen_does db p d) rfl rfl rfl (by repeat constructor) (by repeat constructor) rfl (fun x hx => ?_)
 | refine SO.call (dwaits_does db p d h) rfl rfl rfl (by repeat constructor) (by repeat constructor) rfl (fun x hx => ?_)
 | refine SO.pure rfl rfl rfl ?_
 | refine SO.nil ?_
 | refine SK.seq ?_
 | refine SO.alloc rfl rfl rfl (fun b => ?_)
 | refine SO.storeW rfl rfl (by repeat constructor) rfl (by rfl) (by rfl) (by rfl) ?_
 | refine SK.regionX 2 (.item 0 0 (.item 0 1 (.item 0 2 (.item 0 4 (.item 0 9 (.item 0 3 (.item 0 5 (.item 0 10 (.item 0 6 (.item 0 11 (.item 0 7 (.item 0 12 (.item 1 8 (.item 1 13 (.item 0 14 (.item 0 15 (.item 0 16 (.item 0 17 .nil)))))))))))))))))) (dkAt db p d) (by repeat constructor) (by repeat (first | exact .nil | apply PersSub.s | apply PersSub.t | apply PersSub.p | apply PersSub.r | apply PersSub.skip)) (by kernel_rfl) (by kernel_rfl) (fun _ _ _ h => h) ?_
 | refine SX.tail (by rfl) (by repeat (first | exact .nil | apply DropP.s | apply DropP.t | apply DropP.p | apply DropP.r | apply DropP.keep)) ?_
 | refine SX.pure rfl rfl rfl ?_
 | refine SX.guardY rfl rfl ?_
 | refine SX.load rfl (by repeat constructor) rfl (by rfl) (by exact ⟨rfl, by first | exact fun _ => rfl | exact (fun h => by cases h)⟩) rfl ?_
 | refine SX.step rfl rfl ?_
 | refine SK.invY ?_
 | refine SY.shareGo (by repeat (first | exact .nil | apply PersSub.s | apply PersSub.t | apply PersSub.p | apply PersSub.r | apply PersSub.skip)) ?_
 | fail)
    have hln := h.len
    have hla := h.lasts
    have hw : IntKind.i64.wrap ((d.lines.length : Int) - ((d.lines.length : Int) - (d.lasts : Int))) = (d.lasts : Int) := by rw [wrap_id (by omega) (by omega)]; omega
    refine SK.retX (.tmp rfl .nil) () trivial ?_ (by repeat constructor)
    show Value.bool (decide ((u.2 : Int) < IntKind.i64.wrap ((d.lines.length : Int) - ((d.lines.length : Int) - (d.lasts : Int))))) = Value.bool (decide (u.2 < d.lasts))
    rw [hw]
    congr 1
    exact decide_eq_decide.2 Int.ofNat_lt
  · rw [hu]
    repeat' (first
 | refine SO.pure rfl rfl rfl ?_
 | refine SO.nil ?_
 | refine SK.seq ?_
 | refine SO.alloc rfl rfl rfl (fun b => ?_)
 | refine SO.storeW rfl rfl (by repeat constructor) rfl (by rfl) (by rfl) (by rfl) ?_
 | refine SK.regionX 2 (.item 0 0 (.item 0 1 (.item 0 2 (.item 0 4 (.item 0 9 (.item 0 3 (.item 0 5 (.item 0 10 (.item 0 6 (.item 0 11 (.item 0 7 (.item 0 12 (.item 1 8 (.item 1 13 (.item 0 14 (.item 0 15 (.item 0 16 (.item 0 17 .nil)))))))))))))))))) (dkAt db p d) (by repeat constructor) (by repeat (first | exact .nil | apply PersSub.s | apply PersSub.t | apply PersSub.p | apply PersSub.r | apply PersSub.skip)) (by kernel_rfl) (by kernel_rfl) (fun _ _ _ h => h) ?_
 | refine SX.tail (by rfl) (by repeat (first | exact .nil | apply DropP.s | apply DropP.t | apply DropP.p | apply DropP.r | apply DropP.keep)) ?_
 | refine SX.pure rfl rfl rfl ?_
 | refine SX.guardN rfl rfl rfl ?_
 | fail)
    exact SK.retX (.tmp rfl .nil) () trivial rfl (by repeat constructor)
theorem scutAt_does (sb db mb : Nat) (p : Pl) (s : Sg) (d : Dk) (pos : Int) (h : d.Ok) : Does Tryz.prog 47 [.pointer (some ⟨sb, 0, none⟩), .int .i64 pos] [libA] (sgAt sb db mb s ++ dkAt db p d) Pl (fun _ => True) (fun x => .int .i64 (s.cutAt d pos).1) (fun x => sgAt sb db mb (s.cutAt d pos).2.1 ++ dkAt db x (s.cutAt d pos).2.2) := by
  refine Does.of Tryz.call47 Tryz.func47 rfl rfl rfl (all_cons pers_lib all_nil) rfl ?_
  unfold Sg.cutAt
  by_cases h1 : pos < 0 ∨ 2147483647 < pos
  · rw [if_pos h1]
    have hd : decide (pos < 0) = true ∨ (decide (pos < 0) = false ∧ decide (2147483647 < pos) = true) := by
      rcases h1 with h1 | h1
      · exact .inl (decide_eq_true h1)
      · by_cases h2 : pos < 0
        · exact .inl (decide_eq_true h2)
        · exact .inr ⟨decide_eq_false h2, decide_eq_true h1⟩
    simp only [sgAt, dkAt, List.cons_append, List.nil_append]
    rcases hd with hd | ⟨hd, hd2⟩
    · have h2 := of_decide_eq_true hd
      repeat' (first
 | refine SO.pure rfl rfl rfl ?_
 | refine SO.nil ?_
 | refine SO.guardN rfl rfl rfl ?_
 | refine SK.seq ?_
 | refine SK.region ?_
 | refine SK.condT rfl ?_
 | refine SO.guardNP rfl rfl rfl (by first | assumption | (simp only [Go.Sl.bl]; omega)) ?_
 | fail)
      exact SK.retX (.tmp rfl .nil) p trivial rfl (by repeat constructor)
    · have h2 := of_decide_eq_false hd
      have h3 := of_decide_eq_true hd2
      repeat' (first
 | refine SO.pure rfl rfl rfl ?_
 | refine SO.nil ?_
 | refine SO.guardY rfl rfl ?_
 | refine SK.seq ?_
 | refine SK.region ?_
 | refine SO.guardYP rfl rfl (by first | assumption | (simp only [Go.Sl.bl]; omega)) ?_
 | refine SK.condTP rfl (by first | assumption | (simp only [Go.Sl.bl]; omega)) ?_
 | fail)
      exact SK.retX (.tmp rfl .nil) p trivial rfl (by repeat constructor)
  · rw [if_neg h1]
    obtain ⟨n, rfl⟩ := Int.eq_ofNat_of_zero_le (a := pos) (by omega)
    rw [Int.toNat_natCast]
    have hn := note_does sb db mb p s d 99 n h (by omega)
    by_cases h2 : (Sg.note d 99 n).1 ≠ 0
    · rw [if_pos h2]
      have h3 := decide_eq_false h2
      repeat' (first
 | refine SO.call (hn) rfl rfl rfl (by repeat constructor) (by repeat constructor) rfl (fun x hx => ?_)
 | refine SO.pure rfl rfl rfl ?_
 | refine SO.nil ?_
 | refine SO.guardY rfl rfl ?_
 | refine SK.seq ?_
 | refine SK.region ?_
 | refine SK.skip ?_
 | refine SK.condFP rfl (by first | assumption | (simp only [Go.Sl.bl]; omega)) ?_
 | fail)
      rename Pl => px
      exact SK.retX (.tmp rfl .nil) px trivial rfl (by repeat constructor)
    · rw [if_neg h2]
      have h3 : (Sg.note d 99 n).1 = 0 := Decidable.not_not.1 h2
      repeat' (first
 | refine SO.call (hn) rfl rfl rfl (by repeat constructor) (by repeat constructor) rfl (fun x hx => ?_)
 | refine SO.call (scut_does sb db mb s (n : Int)) rfl rfl rfl (by repeat constructor) (by repeat constructor) rfl (fun x hx => ?_)
 | refine SO.pure rfl rfl rfl ?_
 | refine SO.nil ?_
 | refine SO.guardY rfl rfl ?_
 | refine SK.seq ?_
 | refine SK.region ?_
 | refine SK.skip ?_
 | refine SK.condTP rfl (by first | assumption | (simp only [Go.Sl.bl]; omega)) ?_
 | refine SK.condFP rfl (by first | assumption | (simp only [Go.Sl.bl]; omega)) ?_
 | fail)
      rename Pl => px
      refine SK.retX (.tmp rfl .nil) px trivial ?_ (by repeat constructor)
      rw [h3]; rfl
theorem strimAt_does (sb db mb : Nat) (p : Pl) (s : Sg) (d : Dk) (pos : Int) (h : d.Ok) : Does Tryz.prog 48 [.pointer (some ⟨sb, 0, none⟩), .int .i64 pos] [libA] (sgAt sb db mb s ++ dkAt db p d) Pl (fun _ => True) (fun x => .tuple #[]) (fun x => sgAt sb db mb (s.trimAt d pos).1 ++ dkAt db x (s.trimAt d pos).2) := by
  refine Does.of Tryz.call48 Tryz.func48 rfl rfl rfl (all_cons pers_lib all_nil) rfl ?_
  unfold Sg.trimAt
  by_cases h1 : (s.trim : Int) < pos ∧ pos ≤ 2147483647
  · rw [if_pos h1]
    obtain ⟨h1, h1b⟩ := h1
    obtain ⟨n, rfl⟩ := Int.eq_ofNat_of_zero_le (a := pos) (by omega)
    rw [Int.toNat_natCast]
    have hn := note_does sb db mb p s d 116 n h (by omega)
    by_cases h2 : (Sg.note d 116 n).1 = 0
    · rw [if_pos h2]
      repeat' (first
 | refine SO.call (hn) rfl rfl rfl (by repeat constructor) (by repeat constructor) rfl (fun x hx => ?_)
 | refine SO.call (sbelow_does sb db mb s n) rfl rfl rfl (by repeat constructor) (by repeat constructor) rfl (fun x hx => ?_)
 | refine SO.pure rfl rfl rfl ?_
 | refine SO.nil ?_
 | refine SO.guardY rfl rfl ?_
 | refine SO.load rfl (by repeat constructor) rfl (by rfl) (by exact ⟨rfl, by first | exact fun _ => rfl | exact (fun h => by cases h)⟩) rfl ?_
 | refine SK.seq ?_
 | refine SK.region ?_
 | refine SO.guardYP rfl rfl (by first | assumption | (simp only [Go.Sl.bl]; omega)) ?_
 | refine SK.condTP rfl (by first | assumption | (simp only [Go.Sl.bl]; omega)) ?_
 | fail)
      rename Pl => px
      exact SK.endX .nil px trivial rfl (by repeat constructor)
    · rw [if_neg h2]
      repeat' (first
 | refine SO.call (hn) rfl rfl rfl (by repeat constructor) (by repeat constructor) rfl (fun x hx => ?_)
 | refine SO.call (sbelow_does sb db mb s n) rfl rfl rfl (by repeat constructor) (by repeat constructor) rfl (fun x hx => ?_)
 | refine SO.pure rfl rfl rfl ?_
 | refine SO.nil ?_
 | refine SO.guardY rfl rfl ?_
 | refine SO.load rfl (by repeat constructor) rfl (by rfl) (by exact ⟨rfl, by first | exact fun _ => rfl | exact (fun h => by cases h)⟩) rfl ?_
 | refine SK.seq ?_
 | refine SK.region ?_
 | refine SK.skip ?_
 | refine SO.guardYP rfl rfl (by first | assumption | (simp only [Go.Sl.bl]; omega)) ?_
 | refine SK.condFP rfl (by first | assumption | (simp only [Go.Sl.bl]; omega)) ?_
 | fail)
      rename Pl => px
      exact SK.endX .nil px trivial rfl (by repeat constructor)
  · rw [if_neg h1]
    simp only [sgAt, dkAt, List.cons_append, List.nil_append]
    by_cases h2 : (s.trim : Int) < pos
    · have h3 : ¬ pos ≤ 2147483647 := fun h => h1 ⟨h2, h⟩
      repeat' (first
 | refine SO.pure rfl rfl rfl ?_
 | refine SO.nil ?_
 | refine SO.guardY rfl rfl ?_
 | refine SO.guardN rfl rfl rfl ?_
 | refine SO.load rfl (by repeat constructor) rfl (by rfl) (by exact ⟨rfl, by first | exact fun _ => rfl | exact (fun h => by cases h)⟩) rfl ?_
 | refine SK.seq ?_
 | refine SK.region ?_
 | refine SK.condF rfl ?_
 | refine SK.skip ?_
 | refine SO.guardYP rfl rfl (by first | assumption | (simp only [Go.Sl.bl]; omega)) ?_
 | refine SO.guardNP rfl rfl rfl (by first | assumption | (simp only [Go.Sl.bl]; omega)) ?_
 | fail)
      exact SK.endX .nil p trivial rfl (by repeat constructor)
    · repeat' (first
 | refine SO.pure rfl rfl rfl ?_
 | refine SO.nil ?_
 | refine SO.guardN rfl rfl rfl ?_
 | refine SO.load rfl (by repeat constructor) rfl (by rfl) (by exact ⟨rfl, by first | exact fun _ => rfl | exact (fun h => by cases h)⟩) rfl ?_
 | refine SK.seq ?_
 | refine SK.region ?_
 | refine SK.condF rfl ?_
 | refine SK.skip ?_
 | refine SO.guardNP rfl rfl rfl (by first | assumption | (simp only [Go.Sl.bl]; omega)) ?_
 | fail)
      exact SK.endX .nil p trivial rfl (by repeat constructor)
end Go.Proofs
