/- A part of a proof: what functions of the program compute. -/
import Derived.Test.YtmbfcjffjgecjaaGreatDoorSeg1E
set_option linter.unusedVariables false
set_option linter.unusedSimpArgs false
set_option maxHeartbeats 0
namespace Go.Sl
theorem write_no {d : Dk} {t : ByteArray} (h : ¬ (d.write t).1 = 0) : (d.write t).2 = d := by
  unfold Dk.write at h ⊢
  split
  · rfl
  · split
    · rfl
    · rename_i h1 h2
      rw [if_neg h1, if_neg h2] at h
      exact absurd rfl h
end Go.Sl
namespace Go.Proofs
attribute [local irreducible] Go.Sl.SO Go.Sl.SQ Go.Sl.SR Go.Sl.SC Go.Sl.SX Go.Sl.SY Go.Sl.eadr Go.Sl.slAt Go.Sl.sqAt Go.Sl.pts Go.Sl.rod Go.Sl.ob Go.Sl.ex Go.Sl.big Go.Sl.pr Go.Sl.tabs Go.Sl.mpAt Go.Sl.mitAt Go.Sl.mitN
open Go.Sl
abbrev segL (sb db mb : Nat) (s : Sg) : List HP := [mpAt (KI .i64) RSlt mb s.m]
theorem sget_does (sb db mb : Nat) (s : Sg) (pos : Int) : Does Tryz.prog 49 [.pointer (some ⟨sb, 0, none⟩), .int .i64 pos] [] (sgAt sb db mb s) Pl (fun _ => True) (fun x => .tuple #[RRec.val (s.get pos).1 x, .int .i64 (s.get pos).2]) (fun x => RRec.atoms (s.get pos).1 x ++ sgAt sb db mb s) := by
  refine Does.of Tryz.call49 Tryz.func49 rfl rfl rfl all_nil rfl ?_
  unfold sgAt Sg.get
  by_cases h1 : pos < (s.trim : Int)
  · rw [if_pos h1]
    have hd := decide_eq_true h1
    repeat' (first
 | refine SO.pure rfl rfl rfl ?_
 | refine SO.nil ?_
 | refine SO.load rfl (by repeat constructor) rfl (by rfl) (by exact ⟨rfl, by first | exact fun _ => rfl | exact (fun h => by cases h)⟩) rfl ?_
 | refine SO.build rfl rfl rfl rfl ?_
 | refine SK.seq ?_
 | refine SK.region ?_
 | refine SO.alloc rfl rfl rfl (fun b => ?_)
 | refine SO.storeW rfl rfl (by repeat constructor) rfl (by rfl) (by rfl) (by rfl) ?_
 | refine SK.condTP rfl (by first | assumption | (simp only [Go.Sl.bl]; omega)) ?_
 | fail)
    refine SK.ret ⟨_, .cell rfl (by repeat constructor) rfl rfl (by exact ⟨rfl, fun h => by cases h⟩) (.tmp rfl .nil), (none, 0), trivial, rfl, ?_⟩
    exact (ent_triv (A := pr (([] : List Int).length ≤ 0))).trans ((ent_triv (A := slAt RI none 0 [])).trans (ent_append_of_takes (by repeat constructor)))
  · rw [if_neg h1]
    repeat' (first
 | refine SO.pure rfl rfl rfl ?_
 | refine SO.nil ?_
 | refine SO.load rfl (by repeat constructor) rfl (by rfl) (by exact ⟨rfl, by first | exact fun _ => rfl | exact (fun h => by cases h)⟩) rfl ?_
 | refine SK.seq ?_
 | refine SK.region ?_
 | refine SK.skip ?_
 | refine SO.alloc rfl rfl rfl (fun b => ?_)
 | refine SK.condFP rfl (by first | assumption | (simp only [Go.Sl.bl]; omega)) ?_
 | fail)
    refine SO.lookup (kr := KI .i64) (ρ := RSlt) rfl (by repeat constructor) (by rfl) rfl rfl (by rfl) rfl rfl (fun u hid hu => ?_) (fun hu => ?_)
    · rw [hu]
      repeat' (first
 | refine SO.pure rfl rfl rfl ?_
 | refine SO.nil ?_
 | refine SO.load rfl (by repeat constructor) rfl (by rfl) (by exact ⟨rfl, by first | exact fun _ => rfl | exact (fun h => by cases h)⟩) rfl ?_
 | refine SK.seq ?_
 | refine SK.region ?_
 | refine SK.condF rfl ?_
 | refine SK.skip ?_
 | refine SO.alloc rfl rfl rfl (fun b => ?_)
 | refine SO.storeW rfl rfl (by repeat constructor) rfl (by rfl) (by rfl) (by rfl) ?_
 | fail)
      exact SK.retX (.cell rfl (by repeat constructor) rfl rfl (by exact ⟨rfl, fun h => by cases h⟩) (.tmp rfl .nil)) hid trivial rfl (by repeat constructor)
    · rw [hu]
      repeat' (first
 | refine SO.pure rfl rfl rfl ?_
 | refine SO.nil ?_
 | refine SO.build rfl rfl rfl rfl ?_
 | refine SK.seq ?_
 | refine SK.region ?_
 | refine SK.condT rfl ?_
 | refine SO.alloc rfl rfl rfl (fun b => ?_)
 | refine SO.storeW rfl rfl (by repeat constructor) rfl (by rfl) (by rfl) (by rfl) ?_
 | fail)
      refine SK.ret ⟨_, .cell rfl (by repeat constructor) rfl rfl (by exact ⟨rfl, fun h => by cases h⟩) (.tmp rfl .nil), (none, 0), trivial, rfl, ?_⟩
      exact (ent_triv (A := pr (([] : List Int).length ≤ 0))).trans ((ent_triv (A := slAt RI none 0 [])).trans (ent_append_of_takes (by repeat constructor)))
theorem slasts_does (sb db mb : Nat) (p : Pl) (s : Sg) (d : Dk) (pos : Int) (h : d.Ok) : Does Tryz.prog 50 [.pointer (some ⟨sb, 0, none⟩), .int .i64 pos] [] (sgAt sb db mb s ++ dkAt db p d) Unit (fun _ => True) (fun x => .bool (s.lastsAt d pos)) (fun x => sgAt sb db mb s ++ dkAt db p d) := by
  refine Does.of Tryz.call50 Tryz.func50 rfl rfl rfl all_nil rfl ?_
  unfold Sg.lastsAt
  simp only [sgAt, dkAt, List.cons_append, List.nil_append]
  repeat' (first
 | refine SO.pure rfl rfl rfl ?_
 | refine SO.nil ?_
 | refine SO.load rfl (by repeat constructor) rfl (by rfl) (by exact ⟨rfl, by first | exact fun _ => rfl | exact (fun h => by cases h)⟩) rfl ?_
 | refine SK.seq ?_
 | refine SK.region ?_
 | fail)
  refine SO.lookup (kr := KI .i64) (ρ := RSlt) rfl (by repeat constructor) (by rfl) rfl rfl (by rfl) rfl rfl (fun u hid hu => ?_) (fun hu => ?_)
  · rw [hu]
    repeat' (first
 | refine SO.call (dlen_does db p d) rfl rfl rfl (by repeat constructor) (by repeat constructor) rfl (fun x hx => ?_)
 | refine SO.call (dwaits_does db p d h) rfl rfl rfl (by repeat constructor) (by repeat constructor) rfl (fun x hx => ?_)
 | refine SO.pure rfl rfl rfl ?_
 | refine SO.nil ?_
 | refine SK.seq ?_
 | refine SO.alloc rfl rfl rfl (fun b => ?_)
 | refine SO.storeW rfl rfl (by repeat constructor) rfl (by rfl) (by rfl) (by rfl) ?_
 | refine SK.regionX 2 (.item 0 0 (.item 0 1 (.item 0 2 (.item 0 4 (.item 0 9 (.item 0 3 (.item 0 5 (.item 0 10 (.item 0 6 (.item 0 11 (.item 0 7 (.item 0 12 (.item 1 8 (.item 1 13 (.item 0 14 (.item 0 15 (.item 0 16 (.item 0 17 .nil)))))))))))))))))) (dkAt db p d) (by repeat constructor) (by repeat (first | exact .nil | apply PersSub.s | apply PersSub.t | apply PersSub.p | apply PersSub.r | apply PersSub.skip)) (by kernel_rfl) (by kernel_rfl) (fun _ _ _ h => h) ?_
 | refine SX.tail (by rfl) (by repeat (first | exact .nil | apply DropP.s | apply DropP.t | apply DropP.p | apply DropP.r | apply DropP.keep)) ?_
 | refine SX.pure rfl rfl rfl ?_
 | refine SX.guardY rfl rfl ?_
 | refine SX.load rfl (by repeat constructor) rfl (by rfl) (by exact ⟨rfl, by first | exact fun _ => rfl | exact (fun h => by cases h)⟩) rfl ?_
 | refine SX.step rfl rfl ?_
 | refine SK.invY ?_
 | refine SY.shareGo (by repeat (first | exact .nil | apply PersSub.s | apply PersSub.t | apply PersSub.p | apply PersSub.r | apply PersSub.skip)) ?_
 | fail)
    have hln := h.len
    have hla := h.lasts
    have hw : IntKind.i64.wrap ((d.lines.length : Int) - ((d.lines.length : Int) - (d.lasts : Int))) = (d.lasts : Int) := by rw [wrap_id (by omega) (by omega)]; omega
    refine SK.retX (.tmp rfl .nil) () trivial ?_ (by repeat constructor)
    show Value.bool (decide ((u.2 : Int) < IntKind.i64.wrap ((d.lines.length : Int) - ((d.lines.length : Int) - (d.lasts : Int))))) = Value.bool (decide (u.2 < d.lasts))
    rw [hw]
    congr 1
    exact decide_eq_decide.2 Int.ofNat_lt
  · rw [hu]
    repeat' (first
 | refine SO.pure rfl rfl rfl ?_
 | refine SO.nil ?_
 | refine SK.seq ?_
 | refine SO.alloc rfl rfl rfl (fun b => ?_)
 | refine SO.storeW rfl rfl (by repeat constructor) rfl (by rfl) (by rfl) (by rfl) ?_
 | refine SK.regionX 2 (.item 0 0 (.item 0 1 (.item 0 2 (.item 0 4 (.item 0 9 (.item 0 3 (.item 0 5 (.item 0 10 (.item 0 6 (.item 0 11 (.item 0 7 (.item 0 12 (.item 1 8 (.item 1 13 (.item 0 14 (.item 0 15 (.item 0 16 (.item 0 17 .nil)))))))))))))))))) (dkAt db p d) (by repeat constructor) (by repeat (first | exact .nil | apply PersSub.s | apply PersSub.t | apply PersSub.p | apply PersSub.r | apply PersSub.skip)) (by kernel_rfl) (by kernel_rfl) (fun _ _ _ h => h) ?_
 | refine SX.tail (by rfl) (by repeat (first | exact .nil | apply DropP.s | apply DropP.t | apply DropP.p | apply DropP.r | apply DropP.keep)) ?_
 | refine SX.pure rfl rfl rfl ?_
 | refine SX.guardN rfl rfl rfl ?_
 | fail)
    exact SK.retX (.tmp rfl .nil) () trivial rfl (by repeat constructor)
theorem scutAt_does (sb db mb : Nat) (p : Pl) (s : Sg) (d : Dk) (pos : Int) (h : d.Ok) : Does Tryz.prog 47 [.pointer (some ⟨sb, 0, none⟩), .int .i64 pos] [libA] (sgAt sb db mb s ++ dkAt db p d) Pl (fun _ => True) (fun x => .int .i64 (s.cutAt d pos).1) (fun x => sgAt sb db mb (s.cutAt d pos).2.1 ++ dkAt db x (s.cutAt d pos).2.2) := by
  refine Does.of Tryz.call47 Tryz.func47 rfl rfl rfl (all_cons pers_lib all_nil) rfl ?_
  unfold Sg.cutAt
  by_cases h1 : pos < 0 ∨ 2147483647 < pos
  · rw [if_pos h1]
    have hd : decide (pos < 0) = true ∨ (decide (pos < 0) = false ∧ decide (2147483647 < pos) = true) := by
      rcases h1 with h1 | h1
      · exact .inl (decide_eq_true h1)
      · by_cases h2 : pos < 0
        · exact .inl (decide_eq_true h2)
        · exact .inr ⟨decide_eq_false h2, decide_eq_true h1⟩
    simp only [sgAt, dkAt, List.cons_append, List.nil_append]
    rcases hd with hd | ⟨hd, hd2⟩
    · have h2 := of_decide_eq_true hd
      repeat' (first
 | refine SO.pure rfl rfl rfl ?_
 | refine SO.nil ?_
 | refine SO.guardN rfl rfl rfl ?_
 | refine SK.seq ?_
 | refine SK.region ?_
 | refine SK.condT rfl ?_
 | refine SO.guardNP rfl rfl rfl (by first | assumption | (simp only [Go.Sl.bl]; omega)) ?_
 | fail)
      exact SK.retX (.tmp rfl .nil) p trivial rfl (by repeat constructor)
    · have h2 := of_decide_eq_false hd
      have h3 := of_decide_eq_true hd2
      repeat' (first
 | refine SO.pure rfl rfl rfl ?_
 | refine SO.nil ?_
 | refine SO.guardY rfl rfl ?_
 | refine SK.seq ?_
 | refine SK.region ?_
 | refine SO.guardYP rfl rfl (by first | assumption | (simp only [Go.Sl.bl]; omega)) ?_
 | refine SK.condTP rfl (by first | assumption | (simp only [Go.Sl.bl]; omega)) ?_
 | fail)
      exact SK.retX (.tmp rfl .nil) p trivial rfl (by repeat constructor)
  · rw [if_neg h1]
    obtain ⟨n, rfl⟩ := Int.eq_ofNat_of_zero_le (a := pos) (by omega)
    rw [Int.toNat_natCast]
    have hn := note_does sb db mb p s d 99 n h (by omega)
    by_cases h2 : (Sg.note d 99 n).1 ≠ 0
    · rw [if_pos h2]
      have h3 := decide_eq_false h2
      repeat' (first
 | refine SO.call (hn) rfl rfl rfl (by repeat constructor) (by repeat constructor) rfl (fun x hx => ?_)
 | refine SO.pure rfl rfl rfl ?_
 | refine SO.nil ?_
 | refine SO.guardY rfl rfl ?_
 | refine SK.seq ?_
 | refine SK.region ?_
 | refine SK.skip ?_
 | refine SK.condFP rfl (by first | assumption | (simp only [Go.Sl.bl]; omega)) ?_
 | fail)
      rename Pl => px
      exact SK.retX (.tmp rfl .nil) px trivial rfl (by repeat constructor)
    · rw [if_neg h2]
      have h3 : (Sg.note d 99 n).1 = 0 := Decidable.not_not.1 h2
      repeat' (first
 | refine SO.call (hn) rfl rfl rfl (by repeat constructor) (by repeat constructor) rfl (fun x hx => ?_)
 | refine SO.call (scut_does sb db mb s (n : Int)) rfl rfl rfl (by repeat constructor) (by repeat constructor) rfl (fun x hx => ?_)
 | refine SO.pure rfl rfl rfl ?_
 | refine SO.nil ?_
 | refine SO.guardY rfl rfl ?_
 | refine SK.seq ?_
 | refine SK.region ?_
 | refine SK.skip ?_
 | refine SK.condTP rfl (by first | assumption | (simp only [Go.Sl.bl]; omega)) ?_
 | refine SK.condFP rfl (by first | assumption | (simp only [Go.Sl.bl]; omega)) ?_
 | fail)
      rename Pl => px
      refine SK.retX (.tmp rfl .nil) px trivial ?_ (by repeat constructor)
      rw [h3]; rfl
theorem strimAt_does (sb db mb : Nat) (p : Pl) (s : Sg) (d : Dk) (pos : Int) (h : d.Ok) : Does Tryz.prog 48 [.pointer (some ⟨sb, 0, none⟩), .int .i64 pos] [libA] (sgAt sb db mb s ++ dkAt db p d) Pl (fun _ => True) (fun x => .tuple #[]) (fun x => sgAt sb db mb (s.trimAt d pos).1 ++ dkAt db x (s.trimAt d pos).2) := by
  refine Does.of Tryz.call48 Tryz.func48 rfl rfl rfl (all_cons pers_lib all_nil) rfl ?_
  unfold Sg.trimAt
  by_cases h1 : (s.trim : Int) < pos ∧ pos ≤ 2147483647
  · rw [if_pos h1]
    obtain ⟨h1, h1b⟩ := h1
    obtain ⟨n, rfl⟩ := Int.eq_ofNat_of_zero_le (a := pos) (by omega)
    rw [Int.toNat_natCast]
    have hn := note_does sb db mb p s d 116 n h (by omega)
    by_cases h2 : (Sg.note d 116 n).1 = 0
    · rw [if_pos h2]
      repeat' (first
 | refine SO.call (hn) rfl rfl rfl (by repeat constructor) (by repeat constructor) rfl (fun x hx => ?_)
 | refine SO.call (sbelow_does sb db mb s n) rfl rfl rfl (by repeat constructor) (by repeat constructor) rfl (fun x hx => ?_)
 | refine SO.pure rfl rfl rfl ?_
 | refine SO.nil ?_
 | refine SO.guardY rfl rfl ?_
 | refine SO.load rfl (by repeat constructor) rfl (by rfl) (by exact ⟨rfl, by first | exact fun _ => rfl | exact (fun h => by cases h)⟩) rfl ?_
 | refine SK.seq ?_
 | refine SK.region ?_
 | refine SO.guardYP rfl rfl (by first | assumption | (simp only [Go.Sl.bl]; omega)) ?_
 | refine SK.condTP rfl (by first | assumption | (simp only [Go.Sl.bl]; omega)) ?_
 | fail)
      rename Pl => px
      exact SK.endX .nil px trivial rfl (by repeat constructor)
    · rw [if_neg h2]
      repeat' (first
 | refine SO.call (hn) rfl rfl rfl (by repeat constructor) (by repeat constructor) rfl (fun x hx => ?_)
 | refine SO.call (sbelow_does sb db mb s n) rfl rfl rfl (by repeat constructor) (by repeat constructor) rfl (fun x hx => ?_)
 | refine SO.pure rfl rfl rfl ?_
 | refine SO.nil ?_
 | refine SO.guardY rfl rfl ?_
 | refine SO.load rfl (by repeat constructor) rfl (by rfl) (by exact ⟨rfl, by first | exact fun _ => rfl | exact (fun h => by cases h)⟩) rfl ?_
 | refine SK.seq ?_
 | refine SK.region ?_
 | refine SK.skip ?_
 | refine SO.guardYP rfl rfl (by first | assumption | (simp only [Go.Sl.bl]; omega)) ?_
 | refine SK.condFP rfl (by first | assumption | (simp only [Go.Sl.bl]; omega)) ?_
 | fail)
      rename Pl => px
      exact SK.endX .nil px trivial rfl (by repeat constructor)
  · rw [if_neg h1]
    simp only [sgAt, dkAt, List.cons_append, List.nil_append]
    by_cases h2 : (s.trim : Int) < pos
    · have h3 : ¬ pos ≤ 2147483647 := fun h => h1 ⟨h2, h⟩
      repeat' (first
 | refine SO.pure rfl rfl rfl ?_
 | refine SO.nil ?_
 | refine SO.guardY rfl rfl ?_
 | refine SO.guardN rfl rfl rfl ?_
 | refine SO.load rfl (by repeat constructor) rfl (by rfl) (by exact ⟨rfl, by first | exact fun _ => rfl | exact (fun h => by cases h)⟩) rfl ?_
 | refine SK.seq ?_
 | refine SK.region ?_
 | refine SK.condF rfl ?_
 | refine SK.skip ?_
 | refine SO.guardYP rfl rfl (by first | assumption | (simp only [Go.Sl.bl]; omega)) ?_
 | refine SO.guardNP rfl rfl rfl (by first | assumption | (simp only [Go.Sl.bl]; omega)) ?_
 | fail)
      exact SK.endX .nil p trivial rfl (by repeat constructor)
    · repeat' (first
 | refine SO.pure rfl rfl rfl ?_
 | refine SO.nil ?_
 | refine SO.guardN rfl rfl rfl ?_
 | refine SO.load rfl (by repeat constructor) rfl (by rfl) (by exact ⟨rfl, by first | exact fun _ => rfl | exact (fun h => by cases h)⟩) rfl ?_
 | refine SK.seq ?_
 | refine SK.region ?_
 | refine SK.condF rfl ?_
 | refine SK.skip ?_
 | refine SO.guardNP rfl rfl rfl (by first | assumption | (simp only [Go.Sl.bl]; omega)) ?_
 | fail)
      exact SK.endX .nil p trivial rfl (by repeat constructor)
theorem sseal_does (sb db mb : Nat) (p : Pl) (s : Sg) (d : Dk) (ep : Int) (h : d.Ok) (hk : ∀ k ∈ keysM s.m, 0 ≤ k ∧ k ≤ 2147483647) : Does Tryz.prog 44 [.pointer (some ⟨sb, 0, none⟩), .int .i64 ep] [libA] (sgAt sb db mb s ++ dkAt db p d) Pl (fun _ => True) (fun x => .tuple #[.int .i64 (s.sealG d ep).1.1, .int .i64 (s.sealG d ep).1.2]) (fun x => sgAt sb db mb (s.sealG d ep).2.1 ++ dkAt db x (s.sealG d ep).2.2) := by
  refine Does.of Tryz.call44 Tryz.func44 rfl rfl rfl (all_cons pers_lib all_nil) rfl ?_
  refine SK.know (mp_nodup (kr := KI .i64) (ρ := RSlt) (b := mb) (l := s.m) (by repeat constructor)) (fun hnd => ?_)
  unfold Sg.sealG
  by_cases h1 : ep < 1 ∨ 2147483647 < ep
  · rw [if_pos h1]
    simp only [sgAt, dkAt, List.cons_append, List.nil_append]
    by_cases h2 : ep < 1
    · repeat' (first
 | refine SO.pure rfl rfl rfl ?_
 | refine SO.nil ?_
 | refine SO.guardN rfl rfl rfl ?_
 | refine SK.seq ?_
 | refine SK.region ?_
 | refine SK.condT rfl ?_
 | refine SK.block ?_
 | refine SO.guardNP rfl rfl rfl (by first | assumption | (simp only [Go.Sl.bl]; omega)) ?_
 | fail)
      exact SK.retX (.tmp rfl (.tmp rfl .nil)) p trivial rfl (by repeat constructor)
    · have h3 : 2147483647 < ep := by omega
      repeat' (first
 | refine SO.pure rfl rfl rfl ?_
 | refine SO.nil ?_
 | refine SO.guardY rfl rfl ?_
 | refine SK.seq ?_
 | refine SK.region ?_
 | refine SK.block ?_
 | refine SO.guardYP rfl rfl (by first | assumption | (simp only [Go.Sl.bl]; omega)) ?_
 | refine SK.condTP rfl (by first | assumption | (simp only [Go.Sl.bl]; omega)) ?_
 | fail)
      exact SK.retX (.tmp rfl (.tmp rfl .nil)) p trivial rfl (by repeat constructor)
  · rw [if_neg h1]
    by_cases h4 : ep ≤ (s.sealed : Int)
    · rw [if_pos h4]
      repeat' (first
 | refine SO.pure rfl rfl rfl ?_
 | refine SO.nil ?_
 | refine SO.guardY rfl rfl ?_
 | refine SO.load rfl (by repeat constructor) rfl (by rfl) (by exact ⟨rfl, by first | exact fun _ => rfl | exact (fun h => by cases h)⟩) rfl ?_
 | refine SK.seq ?_
 | refine SK.region ?_
 | refine SK.block ?_
 | refine SO.guardYP rfl rfl (by first | assumption | (simp only [Go.Sl.bl]; omega)) ?_
 | refine SK.condTP rfl (by first | assumption | (simp only [Go.Sl.bl]; omega)) ?_
 | refine SK.condFP rfl (by first | assumption | (simp only [Go.Sl.bl]; omega)) ?_
 | fail)
      exact SK.retX (.tmp rfl (.tmp rfl .nil)) p trivial rfl (by repeat constructor)
    · rw [if_neg h4]
      obtain ⟨n, rfl⟩ := Int.eq_ofNat_of_zero_le (a := ep) (by omega)
      rw [Int.toNat_natCast]
      have hn := note_does sb db mb p s d 115 n h (by omega)
      by_cases h2 : (Sg.note d 115 n).1 ≠ 0
      · rw [if_pos h2]
        repeat' (first
 | refine SO.call (hn) rfl rfl rfl (by repeat constructor) (by repeat constructor) rfl (fun x hx => ?_)
 | refine SO.pure rfl rfl rfl ?_
 | refine SO.nil ?_
 | refine SO.guardY rfl rfl ?_
 | refine SO.load rfl (by repeat constructor) rfl (by rfl) (by exact ⟨rfl, by first | exact fun _ => rfl | exact (fun h => by cases h)⟩) rfl ?_
 | refine SK.seq ?_
 | refine SK.region ?_
 | refine SK.skip ?_
 | refine SK.block ?_
 | refine SK.blk ?_
 | refine SO.guardYP rfl rfl (by first | assumption | (simp only [Go.Sl.bl]; omega)) ?_
 | refine SK.condTP rfl (by first | assumption | (simp only [Go.Sl.bl]; omega)) ?_
 | refine SK.condFP rfl (by first | assumption | (simp only [Go.Sl.bl]; omega)) ?_
 | fail)
        rename Pl => px
        exact SK.retX (.tmp rfl (.tmp rfl .nil)) px trivial rfl (by repeat constructor)
      · rw [if_neg h2]
        have h3 : (Sg.note d 115 n).1 = 0 := Decidable.not_not.1 h2
        repeat' (first
 | refine SO.call (hn) rfl rfl rfl (by repeat constructor) (by repeat constructor) rfl (fun x hx => ?_)
 | refine SO.pure rfl rfl rfl ?_
 | refine SO.nil ?_
 | refine SO.guardY rfl rfl ?_
 | refine SO.load rfl (by repeat constructor) rfl (by rfl) (by exact ⟨rfl, by first | exact fun _ => rfl | exact (fun h => by cases h)⟩) rfl ?_
 | refine SK.seq ?_
 | refine SK.region ?_
 | refine SK.skip ?_
 | refine SK.block ?_
 | refine SK.blk ?_
 | refine SO.store rfl rfl (by repeat constructor) rfl (by rfl) rfl rfl (by rfl) (by rfl) ?_
 | refine SO.guardYP rfl rfl (by first | assumption | (simp only [Go.Sl.bl]; omega)) ?_
 | refine SK.condFP rfl (by first | assumption | (simp only [Go.Sl.bl]; omega)) ?_
 | fail)
        rename Pl => px
        refine SO.rangeMap (kr := KI .i64) (ρ := RSlt) rfl (by repeat constructor) rfl rfl (fun r => ?_)
        repeat' (first
 | refine SO.nil ?_
 | refine SK.block ?_
 | fail)
        refine SK.loop (X := {x : List (Int × Slt) × Int // (keysM x.1).Nodup ∧ (∀ k ∈ keysM x.1, 0 ≤ k ∧ k ≤ 2147483647) ∧ nextM x.1 x.2 = nextM s.m s.trim}) (fun x => [(41, .pointer (some ⟨r, 0, none⟩)), (7, .int .i64 x.1.2)])
          (fun x => [mitAt (KI .i64) RSlt r mb s.m x.1.1, pts sb 0 [.pointer (some ⟨db, 0, none⟩), .map (some mb), .int .i64 (n : Int), .int .i64 (s.trim : Int)]] ++ dkAt db px (Sg.note d 115 n).2) (fun x => x.1.1.length) ⟨(s.m, (s.trim : Int)), hnd, hk, rfl⟩ (by repeat constructor) (ent_append_of_takes (by repeat constructor)) ?_
        rintro ⟨⟨left, acc⟩, hJ⟩
        have hJ1 : (keysM left).Nodup := hJ.1
        have hJ2 : ∀ k ∈ keysM left, 0 ≤ k ∧ k ≤ 2147483647 := hJ.2.1
        have hJ3 : nextM left acc = nextM s.m s.trim := hJ.2.2
        dsimp only
        repeat' (first
 | refine SK.seq ?_
 | refine SK.region ?_
 | fail)
        refine SO.nextMapN (kr := KI .i64) (ρ := RSlt) rfl (by repeat constructor) rfl ?_ ?_
        · rintro rfl
          refine SO.itMap (kr := KI .i64) (ρ := RSlt) (by repeat constructor) ?_
          repeat' (first
 | refine SO.pure rfl rfl rfl ?_
 | refine SO.nil ?_
 | refine SK.seq ?_
 | refine SK.region ?_
 | refine SK.condF rfl ?_
 | refine SK.exit rfl ?_
 | fail)
          have e : acc = nextM s.m s.trim := hJ3
          refine SK.retX (.tmp rfl (.tmp rfl .nil)) px trivial ?_ (by repeat constructor)
          rw [← e]; rfl
        · intro k u hh hkl hkl2
          have hkm : k ∈ keysM left := List.mem_map.2 ⟨_, hkl, rfl⟩
          have hlt := mdel_lt hkm
          have hkb := hJ2 k hkm
          have hw : IntKind.i64.wrap (k + 1) = k + 1 := wrap_id (by omega) (by omega)
          repeat' (first
 | refine SO.pure rfl rfl rfl ?_
 | refine SO.nil ?_
 | refine SK.seq ?_
 | refine SK.region ?_
 | refine SK.condT rfl ?_
 | refine SK.skip ?_
 | refine SK.block ?_
 | fail)
          refine SO.entry (kr := KI .i64) (ρ := RSlt) rfl (by repeat constructor) rfl ?_
          refine SO.itAt (kr := KI .i64) (ρ := RSlt) (by repeat constructor) ?_
          repeat' (first
 | refine SO.pure rfl rfl rfl ?_
 | refine SO.pure2 rfl rfl rfl ?_
 | refine SO.nil ?_
 | refine SK.region ?_
 | refine SK.blk ?_
 | fail)
          refine SK.inv ⟨⟨(mdel left k, max acc (k + 1)), nodup_mdel hJ1 _, fun j hj => hJ2 j ((mdel_keys hJ1).1 hj).1, (nextM_del hkm).trans hJ3⟩, hlt, ?_, ?_⟩
          · have em : (if acc < k + 1 then k + 1 else acc) = max acc (k + 1) := by split <;> omega
            rw [hw, em]
            repeat constructor
          · exact ent_append_of_takes (by repeat constructor)
theorem sput_does (sb db mb : Nat) (p h : Pl) (s : Sg) (d : Dk) (ep pos a b2 : Int) (hd : d.Ok) (hr : checkR (rz a b2) 8 = 0) (ha : 0 ≤ a ∧ a < 100000) (hb : 0 ≤ b2 ∧ b2 < 100000) (hp : pos < 9223372036854775807) : Does Tryz.prog 40 [.pointer (some ⟨sb, 0, none⟩), .int .i64 ep, .int .i64 pos, RRec.val (rz a b2) h] ([libA, tabs 4 5] ++ RRec.atoms (rz a b2) h) (sgAt sb db mb s ++ dkAt db p d) Pl (fun _ => True) (fun x => .int .i64 (s.put d ep pos (rz a b2)).1) (fun x => sgAt sb db mb (s.put d ep pos (rz a b2)).2.1 ++ dkAt db x (s.put d ep pos (rz a b2)).2.2) := by
  refine Does.of Tryz.call40 Tryz.func40 rfl rfl rfl (all_cons pers_lib (all_cons (pers_tabs _ _) (RRec.pers _ _))) rfl ?_
  have hmx : (if pos < ep then ep else pos) = max pos ep := by split <;> omega
  by_cases h1 : pos < 0 ∨ ep < 1 ∨ 2147483647 < pos ∨ 2147483647 < ep
  · have e : s.put d ep pos (rz a b2) = (1, s, d) := by unfold Sg.put; rw [if_pos h1]
    rw [e]
    simp only [sgAt, dkAt, List.cons_append, List.nil_append]
    by_cases h2 : pos < 0
    · repeat' (first
 | refine SO.pure rfl rfl rfl ?_
 | refine SO.nil ?_
 | refine SO.guardN rfl rfl rfl ?_
 | refine SK.seq ?_
 | refine SK.region ?_
 | refine SK.condT rfl ?_
 | refine SK.block ?_
 | refine SO.box rfl rfl rfl (fun b => ?_)
 | refine SO.guardNP rfl rfl rfl (by first | assumption | (simp only [Go.Sl.bl]; omega)) ?_
 | fail)
      exact SK.retX (.tmp rfl .nil) p trivial rfl (by repeat constructor)
    · by_cases h3 : ep < 1
      · repeat' (first
 | refine SO.pure rfl rfl rfl ?_
 | refine SO.nil ?_
 | refine SO.guardY rfl rfl ?_
 | refine SO.guardN rfl rfl rfl ?_
 | refine SK.seq ?_
 | refine SK.region ?_
 | refine SK.condT rfl ?_
 | refine SK.block ?_
 | refine SO.box rfl rfl rfl (fun b => ?_)
 | refine SO.guardYP rfl rfl (by first | assumption | (simp only [Go.Sl.bl]; omega)) ?_
 | refine SO.guardNP rfl rfl rfl (by first | assumption | (simp only [Go.Sl.bl]; omega)) ?_
 | fail)
        exact SK.retX (.tmp rfl .nil) p trivial rfl (by repeat constructor)
      · have h4 : 2147483647 < (if pos < ep then ep else pos) := by rw [hmx]; omega
        repeat' (first
 | refine SO.pure rfl rfl rfl ?_
 | refine SO.pure2 rfl rfl rfl ?_
 | refine SO.nil ?_
 | refine SO.guardY rfl rfl ?_
 | refine SK.seq ?_
 | refine SK.region ?_
 | refine SK.block ?_
 | refine SO.box rfl rfl rfl (fun b => ?_)
 | refine SO.guardYP rfl rfl (by first | assumption | (simp only [Go.Sl.bl]; omega)) ?_
 | refine SK.condTP rfl (by first | assumption | (simp only [Go.Sl.bl]; omega)) ?_
 | fail)
        exact SK.retX (.tmp rfl .nil) p trivial rfl (by repeat constructor)
  · have h4 : ¬ 2147483647 < (if pos < ep then ep else pos) := by rw [hmx]; omega
    by_cases h5 : ep ≤ (s.sealed : Int)
    · have e : s.put d ep pos (rz a b2) = (7, s, d) := by unfold Sg.put; rw [if_neg h1, if_pos h5]
      rw [e]
      simp only [sgAt, dkAt, List.cons_append, List.nil_append]
      repeat' (first
 | refine SO.pure rfl rfl rfl ?_
 | refine SO.pure2 rfl rfl rfl ?_
 | refine SO.nil ?_
 | refine SO.guardY rfl rfl ?_
 | refine SO.load rfl (by repeat constructor) rfl (by rfl) (by exact ⟨rfl, by first | exact fun _ => rfl | exact (fun h => by cases h)⟩) rfl ?_
 | refine SK.seq ?_
 | refine SK.region ?_
 | refine SK.block ?_
 | refine SO.box rfl rfl rfl (fun b => ?_)
 | refine SO.guardYP rfl rfl (by first | assumption | (simp only [Go.Sl.bl]; omega)) ?_
 | refine SK.condTP rfl (by first | assumption | (simp only [Go.Sl.bl]; omega)) ?_
 | refine SK.condFP rfl (by first | assumption | (simp only [Go.Sl.bl]; omega)) ?_
 | fail)
      exact SK.retX (.tmp rfl .nil) p trivial rfl (by repeat constructor)
    · by_cases h6 : pos < (s.trim : Int)
      · have e : s.put d ep pos (rz a b2) = (8, s, d) := by unfold Sg.put; rw [if_neg h1, if_neg h5, if_pos h6]
        rw [e]
        simp only [sgAt, dkAt, List.cons_append, List.nil_append]
        repeat' (first
 | refine SO.pure rfl rfl rfl ?_
 | refine SO.pure2 rfl rfl rfl ?_
 | refine SO.nil ?_
 | refine SO.guardY rfl rfl ?_
 | refine SO.load rfl (by repeat constructor) rfl (by rfl) (by exact ⟨rfl, by first | exact fun _ => rfl | exact (fun h => by cases h)⟩) rfl ?_
 | refine SK.seq ?_
 | refine SK.region ?_
 | refine SK.block ?_
 | refine SO.box rfl rfl rfl (fun b => ?_)
 | refine SO.guardYP rfl rfl (by first | assumption | (simp only [Go.Sl.bl]; omega)) ?_
 | refine SK.condTP rfl (by first | assumption | (simp only [Go.Sl.bl]; omega)) ?_
 | refine SK.condFP rfl (by first | assumption | (simp only [Go.Sl.bl]; omega)) ?_
 | fail)
        exact SK.retX (.tmp rfl .nil) p trivial rfl (by repeat constructor)
      · cases hu0 : mget s.m pos with
        | some u0 =>
          have e : s.put d ep pos (rz a b2) = (5, s, d) := by unfold Sg.put; rw [if_neg h1, if_neg h5, if_neg h6, if_pos (by rw [hu0]; rfl)]
          rw [e]
          simp only [sgAt, dkAt, List.cons_append, List.nil_append]
          repeat' (first
 | refine SO.pure rfl rfl rfl ?_
 | refine SO.pure2 rfl rfl rfl ?_
 | refine SO.nil ?_
 | refine SO.guardY rfl rfl ?_
 | refine SO.load rfl (by repeat constructor) rfl (by rfl) (by exact ⟨rfl, by first | exact fun _ => rfl | exact (fun h => by cases h)⟩) rfl ?_
 | refine SK.seq ?_
 | refine SK.region ?_
 | refine SK.skip ?_
 | refine SK.block ?_
 | refine SK.blk ?_
 | refine SO.box rfl rfl rfl (fun b => ?_)
 | refine SO.guardYP rfl rfl (by first | assumption | (simp only [Go.Sl.bl]; omega)) ?_
 | refine SK.condFP rfl (by first | assumption | (simp only [Go.Sl.bl]; omega)) ?_
 | fail)
          refine SO.lookup (kr := KI .i64) (ρ := RSlt) rfl (by repeat constructor) (by rfl) rfl rfl (by rfl) rfl rfl (fun u hid hu => ?_) (fun hu => by rw [hu0] at hu; cases hu)
          repeat' (first
 | refine SO.pure rfl rfl rfl ?_
 | refine SO.nil ?_
 | refine SK.seq ?_
 | refine SK.region ?_
 | refine SK.condT rfl ?_
 | refine SO.alloc rfl rfl rfl (fun b => ?_)
 | refine SO.storeW rfl rfl (by repeat constructor) rfl (by rfl) (by rfl) (by rfl) ?_
 | fail)
          exact SK.retX (.tmp rfl .nil) p trivial rfl (by repeat constructor)
        | none =>
          have chk := check_does (rz a b2) h 8 (show bE.size ≤ lim by unfold lim; decide)
          rw [hr] at chk
          have i1 := itoa_does pos (by omega)
          have l1 := dec_len 9 pos.toNat (by omega)
          have rt := rtext_nil a b2 ⟨#[107]⟩ bE h ha hb (by decide) (by decide)
          have l2 : (recX (rz a b2)).length ≤ 30 := by
            have h2 := dec_len 4 a.toNat (by omega)
            have h3 := dec_len 4 b2.toNat (by omega)
            have h4 : (vecX (rz a b2).dep).length = 2 := rfl
            have h5 : (rz a b2).key.data.toList.length = 1 := rfl
            have h6 : (rz a b2).val.data.toList.length = 0 := rfl
            have h7 : (rz a b2).site = a := rfl
            have h8 : (rz a b2).seq = b2 := rfl
            unfold recX
            simp only [List.length_append, List.length_cons, List.length_nil, h4, h5, h6, h7, h8]
            omega
          generalize hux : txB (Lib.decDigits pos.toNat) = uu at *
          have s1 : uu.size ≤ 10 := by rw [← hux, size_txB]; exact l1
          have s2 : (txB (recX (rz a b2))).size ≤ 30 := by rw [size_txB]; exact l2
          have s3 : (txB (recX ⟨a, b2, [], ⟨#[107]⟩, bE⟩)).size ≤ 30 := s2
          have z1 : (⟨#[32]⟩ : ByteArray).size = 1 := rfl
          have z2 : (⟨#[112, 32]⟩ : ByteArray).size = 2 := rfl
          have t1 : ((⟨#[112, 32]⟩ : ByteArray) ++ uu).size ≤ 12 := by rw [ByteArray.size_append]; omega
          have t2 : ((⟨#[112, 32]⟩ : ByteArray) ++ uu ++ ⟨#[32]⟩).size ≤ 13 := by rw [ByteArray.size_append]; omega
          have t3 : ((⟨#[112, 32]⟩ : ByteArray) ++ uu ++ ⟨#[32]⟩ ++ txB (recX ⟨a, b2, [], ⟨#[107]⟩, bE⟩)).size ≤ 43 := by rw [ByteArray.size_append]; omega
          have hw := dwrite_does db p d ((⟨#[112, 32]⟩ : ByteArray) ++ uu ++ ⟨#[32]⟩ ++ txB (recX ⟨a, b2, [], ⟨#[107]⟩, bE⟩)) hd (by omega)
          have eline : (⟨#[112, 32]⟩ : ByteArray) ++ uu ++ ⟨#[32]⟩ ++ txB (recX ⟨a, b2, [], ⟨#[107]⟩, bE⟩) = txB (lineP pos.toNat (rz a b2)) := by
            rw [← hux]
            show txB [112, 32] ++ txB _ ++ txB [32] ++ txB _ = _
            simp only [txB_app]
            unfold lineP
            show txB _ = txB _
            congr 1
            simp [rz]
          repeat' (first
 | refine SO.pure rfl rfl rfl ?_
 | refine SO.pure2 rfl rfl rfl ?_
 | refine SO.nil ?_
 | refine SO.guardY rfl rfl ?_
 | refine SO.load rfl (by repeat constructor) rfl (by rfl) (by exact ⟨rfl, by first | exact fun _ => rfl | exact (fun h => by cases h)⟩) rfl ?_
 | refine SK.seq ?_
 | refine SK.region ?_
 | refine SK.skip ?_
 | refine SK.block ?_
 | refine SK.blk ?_
 | refine SO.box rfl rfl rfl (fun b => ?_)
 | refine SO.guardYP rfl rfl (by first | assumption | (simp only [Go.Sl.bl]; omega)) ?_
 | refine SK.condFP rfl (by first | assumption | (simp only [Go.Sl.bl]; omega)) ?_
 | fail)
          refine SO.lookup (kr := KI .i64) (ρ := RSlt) rfl (by repeat constructor) (by rfl) rfl rfl (by rfl) rfl rfl (fun u hid hu => by rw [hu0] at hu; cases hu) (fun hu => ?_)
          repeat' (first
 | refine SO.call (chk) rfl rfl rfl (by repeat constructor) (by repeat constructor) rfl (fun x hx => ?_)
 | refine SO.call (dlen_does db p d) rfl rfl rfl (by repeat constructor) (by repeat constructor) rfl (fun x hx => ?_)
 | refine SO.call (i1) rfl rfl rfl (by repeat constructor) (by repeat constructor) rfl (fun x hx => ?_)
 | refine SO.call (rt) rfl rfl rfl (by repeat constructor) (by repeat constructor) rfl (fun x hx => ?_)
 | refine SO.call (hw) rfl rfl rfl (by repeat constructor) (by repeat constructor) rfl (fun x hx => ?_)
 | refine SO.pure rfl rfl rfl ?_
 | refine SO.nil ?_
 | refine SO.loadW rfl (by repeat constructor) rfl rfl rfl (by rfl) rfl ?_
 | refine SO.load rfl (by repeat constructor) rfl (by rfl) (by exact ⟨rfl, by first | exact fun _ => rfl | exact (fun h => by cases h)⟩) rfl ?_
 | refine SK.seq ?_
 | refine SK.region ?_
 | refine SK.condF rfl ?_
 | refine SK.skip ?_
 | refine SO.alloc rfl rfl rfl (fun b => ?_)
 | refine SO.storeW rfl rfl (by repeat constructor) rfl (by rfl) (by rfl) (by rfl) ?_
 | refine SK.regionX 14 (.item 0 0 (.item 0 4 (.item 0 8 (.item 0 1 (.item 0 2 (.item 0 3 (.item 1 5 (.item 0 6 (.item 0 7 (.item 1 9 (.item 0 10 (.item 2 11 (.item 0 12 .nil))))))))))))) (noteL db p d) (by repeat constructor) (by repeat (first | exact .nil | apply PersSub.s | apply PersSub.t | apply PersSub.p | apply PersSub.r | apply PersSub.skip)) (by kernel_rfl) (by kernel_rfl) (fun _ _ _ h => h) ?_
 | refine SK.regionX 17 (.item 0 0 (.item 0 4 (.item 0 5 (.item 0 6 (.item 0 1 (.item 0 7 (.item 0 2 (.item 0 3 (.item 2 8 .nil))))))))) [] .nil (by repeat (first | exact .nil | apply PersSub.s | apply PersSub.t | apply PersSub.p | apply PersSub.r | apply PersSub.skip)) (by kernel_rfl) (by kernel_rfl) (fun _ _ _ h => h) ?_
 | refine SX.tail (by rfl) (by repeat (first | exact .nil | apply DropP.s | apply DropP.t | apply DropP.p | apply DropP.r | apply DropP.keep)) ?_
 | refine SX.pure rfl rfl rfl ?_
 | refine SX.loadW rfl (by repeat constructor) rfl rfl rfl (by rfl) rfl ?_
 | refine SX.load rfl (by repeat constructor) rfl (by rfl) (by exact ⟨rfl, by first | exact fun _ => rfl | exact (fun h => by cases h)⟩) rfl ?_
 | refine SX.scat rfl rfl rfl (by first | assumption | omega | exact Nat.le_of_ble_eq_true rfl | (simp only [decide_eq_true_eq, decide_eq_false_iff_not] at *; omega)) ?_
 | refine SX.step rfl rfl ?_
 | refine SK.invY ?_
 | refine SY.shareGo (by repeat (first | exact .nil | apply PersSub.s | apply PersSub.t | apply PersSub.p | apply PersSub.r | apply PersSub.skip)) ?_
 | fail)
          rw [eline]
          rename Pl => px
          by_cases he : (d.write (txB (lineP pos.toNat (rz a b2)))).1 = 0
          · have e : s.put d ep pos (rz a b2) = (0, { s with m := mput s.m pos (rz a b2, d.lines.length) }, (d.write (txB (lineP pos.toNat (rz a b2)))).2) := by
              unfold Sg.put
              rw [if_neg h1, if_neg h5, if_neg h6, if_neg (by rw [hu0]; simp), if_neg (fun hc => hc hr), if_neg (fun hc => hc he)]
            rw [e, decide_eq_true he]
            repeat' (first
 | refine SO.mapUpdate (kr := KI .i64) (ρ := RSlt) (u := (rz a b2, d.lines.length)) (h := h) (key := pos) rfl (by repeat constructor) rfl rfl (by repeat constructor) rfl rfl rfl ?_
 | refine SO.pure rfl rfl rfl ?_
 | refine SO.nil ?_
 | refine SK.seq ?_
 | refine SK.region ?_
 | refine SK.condF rfl ?_
 | refine SK.skip ?_
 | refine SK.regionX 14 (.item 0 0 (.item 0 4 (.item 0 8 (.item 0 1 (.item 0 2 (.item 0 3 (.item 1 5 (.item 0 6 (.item 0 7 (.item 1 9 (.item 0 10 (.item 2 11 (.item 0 12 .nil))))))))))))) [] .nil (by repeat (first | exact .nil | apply PersSub.s | apply PersSub.t | apply PersSub.p | apply PersSub.r | apply PersSub.skip)) (by kernel_rfl) (by kernel_rfl) (fun _ _ _ h => h) ?_
 | refine SK.regionX 17 (.item 0 0 (.item 0 4 (.item 0 5 (.item 0 6 (.item 0 1 (.item 0 7 (.item 0 2 (.item 0 3 (.item 2 8 .nil))))))))) (segL sb db mb s) (by repeat constructor) (by repeat (first | exact .nil | apply PersSub.s | apply PersSub.t | apply PersSub.p | apply PersSub.r | apply PersSub.skip)) (by kernel_rfl) (by kernel_rfl) (fun _ _ _ h => h) ?_
 | refine SX.tail (by rfl) (by repeat (first | exact .nil | apply DropP.s | apply DropP.t | apply DropP.p | apply DropP.r | apply DropP.keep)) ?_
 | refine SX.pure rfl rfl rfl ?_
 | refine SX.loadW rfl (by repeat constructor) rfl rfl rfl (by rfl) rfl ?_
 | refine SX.load rfl (by repeat constructor) rfl (by rfl) (by exact ⟨rfl, by first | exact fun _ => rfl | exact (fun h => by cases h)⟩) rfl ?_
 | refine SX.build rfl rfl rfl rfl ?_
 | fail)
            exact SK.retX (.tmp rfl .nil) px trivial rfl (by repeat constructor)
          · have e : s.put d ep pos (rz a b2) = ((d.write (txB (lineP pos.toNat (rz a b2)))).1, s, d) := by
              unfold Sg.put
              rw [if_neg h1, if_neg h5, if_neg h6, if_neg (by rw [hu0]; simp), if_neg (fun hc => hc hr), if_pos he]
            have e2 : (d.write (txB (lineP pos.toNat (rz a b2)))).2 = d := write_no he
            rw [e, decide_eq_false he, e2]
            repeat' (first
 | refine SO.pure rfl rfl rfl ?_
 | refine SO.nil ?_
 | refine SK.seq ?_
 | refine SK.region ?_
 | refine SK.condT rfl ?_
 | fail)
            exact SK.retX (.tmp rfl .nil) px trivial rfl (by repeat constructor)
end Go.Proofs
