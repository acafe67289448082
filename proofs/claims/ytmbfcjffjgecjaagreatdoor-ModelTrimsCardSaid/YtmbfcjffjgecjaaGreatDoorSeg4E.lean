/- A part of a proof: what functions of the program compute. -/
import Derived.Test.YtmbfcjffjgecjaaGreatDoorSeg2E
import Derived.Test.YtmbfcjffjgecjaaGreatDoorLib2
import Derived.Test.YtmbfcjffjgecjaaGreatDoorLib1
set_option linter.unusedVariables false
set_option linter.unusedSimpArgs false
set_option maxHeartbeats 0
namespace Go.Sl
def EK1 : Enc Int where
  V := Unit
  args := fun x _ => [.int .i64 x]
  atoms := fun _ _ => []
  pers := fun _ _ _ h => by cases h
def EPR : Enc (Int × Rc) where
  V := Pl
  args := fun x h => [.int .i64 x.1, RRec.val x.2 h]
  atoms := fun x h => RRec.atoms x.2 h
  pers := fun x h A hA => RRec.pers x.2 h A hA
end Go.Sl
namespace Go.Proofs
attribute [local irreducible] Go.Sl.SO Go.Sl.SQ Go.Sl.SR Go.Sl.SC Go.Sl.SX Go.Sl.SY Go.Sl.eadr Go.Sl.slAt Go.Sl.sqAt Go.Sl.pts Go.Sl.rod Go.Sl.ob Go.Sl.ex Go.Sl.big Go.Sl.pr Go.Sl.tabs Go.Sl.mpAt Go.Sl.mitAt Go.Sl.mitN
open Go.Sl
theorem keys_does (mb : Nat) : Does Tryz.prog 105 [.map (some mb)] [] [] Nat (fun _ => True) (fun x => .func (.func 142) #[] #[.pointer (some ⟨x, 0, none⟩)]) (fun x => [pts x 0 [.map (some mb)]]) := by
  refine Does.of Tryz.call105 Tryz.func105 rfl rfl rfl all_nil rfl ?_
  repeat' (first
 | refine SO.pure rfl rfl rfl ?_
 | refine SO.nil ?_
 | refine SK.seq ?_
 | refine SK.region ?_
 | refine SO.box rfl rfl rfl (fun b => ?_)
 | fail)
  exact SK.retX (.tmp rfl .nil) _ trivial rfl (by repeat constructor)
theorem keysiter (bx mb : Nat) (l : List (Int × Slt)) : IterU Tryz.prog 142 [.pointer (some ⟨bx, 0, none⟩)] EK1 (keysM l) [] [pts bx 0 [.map (some mb)], mpAt (KI .i64) RSlt mb l] [mpAt (KI .i64) RSlt mb l] [mpAt (KI .i64) RSlt mb l] := by
  intro q J Jx hy
  refine Does.of Tryz.call142 Tryz.func142 rfl rfl rfl all_nil rfl ?_
  refine SK.know (mp_nodup (kr := KI .i64) (ρ := RSlt) (b := mb) (l := l) (by repeat constructor)) (fun hnd => ?_)
  repeat' (first
 | refine SO.load rfl (by repeat constructor) rfl (by rfl) (by exact ⟨rfl, by first | exact fun _ => rfl | exact (fun h => by cases h)⟩) rfl ?_
 | refine SK.seq ?_
 | refine SK.region ?_
 | fail)
  refine SO.rangeMap (kr := KI .i64) (ρ := RSlt) rfl (by repeat constructor) rfl rfl (fun r => ?_)
  repeat' (first
 | refine SO.nil ?_
 | refine SK.block ?_
 | fail)
  refine SK.loop (X := {x : List (Int × Slt) × List Int // (keysM x.1).Nodup ∧ (x.2 ++ keysM x.1).Perm (keysM l)}) (fun x => [(5, .pointer (some ⟨r, 0, none⟩)), (0, yv q)]) (fun x => [J x.1.2, mitAt (KI .i64) RSlt r mb l x.1.1]) (fun x => x.1.1.length) ⟨(l, []), hnd, List.Perm.refl _⟩ (by repeat constructor) (ent_append_of_takes (by repeat constructor)) ?_
  rintro ⟨⟨left, seen⟩, hJ⟩
  have hJ1 : (keysM left).Nodup := hJ.1
  have hJ2 : (seen ++ keysM left).Perm (keysM l) := hJ.2
  dsimp only
  repeat' (first
 | refine SK.seq ?_
 | refine SK.region ?_
 | fail)
  refine SO.nextMapN (kr := KI .i64) (ρ := RSlt) rfl (by repeat constructor) rfl ?_ ?_
  · rintro rfl
    refine SO.itMap (kr := KI .i64) (ρ := RSlt) (by repeat constructor) ?_
    repeat' (first
 | refine SO.pure rfl rfl rfl ?_
 | refine SO.nil ?_
 | refine SK.seq ?_
 | refine SK.condF rfl ?_
 | refine SK.exit rfl ?_
 | fail)
    have hp : seen.Perm (keysM l) := by simpa [keysM] using hJ2
    exact SK.endX .nil (true, seen) (fun _ => hp) rfl (by repeat constructor)
  · intro k u hh hkl hkl2
    have hkm : k ∈ keysM left := List.mem_map.2 ⟨_, hkl, rfl⟩
    have hlt := mdel_lt hkm
    have hks : k ∉ seen := fun hm => by
      have hn2 : (seen ++ keysM left).Nodup := hJ2.nodup_iff.2 hnd
      exact (List.nodup_append.1 hn2).2.2 k hm k hkm rfl
    have hkL : k ∈ keysM l := List.mem_map.2 ⟨_, hkl2, rfl⟩
    repeat' (first
 | refine SO.pure rfl rfl rfl ?_
 | refine SO.nil ?_
 | refine SK.seq ?_
 | refine SK.region ?_
 | refine SK.condT rfl ?_
 | refine SK.skip ?_
 | refine SK.block ?_
 | fail)
    refine SO.entry (kr := KI .i64) (ρ := RSlt) rfl (by repeat constructor) rfl ?_
    refine SO.itAt (kr := KI .i64) (ρ := RSlt) (by repeat constructor) ?_
    repeat' (first
 | refine SO.pure rfl rfl rfl ?_
 | refine SO.nil ?_
 | refine SK.seq ?_
 | refine SK.region ?_
 | fail)
    have hsl : seen.length < (keysM l).length := by
      have h1 := hJ2.length_eq
      rw [List.length_append] at h1
      have : 0 < (keysM left).length := List.length_pos_of_mem hkm
      omega
    have hY := hy seen k () hkL hks hsl
    refine SO.callF (vs := EK1.args k ()) rfl rfl hY .nil (by repeat constructor) rfl (fun rr hrr => ?_)
    cases rr
    · refine SO.itMap (kr := KI .i64) (ρ := RSlt) (by repeat constructor) ?_
      repeat' (first
 | refine SO.pure rfl rfl rfl ?_
 | refine SO.nil ?_
 | refine SK.condT rfl ?_
 | fail)
      exact SK.retX .nil (false, seen) (fun h => by cases h) rfl (by repeat constructor)
    · repeat' (first
 | refine SO.pure rfl rfl rfl ?_
 | refine SO.nil ?_
 | refine SK.condF rfl ?_
 | refine SK.skip ?_
 | refine SK.blk ?_
 | fail)
      refine SK.inv ⟨⟨(mdel left k, seen ++ [k]), nodup_mdel hJ1 _, ?_⟩, hlt, by repeat constructor, ?_⟩
      · have hpk : (k :: keysM (mdel left k)).Perm (keysM left) := keys_del_perm hkm
        rw [List.append_assoc]
        exact ((List.Perm.refl seen).append (show ([k] ++ keysM (mdel left k)).Perm (keysM left) from hpk)).trans hJ2
      · exact ent_append_of_takes (by repeat constructor)
theorem appseq_does (bx mb : Nat) (l : List (Int × Slt)) (hl : l.length < lim) : Does Tryz.prog 164 [.slice none 0 0, .func (.func 142) #[] #[.pointer (some ⟨bx, 0, none⟩)]] [] [pts bx 0 [.map (some mb)], mpAt (KI .i64) RSlt mb l] (Pl × List Int) (fun x => x.2.Perm (keysM l)) (fun x => .slice x.1.1 x.2.length x.1.2) (fun x => [sqAt true RI x.1.1 x.2.length x.1.2 x.2, mpAt (KI .i64) RSlt mb l]) := by
  refine Does.of Tryz.call164 Tryz.func164 rfl rfl rfl all_nil rfl ?_
  have hkl : (keysM l).length = l.length := List.length_map _
  repeat' (first
 | refine SO.pure rfl rfl rfl ?_
 | refine SO.nil ?_
 | refine SK.seq ?_
 | refine SK.region ?_
 | refine SK.block ?_
 | refine SO.box rfl rfl rfl (fun b => ?_)
 | fail)
  refine SK.shift (fun F w hst => hst.ent (Ent.cons ((ent_triv (A := sqAt true RI none 0 0 [])).trans (ent_closeR (R := []) (A := fun y : Pl => big [pts b 0 [.slice y.1 ([] : List Int).length y.2], sqAt true RI y.1 ([] : List Int).length y.2 []]) (x := ((none, 0) : Pl)) rfl (by repeat constructor))))) ?_
  refine SK.rangeU (keysiter bx mb l) (fun seen => [ex fun y : Pl => big [pts b 0 [.slice y.1 seen.length y.2], sqAt true RI y.1 seen.length y.2 seen]]) rfl .nil (by repeat constructor) rfl (fun _ _ => rfl) ?_ ?_
  · intro seen k hid q R hx hs hsl
    have hlm : seen.length + 1 ≤ lim := by omega
    refine SK.openEx .here (fun y => ?_)
    refine SK.openBig .here ?_
    repeat' (first
 | refine SO.pure rfl rfl rfl ?_
 | refine SO.nil ?_
 | refine SK.region ?_
 | fail)
    refine SK.inv ?_
    repeat' (first
 | refine SO.append (ρ := RI) (w := true) (ys := [k]) rfl rfl (by repeat constructor) (Src.one (h := ()) (by repeat constructor) (by rfl) (by repeat constructor)) rfl rfl rfl rfl rfl rfl rfl (by omega) (fun A3 c3 => ?_)
 | refine SO.pure rfl rfl rfl ?_
 | refine SO.nil ?_
 | refine SO.load rfl (by repeat constructor) rfl (by rfl) (by exact ⟨rfl, by first | exact fun _ => rfl | exact (fun h => by cases h)⟩) rfl ?_
 | refine SK.region ?_
 | refine SK.block ?_
 | refine SK.blk ?_
 | refine SO.storeW rfl rfl (by repeat constructor) rfl (by rfl) (by rfl) (by rfl) ?_
 | refine SO.buildSlice rfl rfl rfl rfl rfl rfl (fun b => ?_)
 | fail)
    have el : (seen ++ [k]).length = seen.length + 1 := by simp
    simp only [el]
    refine SK.nil ?_
    show Ent _ (busyA q R :: _)
    refine Ent.trans ?_ Ent.swap
    exact ent_close (R := [busyA q R]) (x := ((A3, c3) : Pl)) rfl (by repeat constructor)
  · intro ys hp
    refine SK.blk ?_
    refine SK.openEx .here (fun y => ?_)
    refine SK.openBig .here ?_
    repeat' (first
 | refine SO.pure rfl rfl rfl ?_
 | refine SO.nil ?_
 | refine SO.load rfl (by repeat constructor) rfl (by rfl) (by exact ⟨rfl, by first | exact fun _ => rfl | exact (fun h => by cases h)⟩) rfl ?_
 | refine SK.seq ?_
 | refine SK.region ?_
 | fail)
    exact SK.retX (.tmp rfl .nil) (y, ys) hp rfl (by repeat constructor)
theorem collect_does (bx mb : Nat) (l : List (Int × Slt)) (hl : l.length < lim) : Does Tryz.prog 140 [.func (.func 142) #[] #[.pointer (some ⟨bx, 0, none⟩)]] [] [pts bx 0 [.map (some mb)], mpAt (KI .i64) RSlt mb l] (Pl × List Int) (fun x => x.2.Perm (keysM l)) (fun x => .slice x.1.1 x.2.length x.1.2) (fun x => [sqAt true RI x.1.1 x.2.length x.1.2 x.2, mpAt (KI .i64) RSlt mb l]) := by
  refine Does.of Tryz.call140 Tryz.func140 rfl rfl rfl all_nil rfl ?_
  repeat' (first
 | refine SO.call (appseq_does bx mb l hl) rfl rfl rfl (by repeat constructor) (by repeat constructor) rfl (fun x hx => ?_)
 | refine SO.pure rfl rfl rfl ?_
 | refine SO.nil ?_
 | refine SK.seq ?_
 | refine SK.region ?_
 | fail)
  exact SK.retX (.tmp rfl .nil) x hx rfl (by repeat constructor)
theorem sorted_does (bx mb : Nat) (l : List (Int × Slt)) (hl : l.length < lim) : Does Tryz.prog 104 [.func (.func 142) #[] #[.pointer (some ⟨bx, 0, none⟩)]] [] [pts bx 0 [.map (some mb)], mpAt (KI .i64) RSlt mb l] Pl (fun x => True) (fun x => .slice x.1 (sortI (keysM l)).length x.2) (fun x => [sqAt true RI x.1 (sortI (keysM l)).length x.2 (sortI (keysM l)), mpAt (KI .i64) RSlt mb l]) := by
  refine Does.of Tryz.call104 Tryz.func104 rfl rfl rfl all_nil rfl ?_
  repeat' (first
 | refine SO.call (collect_does bx mb l hl) rfl rfl rfl (by repeat constructor) (by repeat constructor) rfl (fun x hx => ?_)
 | refine SO.pure rfl rfl rfl ?_
 | refine SO.nil ?_
 | refine SK.seq ?_
 | refine SK.region ?_
 | fail)
  obtain ⟨px, ys⟩ := x
  dsimp only at hx ⊢
  have es : sortI ys = sortI (keysM l) := ris_uniq (sort_ris _) (sort_ris _) ((sort_perm ys).trans (hx.trans (sort_perm _).symm))
  have el : (sortI (keysM l)).length = ys.length := by rw [← es]; exact (sort_perm ys).length_eq
  repeat' (first
 | refine SO.call (sort_does px ys) rfl rfl rfl (by repeat constructor) (by repeat constructor) rfl (fun x hx => ?_)
 | refine SO.pure rfl rfl rfl ?_
 | refine SO.nil ?_
 | refine SK.seq ?_
 | refine SK.region ?_
 | fail)
  rw [es, ← el]
  exact SK.retX (.tmp rfl .nil) px trivial rfl (by repeat constructor)
theorem sall_does (sb : Nat) : Does Tryz.prog 43 [.pointer (some ⟨sb, 0, none⟩)] [] [] Nat (fun _ => True) (fun x => .func (.func 103) #[] #[.pointer (some ⟨x, 0, none⟩)]) (fun x => [pts x 0 [.pointer (some ⟨sb, 0, none⟩)]]) := by
  refine Does.of Tryz.call43 Tryz.func43 rfl rfl rfl all_nil rfl ?_
  repeat' (first
 | refine SO.pure rfl rfl rfl ?_
 | refine SO.nil ?_
 | refine SK.seq ?_
 | refine SK.region ?_
 | refine SO.box rfl rfl rfl (fun b => ?_)
 | fail)
  exact SK.retX (.tmp rfl .nil) _ trivial rfl (by repeat constructor)
theorem salliter (bx sb db mb : Nat) (s : Sg) (hl : s.m.length < lim) : Iter Tryz.prog 103 [.pointer (some ⟨bx, 0, none⟩)] EPR s.all [] (pts bx 0 [.pointer (some ⟨sb, 0, none⟩)] :: sgAt sb db mb s) (fun _ => sgAt sb db mb s) (sgAt sb db mb s) := by
  intro q J Jx hy
  refine Does.of Tryz.call103 Tryz.func103 rfl rfl rfl all_nil rfl ?_
  have hal : s.all.length = s.keys.length := by unfold Sg.all; rw [List.length_map]
  have hkl : s.keys.length < lim := by
    unfold Sg.keys
    rw [(sort_perm _).length_eq]
    unfold keysM
    rw [List.length_map]; exact hl
  have hget : ∀ (i : Nat) (k : Int), s.keys[i]? = some k → s.all[i]? = some (k, recM s.m k) ∧ (mget s.m k).isSome = true := by
    intro i k hk
    refine ⟨by unfold Sg.all; rw [List.getElem?_map, hk]; rfl, mget_isSome.2 ((sort_perm _).subset (List.mem_of_getElem? hk))⟩
  simp only [sgAt, List.cons_append, List.nil_append]
  repeat' (first
 | refine SO.call (keys_does mb) rfl rfl rfl (by repeat constructor) (by repeat constructor) rfl (fun x hx => ?_)
 | refine SO.call (sorted_does x mb s.m hl) rfl rfl rfl (by repeat constructor) (by repeat constructor) rfl (fun x hx => ?_)
 | refine SO.pure rfl rfl rfl ?_
 | refine SO.nil ?_
 | refine SO.load rfl (by repeat constructor) rfl (by rfl) (by exact ⟨rfl, by first | exact fun _ => rfl | exact (fun h => by cases h)⟩) rfl ?_
 | refine SK.seq ?_
 | refine SK.region ?_
 | refine SK.block ?_
 | fail)
  refine SK.share (ρ := RI) (by repeat constructor) ?_
  refine SK.loop (X := {i : Nat // i ≤ s.keys.length}) (fun i => [(12, .int .i64 (i.1 : Int)), (11, .int .i64 (s.keys.length : Int)), (10, .slice x.1 s.keys.length x.2), (1, .pointer (some ⟨bx, 0, none⟩)), (0, yv q)])
    (fun i => [J i.1, slAt RI x.1 s.keys.length s.keys, pts bx 0 [.pointer (some ⟨sb, 0, none⟩)], pts sb 0 [.pointer (some ⟨db, 0, none⟩), .map (some mb), .int .i64 (s.sealed : Int), .int .i64 (s.trim : Int)], mpAt (KI .i64) RSlt mb s.m]) (fun i => s.keys.length - i.1) ⟨0, by omega⟩ (by repeat constructor) (ent_append_of_takes (by repeat constructor)) ?_
  rintro ⟨i, hi⟩
  dsimp only
  have hwi := wrapn (show i ≤ lim by omega)
  rcases Nat.lt_or_ge i s.keys.length with hil | hil
  · have hd1 : decide ((i : Int) < (s.keys.length : Int)) = true := decide_eq_true (by omega)
    obtain ⟨k, hu⟩ : ∃ k, s.keys[i]? = some k := ⟨_, List.getElem?_eq_getElem hil⟩
    obtain ⟨hga, hgs⟩ := hget i k hu
    repeat' (first
 | refine SO.indexH rfl rfl (by repeat constructor) rfl rfl rfl rfl (by assumption) ?_
 | refine SO.pure rfl rfl rfl ?_
 | refine SO.nil ?_
 | refine SO.load rfl (by repeat constructor) rfl (by rfl) (by exact ⟨rfl, by first | exact fun _ => rfl | exact (fun h => by cases h)⟩) rfl ?_
 | refine SO.eloadW rfl (by repeat constructor) (by assumption) rfl (by rfl) rfl (by rfl) rfl (fun hid => ?_)
 | refine SK.seq ?_
 | refine SK.region ?_
 | refine SK.skip ?_
 | refine SK.block ?_
 | refine SK.condTP rfl (by first | assumption | (simp only [Go.Sl.bl]; omega)) ?_
 | fail)
    rw [hd1]
    skip
    refine SO.lookup (kr := KI .i64) (ρ := RSlt) rfl (by repeat constructor) (by rfl) rfl rfl (by rfl) rfl rfl (fun u hid2 hu2 => ?_) (fun hu2 => by rw [hu2] at hgs; cases hgs)
    have hrec : recM s.m k = u.1 := by unfold recM; rw [hu2]
    rw [hrec] at hga
    repeat' (first
 | refine SO.field rfl rfl rfl rfl (by exact ⟨rfl, by first | exact fun _ => rfl | exact (fun h => by cases h)⟩) rfl ?_
 | fail)
    have hY := hy i (k, u.1) hid2 hga
    refine SO.callF (vs := EPR.args (k, u.1) hid2) rfl rfl hY (by repeat constructor) (by repeat constructor) rfl (fun rr hrr => ?_)
    cases rr
    · repeat' (first
 | refine SO.pure rfl rfl rfl ?_
 | refine SO.nil ?_
 | refine SK.condT rfl ?_
 | fail)
      exact SK.retX .nil (some i) (fun j h => by cases h; omega) rfl (by repeat constructor)
    · repeat' (first
 | refine SO.pure rfl rfl rfl ?_
 | refine SO.nil ?_
 | refine SK.region ?_
 | refine SK.condF rfl ?_
 | refine SK.skip ?_
 | refine SK.blk ?_
 | fail)
      refine SK.inv ⟨⟨i + 1, by omega⟩, ?_, ?_, ?_⟩
      · show s.keys.length - (i + 1) < s.keys.length - i
        omega
      · rw [hwi]; repeat constructor
      · exact ent_append_of_takes (by repeat constructor)
  · have hd1 : decide ((i : Int) < (s.keys.length : Int)) = false := decide_eq_false (by omega)
    obtain rfl : i = s.keys.length := by omega
    repeat' (first
 | refine SO.pure rfl rfl rfl ?_
 | refine SO.nil ?_
 | refine SK.seq ?_
 | refine SK.region ?_
 | refine SK.exit rfl ?_
 | refine SK.condFP rfl (by first | assumption | (simp only [Go.Sl.bl]; omega)) ?_
 | fail)
    rw [hd1]
    skip
    rw [← hal]
    exact SK.endX .nil none (fun _ h => by cases h) rfl (by repeat constructor)
end Go.Proofs
