/- A part of a proof: what functions of the program compute. -/
import Derived.Test.YtmbfcjffjgecjaaGreatDoorLog9E
import Derived.Test.YtmbfcjffjgecjaaGreatDoorLib2
set_option linter.unusedVariables false
set_option linter.unusedSimpArgs false
set_option maxHeartbeats 0
set_option maxRecDepth 20000
namespace Go.Proofs
attribute [local irreducible] Go.Sl.SO Go.Sl.SQ Go.Sl.SR Go.Sl.SC Go.Sl.SX Go.Sl.SY Go.Sl.eadr Go.Sl.slAt Go.Sl.sqAt Go.Sl.pts Go.Sl.rod Go.Sl.ob Go.Sl.ex Go.Sl.big Go.Sl.pr Go.Sl.tabs Go.Sl.mpAt Go.Sl.mitAt Go.Sl.mitN
open Go.Sl
abbrev nwA (b mblk : Nat) (k : Int) (own : Option Addr) (n : Nat) (sA : Pl) (sb : List Nat) : List HP := [pts b 0 [.pointer own, .slice sA.1 n sA.2, .slice (some ⟨mblk, 0, none⟩) 1 1, .int .i64 0, .slice none 0 0, .int .i64 0, .bool false], sqAt true RPt sA.1 n sA.2 sb, slAt RSp (some ⟨mblk, 0, none⟩) 1 [(0, k)], libA, tabs 4 5]
theorem lnew_does (k room : Int) (hk : 1 ≤ k ∧ k ≤ 8) (hr : 1 ≤ room ∧ room ≤ 1048576) : Does Tryz.prog 57 [.int .i64 k, .int .i64 room] [libA, tabs 4 5] [] (Nat × Lg) (fun x => LNew room k x.2) (fun x => .tuple #[.pointer (some ⟨x.1, 0, none⟩), .int .i64 0]) (fun x => lgAt x.1 x.2) := by
  refine Does.of Tryz.call57 Tryz.func57 rfl rfl rfl (all_cons pers_lib (all_cons (pers_tabs _ _) all_nil)) rfl ?_
  have h1 : decide (k < 1) = false := decide_eq_false (by omega)
  have h2 : decide (8 < k) = false := decide_eq_false (by omega)
  repeat' (first
 | refine SO.pure rfl rfl rfl ?_
 | refine SO.nil ?_
 | refine SO.guardY rfl rfl ?_
 | refine SO.build rfl rfl rfl rfl ?_
 | refine SK.seq ?_
 | refine SK.region ?_
 | refine SK.skip ?_
 | refine SK.block ?_
 | refine SO.box rfl rfl rfl (fun b => ?_)
 | refine SO.buildSlice rfl rfl rfl rfl rfl rfl (fun b => ?_)
 | refine SO.guardYP rfl rfl (by first | assumption | (simp only [Go.Sl.bl]; omega)) ?_
 | refine SK.condFP rfl (by first | assumption | (simp only [Go.Sl.bl]; omega)) ?_
 | fail)
  rename_i mblk
  rename Nat => lb
  refine SK.shift (toSl (ρ := RSp) (b := mblk) (l := [(0, k)]) [((0, k), ())] (by repeat constructor) rfl rfl rfl rfl (by repeat constructor)) ?_
  refine SK.shift (fun F w hst => hst.ent (Ent.cons ((ent_triv (A := sqAt true RPt none 0 0 [])).trans ent_none))) ?_
  refine SK.loop (X := Option {x : Nat × Pl × List SB × Nat // x.1 ≤ 8 ∧ x.2.2.1.length = x.1 ∧ ∀ s ∈ x.2.2.1, s.s = ⟨[], 0, 0⟩ ∧ s.d = ⟨room, [], 0⟩}) (fun o => match o with
      | none => [(22, .int .i64 0), (6, .pointer (some ⟨lb, 0, none⟩)), (1, .int .i64 room)]
      | some x => [(22, .int .i64 ((x.1.1 + 1 : Nat) : Int)), (6, .pointer (some ⟨lb, 0, none⟩)), (1, .int .i64 room)]) (fun o => match o with
      | none => nwA lb mblk k none 0 (none, 0) [] ++ [sbsA []]
      | some x => dkAt x.1.2.2.2 (none, 0) ⟨room, [], 0⟩ ++ nwA lb mblk k (some ⟨x.1.2.2.2, 0, none⟩) x.1.1 x.1.2.1 (x.1.2.2.1.map (·.sb)) ++ [sbsA x.1.2.2.1]) (fun o => match o with
      | none => 9
      | some x => 8 - x.1.1) none (by repeat constructor) (ent_append_of_takes (by repeat constructor)) ?_
  rintro (_ | ⟨⟨n, sA, l, ob⟩, hn0, hl0, hz0⟩)
  · dsimp only
    have hd1 : decide ((0 : Int) < 9) = true := by decide
    have hw : IntKind.i64.wrap ((0 : Int) + 1) = ((0 + 1 : Nat) : Int) := by decide
    have dn := dnew_does room hr
    repeat' (first
 | refine SO.call (dn) rfl rfl rfl (by repeat constructor) (by repeat constructor) rfl (fun x hx => ?_)
 | refine SO.pure rfl rfl rfl ?_
 | refine SO.pure2 rfl rfl rfl ?_
 | refine SO.nil ?_
 | refine SO.load rfl (by repeat constructor) rfl (by rfl) (by exact ⟨rfl, by first | exact fun _ => rfl | exact (fun h => by cases h)⟩) rfl ?_
 | refine SK.seq ?_
 | refine SK.region ?_
 | refine SK.condT rfl ?_
 | refine SK.condF rfl ?_
 | refine SK.skip ?_
 | refine SK.block ?_
 | refine SK.exit rfl ?_
 | refine SO.store rfl rfl (by repeat constructor) rfl (by rfl) rfl rfl (by rfl) (by rfl) ?_
 | fail)
    rename Nat => ob
    refine SK.inv ⟨some ⟨(0, (none, 0), [], ob), Nat.zero_le _, rfl, fun s hs => by cases hs⟩, ?_, ?_, ?_⟩
    · show 8 - 0 < 9
      omega
    · rw [hw]; repeat constructor
    · exact ent_append_of_takes (by repeat constructor)
  · have hn : n ≤ 8 := hn0
    have hl : l.length = n := hl0
    have hz : ∀ s ∈ l, s.s = ⟨[], 0, 0⟩ ∧ s.d = ⟨room, [], 0⟩ := hz0
    dsimp only
    have hw : IntKind.i64.wrap (((n + 1 : Nat) : Int) + 1) = ((n + 1 + 1 : Nat) : Int) := by rw [wrap_id (by omega) (by omega)]; omega
    rcases Nat.lt_or_ge n 8 with hlt | hge
    · have hd1 : decide (((n + 1 : Nat) : Int) < 9) = true := decide_eq_true (by omega)
      have dn := dnew_does room hr
      have so := fun db => sopen_does db (none, 0) ⟨[], 0, 0⟩ ⟨room, [], 0⟩ (ply0 hr)
      have hlm : n + 1 ≤ lim := by unfold lim; omega
      repeat' (first
 | refine SO.append (ρ := RPt) (w := true) (ys := [x.1]) rfl rfl (by repeat constructor) (Src.one (h := ()) (by repeat constructor) (by rfl) (by repeat constructor)) rfl rfl rfl rfl rfl rfl rfl (by omega) (fun A3 c3 => ?_)
 | refine SO.call (dn) rfl rfl rfl (by repeat constructor) (by repeat constructor) rfl (fun x hx => ?_)
 | refine SO.call (so _) rfl rfl rfl (by repeat constructor) (by repeat constructor) rfl (fun x hx => ?_)
 | refine SO.pure rfl rfl rfl ?_
 | refine SO.pure2 rfl rfl rfl ?_
 | refine SO.nil ?_
 | refine SO.load rfl (by repeat constructor) rfl (by rfl) (by exact ⟨rfl, by first | exact fun _ => rfl | exact (fun h => by cases h)⟩) rfl ?_
 | refine SK.seq ?_
 | refine SK.region ?_
 | refine SK.condF rfl ?_
 | refine SK.skip ?_
 | refine SK.block ?_
 | refine SK.blk ?_
 | refine SO.store rfl rfl (by repeat constructor) rfl (by rfl) rfl rfl (by rfl) (by rfl) ?_
 | refine SO.buildSlice rfl rfl rfl rfl rfl rfl (fun b => ?_)
 | refine SK.condTP rfl (by first | assumption | (simp only [Go.Sl.bl]; omega)) ?_
 | fail)
      rename Nat × Nat => y
      refine SK.inv ⟨some ⟨(n + 1, (A3, c3), l ++ [⟨y.1, x, y.2, (none, 0), ⟨[], 0, 0⟩, ⟨room, [], 0⟩⟩], ob), by show n + 1 ≤ 8; omega, by show (l ++ _).length = n + 1; rw [List.length_append, hl]; rfl, fun s hs => ?_⟩, ?_, ?_, ?_⟩
      · rcases List.mem_append.1 hs with hs | hs
        · exact hz s hs
        · simp at hs; subst hs; exact ⟨rfl, rfl⟩
      · show 8 - (n + 1) < 8 - n
        omega
      · rw [hw]; repeat constructor
      · dsimp only
        rw [List.map_append]
        apply ent_push (l := l) (x := ⟨y.1, x, y.2, (none, 0), ⟨[], 0, 0⟩, ⟨room, [], 0⟩⟩) (A := dkAt ob (none, 0) ⟨room, [], 0⟩ ++ nwA lb mblk k (some ⟨ob, 0, none⟩) (n + 1) (A3, c3) (l.map (·.sb) ++ [y.1]))
        repeat constructor
    · have hd1 : decide (((n + 1 : Nat) : Int) < 9) = false := decide_eq_false (by omega)
      obtain rfl : n = 8 := by omega
      repeat' (first
 | refine SO.pure rfl rfl rfl ?_
 | refine SO.nil ?_
 | refine SK.seq ?_
 | refine SK.region ?_
 | refine SK.condF rfl ?_
 | refine SK.exit rfl ?_
 | fail)
      refine SK.shift (fun F w hst => hst.ent (Ent.cons ((ent_triv (A := pr (([] : List Int).length ≤ 0))).trans (ent_triv (A := slAt RI none 0 []))))) ?_
      exact SK.retX (.tmp rfl (.tmp rfl .nil)) (lb, ⟨ob, (none, 0), ⟨room, [], 0⟩, sA, l, (some ⟨mblk, 0, none⟩, 1), [(0, k)], 0, (none, 0), [], 0, false⟩) ⟨rfl, rfl, rfl, rfl, rfl, rfl, hl, hz⟩ rfl (by simp only [lgAt, hl]; repeat constructor)
end Go.Proofs
