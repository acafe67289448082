/- A part of a proof: what functions of the program compute. -/
import Derived.Test.YtmbfcjffjgecjaaGreatDoorLog4E
import Derived.Test.YtmbfcjffjgecjaaGreatDoorLib2
set_option linter.unusedVariables false
set_option linter.unusedSimpArgs false
set_option maxHeartbeats 0
set_option maxRecDepth 20000
namespace Go.Sl
theorem nzF_at {l : List Int} {i j : Nat} {y : Int} (h : (nzF 0 l)[i]? = some (j, y)) : j < l.length := by
  have hg : ∀ (l : List Int) (k : Nat) (p : Nat × Int), p ∈ nzF k l → p.1 < k + l.length := by
    intro l
    induction l with
    | nil => intro k p hp; simp [nzF] at hp
    | cons a l ih =>
      intro k p hp
      simp only [nzF] at hp
      split at hp
      · have := ih (k + 1) p hp
        simp only [List.length_cons]; omega
      · rcases List.mem_cons.1 hp with rfl | hp
        · simp only [List.length_cons]; omega
        · have := ih (k + 1) p hp
          simp only [List.length_cons]; omega
  have := hg l 0 _ (List.mem_of_getElem? h)
  simpa using this
end Go.Sl
namespace Go.Proofs
attribute [local irreducible] Go.Sl.SO Go.Sl.SQ Go.Sl.SR Go.Sl.SC Go.Sl.SX Go.Sl.SY Go.Sl.eadr Go.Sl.slAt Go.Sl.sqAt Go.Sl.pts Go.Sl.rod Go.Sl.ob Go.Sl.ex Go.Sl.big Go.Sl.pr Go.Sl.tabs Go.Sl.mpAt Go.Sl.mitAt Go.Sl.mitN
open Go.Sl
theorem vtext_does (A : Option Addr) (n c : Nat) (v : List Int) (hv : ∀ x ∈ v, 0 ≤ x ∧ x ≤ 1048576) (hl : v.length ≤ 64) (hc : v.length ≤ c) : Does Tryz.prog 112 [.slice A n c] [libA, slAt RI A n v] [] Unit (fun _ => True) (fun _ => .string (txB (vecX v))) (fun _ => []) := by
  refine Does.of Tryz.call112 Tryz.func112 rfl rfl rfl (all_cons pers_lib (all_cons (pers_slAt _ _ _ _) all_nil)) rfl ?_
  refine SK.know (sl_len (ρ := RI) (A := A) (n := n) (l := v) (by repeat constructor)) ?_
  rintro ⟨rfl, hlim, -⟩
  repeat' (first
 | refine SO.call (all_does _ _ _) rfl rfl rfl (by repeat constructor) (by repeat constructor) rfl (fun x hx => ?_)
 | refine SO.pure rfl rfl rfl ?_
 | refine SO.nil ?_
 | refine SK.seq ?_
 | refine SK.region ?_
 | refine SK.block ?_
 | refine SO.alloc rfl rfl rfl (fun b => ?_)
 | refine SO.storeW rfl rfl (by repeat constructor) rfl (by rfl) (by rfl) (by rfl) ?_
 | fail)
  refine SK.range (nziter x A v.length c v) Empty (fun i => [pts b 0 [.int .i64 ((((nzF 0 v).take i).foldl (fun _ p => p.1 + 1) 0 : Nat) : Int)]]) (fun _ => []) (fun y => y.elim) rfl (by repeat constructor) (by repeat constructor) rfl (fun _ _ => rfl) ?_ ?_ (fun y => y.elim)
  · rintro i ⟨j, y⟩ hid q R hr
    have hj := nzF_at hr
    have hw : IntKind.i64.wrap ((j : Int) + 1) = ((((nzF 0 v).take (i + 1)).foldl (fun _ p => p.1 + 1) 0 : Nat) : Int) := by
      rw [List.take_add_one, hr, wrap_id (by omega) (by omega)]
      simp
    repeat' (first
 | refine SO.pure rfl rfl rfl ?_
 | refine SO.nil ?_
 | refine SK.region ?_
 | fail)
    refine SK.inv ?_
    repeat' (first
 | refine SO.pure rfl rfl rfl ?_
 | refine SO.nil ?_
 | refine SK.region ?_
 | refine SK.block ?_
 | refine SK.blk ?_
 | refine SO.storeW rfl rfl (by repeat constructor) rfl (by rfl) (by rfl) (by rfl) ?_
 | fail)
    rw [hw]
    exact SK.nil (ent_append_of_takes (by repeat constructor))
  · rw [List.take_length, nzF_last, show (if lastN v = 0 then 0 else 0 + lastN v) = lastN v by split <;> omega]
    refine SK.blk ?_
    have hle := lastN_le v
    have hc0 : lastN v ≤ c := by omega
    repeat' (first
 | refine SO.pure rfl rfl rfl ?_
 | refine SO.nil ?_
 | refine SO.load rfl (by repeat constructor) rfl (by rfl) (by exact ⟨rfl, by first | exact fun _ => rfl | exact (fun h => by cases h)⟩) rfl ?_
 | refine SO.slice (k1 := .i64) (k2 := .i64) rfl rfl rfl (by repeat constructor) rfl rfl (by rfl) rfl (by exact .inr ⟨rfl, rfl⟩) (by exact .inl rfl) (by omega) (by omega) (by assumption) (fun As cs hcs => ?_)
 | refine SK.seq ?_
 | refine SK.region ?_
 | refine SK.block ?_
 | refine SO.slice (k1 := .i64) (k2 := .i64) rfl rfl rfl (by repeat constructor) rfl rfl (by rfl) rfl (by first | exact .inl rfl | exact .inr ⟨rfl, rfl⟩) (by first | exact .inl rfl | exact .inr ⟨rfl, rfl⟩) (by first | assumption | omega | exact Nat.le_of_ble_eq_true rfl | (simp only [decide_eq_true_eq, decide_eq_false_iff_not] at *; omega)) (by first | assumption | omega | exact Nat.le_of_ble_eq_true rfl | (simp only [decide_eq_true_eq, decide_eq_false_iff_not] at *; omega)) (by assumption) (fun As cs hcs => ?_)
 | fail)
    simp only [Nat.sub_zero, List.drop_zero, trimV_take]
    have hln : (trimV v).length = lastN v := rfl
    rw [← hln]
    refine SK.shift (fun F w hst => hst.ent (Ent.cons (ent_triv (A := sqAt false RS none 0 0 [])))) ?_
    refine SK.loop (X := {i : Nat // i ≤ (trimV v).length} × Pl) (fun x => [(18, .int .i64 (x.1.1 : Int)), (17, .int .i64 ((trimV v).length : Int)), (16, .slice As (trimV v).length cs), (5, .slice x.2.1 x.1.1 x.2.2)]) (fun x => [libA, slAt RI As (trimV v).length (trimV v), sqAt false RS x.2.1 x.1.1 x.2.2 (decs ((trimV v).take x.1.1))]) (fun x => (trimV v).length - x.1.1) (⟨0, Nat.zero_le _⟩, (none, 0)) (by repeat constructor) (ent_append_of_takes (by repeat constructor)) ?_
    rintro ⟨⟨i, hi⟩, A0, c0⟩
    dsimp only
    have hwi : IntKind.i64.wrap ((i : Int) + 1) = ((i + 1 : Nat) : Int) := by rw [wrap_id (by omega) (by omega)]; omega
    rcases Nat.lt_or_ge i (trimV v).length with hil | hil
    · have hd1 : decide ((i : Int) < ((trimV v).length : Int)) = true := decide_eq_true (by omega)
      obtain ⟨y, hy⟩ : ∃ y, (trimV v)[i]? = some y := ⟨_, List.getElem?_eq_getElem hil⟩
      have hb := hv y (trimV_mem (List.mem_of_getElem? hy))
      have it := itoa_does y (by omega)
      have hlm : i + 1 ≤ lim := by unfold lim; omega
      repeat' (first
 | refine SO.append (ρ := RS) (w := false) (ys := [txB (Lib.decDigits y.toNat)]) rfl rfl (by repeat constructor) (Src.one (h := ()) (by repeat constructor) (by rfl) (by repeat constructor)) rfl rfl rfl rfl rfl rfl rfl (by omega) (fun A3 c3 => ?_)
 | refine SO.call (it) rfl rfl rfl (by repeat constructor) (by repeat constructor) rfl (fun x hx => ?_)
 | refine SO.indexH rfl rfl (by repeat constructor) rfl rfl rfl rfl (by assumption) ?_
 | refine SO.pure rfl rfl rfl ?_
 | refine SO.nil ?_
 | refine SO.eloadW rfl (by repeat constructor) (by assumption) rfl (by rfl) rfl (by rfl) rfl (fun hid => ?_)
 | refine SK.seq ?_
 | refine SK.region ?_
 | refine SK.skip ?_
 | refine SK.block ?_
 | refine SK.blk ?_
 | refine SO.buildSlice rfl rfl rfl rfl rfl rfl (fun b => ?_)
 | refine SK.condTP rfl (by first | assumption | (simp only [Go.Sl.bl]; omega)) ?_
 | fail)
      refine SK.inv ⟨(⟨i + 1, by omega⟩, (A3, c3)), ?_, ?_, ?_⟩
      · show (trimV v).length - (i + 1) < (trimV v).length - i
        omega
      · rw [hwi]; repeat constructor
      · have e6 : decs ((trimV v).take (i + 1)) = decs ((trimV v).take i) ++ [txB (Lib.decDigits y.toNat)] := by
          rw [List.take_add_one, hy]; simp [decs]
        dsimp only
        rw [e6]
        exact ent_append_of_takes (by repeat constructor)
    · have hd1 : decide ((i : Int) < ((trimV v).length : Int)) = false := decide_eq_false (by omega)
      obtain rfl : i = (trimV v).length := by omega
      simp only [List.take_length]
      have el : (decs (trimV v)).length = (trimV v).length := List.length_map _
      have hjl := joinX_len 7 ((trimV v).map fun n => Lib.decDigits n.toNat) (by
        intro w hw
        obtain ⟨n, hn, rfl⟩ := List.mem_map.1 hw
        have := hv n (trimV_mem hn)
        exact dec_len 6 n.toNat (by omega))
      rw [List.length_map] at hjl
      refine SK.know (sq_len (w := false) (ρ := RS) (A := A0) (n := (trimV v).length) (c := c0) (l := decs (trimV v)) (by repeat constructor)) ?_
      rintro ⟨-, -, hc3, -⟩
      refine SK.share (ρ := RS) (w' := false) (A := A0) (n := (trimV v).length) (m := c0) (l := decs (trimV v)) (by repeat constructor) ?_
      have jo := join_does (A0, c0) (decs (trimV v)) ⟨#[32]⟩ (by rw [el]; exact hc3) (by
        rw [show (⟨#[32]⟩ : ByteArray).data.toList = [32] from rfl, decs_join]; omega)
      rw [show (⟨#[32]⟩ : ByteArray).data.toList = [32] from rfl, decs_join, el] at jo
      have z1 : (txB (joinX ((trimV v).map fun n => Lib.decDigits n.toNat))).size ≤ 1000 := by rw [size_txB]; omega
      have z2 : (⟨#[91]⟩ ++ txB (joinX ((trimV v).map fun n => Lib.decDigits n.toNat)) : ByteArray).size ≤ 1001 := by rw [ByteArray.size_append]; show 1 + _ ≤ 1001; omega
      have z3 : (⟨#[91]⟩ : ByteArray).size = 1 := rfl
      have z4 : (⟨#[93]⟩ : ByteArray).size = 1 := rfl
      generalize hjj : joinX ((trimV v).map fun n => Lib.decDigits n.toNat) = jj at *
      repeat' (first
 | refine SO.call (jo) rfl rfl rfl (by repeat constructor) (by repeat constructor) rfl (fun x hx => ?_)
 | refine SO.pure rfl rfl rfl ?_
 | refine SO.nil ?_
 | refine SK.seq ?_
 | refine SK.region ?_
 | refine SK.exit rfl ?_
 | refine SO.scat rfl rfl rfl (by first | assumption | omega | exact Nat.le_of_ble_eq_true rfl | (simp only [decide_eq_true_eq, decide_eq_false_iff_not] at *; omega)) ?_
 | refine SK.condFP rfl (by first | assumption | (simp only [Go.Sl.bl]; omega)) ?_
 | fail)
      refine SK.retX (.tmp rfl .nil) () trivial ?_ (by repeat constructor)
      show Value.string (txB [91] ++ txB jj ++ txB [93]) = _
      simp only [txB_app]
      unfold vecX
      rw [hjj]
      simp
end Go.Proofs
