/- A part of a proof: what functions of the program compute. -/
import Derived.Test.YtbaalaaoggplmaaDoorBookD
set_option linter.unusedVariables false
set_option linter.unusedSimpArgs false
set_option maxHeartbeats 0
namespace Go.Proofs
attribute [local irreducible] Go.Sl.SO Go.Sl.SQ Go.Sl.SR Go.Sl.SC Go.Sl.SX Go.Sl.SY Go.Sl.eadr Go.Sl.slAt Go.Sl.sqAt Go.Sl.pts Go.Sl.rod Go.Sl.ob Go.Sl.ex Go.Sl.big Go.Sl.pr Go.Sl.tabs Go.Sl.mpAt
open Go.Sl

theorem cl_eq (e f : Cl) : (eqS e.key f.key && (eqS e.val f.val && (decide (e.site = f.site) && (decide (e.seq = f.seq) && true)))) = decide (e = f) := by
  cases e; cases f
  rw [Bool.eq_iff_iff]
  simp [eqS_iff]
theorem same_step {a b : List Cl} {i : Nat} {u v : Cl} (hu : a[i]? = some u) (hv : b[i]? = some v) (h : a.take i = b.take i) (e : u = v) : a.take (i + 1) = b.take (i + 1) := by
  rw [List.take_add_one, List.take_add_one, hu, hv, h, e]
theorem equal_does (A B : Option Addr) (n m c c2 : Nat) (a b : List Cl) : Does Tryd.prog 56 [.slice A n c, .slice B m c2] [slAt RCl A n a, slAt RCl B m b] [] Unit (fun _ => True) (fun _ => .bool (decide (a = b))) (fun _ => []) := by
  refine Does.of Tryd.call56 Tryd.func56 rfl rfl rfl (all_cons (pers_slAt _ _ _ _) (all_cons (pers_slAt _ _ _ _) all_nil)) rfl ?_
  refine SK.know (sl_len (ρ := RCl) (A := A) (n := n) (l := a) (by repeat constructor)) ?_
  rintro ⟨rfl, hlim, -⟩
  refine SK.know (sl_len (ρ := RCl) (A := B) (n := m) (l := b) (by repeat constructor)) ?_
  rintro ⟨rfl, hlim2, -⟩
  repeat' (first
    | (refine SO.pure rfl rfl rfl ?_)
    | (refine SO.nil ?_)
    | (refine SK.seq ?_)
    | (refine SK.region ?_)
    | fail)
  by_cases hne : a.length = b.length
  case neg =>
    rw [decide_eq_false (show ¬ (a.length : Int) = (b.length : Int) by omega), decide_eq_false (show ¬ a = b from fun e => hne (by rw [e]))]
    repeat' (first
    | (refine SO.pure rfl rfl rfl ?_)
    | (refine SO.nil ?_)
    | (refine SK.seq ?_)
    | (refine SK.region ?_)
    | (refine SK.condT rfl ?_)
    | fail)
    exact SK.retX (.tmp rfl .nil) () trivial rfl (by repeat constructor)
  rw [decide_eq_true (show (a.length : Int) = (b.length : Int) by omega)]
  repeat' (first
    | (refine SO.pure rfl rfl rfl ?_)
    | (refine SO.nil ?_)
    | (refine SK.seq ?_)
    | (refine SK.region ?_)
    | (refine SK.condF rfl ?_)
    | (refine SK.skip ?_)
    | (refine SK.block ?_)
    | fail)
  refine SK.loop (X := {i : Nat // i ≤ a.length ∧ a.take i = b.take i}) (fun i => [(0, .slice A a.length c), (1, .slice B b.length c2), (12, .int .i64 (a.length : Int)), (13, .int .i64 (i.1 : Int))]) (fun i => [slAt RCl A a.length a, slAt RCl B b.length b]) (fun i => a.length - i.1) ⟨0, Nat.zero_le _, by simp⟩ (by repeat constructor) (ent_append_of_takes (by repeat constructor)) ?_
  rintro ⟨i, hi, hall⟩
  dsimp only
  have hwi := wrapn (show i ≤ lim by omega)
  rcases Nat.lt_or_ge i a.length with hil | hil
  · have hd1 : decide ((i : Int) < (a.length : Int)) = true := decide_eq_true (by omega)
    obtain ⟨u, hu⟩ : ∃ u, a[i]? = some u := ⟨_, List.getElem?_eq_getElem hil⟩
    obtain ⟨v, hv⟩ : ∃ v, b[i]? = some v := ⟨_, List.getElem?_eq_getElem (by omega)⟩
    repeat' (first
    | (refine SO.pure rfl rfl rfl ?_)
    | (refine SO.nil ?_)
    | (refine SK.seq ?_)
    | (refine SK.region ?_)
    | (refine SK.skip ?_)
    | (refine SK.block ?_)
    | (refine SK.condTP rfl (by first | assumption | (simp only [decide_eq_true_eq, decide_eq_false_iff_not, Bool.not_eq_true', Bool.not_eq_false', Bool.not_true, Bool.not_false, Bool.not_not]; omega)) ?_)
    | (refine SK.regionX 6 (.item 0 0 (.item 0 1 (.item 0 4 (.item 0 5 (.item 0 2 (.item 0 6 (.item 0 3 (.item 0 7 (.item 0 8 .nil))))))))) [] .nil (by repeat (first | exact .nil | apply PersSub.s | apply PersSub.t | apply PersSub.p | apply PersSub.r | apply PersSub.skip)) (by kernel_rfl) (by kernel_rfl) (fun _ _ _ h => h) ?_)
    | (refine SX.tail (by rfl) (by repeat (first | exact .nil | apply DropP.s | apply DropP.t | apply DropP.p | apply DropP.r | apply DropP.keep)) ?_)
    | (refine SX.indexH rfl rfl (by repeat constructor) rfl rfl rfl rfl (by assumption) ?_)
    | (refine SX.pure rfl rfl rfl ?_)
    | (refine SX.eloadW rfl (by repeat constructor) (by assumption) rfl (by rfl) rfl (by rfl) rfl (fun hid => ?_))
    | (refine SX.agg rfl rfl rfl rfl (by first | exact .inl ⟨rfl, rfl⟩ | exact .inr ⟨rfl, rfl⟩) (by kernel_rfl) rfl ?_)
    | fail)
    rw [hd1]
    skip
    rw [cl_eq u v]
    by_cases huv : u = v
    · rw [decide_eq_true huv]
      repeat' (first
    | (refine SO.pure rfl rfl rfl ?_)
    | (refine SO.nil ?_)
    | (refine SK.region ?_)
    | (refine SK.condF rfl ?_)
    | (refine SK.skip ?_)
    | (refine SK.blk ?_)
    | fail)
      refine SK.inv ⟨⟨i + 1, by omega, same_step hu hv hall huv⟩, ?_, ?_, ?_⟩
      · show a.length - (i + 1) < a.length - i
        omega
      · rw [hwi]; repeat constructor
      · exact ent_append_of_takes (by repeat constructor)
    · have hab : ¬ a = b := fun e => by rw [e, hv] at hu; cases hu; exact huv rfl
      rw [decide_eq_false huv, decide_eq_false hab]
      repeat' (first
    | (refine SO.pure rfl rfl rfl ?_)
    | (refine SO.nil ?_)
    | (refine SK.seq ?_)
    | (refine SK.region ?_)
    | (refine SK.condT rfl ?_)
    | fail)
      exact SK.retX (.tmp rfl .nil) () trivial rfl (by repeat constructor)
  · have hd1 : decide ((i : Int) < (a.length : Int)) = false := decide_eq_false (by omega)
    rw [List.take_of_length_le hil, List.take_of_length_le (by omega)] at hall
    rw [decide_eq_true hall]
    repeat' (first
    | (refine SO.pure rfl rfl rfl ?_)
    | (refine SO.nil ?_)
    | (refine SK.seq ?_)
    | (refine SK.region ?_)
    | (refine SK.exit rfl ?_)
    | (refine SK.condFP rfl (by first | assumption | (simp only [decide_eq_true_eq, decide_eq_false_iff_not, Bool.not_eq_true', Bool.not_eq_false', Bool.not_true, Bool.not_false, Bool.not_not]; omega)) ?_)
    | fail)
    rw [hd1]
    skip
    exact SK.retX (.tmp rfl .nil) () trivial rfl (by repeat constructor)
theorem same_does (A B : Option Addr) (n m c c2 : Nat) (a b : List Cl) : Does Tryd.prog 33 [.slice A n c, .slice B m c2] [slAt RCl A n a, slAt RCl B m b] [] Unit (fun _ => True) (fun _ => .bool (decide (a = b))) (fun _ => []) := by
  refine Does.of Tryd.call33 Tryd.func33 rfl rfl rfl (all_cons (pers_slAt _ _ _ _) (all_cons (pers_slAt _ _ _ _) all_nil)) rfl ?_
  repeat' (first
    | (refine SO.call (equal_does A B n m c c2 a b) rfl rfl rfl (by repeat constructor) (by repeat constructor) rfl (fun x hx => ?_))
    | (refine SO.pure rfl rfl rfl ?_)
    | (refine SO.nil ?_)
    | (refine SK.seq ?_)
    | (refine SK.region ?_)
    | fail)
  exact SK.retX (.tmp rfl .nil) () trivial rfl (by repeat constructor)
theorem rsamebook_does (A B : Option Addr) (n m c c2 : Nat) (a b : List Cl) : Does Tryd.prog 45 [.slice A n c, .slice B m c2] [slAt RCl A n a, slAt RCl B m b] [] Unit (fun _ => True) (fun _ => .bool (decide (a = b))) (fun _ => []) := by
  refine Does.of Tryd.call45 Tryd.func45 rfl rfl rfl (all_cons (pers_slAt _ _ _ _) (all_cons (pers_slAt _ _ _ _) all_nil)) rfl ?_
  refine SK.know (sl_len (ρ := RCl) (A := A) (n := n) (l := a) (by repeat constructor)) ?_
  rintro ⟨rfl, hlim, -⟩
  refine SK.know (sl_len (ρ := RCl) (A := B) (n := m) (l := b) (by repeat constructor)) ?_
  rintro ⟨rfl, hlim2, -⟩
  repeat' (first
    | (refine SO.pure rfl rfl rfl ?_)
    | (refine SO.nil ?_)
    | (refine SK.seq ?_)
    | (refine SK.region ?_)
    | fail)
  by_cases hne : a.length = b.length
  case neg =>
    rw [decide_eq_false (show ¬ (a.length : Int) = (b.length : Int) by omega), decide_eq_false (show ¬ a = b from fun e => hne (by rw [e]))]
    repeat' (first
    | (refine SO.pure rfl rfl rfl ?_)
    | (refine SO.nil ?_)
    | (refine SK.seq ?_)
    | (refine SK.region ?_)
    | (refine SK.condT rfl ?_)
    | fail)
    exact SK.retX (.tmp rfl .nil) () trivial rfl (by repeat constructor)
  rw [decide_eq_true (show (a.length : Int) = (b.length : Int) by omega)]
  repeat' (first
    | (refine SO.pure rfl rfl rfl ?_)
    | (refine SO.nil ?_)
    | (refine SK.seq ?_)
    | (refine SK.region ?_)
    | (refine SK.condF rfl ?_)
    | (refine SK.skip ?_)
    | (refine SK.block ?_)
    | fail)
  refine SK.loop (X := {i : Nat // i ≤ a.length ∧ a.take i = b.take i}) (fun i => [(0, .slice A a.length c), (1, .slice B b.length c2), (5, .int .i64 (i.1 : Int))]) (fun i => [slAt RCl A a.length a, slAt RCl B b.length b]) (fun i => a.length - i.1) ⟨0, Nat.zero_le _, by simp⟩ (by repeat constructor) (ent_append_of_takes (by repeat constructor)) ?_
  rintro ⟨i, hi, hall⟩
  dsimp only
  have hwi := wrapn (show i ≤ lim by omega)
  rcases Nat.lt_or_ge i a.length with hil | hil
  · have hd1 : decide ((i : Int) < (a.length : Int)) = true := decide_eq_true (by omega)
    obtain ⟨u, hu⟩ : ∃ u, a[i]? = some u := ⟨_, List.getElem?_eq_getElem hil⟩
    obtain ⟨v, hv⟩ : ∃ v, b[i]? = some v := ⟨_, List.getElem?_eq_getElem (by omega)⟩
    repeat' (first
    | (refine SO.pure rfl rfl rfl ?_)
    | (refine SO.nil ?_)
    | (refine SK.seq ?_)
    | (refine SK.region ?_)
    | (refine SK.skip ?_)
    | (refine SK.block ?_)
    | (refine SK.condTP rfl (by first | assumption | (simp only [decide_eq_true_eq, decide_eq_false_iff_not, Bool.not_eq_true', Bool.not_eq_false', Bool.not_true, Bool.not_false, Bool.not_not]; omega)) ?_)
    | (refine SK.regionX 6 (.item 0 0 (.item 0 1 (.item 0 4 (.item 0 5 (.item 0 2 (.item 0 6 (.item 0 3 (.item 0 7 (.item 0 8 .nil))))))))) [] .nil (by repeat (first | exact .nil | apply PersSub.s | apply PersSub.t | apply PersSub.p | apply PersSub.r | apply PersSub.skip)) (by kernel_rfl) (by kernel_rfl) (fun _ _ _ h => h) ?_)
    | (refine SX.tail (by rfl) (by repeat (first | exact .nil | apply DropP.s | apply DropP.t | apply DropP.p | apply DropP.r | apply DropP.keep)) ?_)
    | (refine SX.indexH rfl rfl (by repeat constructor) rfl rfl rfl rfl (by assumption) ?_)
    | (refine SX.pure rfl rfl rfl ?_)
    | (refine SX.eloadW rfl (by repeat constructor) (by assumption) rfl (by rfl) rfl (by rfl) rfl (fun hid => ?_))
    | (refine SX.agg rfl rfl rfl rfl (by first | exact .inl ⟨rfl, rfl⟩ | exact .inr ⟨rfl, rfl⟩) (by kernel_rfl) rfl ?_)
    | fail)
    rw [hd1]
    skip
    rw [cl_eq u v]
    by_cases huv : u = v
    · rw [decide_eq_true huv]
      repeat' (first
    | (refine SO.pure rfl rfl rfl ?_)
    | (refine SO.nil ?_)
    | (refine SK.region ?_)
    | (refine SK.condF rfl ?_)
    | (refine SK.skip ?_)
    | (refine SK.blk ?_)
    | fail)
      refine SK.inv ⟨⟨i + 1, by omega, same_step hu hv hall huv⟩, ?_, ?_, ?_⟩
      · show a.length - (i + 1) < a.length - i
        omega
      · rw [hwi]; repeat constructor
      · exact ent_append_of_takes (by repeat constructor)
    · have hab : ¬ a = b := fun e => by rw [e, hv] at hu; cases hu; exact huv rfl
      rw [decide_eq_false huv, decide_eq_false hab]
      repeat' (first
    | (refine SO.pure rfl rfl rfl ?_)
    | (refine SO.nil ?_)
    | (refine SK.seq ?_)
    | (refine SK.region ?_)
    | (refine SK.condT rfl ?_)
    | fail)
      exact SK.retX (.tmp rfl .nil) () trivial rfl (by repeat constructor)
  · have hd1 : decide ((i : Int) < (a.length : Int)) = false := decide_eq_false (by omega)
    rw [List.take_of_length_le hil, List.take_of_length_le (by omega)] at hall
    rw [decide_eq_true hall]
    repeat' (first
    | (refine SO.pure rfl rfl rfl ?_)
    | (refine SO.nil ?_)
    | (refine SK.seq ?_)
    | (refine SK.region ?_)
    | (refine SK.exit rfl ?_)
    | (refine SK.condFP rfl (by first | assumption | (simp only [decide_eq_true_eq, decide_eq_false_iff_not, Bool.not_eq_true', Bool.not_eq_false', Bool.not_true, Bool.not_false, Bool.not_not]; omega)) ?_)
    | fail)
    rw [hd1]
    skip
    exact SK.retX (.tmp rfl .nil) () trivial rfl (by repeat constructor)
/-- What a key's cell is told as. -/
def gotB (b : List Cl) (k : ByteArray) : Cl := (getB b k).getD ⟨bE, bE, 0, 0⟩
theorem rgetc_does (A : Option Addr) (n c : Nat) (l : List Cl) (k : ByteArray) : Does Tryd.prog 46 [.slice A n c, .string k] [slAt RCl A n l] [] Unit (fun _ => True) (fun _ => .tuple #[RCl.val (gotB l k) (), .bool (getB l k).isSome]) (fun _ => []) := by
  refine Does.of Tryd.call46 Tryd.func46 rfl rfl rfl (all_cons (pers_slAt _ _ _ _) all_nil) rfl ?_
  refine SK.know (sl_len (ρ := RCl) (A := A) (n := n) (l := l) (by repeat constructor)) ?_
  rintro ⟨rfl, hlim, -⟩
  repeat' (first
    | (refine SO.pure rfl rfl rfl ?_)
    | (refine SO.nil ?_)
    | (refine SK.seq ?_)
    | (refine SK.region ?_)
    | (refine SK.block ?_)
    | (refine SO.alloc rfl rfl rfl (fun b => ?_))
    | fail)
  refine SK.loop (X := {i : Nat // i ≤ l.length ∧ (l.take i).all (fun x => !decide (x.key = k)) = true}) (fun i => [(0, .slice A l.length c), (1, .string k), (4, .pointer (some ⟨b, 0, none⟩)), (6, .int .i64 (i.1 : Int))]) (fun i => [pts b 0 [.string bE, .string bE, .int .i64 0, .int .i64 0], slAt RCl A l.length l]) (fun i => l.length - i.1) ⟨0, Nat.zero_le _, by simp⟩ (by repeat constructor) (ent_append_of_takes (by repeat constructor)) ?_
  rintro ⟨i, hi, hall⟩
  dsimp only
  have hwi := wrapn (show i ≤ lim by omega)
  rcases Nat.lt_or_ge i l.length with hil | hil
  · have hd1 : decide ((i : Int) < (l.length : Int)) = true := decide_eq_true (by omega)
    obtain ⟨u, hu⟩ : ∃ u, l[i]? = some u := ⟨_, List.getElem?_eq_getElem hil⟩
    repeat' (first
    | (refine SO.indexH rfl rfl (by repeat constructor) rfl rfl rfl rfl (by assumption) ?_)
    | (refine SO.pure rfl rfl rfl ?_)
    | (refine SO.nil ?_)
    | (refine SO.efield rfl rfl rfl rfl rfl ?_)
    | (refine SO.eload rfl (by repeat constructor) (by assumption) rfl (by rfl) (by exact fun _ => ⟨rfl, fun _ => rfl⟩) rfl (fun hid => ?_))
    | (refine SK.seq ?_)
    | (refine SK.region ?_)
    | (refine SK.skip ?_)
    | (refine SK.block ?_)
    | (refine SK.condTP rfl (by first | assumption | (simp only [decide_eq_true_eq, decide_eq_false_iff_not, Bool.not_eq_true', Bool.not_eq_false', Bool.not_true, Bool.not_false, Bool.not_not]; omega)) ?_)
    | fail)
    rw [hd1]
    skip
    by_cases hq : u.key = k
    · have hf : getB l k = some u := find_at hall hu (decide_eq_true hq)
      rw [eqS_iff.2 hq, gotB, hf]
      repeat' (first
    | (refine SO.indexH rfl rfl (by repeat constructor) rfl rfl rfl rfl (by assumption) ?_)
    | (refine SO.pure rfl rfl rfl ?_)
    | (refine SO.nil ?_)
    | (refine SO.eloadW rfl (by repeat constructor) (by assumption) rfl (by rfl) rfl (by rfl) rfl (fun hid => ?_))
    | (refine SK.seq ?_)
    | (refine SK.region ?_)
    | (refine SK.condT rfl ?_)
    | (refine SO.storeW rfl rfl (by repeat constructor) rfl (by rfl) (by rfl) (by rfl) ?_)
    | fail)
      exact SK.retX (.cell rfl (by repeat constructor) rfl rfl (by exact ⟨rfl, fun h => by cases h⟩) (.tmp rfl .nil)) () trivial rfl (by repeat constructor)
    · rw [show eqS u.key k = false by rw [Bool.eq_false_iff]; exact fun h => hq (eqS_iff.1 h)]
      repeat' (first
    | (refine SO.pure rfl rfl rfl ?_)
    | (refine SO.nil ?_)
    | (refine SK.region ?_)
    | (refine SK.condF rfl ?_)
    | (refine SK.skip ?_)
    | (refine SK.blk ?_)
    | fail)
      refine SK.inv ⟨⟨i + 1, by omega, not_step hall hu (decide_eq_false hq)⟩, ?_, ?_, ?_⟩
      · show l.length - (i + 1) < l.length - i
        omega
      · rw [hwi]; repeat constructor
      · exact ent_append_of_takes (by repeat constructor)
  · have hd1 : decide ((i : Int) < (l.length : Int)) = false := decide_eq_false (by omega)
    have hno : getB l k = none := find_none hall hil
    rw [gotB, hno]
    repeat' (first
    | (refine SO.pure rfl rfl rfl ?_)
    | (refine SO.nil ?_)
    | (refine SO.build rfl rfl rfl rfl ?_)
    | (refine SK.seq ?_)
    | (refine SK.region ?_)
    | (refine SK.exit rfl ?_)
    | (refine SO.storeW rfl rfl (by repeat constructor) rfl (by rfl) (by rfl) (by rfl) ?_)
    | (refine SK.condFP rfl (by first | assumption | (simp only [decide_eq_true_eq, decide_eq_false_iff_not, Bool.not_eq_true', Bool.not_eq_false', Bool.not_true, Bool.not_false, Bool.not_not]; omega)) ?_)
    | fail)
    rw [hd1]
    skip
    exact SK.retX (.cell rfl (by repeat constructor) rfl rfl (by exact ⟨rfl, fun h => by cases h⟩) (.tmp rfl .nil)) () trivial rfl (by repeat constructor)
theorem getb_does (A : Option Addr) (n c : Nat) (l : List Cl) (k : ByteArray) (hr : ris l) : Does Tryd.prog 44 [.slice A n c, .string k] [slAt RCl A n l] [] Unit (fun _ => True) (fun _ => .tuple #[RCl.val (gotB l k) (), .bool (getB l k).isSome]) (fun _ => []) := by
  refine Does.of Tryd.call44 Tryd.func44 rfl rfl rfl (all_cons (pers_slAt _ _ _ _) all_nil) rfl ?_
  refine SK.know (sl_len (ρ := RCl) (A := A) (n := n) (l := l) (by repeat constructor)) ?_
  rintro ⟨rfl, hlim, -⟩
  repeat' (first
    | (refine SO.call (find_does A l.length c l k hr) rfl rfl rfl (by repeat constructor) (by repeat constructor) rfl (fun x hx => ?_))
    | (refine SO.pure rfl rfl rfl ?_)
    | (refine SO.nil ?_)
    | (refine SK.seq ?_)
    | (refine SK.region ?_)
    | (refine SO.alloc rfl rfl rfl (fun b => ?_))
    | fail)
  have hg := posB_getB (k := k) hr
  cases hh : hasB l k with
  | false =>
    rw [hh] at hg
    simp only [Bool.false_eq_true, if_false] at hg
    rw [gotB, hg]
    repeat' (first
    | (refine SO.pure rfl rfl rfl ?_)
    | (refine SO.nil ?_)
    | (refine SO.build rfl rfl rfl rfl ?_)
    | (refine SK.seq ?_)
    | (refine SK.region ?_)
    | (refine SK.condT rfl ?_)
    | (refine SO.storeW rfl rfl (by repeat constructor) rfl (by rfl) (by rfl) (by rfl) ?_)
    | fail)
    exact SK.retX (.cell rfl (by repeat constructor) rfl rfl (by exact ⟨rfl, fun h => by cases h⟩) (.tmp rfl .nil)) () trivial rfl (by repeat constructor)
  | true =>
    rw [hh] at hg
    simp only [if_true] at hg
    obtain ⟨u, hu⟩ : ∃ u, l[posB l k]? = some u := by
      unfold hasB at hh
      cases hx : l[posB l k]? with
      | none => rw [hx] at hh; cases hh
      | some u => exact ⟨u, rfl⟩
    rw [gotB, hg, hu]
    repeat' (first
    | (refine SO.indexH rfl rfl (by repeat constructor) rfl rfl rfl rfl (by assumption) ?_)
    | (refine SO.pure rfl rfl rfl ?_)
    | (refine SO.nil ?_)
    | (refine SO.eloadW rfl (by repeat constructor) (by assumption) rfl (by rfl) rfl (by rfl) rfl (fun hid => ?_))
    | (refine SK.seq ?_)
    | (refine SK.region ?_)
    | (refine SK.condF rfl ?_)
    | (refine SK.skip ?_)
    | (refine SO.storeW rfl rfl (by repeat constructor) rfl (by rfl) (by rfl) (by rfl) ?_)
    | fail)
    exact SK.retX (.cell rfl (by repeat constructor) rfl rfl (by exact ⟨rfl, fun h => by cases h⟩) (.tmp rfl .nil)) () trivial rfl (by repeat constructor)
end Go.Proofs
