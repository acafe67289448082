/- A part of a proof: a walk over the model by a small separation logic. -/
import Derived.Test.YtmbfcjffjgecjaaGreatDoorLib1
import Derived.Lib.SlTrimSet
import Derived.Test.YtmbfcjffjgecjaaGreatDoorLib0
set_option linter.unusedVariables false
set_option linter.unusedSimpArgs false
namespace Go.Sl
def Sg.upto (s : Sg) (i : Nat) : Sg := { s with m := s.m.filter fun p => decide (p.2.2 < i) }
theorem upto_all {s : Sg} {i : Nat} (h : ∀ p ∈ s.m, p.2.2 < i) : s.upto i = s := by
  unfold Sg.upto
  rw [List.filter_eq_self.2 fun p hp => decide_eq_true (h p hp)]
theorem upto_upto {s : Sg} {i : Nat} : (s.upto i).upto i = s.upto i := upto_all fun p hp => of_decide_eq_true (List.mem_filter.1 hp).2
structure SgI (s : Sg) (d : Dk) : Prop where
  ok : d.Ok
  lt : ∀ p ∈ s.m, p.2.2 < d.lines.length
  nd : (keysM s.m).Nodup
  fr : ∀ i, d.lasts ≤ i → i ≤ d.lines.length → (⟨[], 0, 0⟩ : Sg).plays 0 (txs (d.lines.take i)) = some (s.upto i)
theorem SgI.ply {s : Sg} {d : Dk} (h : SgI s d) : Ply s d := ⟨h.ok, by
  have := h.fr d.lines.length h.ok.lasts (Nat.le_refl _)
  rwa [List.take_length, upto_all h.lt] at this⟩
theorem sgi_zero {room : Int} (h : 1 ≤ room ∧ room ≤ 1048576) : SgI ⟨[], 0, 0⟩ ⟨room, [], 0⟩ :=
  ⟨⟨h, by show ((0 : Nat) : Int) ≤ room; omega, Nat.le_refl _⟩, (by intro p hp; cases hp), List.nodup_nil, fun i h1 h2 => by
    have : i = 0 := Nat.le_zero.1 h2
    subst this; rfl⟩
theorem mput_nodup {l : List (Int × Slt)} {n : Int} {x : Slt} (h : mget l n = none) (hd : (keysM l).Nodup) : (keysM (mput l n x)).Nodup := by
  rw [mput_end h]
  unfold keysM at hd ⊢
  rw [List.map_append, List.nodup_append]
  refine ⟨hd, by simp, ?_⟩
  intro a ha b hb
  simp only [List.map_cons, List.map_nil, List.mem_singleton] at hb
  subst hb
  rintro rfl
  have : (mget l a).isSome = true := mget_isSome.2 ha
  rw [h] at this; cases this
theorem sgi_put {s : Sg} {d : Dk} {n : Nat} {r : Rc} (h : SgI s d) (hn : n ≤ 2147483647) (h3 : s.trim ≤ n) (h4 : mget s.m (n : Int) = none) (h5 : checkR r 8 = 0) (ht : r.trim = r) (hr : (usedL d.lines : Int) + (lineP n r).length + 1 ≤ d.room) :
    SgI { s with m := mput s.m (n : Int) (r, d.lines.length) } { d with lines := d.lines ++ [txB (lineP n r)] } := by
  have hp := push_ok (t := lineP n r) (n := d.lasts) h.ok (by have := h.ok.lasts; omega) hr
  refine ⟨hp, ?_, mput_nodup h4 h.nd, ?_⟩
  · intro p hp
    simp only at hp ⊢
    rw [mput_end h4] at hp
    rw [List.length_append]
    rcases List.mem_append.1 hp with hp | hp
    · have := h.lt p hp; simp; omega
    · simp at hp; subst hp; simp
  · intro i h1 h2
    simp only at h1 h2 ⊢
    rw [List.length_append] at h2
    simp only [List.length_cons, List.length_nil] at h2
    rcases Nat.lt_or_ge d.lines.length i with hlt | hle
    · have hi : i = d.lines.length + 1 := by omega
      have hall : ∀ p ∈ mput s.m (n : Int) (r, d.lines.length), p.2.2 < i := by
        intro p hp
        rw [mput_end h4] at hp
        rcases List.mem_append.1 hp with hp | hp
        · have := h.lt p hp; omega
        · simp at hp; subst hp; show d.lines.length < i; omega
      rw [upto_all (s := { s with m := mput s.m (n : Int) (r, d.lines.length) }) hall, List.take_of_length_le (by rw [List.length_append]; simp; omega)]
      exact (ply_push h.ply (take_put hn h3 h4 h5 ht) (n := d.lasts) (by have := h.ok.lasts; omega) hr).pl
    · rw [List.take_append_of_le_length hle, h.fr i h1 hle]
      congr 1
      unfold Sg.upto
      simp only [mput_end h4, List.filter_append]
      rw [List.filter_cons_of_neg (by simpa using hle)]
      simp
theorem sgi_note {s s' : Sg} {d : Dk} {t : Tx} (h : SgI s d) (ht : s.take d.lines.length t = some s') (hs : ∀ p ∈ s'.m, p ∈ s.m) (hd : (keysM s'.m).Nodup) (hr : (usedL d.lines : Int) + t.length + 1 ≤ d.room) : SgI s' ⟨d.room, d.lines ++ [txB t], d.lines.length + 1⟩ := by
  have hp := ply_push h.ply ht (n := d.lines.length + 1) (Nat.le_refl _) hr
  have hl : ∀ p ∈ s'.m, p.2.2 < d.lines.length + 1 := fun p hp => by have := h.lt p (hs p hp); omega
  refine ⟨hp.ok, fun p hp => by rw [List.length_append]; exact hl p hp, hd, fun i h1 h2 => ?_⟩
  simp only [List.length_append, List.length_cons, List.length_nil] at h1 h2 ⊢
  have hi : i = d.lines.length + 1 := by omega
  subst hi
  rw [upto_all hl, List.take_of_length_le (by rw [List.length_append]; simp)]
  exact hp.pl
theorem SgI.sync {s : Sg} {d : Dk} (h : SgI s d) : SgI s d.sync := ⟨h.ok.sync, h.lt, h.nd, fun i h1 h2 => h.fr i (Nat.le_trans h.ok.lasts h1) h2⟩
theorem filter_nodup {l : List (Int × Slt)} (f : Int × Slt → Bool) (h : (keysM l).Nodup) : (keysM (l.filter f)).Nodup := by
  unfold keysM at h ⊢
  exact h.sublist (List.Sublist.map _ List.filter_sublist)
theorem kept_ge (d : Dk) (k : Int) : d.lasts ≤ keptD d k := Nat.le_add_right _ _
theorem SgI.crash {s : Sg} {d : Dk} (h : SgI s d) (k : Int) : SgI (s.upto (keptD d k)) (d.crash k) := by
  have h1 := kept_ge d k
  have h2 := kept_le h.ok k
  have hl : (d.lines.take (keptD d k)).length = keptD d k := by rw [List.length_take]; omega
  refine ⟨h.ok.crash k, ?_, filter_nodup _ h.nd, ?_⟩
  · intro p hp
    show p.2.2 < (d.lines.take (keptD d k)).length
    rw [hl]
    exact of_decide_eq_true (List.mem_filter.1 hp).2
  · intro i h3 h4
    have h3' : keptD d k ≤ i := h3
    have h4' : i ≤ (d.lines.take (keptD d k)).length := h4
    rw [hl] at h4'
    have hi : i = keptD d k := by omega
    subst hi
    show (⟨[], 0, 0⟩ : Sg).plays 0 (txs ((d.lines.take (keptD d k)).take (keptD d k))) = _
    rw [List.take_take, Nat.min_self, upto_upto]
    exact h.fr _ h1 h2
theorem SgI.opened {s : Sg} {d : Dk} (h : SgI s d) (k : Int) : (d.crash k).opened = (s.upto (keptD d k), d.crash k) := ply_opened (h.crash k).ply
theorem mem_mget {α : Type} : ∀ {l : List (Int × α)} {k : Int} {v : α}, mget l k = some v → (k, v) ∈ l
  | (k', v') :: l, k, v, h => by
    simp only [mget] at h
    split at h
    · rename_i he
      subst he
      injection h with h
      subst h
      exact List.mem_cons_self ..
    · exact List.mem_cons_of_mem _ (mem_mget h)
theorem sgi_seal {s : Sg} {d : Dk} {n : Nat} (h : SgI s d) (hn : n ≤ 2147483647) (h1 : s.sealed < n) (hr : (usedL d.lines : Int) + (lineN 115 n).length + 1 ≤ d.room) : SgI { s with sealed := n } ⟨d.room, d.lines ++ [txB (lineN 115 n)], d.lines.length + 1⟩ :=
  sgi_note h (take_seal hn h1) (fun p hp => hp) h.nd hr
theorem sgi_trim {s : Sg} {d : Dk} {n : Nat} (h : SgI s d) (hn : n ≤ 2147483647) (h1 : s.trim < n) (hr : (usedL d.lines : Int) + (lineN 116 n).length + 1 ≤ d.room) : SgI (s.below n) ⟨d.room, d.lines ++ [txB (lineN 116 n)], d.lines.length + 1⟩ :=
  sgi_note h (take_trim hn h1) (fun p hp => (List.mem_filter.1 hp).1) (filter_nodup _ h.nd) hr
end Go.Sl

set_option linter.unusedVariables false
set_option linter.unusedSimpArgs false
namespace Go.Sl
theorem inV_of {l m : Tx} (h : inV l = some m) : l = 91 :: (m ++ [93]) := by
  unfold inV at h
  cases l with
  | nil => cases h
  | cons b r =>
    simp only at h
    split at h
    · rename_i hb
      obtain ⟨rfl, h2⟩ := hb
      injection h with h
      obtain ⟨hne, hl⟩ := List.getLast?_eq_some_iff.1 h2
      subst h
      rw [hl]; simp
    · cases h
theorem vecT_parts {l : Tx} {v : List Int} (h : vecT l = some v) : ∃ m, l = 91 :: (m ++ [93]) ∧ ((m = [] ∧ v = []) ∨ (m ≠ [] ∧ wordsV (partsC 32 m) = some v)) := by
  unfold vecT at h
  cases hi : inV l with
  | none => rw [hi] at h; cases h
  | some m =>
    refine ⟨m, inV_of hi, ?_⟩
    rw [hi] at h
    cases m with
    | nil => left; exact ⟨rfl, (Option.some.inj h).symm⟩
    | cons b r => right; exact ⟨by simp, h⟩
theorem wordsV_parts {ws : List Tx} {v : List Int} (h : wordsV ws = some v) : (∀ w ∈ ws, canD w = true ∧ valD w ≤ 1048576) ∧ ws.getLast? ≠ some [48] ∧ ws.length ≤ 8 ∧ v = ws.map fun w => (valD w : Int) := by
  unfold wordsV at h
  split at h
  · rename_i hc
    obtain ⟨h1, h2, h3, h4⟩ := hc
    refine ⟨fun w hw => ⟨List.all_eq_true.1 h1 w hw, of_decide_eq_true (List.all_eq_true.1 h4 w hw)⟩, h2, h3, (Option.some.inj h).symm⟩
  · cases h
theorem cut1_len {c : UInt8} {l a m : Tx} (h : cut1 c l = some (a, m)) : a.length + m.length + 1 = l.length := by
  unfold cut1 at h
  split at h
  · rename_i hc
    injection h with h
    injection h with h1 h2
    have := congrArg List.length (bef_aft hc)
    rw [h1, h2, List.length_append, List.length_cons] at this
    omega
  · cases h
theorem cut2_len {c d : UInt8} : ∀ {l a m : Tx}, cut2 c d l = some (a, m) → a.length + m.length + 2 = l.length
  | [], _, _, h => by cases h
  | [_], _, _, h => by cases h
  | x :: y :: r, a, m, h => by
    simp only [cut2] at h
    split at h
    · injection h with h
      injection h with h1 h2
      subst h1; subst h2; simp
    · rw [Option.map_eq_some_iff] at h
      obtain ⟨⟨a', m'⟩, h1, h2⟩ := h
      injection h2 with h2 h3
      subst h2; subst h3
      have := cut2_len h1
      simp at this ⊢; omega
theorem recT_parts {l : Tx} {r : Rc} (h : recT l = some r) : ∃ a l1 b l2 c l3 k v x y z, cut1 58 l = some (a, l1) ∧ cut1 32 l1 = some (b, l2) ∧ cut2 93 32 l2 = some (c, l3) ∧ cut1 61 l3 = some (k, v) ∧ numT 2147483647 a = some x ∧ numT 2147483647 b = some y ∧ vecT (c ++ [93]) = some z ∧
    r = ⟨x, y, z, txB k, txB v⟩ ∧ checkR r 8 = 0 := by
  unfold recT at h
  simp only [Option.bind_eq_bind, Option.bind_eq_some_iff] at h
  obtain ⟨⟨a, l1⟩, h1, ⟨b, l2⟩, h2, ⟨c, l3⟩, h3, ⟨k, v⟩, h4, x, h5, y, h6, z, h7, h8⟩ := h
  split at h8
  · rename_i hc
    obtain rfl := Option.some.inj h8
    exact ⟨a, l1, b, l2, c, l3, k, v, x, y, z, h1, h2, h3, h4, h5, h6, h7, rfl, hc⟩
  · cases h8
end Go.Sl

set_option linter.unusedVariables false
set_option linter.unusedSimpArgs false
namespace Go.Sl
def lastN (l : List Int) : Nat := (trimV l).length
theorem lastN_le (l : List Int) : lastN l ≤ l.length := trimV_len l
theorem trimV_take : ∀ l : List Int, l.take (lastN l) = trimV l
  | [] => rfl
  | n :: l => by
    have ih := trimV_take l
    unfold lastN at ih ⊢
    simp only [trimV]
    split
    · split
      · rfl
      · rfl
    · rename_i m r he
      rw [he] at ih
      simp only [List.length_cons, List.take_succ_cons] at ih ⊢
      rw [ih]
theorem nzF_last : ∀ (l : List Int) (i : Nat), (nzF i l).foldl (fun _ p => p.1 + 1) 0 = if lastN l = 0 then 0 else i + lastN l
  | [], i => rfl
  | n :: l, i => by
    have ih := fun j => nzF_last l j
    have hgen : ∀ (m : List (Nat × Int)) (a : Nat), m.foldl (fun _ p => p.1 + 1) a = if m = [] then a else m.foldl (fun _ p => p.1 + 1) 0 := by
      intro m a
      cases m with
      | nil => rfl
      | cons p m => simp
    have hnil : nzF (i + 1) l = [] ↔ lastN l = 0 := by
      constructor
      · intro h
        have := ih (i + 1)
        rw [h] at this
        simp only [List.foldl_nil] at this
        split at this
        · assumption
        · omega
      · intro h
        unfold lastN at h
        have h0 : trimV l = [] := List.length_eq_zero_iff.1 h
        have : ∀ (l : List Int) (i : Nat), trimV l = [] → nzF i l = [] := by
          intro l
          induction l with
          | nil => intro _ _; rfl
          | cons a l ih2 =>
            intro i h
            simp only [trimV] at h
            split at h
            · rename_i ht
              split at h
              · rename_i ha
                simp [nzF, ha, ih2 (i + 1) ht]
              · cases h
            · cases h
        exact this l (i + 1) h0
    have hl : lastN (n :: l) = if lastN l = 0 then (if n = 0 then 0 else 1) else lastN l + 1 := by
      unfold lastN
      simp only [trimV]
      split
      · rename_i h0
        rw [h0]; simp only [List.length_nil, if_true]
        split <;> rfl
      · rename_i m r h0
        rw [h0]; simp
    rw [hl]
    by_cases hn : n = 0
    · subst hn
      have e : nzF i (0 :: l) = nzF (i + 1) l := by simp [nzF]
      rw [e, ih (i + 1)]
      by_cases h0 : lastN l = 0
      · simp [h0]
      · simp [h0]; omega
    · have e : nzF i (n :: l) = (i, n) :: nzF (i + 1) l := by simp [nzF, hn]
      rw [e, List.foldl_cons, hgen]
      by_cases h0 : lastN l = 0
      · rw [if_pos (hnil.2 h0)]; simp [h0, hn]
      · rw [if_neg (fun h => h0 (hnil.1 h)), ih (i + 1)]; simp [h0]; omega
def decs (l : List Int) : List ByteArray := l.map fun n => txB (Lib.decDigits n.toNat)
theorem decs_join (l : List Int) : Lib.join ((decs l).map (·.data.toList)) [32] = joinX (l.map fun n => Lib.decDigits n.toNat) := by
  rw [joinX_lib]
  congr 1
  unfold decs
  rw [List.map_map]
  exact List.map_congr_left fun n _ => by simp [txB]
theorem joinX_len (k : Nat) : ∀ ws : List Tx, (∀ w ∈ ws, w.length ≤ k) → (joinX ws).length ≤ ws.length * (k + 1)
  | [], _ => Nat.zero_le _
  | [w], h => by
    have := h w (by simp)
    show w.length ≤ 1 * (k + 1)
    omega
  | w :: u :: ws, h => by
    have h1 := h w (by simp)
    have h2 := joinX_len k (u :: ws) fun x hx => h x (by simp [hx])
    rw [show joinX (w :: u :: ws) = w ++ 32 :: joinX (u :: ws) from rfl]
    simp only [List.length_append, List.length_cons] at h2 ⊢
    have e : (ws.length + 1 + 1) * (k + 1) = (ws.length + 1) * (k + 1) + (k + 1) := Nat.succ_mul _ _
    omega
end Go.Sl

set_option linter.unusedVariables false
namespace Go.Sl
def SmR (r : Rc) : Prop := checkR r 8 = 0 ∧ r.trim = r
theorem smr_rz {a b : Int} (h : 0 ≤ a ∧ a < 8 ∧ 1 ≤ b ∧ b < 100000) : SmR (rz a b) := ⟨rz_ok ⟨h.1, h.2.1, h.2.2.1, by omega⟩, rz_trim a b⟩
theorem vecX_le {v : List Int} (h : ∀ x ∈ v, 0 ≤ x ∧ x ≤ 1048576) : (vecX v).length ≤ 2 + 8 * v.length := by
  have h1 := joinX_len 7 ((trimV v).map fun n => Lib.decDigits n.toNat) (by
    intro w hw
    obtain ⟨n, hn, rfl⟩ := List.mem_map.1 hw
    have := h n (trimV_mem hn)
    exact dec_len 6 n.toNat (by omega))
  rw [List.length_map] at h1
  have h2 := trimV_len v
  unfold vecX
  simp only [List.length_cons, List.length_append, List.length_nil]
  omega
theorem recX_le {r : Rc} (h : checkR r 8 = 0) : (recX r).length ≤ 102 := by
  have k := rok_of h
  have h1 := k.site; have h2 := k.seq; have h3 := k.len; have h4 := k.key; have h5 := k.vlen
  have h6 := vecX_le k.dep
  have h7 := dec_len 0 r.site.toNat (by omega)
  have h8 := dec_len 6 r.seq.toNat (by omega)
  have h9 : r.key.data.toList.length = r.key.size := Array.length_toList
  have h10 : r.val.data.toList.length = r.val.size := Array.length_toList
  unfold recX
  simp only [List.length_append, List.length_cons, List.length_nil, h9, h10]
  omega
theorem name_nl {s : ByteArray} (h : nameOk s = true) : hasC 10 s.data.toList = false := by
  unfold hasC
  rw [List.any_eq_false]
  intro b hb
  have h1 := List.all_eq_true.1 h b hb
  simp only [decide_eq_true_eq]
  rintro rfl
  revert h1; decide
theorem val_nl {s : ByteArray} (h : valOk s = true) : hasC 10 s.data.toList = false := by
  unfold hasC
  rw [List.any_eq_false]
  intro b hb
  have h1 := List.all_eq_true.1 h (b.toNat : Int) (List.mem_map.2 ⟨b, hb, rfl⟩)
  simp only [decide_eq_true_eq]
  rintro rfl
  revert h1; decide
theorem lineP_nlR {r : Rc} (h : checkR r 8 = 0) (n : Nat) : hasC 10 (lineP n r) = false := by
  have k := rok_of h
  unfold lineP recX
  simp only [has_app, has_cons, dec_no (c := 10) (by decide), vec_nl, name_nl k.name, val_nl k.val]
  decide
theorem lineP_le {n : Nat} {r : Rc} (h : checkR r 8 = 0) (hn : n < 100000) : (lineP n r).length ≤ 112 := by
  have h1 := recX_le h
  have h2 := dec_len 4 n (by omega)
  unfold lineP
  simp only [List.length_append, List.length_cons, List.length_nil]
  omega
end Go.Sl

set_option linter.unusedVariables false
set_option linter.unusedSimpArgs false
namespace Go.Sl
def RDS : Rep (Int × Rc × Int) where
  V := Pl
  sz := 7
  agg := true
  cells := fun x h => .int .i64 x.1 :: (RRec.cells x.2.1 h ++ [.int .i64 x.2.2])
  atoms := fun x h => RRec.atoms x.2.1 h
  len := fun _ _ => rfl
  pers := fun x h A hA => RRec.pers x.2.1 h A hA
  pos := by decide
  sc := fun h => by cases h
  one := fun x h v hv => by
    rcases List.mem_cons.1 hv with rfl | hv
    · rfl
    · rcases List.mem_append.1 hv with hv | hv
      · exact RRec.one x.2.1 h v hv
      · simp at hv; subst hv; rfl
  wit := fun _ h => h (none, 0)
structure DD where
  sb : Nat
  db : Nat
  sp : Pl
  dp : Pl
  room : Int
  lines : List ByteArray
  lasts : Int
  l : List (Int × Rc × Int)
  sealed : Int
  trimd : Int
abbrev ddD (x : DD) : List HP := [pts x.db 0 [.int .i64 x.room, .slice x.dp.1 x.lines.length x.dp.2, .int .i64 x.lasts], slAt RS x.dp.1 x.lines.length x.lines, pr (x.lines.length ≤ x.dp.2)]
abbrev ddS (x : DD) : List HP := [pts x.sb 0 [.pointer (some ⟨x.db, 0, none⟩), .slice x.sp.1 x.l.length x.sp.2, .int .i64 x.sealed, .int .i64 x.trimd], slAt RDS x.sp.1 x.l.length x.l, pr (x.l.length ≤ x.sp.2)]
abbrev ddAt (x : DD) : List HP := ddS x ++ ddD x
structure DLg where
  ob : Nat
  sA : Pl
  segs : List DD
  mA : Pl
  m : List (Int × Int)
  next : Nat
  trim : Nat
  vA : Pl
  v : List Int
  down : Bool
abbrev dlHd (lb : Nat) (d : DLg) : List HP :=
  [pts lb 0 [.pointer (some ⟨d.ob, 0, none⟩), .slice d.sA.1 d.segs.length d.sA.2, .slice d.mA.1 d.m.length d.mA.2, .int .i64 (d.next : Int), .int .i64 (d.trim : Int), .slice d.vA.1 d.v.length d.vA.2, .bool d.down],
    slAt RPt d.sA.1 d.segs.length (d.segs.map (·.sb)), slAt RSp d.mA.1 d.m.length d.m, slAt RI d.vA.1 d.v.length d.v, pr (d.v.length ≤ d.vA.2)]
abbrev dlAt (lb : Nat) (d : DLg) : List HP := dlHd lb d ++ [famA ddAt d.segs]
def atI : List (Int × Rc × Int) → Int → Nat
  | [], _ => 0
  | x :: l, p => if x.1 < p then atI l p + 1 else 0
def hasD (l : List (Int × Rc × Int)) (p : Int) : Bool := match l[atI l p]? with
  | some x => decide (x.1 = p)
  | none => false
theorem atI_le : ∀ (l : List (Int × Rc × Int)) (p : Int), atI l p ≤ l.length
  | [], _ => Nat.le_refl _
  | x :: l, p => by
    unfold atI
    have := atI_le l p
    simp only [List.length_cons]
    split <;> omega
theorem atI_lt : ∀ {l : List (Int × Rc × Int)} {p : Int} {i : Nat} {x : Int × Rc × Int}, i < atI l p → l[i]? = some x → x.1 < p
  | [], _, _, _, h, _ => absurd h (Nat.not_lt_zero _)
  | y :: l, p, i, x, h, hx => by
    unfold atI at h
    split at h
    · rename_i hy
      cases i with
      | zero => simp at hx; subst hx; exact hy
      | succ i => exact atI_lt (l := l) (i := i) (by omega) (by simpa using hx)
    · exact absurd h (Nat.not_lt_zero _)
theorem atI_ge : ∀ {l : List (Int × Rc × Int)} {p : Int} {x : Int × Rc × Int}, l[atI l p]? = some x → ¬ x.1 < p
  | [], _, _, h => by simp at h
  | y :: l, p, x, h => by
    unfold atI at h
    split at h
    · exact atI_ge (l := l) (by simpa using h)
    · rename_i hy
      simp at h; subst h; exact hy
theorem atI_all : ∀ {l : List (Int × Rc × Int)} {p : Int}, (∀ x ∈ l, x.1 < p) → atI l p = l.length
  | [], _, _ => rfl
  | x :: l, p, h => by
    unfold atI
    rw [if_pos (h x (by simp)), atI_all (l := l) fun y hy => h y (by simp [hy])]
    rfl
def DD.lastsAt (x : DD) (p : Int) : Bool := match x.l[atI x.l p]? with
  | some y => decide (y.1 = p) && decide (y.2.2 < x.lasts)
  | none => false
end Go.Sl

set_option linter.unusedVariables false
set_option linter.unusedSectionVars false
set_option linter.unusedSimpArgs false
namespace Go.Sl
section
variable (P : Program) (rd : Option Nat) (N : Nat)
def SZ (D0 : World → Prop) (all : Array Oper) (its : XO) (T : TT) (B E : List HP) (ks : List K) (Q : Post) : Prop :=
  ∀ (G : HP) (r : Ro) (oB : Own) (a : Act) (w : World), seps (G :: B) r oB → Ok (pin r oB) N T E a w → D0 w → wpX P rd all (lift G N (postK P rd N ks Q)) its (fun w => Sat w r oB ∧ D0 w) a w
def SW (D0 : World → Prop) (all : Array Oper) (its : XO) (T : TT) (B E : List HP) (ks : List K) (Q : Post) : Prop :=
  ∀ (G : HP) (r : Ro) (oB : Own) (a : Act) (w : World), seps (G :: B) r oB → Ok (pin r oB) N T E a w → wpX P rd all (lift G N (postK P rd N ks Q)) its (fun w => Sat w r oB ∧ D0 w) a w ∧ D0 w
end
def lent (b off : Nat) (vs : List Value) (w : World) : Prop := ∀ i v, vs[i]? = some v → w.cell? ⟨b, off + i, none⟩ = some v
section
variable {P : Program} [tb : Tab P] {rd : Option Nat} {N : Nat} {T : TT} {B E E' L M : List HP} {Q : Post} {ks : List K} {D0 : World → Prop}
variable {all : Array Oper} {rest : XO} {o : Oper} {d : Option Tmp} {ty : TypeId} {pos : String} {aft : Array Edge}
theorem lent_of {b off : Nat} {vs : List Value} (h : Take (pts b off vs) E E') : ∀ F u, St u (F :: E) → lent b off vs u := by
  intro F u hst i v hv
  exact ((hst.ent ((Ent.cons h.ent).trans Ent.swap)).cell hv).1
theorem SZ.nil (hd : DropP E E') (h : SK P rd N ks T (E' ++ B) Q) : SZ P rd N D0 all .nil T B E ks Q := fun G r oB a w hs ok _ => by
  have := ok_unpin hs (ok.ent hd.ent)
  exact ⟨T, E' ++ B, this, h⟩
theorem SZ.reads {R : Value → List HP → Prop} (hr : Reads P T B o R) (hg : o.guard = none) (hd : dstOk N o.dst = true)
    (h : ∀ v B', R v B' → SZ P rd N D0 all rest (putD o.dst v T) B' E ks Q) : SZ P rd N D0 all (.item 0 o rest) T B E ks Q := by
  intro G r oB a w hs ok hD
  obtain ⟨v, B', hR, hs', hrun⟩ := hr a.eval ok.knows r oB G hs
  simp only [wpX, Region.wanted, hg, if_true]
  exact ⟨v, fun w' hw' => hrun w' hw'.1, h v B' hR G r oB _ w hs' (ok.putD hd v) hD⟩
theorem SZ.pure {v : Value} (hg : o.guard = none) (h : pureOp tb.tab T o.op = some v) (hd : dstOk N o.dst = true)
    (k : SZ P rd N D0 all rest (putD o.dst v T) B E ks Q) : SZ P rd N D0 all (.item 0 o rest) T B E ks Q := SZ.reads (reads_pure h) hg hd (by rintro _ _ ⟨rfl, rfl⟩; exact k)
theorem SZ.pure2 {v : Value} (hg : o.guard = none) (h : pureOp2 tb.tab T o.op = some v) (hd : dstOk N o.dst = true)
    (k : SZ P rd N D0 all rest (putD o.dst v T) B E ks Q) : SZ P rd N D0 all (.item 0 o rest) T B E ks Q := SZ.reads (reads_pure2 h) hg hd (by rintro _ _ ⟨rfl, rfl⟩; exact k)
theorem SZ.load {x : Operand} {t b off o' : Nat} {vs : List Value} {ti : TI} (hx : evO T x = some (.pointer (some ⟨b, off, none⟩))) (hl : ∀ u, D0 u → lent b o' vs u)
    (ht : tget tb.tab t = some ti) (ho : Nat.ble o' off = true) (hp : packOk ti (cut vs (off - o') ti.size)) (hd : dstOk N d = true)
    (k : SZ P rd N D0 all rest (putD d (packV ti (cut vs (off - o') ti.size)) T) B E ks Q) : SZ P rd N D0 all (.item 0 ⟨d, .load t x, ty, pos, aft, none⟩ rest) T B E ks Q := by
  intro G r oB a w hs ok hD
  have ho := Nat.le_of_ble_eq_true ho
  simp only [wpX, Region.wanted, if_true]
  refine ⟨packV ti (cut vs (off - o') ti.size), fun w' hw' => ?_, k G r oB _ w hs (ok.putD hd _) hD⟩
  simp only [execOp, ok.knows _ _ hx, Instr.loadAt, Instr.sureAddr, Sem.run_bind, Sem.run_pure, Result.andThen_ok]
  rw [loadVar_ok ht hp (fun j v hj => by
    have := hl w' hw'.2 _ _ (cut_get hj).1
    rwa [show o' + (off - o' + j) = off + j by omega] at this)]
  rfl
theorem SZ.step {k : Nat} (hg : o.guard = none) (hn : notDefer o.op = true) (h : SO P rd N all [o] T E [.inv fun T' E' => SW P rd N D0 all rest T' B E' ks Q] (fun _ _ _ => False)) : SZ P rd N D0 all (.item (k + 1) o rest) T B E ks Q := by
  intro G r oB a w hs ok hD
  have h1 := h (pin r oB) a w ok
  simp only [wpListIn, wpX, Region.wanted, hg, if_true] at h1 ⊢
  refine wpIn_swap hn ?_ ?_ ?_ h1
  · rintro c a' w' ⟨T', L', _, hq⟩; exact hq.elim
  · rintro ⟨a', w', T', L', _, hq⟩; exact hq.elim
  · rintro a' w' ⟨T', E', ok', hq⟩
    simp only [postK] at hq
    rw [SK] at hq
    obtain ⟨hwp, hd⟩ := hq G r oB a' w' hs ok'
    exact ⟨fun w => Sat w r oB ∧ D0 w, ⟨ok_sat ok', hd⟩, .inr fun _ h => h, hwp⟩
theorem SW.go (hD : ∀ F u, St u (F :: E) → D0 u) (h : SZ P rd N D0 all rest T B E ks Q) : SW P rd N D0 all rest T B E ks Q := fun G r oB a w hs ok => by
  obtain ⟨D, hD', hst⟩ := ok.mem
  have hd := hD _ _ hst
  exact ⟨h G r oB a w hs ok hd, hd⟩
theorem SK.regionZ {D0 : World → Prop} {l : List Oper} {L0 Ps : List HP} (id : Nat) (ord : XT) (E0 : List HP) (hE : Takes E0 L L0) (hP : PersSub L0 Ps) (hm : P.follows .mixedOrders = true) (hok : canOk N l ord = true) (hnp : ∀ c T L, Q (.panic c) T L → False) (hD0 : ∀ F u, St u (F :: (E0 ++ Ps)) → D0 u)
    (h : SZ P rd N D0 l.toArray (pickK l ord) T L0 (E0 ++ Ps) ks Q) : SK P rd N (.code (.region id l.toArray true) :: ks) T L Q := by
  rw [SK_code]
  intro G a0 w ok
  simp only [canOk, Bool.and_eq_true] at hok
  obtain ⟨⟨⟨hok1, hok2⟩, hok3⟩, hok4⟩ := hok
  obtain ⟨D, hD, hst⟩ := ok.mem
  have h1 : St w (D.map mkA ++ (E0 ++ (G :: L0))) := by
    have h2 : St w ((G :: D.map mkA) ++ L) := hst.ent (ent_big (A := G :: D.map mkA))
    have h3 : St w ((G :: D.map mkA) ++ (E0 ++ L0)) := h2.ent (Ent.app hE.ent)
    refine h3.ent ?_
    have e1 := ent_app_comm (A := [G]) (B := D.map mkA ++ (E0 ++ L0))
    simp only [List.append_assoc, List.cons_append, List.nil_append] at e1 ⊢
    refine e1.trans (Ent.app (Ent.app ?_))
    exact (ent_app_comm (A := L0) (B := [G])).trans (Ent.refl _)
  obtain ⟨r, oo, s, hs⟩ := h1
  have hsplit : ∀ (A B : List HP) (r : Ro) (o : Own), seps (A ++ B) r o → ∃ x y, Own.disj x y ∧ Own.le (x.add y) o ∧ seps A r x ∧ seps B r y := by
    intro A B r
    induction A with
    | nil => intro o h; exact ⟨own0, o, fun _ _ => .inl rfl, none_add, trivial, h⟩
    | cons A As ih =>
      rintro o ⟨p, q, d, le, hA, hq⟩
      have := (big_ent (A := A :: As) (L := B)) r o ⟨p, q, d, le, hA, hq⟩
      obtain ⟨x, y, d', le', hx, hy⟩ := this
      exact ⟨x, y, d', le', hx, hy⟩
  have hs2 : seps ((D.map mkA ++ E0) ++ (G :: L0)) r oo := by rw [List.append_assoc]; exact hs
  obtain ⟨x1, oB, d1, le1, hE0, hB⟩ := hsplit _ _ r oo hs2
  have hpin : St w (pin r oB :: (D.map mkA ++ E0)) := by
    have h5 : seps ((D.map mkA ++ E0) ++ [pin r oB]) r oo := by
      have : ∀ (A : List HP) (x y o : Own), Own.disj x y → Own.le (x.add y) o → seps A r x → y = oB → seps (A ++ [pin r oB]) r o := by
        intro A x y o d le hA hy
        subst hy
        have := (ent_big (A := A) (L := [pin r y])) r o ⟨x, y, d, le, hA, y, own0, fun _ _ => .inr rfl, (fun i j c e => by
          rcases Own.add_cases e with e | e
          · exact e
          · cases e), ⟨Ro.le_refl _, Own.le_refl _⟩, trivial⟩
        exact this
      exact this _ x1 oB oo d1 le1 hE0 rfl
    exact St.ent (ent_app_comm (B := [pin r oB])) ⟨r, oo, s, h5⟩
  have htold := hP.told (r := r) (o := oB) (by obtain ⟨_, _, d, le, _, h⟩ := hB; exact seps_up (Ro.le_refl _) (Own.le_trans (Own.le_add_right d) le) h)
  have hst2 : St w (big (pin r oB :: D.map mkA) :: (E0 ++ Ps)) := by
    obtain ⟨r', o', s', p, q, d, le, ⟨hr, ho⟩, hq⟩ := hpin
    have hq2 : seps (Ps ++ (D.map mkA ++ E0)) r' q := seps_more (fun A hA => A.up _ _ _ _ hr (Own.le_refl _) (htold A hA)) hq
    have h6 : St w (pin r oB :: (Ps ++ (D.map mkA ++ E0))) := ⟨r', o', s', p, q, d, le, ⟨hr, ho⟩, hq2⟩
    refine h6.ent ?_
    have e1 := ent_app_comm (A := Ps) (B := D.map mkA ++ E0)
    rw [List.append_assoc] at e1
    exact (Ent.cons e1).trans (big_ent (A := pin r oB :: D.map mkA))
  refine wpIn_region_any hm ?_
  have hdrew : St { w with drawn := w.drawn + 1 } (big (pin r oB :: D.map mkA) :: (E0 ++ Ps)) := hst2.drew _
  have ok2 : Ok (pin r oB) N T (E0 ++ Ps) a0 { w with drawn := w.drawn + 1 } := ⟨ok.size, ok.get, D, hD, hdrew⟩
  have hd0 := hD0 _ _ hdrew
  have hw := h G r oB a0 _ hB ok2 hd0
  refine TInv.run (fun c a w ⟨T, L, _, hq⟩ => hnp c T L hq) _ ord [] [] _ a0 _ a0 _ ?_ hok4 ⟨hw, fun p hp => ⟨pathOk_ok hok1 hok2 (List.all_eq_true.1 hok3 p hp), ?_⟩⟩
  · refine Nat.le_trans (List.length_filter_le _ _) (by simp)
  · refine ⟨rfl, by simp, fun i h => ?_, fun i => ?_, fun q h => (by cases h), ⟨ok_sat ok2, hd0⟩, trivial, rfl, ok.size, ok.size, fun _ _ => rfl, fun q h => by cases h⟩
    · rw [getD_rep] at h; cases h
    · rw [getD_rep]; simp
end
end Go.Sl

set_option linter.unusedVariables false
set_option linter.unusedSimpArgs false
namespace Go.Sl
theorem ent_lg1 {C : HP} {lb : Nat} {g : Lg} {L L' : List HP} {k : Nat} {x : SB} (hx : g.segs[k]? = some x) (hh : Takes ((sbAt x ++ [sbsH g.segs k]) ++ (C :: lgPre lb g)) L L') : Ent L (C :: lgAt lb g) := by
  obtain ⟨hk, e⟩ := List.getElem?_eq_some_iff.1 hx
  have h := ent_sbs hk hh
  rw [← e, List.set_getElem_self] at h
  exact h
end Go.Sl
namespace Go.Sl
structure SegCr (keep : List Int) (l0 : List SB) (k : Nat) (l : List SB) : Prop where
  len : l.length = l0.length
  sb : l.map (·.sb) = l0.map (·.sb)
  old : ∀ i, k ≤ i → l[i]? = l0[i]?
  new : ∀ i x, i < k → l0[i]? = some x → ∃ p, l[i]? = some (x.upd p (x.s, x.d.crash (keep.getD i 0)))
def Lg.fell (g : Lg) (p : Pl) (l : List SB) : Lg := { g with segs := l, op := p, own := g.own.crash 0, down := true }
end Go.Sl

set_option linter.unusedVariables false
set_option linter.unusedSimpArgs false
namespace Go.Sl
structure LI (room : Int) (n : Nat) (R : Nat → Rc) (g : Lg) : Prop where
  m : MapOk g.m
  lastm : ∀ y, g.m[g.m.length - 1]? = some y → y.1 ≤ (g.next : Int)
  ml : g.m.length ≤ 100
  len : g.segs.length = 8
  bd : g.trim ≤ g.next ∧ g.next ≤ n ∧ n ≤ 7000
  own : g.own.Ok
  sg : ∀ x ∈ g.segs, SgI x.s x.d
  rm : ∀ x ∈ g.segs, x.d.room = room ∧ usedL x.d.lines ≤ 128 * n
  sl : ∀ x ∈ g.segs, x.s.sealed < g.m.length ∧ x.s.trim = g.trim
  mg : ∀ k x, g.segs[k]? = some x → ∀ p : Int, (mget x.s.m p).map (·.1) = if (g.trim : Int) ≤ p ∧ p < g.next ∧ stripeM g.m p = k then some (R p.toNat) else none
  rz : ∀ p, g.trim ≤ p → p < g.next → SmR (R p)
theorem LI.ok {room : Int} {n : Nat} {R : Nat → Rc} {g : Lg} (h : LI room n R g) : LgOk g :=
  ⟨h.m, h.len, h.own, fun x hx => (h.sg x hx).ok, by have := h.bd; omega⟩
theorem LI.mono {room : Int} {n n' : Nat} {R : Nat → Rc} {g : Lg} (h : LI room n R g) (hn : n ≤ n') (hb : n' ≤ 7000) : LI room n' R g :=
  ⟨h.m, h.lastm, h.ml, h.len, by have := h.bd; omega, h.own, h.sg, fun x hx => ⟨(h.rm x hx).1, by have := (h.rm x hx).2; omega⟩, h.sl, h.mg, h.rz⟩
theorem LI.congr {room : Int} {n : Nat} {R R' : Nat → Rc} {g : Lg} (h : LI room n R g) (he : ∀ p, g.trim ≤ p → p < g.next → R' p = R p) : LI room n R' g :=
  ⟨h.m, h.lastm, h.ml, h.len, h.bd, h.own, h.sg, h.rm, h.sl, fun k x hx p => by
    rw [h.mg k x hx p]
    by_cases hc : (g.trim : Int) ≤ p ∧ p < g.next ∧ stripeM g.m p = k
    · rw [if_pos hc, if_pos hc, he p.toNat (by omega) (by omega)]
    · rw [if_neg hc, if_neg hc], fun p h1 h2 => by rw [he p h1 h2]; exact h.rz p h1 h2⟩
theorem findI_stop {m : List (Int × Int)} {pos : Int} : ∀ {i : Nat}, (∀ y, m[i]? = some y → y.1 ≤ pos) → i < m.length → findI m pos i = i
  | 0, _, _ => rfl
  | i + 1, h, hi => by
    unfold findI
    have := h _ (List.getElem?_eq_getElem hi)
    rw [if_neg]
    rw [List.getD, List.getElem?_eq_getElem hi]
    show ¬ pos < (m[i + 1]).1
    omega
theorem LI.epoch {room : Int} {n : Nat} {R : Nat → Rc} {g : Lg} (h : LI room n R g) : epochM g.m (g.next : Int) = (g.m.length : Int) := by
  have hl := h.m.len.1
  unfold epochM spanI
  rw [findI_stop h.lastm (by omega)]
  omega
theorem LI.get {room : Int} {n : Nat} {R : Nat → Rc} {g : Lg} (h : LI room n R g) {p : Nat} (h1 : g.trim ≤ p) (h2 : p < g.next) {x : SB} (hx : g.segs[stripeM g.m p]? = some x) : ∃ i, mget x.s.m (p : Int) = some (R p, i) ∧ i < x.d.lines.length := by
  have := h.mg _ x hx p
  rw [if_pos ⟨by omega, by omega, rfl⟩] at this
  obtain ⟨y, hy, e⟩ := Option.map_eq_some_iff.1 this
  refine ⟨y.2, ?_, ?_⟩
  · rw [hy]
    simp only [Int.toNat_natCast] at e
    rw [← e]
  · have hm := mem_mget hy
    exact (h.sg x (List.mem_of_getElem? hx)).lt _ hm
theorem LI.set {room : Int} {n n' : Nat} {R : Nat → Rc} {g g' : Lg} (h : LI room n R g) {k : Nat} {x : SB} {p : Pl} {y : Sg × Dk} (hx : g.segs[k]? = some x) (hs : g'.segs = g.segs.set k (x.upd p y)) (hm : g'.m = g.m) (ht : g'.trim = g.trim)
    (hn : g.next ≤ g'.next ∧ g'.next ≤ n') (hn' : n ≤ n' ∧ n' ≤ 7000) (ho : g'.own.Ok) (h1 : SgI y.1 y.2) (h2 : y.2.room = room ∧ usedL y.2.lines ≤ 128 * n') (h3 : y.1.sealed < g.m.length ∧ y.1.trim = g.trim)
    (h4 : ∀ j z, g'.segs[j]? = some z → ∀ p : Int, (mget z.s.m p).map (·.1) = if (g.trim : Int) ≤ p ∧ p < g'.next ∧ stripeM g.m p = j then some (R p.toNat) else none)
    (h5 : ∀ p, g.next ≤ p → p < g'.next → SmR (R p)) : LI room n' R g' := by
  have hor : ∀ z, z ∈ g'.segs → z ∈ g.segs ∨ z = x.upd p y := fun z hz => by rw [hs] at hz; exact List.mem_or_eq_of_mem_set hz
  have hb := h.bd
  refine ⟨by rw [hm]; exact h.m, fun y hy => by rw [hm] at hy; have := h.lastm y hy; omega, by rw [hm]; exact h.ml, by rw [hs, List.length_set]; exact h.len, by rw [ht]; omega, ho, ?_, ?_, ?_, ?_, ?_⟩
  · intro z hz
    rcases hor z hz with hz | rfl
    · exact h.sg z hz
    · exact h1
  · intro z hz
    rcases hor z hz with hz | rfl
    · have := h.rm z hz; exact ⟨this.1, by omega⟩
    · exact h2
  · intro z hz
    rw [hm, ht]
    rcases hor z hz with hz | rfl
    · exact h.sl z hz
    · exact h3
  · rw [hm, ht]; exact h4
  · intro q hq1 hq2
    rw [ht] at hq1
    rcases Nat.lt_or_ge q g.next with hlt | hge
    · exact h.rz q hq1 hlt
    · exact h5 q hge hq2
theorem li_put {room : Int} {n : Nat} {R : Nat → Rc} {g : Lg} (h : LI room n R g) {r : Rc} (hr : R g.next = r) (hk : SmR r) (hroom : (128 * n + 128 : Int) ≤ room) (hn : n < 7000) {x : SB} (hx : g.segs[stripeM g.m g.next]? = some x) :
    (x.s.put x.d (epochM g.m g.next) g.next r).1 = 0 ∧ (x.s.put x.d (epochM g.m g.next) g.next r).2.2.lasts = x.d.lasts ∧ (x.s.put x.d (epochM g.m g.next) g.next r).2.2.lines.length = x.d.lines.length + 1 ∧ ∀ p, LI room (n + 1) R (g.putG x p (x.s.put x.d (epochM g.m g.next) g.next r)) := by
  have hb := h.bd
  have hm := List.mem_of_getElem? hx
  have hsl := h.sl x hm
  have hrm := h.rm x hm
  have hml := h.ml
  have hlp := h.m.len.1
  have hl := lineP_le (n := g.next) hk.1 (by omega)
  have hno : mget x.s.m (g.next : Int) = none := by
    have := h.mg _ x hx g.next
    rw [if_neg (by omega)] at this
    exact Option.map_eq_none_iff.1 this
  have hck := hk.1
  have hru : (usedL x.d.lines : Int) + (lineP g.next r).length + 1 ≤ x.d.room := by rw [hrm.1]; omega
  have e := put_eq (s := x.s) (d := x.d) (ep := epochM g.m g.next) (pos := (g.next : Int)) (r := r) ⟨by omega, by rw [h.epoch]; omega, by omega, by rw [h.epoch]; omega⟩ (by rw [h.epoch]; omega) (by omega) hno hck
    (by rw [Int.toNat_natCast]; exact lineP_nlR hk.1 _) (by rw [Int.toNat_natCast]; exact hru)
  rw [Int.toNat_natCast] at e
  rw [e]
  refine ⟨rfl, rfl, by simp, fun p => ?_⟩
  have hsg := sgi_put (h.sg x hm) (n := g.next) (r := r) (by omega) (by omega) hno hck hk.2 hru
  have hkl := (List.getElem?_eq_some_iff.1 hx).1
  refine h.set hx rfl rfl rfl (n' := n + 1) (by simp only [Lg.putG, if_true]; omega) (by omega) h.own hsg ⟨hrm.1, ?_⟩ hsl ?_ ?_
  · show usedL (x.d.lines ++ [txB (lineP g.next r)]) ≤ _
    rw [usedL_app]
    simp only [usedL, size_txB]; omega
  · intro j z hz q
    simp only [Lg.putG, if_true] at hz ⊢
    by_cases hj : stripeM g.m g.next = j
    · subst hj
      rw [List.getElem?_set_self hkl] at hz
      obtain rfl := Option.some.inj hz
      show (mget (mput x.s.m (g.next : Int) (r, x.d.lines.length)) q).map (·.1) = _
      rw [mget_mput]
      by_cases hq : q = (g.next : Int)
      · subst hq
        rw [if_pos rfl, if_pos ⟨by omega, by omega, rfl⟩, Int.toNat_natCast, hr]; rfl
      · rw [if_neg (by first | exact hq | exact fun h => hq h.symm), h.mg _ x hx q]
        by_cases hc : (g.trim : Int) ≤ q ∧ q < g.next ∧ stripeM g.m q = stripeM g.m g.next
        · rw [if_pos hc, if_pos (by omega)]
        · rw [if_neg hc, if_neg (by intro hh; exact hc ⟨hh.1, by omega, hh.2.2⟩)]
    · rw [List.getElem?_set_ne hj] at hz
      rw [h.mg j z hz q]
      by_cases hc : (g.trim : Int) ≤ q ∧ q < g.next ∧ stripeM g.m q = j
      · rw [if_pos hc, if_pos ⟨hc.1, by omega, hc.2.2⟩]
      · rw [if_neg hc, if_neg]
        rintro ⟨h1, h2, h3⟩
        rcases Int.lt_or_le q g.next with hl | hl
        · exact hc ⟨h1, hl, h3⟩
        · have : q = g.next := by omega
          subst this
          exact hj h3
  · intro q h1 h2
    simp only [Lg.putG, if_true] at h2
    have : q = g.next := by omega
    subst this
    rw [hr]; exact hk
theorem li_sync {room : Int} {n : Nat} {R : Nat → Rc} {g : Lg} (h : LI room n R g) {k : Nat} {x : SB} (hx : g.segs[k]? = some x) : LI room n R (g.sync k x) := by
  have hm := List.mem_of_getElem? hx
  have hb := h.bd
  refine h.set hx rfl rfl rfl (n' := n) ⟨Nat.le_refl _, hb.2.1⟩ (by omega) h.own (h.sg x hm).sync (h.rm x hm) (h.sl x hm) ?_ (fun p h1 h2 => absurd h1 (Nat.not_le.2 h2))
  intro j z hz q
  have hk := (List.getElem?_eq_some_iff.1 hx).1
  simp only [Lg.sync] at hz ⊢
  by_cases hj : k = j
  · subst hj
    rw [List.getElem?_set_self hk] at hz
    obtain rfl := Option.some.inj hz
    exact h.mg k x hx q
  · rw [List.getElem?_set_ne hj] at hz
    exact h.mg j z hz q
theorem head_eq {g : Lg} (hd : g.down = false) {q : Nat} (h1 : g.trim ≤ q) (h2 : q ≤ g.next) (h3 : ∀ p, g.trim ≤ p → p < q → g.lasts p = true) (h4 : q = g.next ∨ g.lasts q = false) : g.head = q := by
  have hgen : ∀ k p, g.trim ≤ p → p ≤ q → k + p = g.next → headF g k p = q := by
    intro k
    induction k with
    | zero => intro p hp1 hp2 hk; show p = q; omega
    | succ k ih =>
      intro p hp1 hp2 hk
      unfold headF
      by_cases hpq : p = q
      · subst hpq
        rcases h4 with h4 | h4
        · omega
        · rw [h4]; rfl
      · rw [h3 p hp1 (by omega), if_pos rfl]
        exact ih (p + 1) (by omega) (by omega) (by omega)
  unfold Lg.head
  rw [hd, if_neg (by decide)]
  exact hgen _ _ (Nat.le_refl _) h1 (by omega)
theorem LI.lasts {room : Int} {n : Nat} {R : Nat → Rc} {g : Lg} (h : LI room n R g) {p : Nat} (h1 : g.trim ≤ p) (h2 : p < g.next) {x : SB} (hx : g.segs[stripeM g.m p]? = some x) (hs : x.d.lasts = x.d.lines.length) : g.lasts p = true := by
  obtain ⟨i, hi, hl⟩ := h.get h1 h2 hx
  unfold Lg.lasts Sg.lastsAt
  rw [hx]
  simp only [hi]
  exact decide_eq_true (by omega)
theorem LI.lasts_no {room : Int} {n : Nat} {R : Nat → Rc} {g : Lg} (h : LI room n R g) {p : Nat} (h1 : g.trim ≤ p) (h2 : p < g.next) {x : SB} (hx : g.segs[stripeM g.m p]? = some x) (hs : x.d.lasts = 0) : g.lasts p = false := by
  obtain ⟨i, hi, hl⟩ := h.get h1 h2 hx
  unfold Lg.lasts Sg.lastsAt
  rw [hx]
  simp only [hi]
  exact decide_eq_false (by omega)
def Lg.synced (g : Lg) : Prop := ∀ x ∈ g.segs, x.d.lasts = x.d.lines.length
theorem LI.head {room : Int} {n : Nat} {R : Nat → Rc} {g : Lg} (h : LI room n R g) (hd : g.down = false) (hs : g.synced) : g.head = g.next := by
  refine head_eq hd h.bd.1 (Nat.le_refl _) (fun p h1 h2 => ?_) (.inl rfl)
  obtain ⟨x, hx⟩ := h.ok.at_ (pos := (p : Int)) (by omega)
  exact h.lasts h1 h2 hx (hs x (List.mem_of_getElem? hx))
theorem LI.rcd {room : Int} {n : Nat} {R : Nat → Rc} {g : Lg} (h : LI room n R g) {p : Nat} (h1 : g.trim ≤ p) (h2 : p < g.next) : g.rcd p = R p := by
  obtain ⟨x, hx⟩ := h.ok.at_ (pos := (p : Int)) (by omega)
  obtain ⟨i, hi, hl⟩ := h.get h1 h2 hx
  have := (h.sl x (List.mem_of_getElem? hx)).2
  unfold Lg.rcd Sg.get
  rw [hx]
  simp only [hi]
  rw [if_neg (by omega)]
end Go.Sl

set_option linter.unusedVariables false
set_option linter.unusedSimpArgs false
namespace Go.Sl
structure SegUp (f : SB → Sg × Dk) (l0 : List SB) (k : Nat) (l : List SB) : Prop where
  len : l.length = l0.length
  sb : l.map (·.sb) = l0.map (·.sb)
  old : ∀ i, k ≤ i → l[i]? = l0[i]?
  new : ∀ i x, i < k → l0[i]? = some x → ∃ p, l[i]? = some (x.upd p (f x))
structure SegOp (l0 : List SB) (k : Nat) (l : List SB) : Prop where
  len : l.length = l0.length
  old : ∀ i, k ≤ i → l[i]? = l0[i]?
  new : ∀ i x, i < k → l0[i]? = some x → ∃ sb mb p, l[i]? = some ⟨sb, x.db, mb, p, x.d.opened.1, x.d.opened.2⟩
def keptP (g : Lg) (keep : List Int) (p : Nat) : Bool := match g.segs[stripeM g.m p]? with
  | some x => match mget x.s.m p with
    | some y => decide (y.2 < keptD x.d (keep.getD (stripeM g.m p) 0))
    | none => false
  | none => false
theorem keptP_of_lasts {g : Lg} {keep : List Int} {p : Nat} (h : g.lasts p = true) : keptP g keep p = true := by
  unfold Lg.lasts Sg.lastsAt at h
  unfold keptP
  split at h
  · split at h
    · cases h
    · have := of_decide_eq_true h
      rename_i x hx _ y hy
      simp only [hx, hy]
      exact decide_eq_true (by have := kept_ge x.d (keep.getD (stripeM g.m p) 0); omega)
  · cases h
section
variable {room : Int} {n : Nat} {R : Nat → Rc} {g : Lg} {keep : List Int} {l : List SB}
def reB (nx : Nat) (more : Bool) (x : SB) : Sg × Dk := if more = true then (x.d.opened.1.cutAt x.d.opened.2 nx).2 else x.d.opened
structure SegRe (l0 : List SB) (nx : Nat) (more : Bool) (l : List SB) : Prop where
  len : l.length = l0.length
  at_ : ∀ (i : Nat) (x : SB), l0[i]? = some x → ∃ sb mb p, l[i]? = some (⟨sb, x.db, mb, p, (reB nx more x).1, (reB nx more x).2⟩ : SB)
end
end Go.Sl

set_option linter.unusedVariables false
set_option linter.unusedSimpArgs false
namespace Go.Sl
theorem li_up {room : Int} {n n' : Nat} {R : Nat → Rc} {g g' : Lg} {f : SB → Sg × Dk} {l : List SB} (h : LI room n R g) (hs : SegUp f g.segs 8 l) (e1 : g'.segs = l) (hM : MapOk g'.m) (hlm : ∀ y, g'.m[g'.m.length - 1]? = some y → y.1 ≤ (g'.next : Int)) (hml : g'.m.length ≤ 100)
    (hbd : g'.trim ≤ g'.next ∧ g'.next ≤ n' ∧ n' ≤ 7000) (ho : g'.own.Ok) (hx : ∀ i x, g.segs[i]? = some x → SgI (f x).1 (f x).2 ∧ ((f x).2.room = room ∧ usedL (f x).2.lines ≤ 128 * n') ∧ ((f x).1.sealed < g'.m.length ∧ (f x).1.trim = g'.trim) ∧
      ∀ p : Int, (mget (f x).1.m p).map (·.1) = if (g'.trim : Int) ≤ p ∧ p < g'.next ∧ stripeM g'.m p = i then some (R p.toNat) else none) (hrz : ∀ p, g'.trim ≤ p → p < g'.next → SmR (R p)) : LI room n' R g' := by
  have hall : ∀ (i : Nat) (z : SB), l[i]? = some z → ∃ x, g.segs[i]? = some x ∧ z.s = (f x).1 ∧ z.d = (f x).2 := by
    intro i z hz
    have hi := (List.getElem?_eq_some_iff.1 hz).1
    have hlen : i < g.segs.length := by rw [← hs.len]; exact hi
    obtain ⟨p, hp⟩ := hs.new i _ (by rw [h.len] at hlen; exact hlen) (List.getElem?_eq_getElem hlen)
    rw [hz] at hp
    have e := Option.some.inj hp
    exact ⟨_, List.getElem?_eq_getElem hlen, by rw [e]; rfl, by rw [e]; rfl⟩
  have hmem : ∀ z ∈ l, ∃ i, l[i]? = some z := fun z hz => by
    obtain ⟨i, hi, rfl⟩ := List.mem_iff_getElem.1 hz
    exact ⟨i, List.getElem?_eq_getElem hi⟩
  refine ⟨hM, hlm, hml, by rw [e1, hs.len]; exact h.len, hbd, ho, ?_, ?_, ?_, ?_, hrz⟩
  · intro z hz
    rw [e1] at hz
    obtain ⟨i, hi⟩ := hmem z hz
    obtain ⟨x, hx2, h1, h2⟩ := hall i z hi
    rw [h1, h2]; exact (hx i x hx2).1
  · intro z hz
    rw [e1] at hz
    obtain ⟨i, hi⟩ := hmem z hz
    obtain ⟨x, hx2, h1, h2⟩ := hall i z hi
    rw [h2]; exact (hx i x hx2).2.1
  · intro z hz
    rw [e1] at hz
    obtain ⟨i, hi⟩ := hmem z hz
    obtain ⟨x, hx2, h1, h2⟩ := hall i z hi
    rw [h1]; exact (hx i x hx2).2.2.1
  · intro k z hz p
    rw [e1] at hz
    obtain ⟨x, hx2, h1, h2⟩ := hall k z hz
    rw [h1]; exact (hx k x hx2).2.2.2 p
theorem up_synced {n : Nat} {g g' : Lg} {f : SB → Sg × Dk} {l : List SB} (hl : g.segs.length = 8) (hs : SegUp f g.segs 8 l) (e1 : g'.segs = l) (hx : ∀ x ∈ g.segs, (f x).2.lasts = (f x).2.lines.length) : g'.synced := by
  intro z hz
  rw [e1] at hz
  obtain ⟨i, hi, rfl⟩ := List.mem_iff_getElem.1 hz
  have hlen : i < g.segs.length := by rw [← hs.len]; exact hi
  obtain ⟨p, hp⟩ := hs.new i _ (by rw [hl] at hlen; exact hlen) (List.getElem?_eq_getElem hlen)
  rw [List.getElem?_eq_getElem hi] at hp
  rw [Option.some.inj hp]
  exact hx _ (List.getElem_mem hlen)
theorem li_trim {room : Int} {n : Nat} {R : Nat → Rc} {g g' : Lg} {l : List SB} (h : LI room n R g) {pos : Nat} (h1 : g.trim ≤ pos ∧ pos ≤ g.next) (hn : n < 7000) (hroom : (128 * n + 128 : Int) ≤ room) (hs : SegUp (fun x => x.s.trimAt x.d pos) g.segs 8 l) (e1 : g'.segs = l) (hm : g'.m = g.m) (ht : g'.trim = pos) (hnx : g'.next = g.next) (ho : g'.own.Ok) :
    LI room (n + 1) R g' ∧ (g.synced → g'.synced) := by
  have hb := h.bd
  have hf : ∀ x ∈ g.segs, x.s.trimAt x.d pos = if g.trim < pos then (x.s.below pos, { x.d with lines := x.d.lines ++ [txB (lineN 116 pos)], lasts := x.d.lines.length + 1 }) else (x.s, x.d) := by
    intro x hx
    have hsl := h.sl x hx
    have hrm := h.rm x hx
    by_cases hlt : g.trim < pos
    · rw [if_pos hlt]
      have hl := lineN_len (k := 116) (n := pos) (by omega)
      have := trim_eq (s := x.s) (d := x.d) (pos := (pos : Int)) ⟨by omega, by omega⟩ (by rw [Int.toNat_natCast, hrm.1]; omega)
      rw [Int.toNat_natCast] at this
      exact this
    · rw [if_neg hlt]
      unfold Sg.trimAt
      rw [if_neg (by omega)]
  refine ⟨li_up h hs e1 (by rw [hm]; exact h.m) (by rw [hm, hnx]; exact h.lastm) (by rw [hm]; exact h.ml) (by rw [ht, hnx]; omega) ho ?_ (by rw [ht, hnx]; exact fun p hp1 hp2 => h.rz p (by omega) hp2), fun hsy => up_synced (n := n) h.len hs e1 ?_⟩
  · intro i x hx
    have hmm := List.mem_of_getElem? hx
    have hsl := h.sl x hmm
    have hrm := h.rm x hmm
    rw [hf x hmm, hm, ht, hnx]
    by_cases hlt : g.trim < pos
    · rw [if_pos hlt]
      have hl := lineN_len (k := 116) (n := pos) (by omega)
      refine ⟨sgi_trim (h.sg x hmm) (by omega) (by omega) (by rw [hrm.1]; omega), ⟨hrm.1, ?_⟩, ⟨hsl.1, rfl⟩, ?_⟩
      · show usedL (x.d.lines ++ [txB (lineN 116 pos)]) ≤ _
        rw [usedL_app]; simp only [usedL, size_txB]; omega
      · intro p
        show (mget (x.s.m.filter fun q => decide ((pos : Int) ≤ q.1)) p).map (·.1) = _
        rw [mget_filter (fun k => decide ((pos : Int) ≤ k)) p]
        have hmg := h.mg i x hx p
        by_cases hp : (pos : Int) ≤ p
        · rw [if_pos (decide_eq_true hp), hmg]
          by_cases hc : (g.trim : Int) ≤ p ∧ p < g.next ∧ stripeM g.m p = i
          · rw [if_pos hc, if_pos ⟨hp, hc.2⟩]
          · rw [if_neg hc, if_neg (fun hh => hc ⟨by omega, hh.2⟩)]
        · rw [if_neg (by simpa using hp), if_neg (fun hh => hp hh.1)]; rfl
    · rw [if_neg hlt]
      have he : g.trim = pos := by omega
      refine ⟨h.sg x hmm, ⟨hrm.1, by show usedL x.d.lines ≤ _; omega⟩, ⟨hsl.1, by rw [← he]; exact hsl.2⟩, fun p => ?_⟩
      rw [← he]; exact h.mg i x hx p
  · intro x hx
    show (x.s.trimAt x.d pos).2.lasts = (x.s.trimAt x.d pos).2.lines.length
    rw [hf x hx]
    split
    · simp
    · exact hsy x hx
theorem findI_app {m l : List (Int × Int)} {p : Int} : ∀ i, i < m.length → findI (m ++ l) p i = findI m p i
  | 0, _ => rfl
  | i + 1, hi => by
    unfold findI
    rw [findI_app i (by omega)]
    have : (m ++ l).getD (i + 1) (0, 1) = m.getD (i + 1) (0, 1) := by
      rw [List.getD, List.getD, List.getElem?_append_left hi]
    rw [this]
theorem stripe_app {m : List (Int × Int)} (hm : 0 < m.length) {y : Int × Int} {p : Int} (hp : p < y.1) : stripeM (m ++ [y]) p = stripeM m p := by
  have hs : spanI (m ++ [y]) p = spanI m p := by
    unfold spanI
    rw [List.length_append]
    obtain ⟨k, hk⟩ : ∃ k, m.length = k + 1 := ⟨m.length - 1, by omega⟩
    show findI (m ++ [y]) p (m.length + 1 - 1) = _
    rw [Nat.add_sub_cancel, hk, Nat.add_sub_cancel]
    rw [show findI (m ++ [y]) p (k + 1) = if p < ((m ++ [y]).getD (k + 1) (0, 1)).1 then findI (m ++ [y]) p k else k + 1 from rfl, if_pos]
    · exact findI_app (m := m) (l := [y]) (p := p) k (by omega)
    · rw [List.getD, ← hk, List.getElem?_append_right (Nat.le_refl _), Nat.sub_self]
      exact hp
  unfold stripeM spanAt
  rw [hs]
  have hlt : spanI m p < m.length := by
    have := findI_le m p (m.length - 1)
    unfold spanI; omega
  rw [List.getD, List.getD, List.getElem?_append_left hlt]
theorem map_app {m : List (Int × Int)} (h : MapOk m) {f n : Int} (hl : ∀ y, m[m.length - 1]? = some y → y.1 ≤ f) (hf : 0 ≤ f ∧ f ≤ 2147483647) (hn : 1 ≤ n ∧ n ≤ 8) (hml : m.length ≤ 99) : MapOk (m ++ [(f, n)]) := by
  have h0 := h.len.1
  refine ⟨by rw [List.length_append]; simp; omega, ?_, ?_, ?_⟩
  · intro x hx
    rw [List.getElem?_append_left h0] at hx
    exact h.zero x hx
  · intro i x y hx hy
    have hi := (List.getElem?_eq_some_iff.1 hy).1
    rw [List.length_append] at hi
    simp only [List.length_cons, List.length_nil] at hi
    rcases Nat.lt_or_ge (i + 1) m.length with hlt | hge
    · rw [List.getElem?_append_left (by omega)] at hx
      rw [List.getElem?_append_left hlt] at hy
      exact h.ris i x y hx hy
    · have hie : i = m.length - 1 := by omega
      rw [List.getElem?_append_left (by omega)] at hx
      rw [List.getElem?_append_right (by omega), show i + 1 - m.length = 0 by omega] at hy
      have := Option.some.inj hy
      subst this
      rw [hie] at hx
      exact hl x hx
  · intro x hx
    rcases List.mem_append.1 hx with hx | hx
    · exact h.bd x hx
    · simp at hx; subst hx
      exact ⟨hf.1, hf.2, hn.1, hn.2⟩
theorem li_resize {room : Int} {n : Nat} {R : Nat → Rc} {g g' : Lg} {l : List SB} {N : Int} (h : LI room n R g) (hN : 1 ≤ N ∧ N ≤ 8) (hml : g.m.length ≤ 99) (hn : n < 7000) (hroom : (128 * n + 128 : Int) ≤ room) (hs : SegUp (fun x => (x.s.sealG x.d (g.m.length : Int)).2) g.segs 8 l) (e1 : g'.segs = l) (hm : g'.m = g.m ++ [((g.next : Int), N)]) (ht : g'.trim = g.trim) (hnx : g'.next = g.next) (ho : g'.own.Ok) :
    LI room (n + 1) R g' ∧ g'.synced ∧ ∀ x ∈ g.segs, (x.s.sealG x.d (g.m.length : Int)).1.2 = 0 := by
  have hb := h.bd
  have h0 := h.m.len.1
  have hf : ∀ x ∈ g.segs, x.s.sealG x.d (g.m.length : Int) = ((nextM x.s.m x.s.trim, 0), { x.s with sealed := g.m.length }, { x.d with lines := x.d.lines ++ [txB (lineN 115 g.m.length)], lasts := x.d.lines.length + 1 }) := by
    intro x hx
    have hsl := h.sl x hx
    have hrm := h.rm x hx
    have hl := lineN_len (k := 115) (n := g.m.length) (by omega)
    have := seal_eq (s := x.s) (d := x.d) (ep := (g.m.length : Int)) ⟨by omega, by omega⟩ (by omega) (by rw [Int.toNat_natCast, hrm.1]; omega)
    rw [Int.toNat_natCast] at this
    exact this
  have hlen' : g'.m.length = g.m.length + 1 := by rw [hm, List.length_append]; rfl
  refine ⟨li_up h hs e1 (by rw [hm]; exact map_app h.m h.lastm ⟨by omega, by omega⟩ hN hml) ?_ (by omega) (by rw [ht, hnx]; omega) ho ?_ (by rw [ht, hnx]; exact h.rz), up_synced (n := n) h.len hs e1 ?_, fun x hx => by rw [hf x hx]⟩
  · intro y hy
    rw [hlen', Nat.add_sub_cancel, hm, List.getElem?_append_right (Nat.le_refl _), Nat.sub_self] at hy
    have := Option.some.inj hy
    subst this
    rw [hnx]; exact Int.le_refl _
  · intro i x hx
    have hmm := List.mem_of_getElem? hx
    have hsl := h.sl x hmm
    have hrm := h.rm x hmm
    have hl := lineN_len (k := 115) (n := g.m.length) (by omega)
    rw [hf x hmm, ht, hnx, hlen']
    refine ⟨sgi_seal (h.sg x hmm) (by omega) hsl.1 (by rw [hrm.1]; omega), ⟨hrm.1, ?_⟩, ⟨by show g.m.length < _; omega, hsl.2⟩, ?_⟩
    · show usedL (x.d.lines ++ [txB (lineN 115 g.m.length)]) ≤ _
      rw [usedL_app]; simp only [usedL, size_txB]; omega
    · intro p
      show (mget x.s.m p).map (·.1) = _
      rw [h.mg i x hx p]
      by_cases hp : p < (g.next : Int)
      · rw [hm, stripe_app h0 hp]
      · rw [if_neg (by omega), if_neg (by omega)]
  · intro x hx
    show (x.s.sealG x.d (g.m.length : Int)).2.2.lasts = (x.s.sealG x.d (g.m.length : Int)).2.2.lines.length
    rw [hf x hx]
    simp
inductive OL
  | m (l : List (Int × Int))
  | t (q : Nat) (v : List Int)
def spanX (p : Int × Int) : Tx := Lib.decDigits p.1.toNat ++ 47 :: Lib.decDigits p.2.toNat
def mapX (l : List (Int × Int)) : Tx := joinX (l.map spanX)
def OL.text : OL → Tx
  | .m l => [109, 32] ++ mapX l
  | .t q v => [116, 32] ++ (Lib.decDigits q ++ 32 :: vecX v)
def OL.ok : OL → Prop
  | .m l => MapOk l ∧ l.length ≤ 100
  | .t q v => q ≤ 100000 ∧ v.length ≤ 8 ∧ ∀ x ∈ v, 0 ≤ x ∧ x ≤ 1048576
abbrev OSt := List (Int × Int) × Nat × List Int
def OL.step (s : OSt) : OL → OSt
  | .m l => (l, s.2.1, s.2.2)
  | .t q v => (s.1, q, trimV v)
structure OwnI (g : Lg) (ls : List OL) : Prop where
  lines : g.own.lines = ls.map fun o => txB o.text
  ok : ∀ o ∈ ls, o.ok
  dk : g.own.Ok
  sync : g.own.lasts = g.own.lines.length
  fm : ∀ t v, ∃ t' v', ls.foldl OL.step (g.m, t, v) = (g.m, t', v')
  ft : ∀ m v, ∃ m' v', ls.foldl OL.step (m, g.trim, v) = (m', g.trim, v') ∧ (v' = v ∨ v' = trimV g.gone)
theorem foldT : ∀ (ls : List OL) (m : List (Int × Int)) (t : Nat) (v : List Int), ∃ m' t' v', ls.foldl OL.step (m, t, v) = (m', t', v')
  | _, _, _, _ => ⟨_, _, _, rfl⟩
theorem OwnI.congr {g g' : Lg} {ls : List OL} (h : OwnI g ls) (ho : g'.own = g.own) (hm : g'.m = g.m) (ht : g'.trim = g.trim) (hv : trimV g'.gone = trimV g.gone) : OwnI g' ls := by
  refine ⟨by rw [ho]; exact h.lines, h.ok, by rw [ho]; exact h.dk, by rw [ho]; exact h.sync, by rw [hm]; exact h.fm, ?_⟩
  rw [ht, hv]; exact h.ft
theorem own_push {g g' : Lg} {ls : List OL} {o : OL} (h : OwnI g ls) (ho : o.ok) (hr : (usedL g.own.lines : Int) + o.text.length + 1 ≤ g.own.room) (hd : g'.own = { g.own with lines := g.own.lines ++ [txB o.text], lasts := g.own.lines.length + 1 })
    (hm : ∀ t v, ∃ t' v', OL.step ((ls.foldl OL.step (g'.m, t, v))) o = (g'.m, t', v')) (ht : ∀ m v, ∃ m' v', OL.step (ls.foldl OL.step (m, g'.trim, v)) o = (m', g'.trim, v') ∧ (v' = v ∨ v' = trimV g'.gone)) : OwnI g' (ls ++ [o]) := by
  refine ⟨by rw [hd, List.map_append, ← h.lines]; rfl, ?_, by rw [hd]; exact push_ok h.dk (Nat.le_refl _) hr, by rw [hd]; simp, ?_, ?_⟩
  · intro x hx
    rcases List.mem_append.1 hx with hx | hx
    · exact h.ok x hx
    · simp at hx; subst hx; exact ho
  · intro t v
    rw [List.foldl_append]; exact hm t v
  · intro m v
    rw [List.foldl_append]; exact ht m v
theorem own_m {g g' : Lg} {ls : List OL} (h : OwnI g ls) (ho : (OL.m g'.m).ok) (hr : (usedL g.own.lines : Int) + (OL.m g'.m).text.length + 1 ≤ g.own.room) (hd : g'.own = { g.own with lines := g.own.lines ++ [txB (OL.m g'.m).text], lasts := g.own.lines.length + 1 }) (ht : g'.trim = g.trim) (hv : g'.gone = g.gone) : OwnI g' (ls ++ [.m g'.m]) := by
  refine own_push h ho hr hd (fun t v => ?_) (fun m v => ?_)
  · obtain ⟨m', t', v', e⟩ := foldT ls g'.m t v
    exact ⟨t', v', by rw [e]; rfl⟩
  · rw [ht, hv] at *
    obtain ⟨m', v', e, h3⟩ := h.ft m v
    exact ⟨g'.m, v', by rw [e]; rfl, h3⟩
theorem own_t {g g' : Lg} {ls : List OL} {v : List Int} (h : OwnI g ls) (ho : (OL.t g'.trim v).ok) (hr : (usedL g.own.lines : Int) + (OL.t g'.trim v).text.length + 1 ≤ g.own.room) (hd : g'.own = { g.own with lines := g.own.lines ++ [txB (OL.t g'.trim v).text], lasts := g.own.lines.length + 1 }) (hm : g'.m = g.m) (hv : g'.gone = v) : OwnI g' (ls ++ [.t g'.trim v]) := by
  refine own_push h ho hr hd (fun t w => ?_) (fun m w => ?_)
  · rw [hm]
    obtain ⟨t', v', e⟩ := h.fm t w
    exact ⟨g'.trim, trimV v, by rw [e]; rfl⟩
  · obtain ⟨m', t', v', e⟩ := foldT ls m g'.trim w
    exact ⟨m', trimV v, by rw [e]; rfl, .inr (by rw [hv])⟩
theorem vecX_len {v : List Int} (h : ∀ x ∈ v, 0 ≤ x ∧ x ≤ 1048576) : (vecX v).length ≤ 2 + 8 * v.length := by
  have h1 := joinX_len 7 ((trimV v).map fun n => Lib.decDigits n.toNat) (by
    intro w hw
    obtain ⟨n, hn, rfl⟩ := List.mem_map.1 hw
    have := h n (trimV_mem hn)
    exact dec_len 6 n.toNat (by omega))
  rw [List.length_map] at h1
  have h2 := trimV_len v
  unfold vecX
  simp only [List.length_cons, List.length_append, List.length_nil]
  omega
theorem tX_len {q : Nat} {v : List Int} (hq : q < 100000) (h : ∀ x ∈ v, 0 ≤ x ∧ x ≤ 1048576) : (OL.t q v).text.length ≤ 10 + 8 * v.length := by
  have h1 := vecX_len h
  have h2 := dec_len 4 q (by omega)
  simp only [OL.text, List.length_cons, List.length_append, List.length_nil]
  omega
theorem mX_len {l : List (Int × Int)} (h : ∀ x ∈ l, 0 ≤ x.1 ∧ x.1 < 100000 ∧ 1 ≤ x.2 ∧ x.2 ≤ 8) : (OL.m l).text.length ≤ 2 + 8 * l.length := by
  have h1 := joinX_len 7 (l.map spanX) (by
    intro w hw
    obtain ⟨p, hp, rfl⟩ := List.mem_map.1 hw
    have := h p hp
    have a := dec_len 4 p.1.toNat (by omega)
    have b := dec_len 0 p.2.toNat (by omega)
    simp only [spanX, List.length_cons, List.length_append]
    omega)
  rw [List.length_map] at h1
  simp only [OL.text, mapX, List.length_cons, List.length_append, List.length_nil]
  omega
end Go.Sl

set_option linter.unusedVariables false
set_option linter.unusedSimpArgs false
namespace Go.Sl
structure LNew (room : Int) (k : Int) (g : Lg) : Prop where
  m : g.m = [(0, k)]
  trim : g.trim = 0
  gone : g.gone = []
  next : g.next = 0
  down : g.down = false
  own : g.own = ⟨room, [], 0⟩
  len : g.segs.length = 8
  segs : ∀ x ∈ g.segs, x.s = ⟨[], 0, 0⟩ ∧ x.d = ⟨room, [], 0⟩
theorem map_one {k : Int} (h : 1 ≤ k ∧ k ≤ 8) : MapOk [(0, k)] := by
  refine ⟨by simp, fun x hx => by simp at hx; rw [← hx], fun i x y hx hy => by simp at hy, fun x hx => by simp at hx; subst hx; exact ⟨Int.le_refl _, by show (0 : Int) ≤ _; omega, h.1, h.2⟩⟩
theorem stripe_one {k : Int} (h : 1 ≤ k ∧ k ≤ 8) {p : Nat} : stripeM [(0, k)] p = p % k.toNat := by
  have e : spanAt [(0, k)] (p : Int) = (0, k) := rfl
  unfold stripeM
  rw [e]
  simp
theorem LNew.li {room k : Int} {g : Lg} (h : LNew room k g) (hk : 1 ≤ k ∧ k ≤ 8) (hr : 1 ≤ room ∧ room ≤ 1048576) (R : Nat → Rc) : LI room 0 R g := by
  have hmem : ∀ {i : Nat} {x : SB}, g.segs[i]? = some x → x.s = ⟨[], 0, 0⟩ := fun hx => (h.segs _ (List.mem_of_getElem? hx)).1
  refine ⟨by rw [h.m]; exact map_one hk, fun y hy => by rw [h.m] at hy; simp at hy; subst hy; rw [h.next]; exact Int.le_refl _, by rw [h.m]; simp, h.len, by rw [h.trim, h.next]; omega, ?_, ?_, ?_, ?_, ?_, fun p h1 h2 => by rw [h.next] at h2; omega⟩
  · rw [h.own]; exact (sgi_zero hr).ok
  · intro x hx
    obtain ⟨e1, e2⟩ := h.segs x hx
    rw [e1, e2]; exact sgi_zero hr
  · intro x hx
    obtain ⟨e1, e2⟩ := h.segs x hx
    rw [e2]; exact ⟨rfl, Nat.le_refl _⟩
  · intro x hx
    obtain ⟨e1, e2⟩ := h.segs x hx
    rw [e1, h.m, h.trim]; exact ⟨Nat.zero_lt_one, rfl⟩
  · intro i x hx p
    rw [hmem hx, h.next, h.trim, if_neg (by omega)]; rfl
theorem put_segs {g : Lg} {x z : SB} {p : Pl} {y : Int × Sg × Dk} {j : Nat} (hx : g.segs[stripeM g.m g.next]? = some x) (hz : (g.putG x p y).segs[j]? = some z) : (j = stripeM g.m g.next ∧ z = x.upd p y.2) ∨ (j ≠ stripeM g.m g.next ∧ g.segs[j]? = some z) := by
  have hk := (List.getElem?_eq_some_iff.1 hx).1
  simp only [Lg.putG] at hz
  by_cases hj : j = stripeM g.m g.next
  · subst hj
    rw [List.getElem?_set_self hk] at hz
    exact .inl ⟨rfl, (Option.some.inj hz).symm⟩
  · rw [List.getElem?_set_ne (fun h => hj h.symm)] at hz
    exact .inr ⟨hj, hz⟩
theorem sync_segs {g : Lg} {x z : SB} {k j : Nat} (hx : g.segs[k]? = some x) (hz : (g.sync k x).segs[j]? = some z) : (j = k ∧ z.s = x.s ∧ z.d = x.d.sync) ∨ (j ≠ k ∧ g.segs[j]? = some z) := by
  have hk := (List.getElem?_eq_some_iff.1 hx).1
  simp only [Lg.sync] at hz
  by_cases hj : j = k
  · subst hj
    rw [List.getElem?_set_self hk] at hz
    have e := (Option.some.inj hz).symm
    exact .inl ⟨rfl, by rw [e]; rfl, by rw [e]; rfl⟩
  · rw [List.getElem?_set_ne (fun h => hj h.symm)] at hz
    exact .inr ⟨hj, hz⟩
structure Rows (room : Int) (K i : Nat) (R : Nat → Rc) (g : Lg) : Prop where
  li : LI room i R g
  m : g.m = [(0, (K : Int))]
  trim : g.trim = 0
  next : g.next = i
  down : g.down = false
  segs : ∀ j z, g.segs[j]? = some z → z.d.lasts = 0 ∧ (0 < z.d.lines.length ↔ j < K ∧ j < i)
theorem rows_put {room : Int} {K i : Nat} {R : Nat → Rc} {g : Lg} (h : Rows room K i R g) (hk : 1 ≤ K ∧ K ≤ 8) {r : Rc} (hr : R i = r) (hk2 : SmR r) (hroom : (128 * i + 128 : Int) ≤ room) (hn : i < 7000) {x : SB} (hx : g.segs[stripeM g.m g.next]? = some x) :
    (x.s.put x.d (epochM g.m g.next) g.next r).1 = 0 ∧ ∀ p, Rows room K (i + 1) R (g.putG x p (x.s.put x.d (epochM g.m g.next) g.next r)) := by
  obtain ⟨h1, h2, h3, h4⟩ := li_put h.li (r := r) (by rw [h.next]; exact hr) hk2 hroom hn hx
  refine ⟨h1, fun p => ⟨h4 p, h.m, h.trim, ?_, h.down, fun j z hz => ?_⟩⟩
  · simp only [Lg.putG, h1, if_true]; rw [h.next]
  · have hst : stripeM g.m g.next = i % K := by rw [h.m, h.next, stripe_one (by omega)]; simp
    have hlt : i % K < K := Nat.mod_lt _ (by omega)
    have hle : i % K ≤ i := Nat.mod_le _ _
    rcases put_segs hx hz with ⟨rfl, rfl⟩ | ⟨hj, hz⟩
    · have hxs := h.segs _ x hx
      refine ⟨h2.trans hxs.1, ?_⟩
      show 0 < (x.s.put x.d (epochM g.m g.next) g.next r).2.2.lines.length ↔ _
      rw [h3, hst]
      omega
    · have hzs := h.segs j z hz
      refine ⟨hzs.1, hzs.2.trans ?_⟩
      rw [hst] at hj
      constructor
      · omega
      · rintro ⟨h5, h6⟩
        refine ⟨h5, ?_⟩
        by_cases he : j = i
        · subst he
          rw [Nat.mod_eq_of_lt h5] at hj
          exact absurd rfl hj
        · omega
end Go.Sl
namespace Go.Sl
structure SyncI (room : Int) (K c : Nat) (S : Nat → Bool) (R : Nat → Rc) (g : Lg) : Prop where
  li : LI room c R g
  m : g.m = [(0, (K : Int))]
  trim : g.trim = 0
  next : g.next = c
  down : g.down = false
  segs : ∀ j z, g.segs[j]? = some z → (S j = true → z.d.lasts = z.d.lines.length) ∧ (S j = false → z.d.lasts = 0) ∧ (0 < z.d.lines.length ↔ j < K ∧ j < c)
theorem Rows.syncI {room : Int} {K c : Nat} {R : Nat → Rc} {g : Lg} (h : Rows room K c R g) : SyncI room K c (fun _ => false) R g :=
  ⟨h.li, h.m, h.trim, h.next, h.down, fun j z hz => ⟨(fun hf => by cases hf), fun _ => (h.segs j z hz).1, (h.segs j z hz).2⟩⟩
theorem SyncI.step {room : Int} {K c : Nat} {S : Nat → Bool} {R : Nat → Rc} {g : Lg} (h : SyncI room K c S R g) {k : Nat} {x : SB} (hx : g.segs[k]? = some x) : SyncI room K c (fun i => S i || decide (i = k)) R (g.sync k x) := by
  refine ⟨li_sync h.li hx, h.m, h.trim, h.next, h.down, fun j z hz => ?_⟩
  rcases sync_segs hx hz with ⟨rfl, e1, e2⟩ | ⟨hj, hz⟩
  · have := h.segs _ x hx
    rw [e2]
    refine ⟨fun _ => rfl, fun hf => by simp at hf, ?_⟩
    show 0 < x.d.lines.length ↔ _
    exact this.2.2
  · have := h.segs _ z hz
    refine ⟨fun hs => this.1 (by simpa [hj] using hs), fun hs => this.2.1 (by simpa [hj] using hs), this.2.2⟩
theorem SyncI.congr {room : Int} {K c : Nat} {S S' : Nat → Bool} {R : Nat → Rc} {g : Lg} (h : SyncI room K c S R g) (he : ∀ j, j < 8 → S' j = S j) : SyncI room K c S' R g :=
  ⟨h.li, h.m, h.trim, h.next, h.down, fun j z hz => by
    have hj := (List.getElem?_eq_some_iff.1 hz).1
    rw [h.li.len] at hj
    rw [he j hj]; exact h.segs j z hz⟩
theorem SyncI.waits {room : Int} {K c : Nat} {S : Nat → Bool} {R : Nat → Rc} {g : Lg} (h : SyncI room K c S R g) {k : Nat} {x : SB} (hx : g.segs[k]? = some x) : decide ((0 : Int) < (x.d.lines.length : Int) - (x.d.lasts : Int)) = (!S k && decide (k < K ∧ k < c)) := by
  have := h.segs k x hx
  cases hs : S k with
  | true =>
    have e := this.1 hs
    rw [e]; simp
  | false =>
    have e := this.2.1 hs
    have h3 := this.2.2
    rw [e]
    simp only [Bool.not_false, Bool.true_and]
    congr 1
    apply propext
    omega
theorem SyncI.lasts {room : Int} {K c : Nat} {S : Nat → Bool} {R : Nat → Rc} {g : Lg} (h : SyncI room K c S R g) (hk : 1 ≤ K ∧ K ≤ 8) {p : Nat} (hp : p < c) : g.lasts p = S (p % K) := by
  obtain ⟨x, hx⟩ := h.li.ok.at_ (pos := (p : Int)) (by omega)
  have hst : stripeM g.m p = p % K := by rw [h.m, stripe_one (by omega)]; simp
  have := h.segs _ x hx
  rw [hst] at this
  cases hs : S (p % K) with
  | true => exact h.li.lasts (by rw [h.trim]; omega) (by rw [h.next]; exact hp) hx (this.1 hs)
  | false => exact h.li.lasts_no (by rw [h.trim]; omega) (by rw [h.next]; exact hp) hx (this.2.1 hs)
theorem SyncI.head {room : Int} {K c : Nat} {S : Nat → Bool} {R : Nat → Rc} {g : Lg} (h : SyncI room K c S R g) (hk : 1 ≤ K ∧ K ≤ 8) {q : Nat} (hq : q ≤ c) (h1 : ∀ p, p < q → S (p % K) = true) (h2 : q = c ∨ S (q % K) = false) : g.head = q := by
  refine head_eq h.down (by rw [h.trim]; omega) (by rw [h.next]; exact hq) (fun p _ hp => by rw [h.lasts hk (by omega)]; exact h1 p hp) ?_
  rcases Nat.lt_or_ge q c with hlt | hge
  · rcases h2 with h2 | h2
    · omega
    · exact .inr (by rw [h.lasts hk hlt]; exact h2)
  · exact .inl (by rw [h.next]; omega)
end Go.Sl

set_option linter.unusedVariables false
set_option linter.unusedSimpArgs false
namespace Go.Sl
end Go.Sl

set_option linter.unusedVariables false
set_option linter.unusedSimpArgs false
namespace Go.Sl
structure ReOk (l : List SB) (nx : Nat) : Prop where
  len : l.length = 8
  ply : ∀ x ∈ l, Ply x.d.opened.1 x.d
  op : ∀ x ∈ l, x.d.opened.2 = x.d
  cut : ∀ x ∈ l, (x.d.opened.1.cutAt x.d nx).1 = 0
end Go.Sl

set_option linter.unusedVariables false
set_option linter.unusedSimpArgs false
namespace Go.Sl
theorem ent_lgC {C : List HP} {lb : Nat} {g : Lg} {L L' : List HP} {k : Nat} {x : SB} (hx : g.segs[k]? = some x) (hh : Takes ((sbAt x ++ [sbsH g.segs k]) ++ (C ++ lgPre lb g)) L L') : Ent L (C ++ lgAt lb g) := by
  obtain ⟨hk, e⟩ := List.getElem?_eq_some_iff.1 hx
  have h := ent_sbs hk hh
  rw [← e, List.set_getElem_self, List.append_assoc] at h
  exact h
theorem ent_push {A L L' : List HP} {l : List SB} {x : SB} (hh : Takes ((sbAt x ++ [sbsA l]) ++ A) L L') : Ent L (A ++ [sbsA (l ++ [x])]) := by
  refine (ent_append_of_takes hh).trans ?_
  rw [List.append_assoc]
  have e : sbsL (l ++ [x]) = sbsL l ++ sbAt x := by rw [sbsL_app]; show sbsL l ++ (sbAt x ++ []) = _; rw [List.append_nil]
  intro r o h
  have h1 := big_ent (A := sbAt x) (L := big (sbsL l) :: A) r o h
  have h2 := Ent.swap r o h1
  have h3 := app_big (A := sbsL l) (B := sbAt x) (L := A) r o h2
  rw [← e] at h3
  have h4 : seps (sbsA (l ++ [x]) :: A) r o := h3
  have := ent_rot (A := [sbsA (l ++ [x])]) (B := A) (L := []) r o (by simpa using h4)
  simpa using this
theorem ent_none {L : List HP} : Ent L (sbsA [] :: L) := by
  have : Ent ([] ++ L) (big [] :: L) := big_ent (A := []) (L := L)
  exact this
def Lg.rows (g : Lg) : List (Int × Rc) := (List.range (g.head - g.trim)).map fun i => (((g.trim + i : Nat) : Int), g.rcd (g.trim + i))
theorem rows_at {g : Lg} {i : Nat} (h : i < g.head - g.trim) : g.rows[i]? = some (((g.trim + i : Nat) : Int), g.rcd (g.trim + i)) := by
  unfold Lg.rows
  rw [List.getElem?_map, List.getElem?_range h]; rfl
theorem rows_len (g : Lg) : g.rows.length = g.head - g.trim := by unfold Lg.rows; rw [List.length_map, List.length_range]
end Go.Sl

set_option linter.unusedVariables false
set_option linter.unusedSimpArgs false
namespace Go.Sl
def LPutR (g : Lg) (r : Rc) (g' : Lg) : Prop := ∃ sx p, g.segs[stripeM g.m g.next]? = some sx ∧ g' = g.putG sx p (sx.s.put sx.d (epochM g.m g.next) g.next r)
def LPut (g : Lg) (a b : Int) (g' : Lg) : Prop := LPutR g (rz a b) g'
def LSync (g : Lg) (k : Nat) (g' : Lg) : Prop := ∃ sx, g.segs[k]? = some sx ∧ g' = g.sync k sx
structure LBack (room : Int) (n : Nat) (R : Nat → Rc) (g : Lg) (keep : List Int) (g' : Lg) : Prop where
  li : LI room n R g'
  sy : g'.synced
  m : g'.m = g.m
  trim : g'.trim = g.trim
  down : g'.down = false
  gone : g'.gone = g.gone ∨ g'.gone = trimV g.gone
  own : g'.own = g.own
  nx : g.trim ≤ g'.next ∧ g'.next ≤ g.next
  kept : ∀ p, g.trim ≤ p → p < g'.next → keptP g keep p = true
  stop : g'.next = g.next ∨ keptP g keep g'.next = false
theorem LPutR.rest {g g' : Lg} {r : Rc} (h : LPutR g r g') : g'.own = g.own ∧ g'.m = g.m ∧ g'.trim = g.trim ∧ g'.gone = g.gone ∧ g'.down = g.down := by
  obtain ⟨sx, p, hx, rfl⟩ := h
  exact ⟨rfl, rfl, rfl, rfl, rfl⟩
theorem LPut.rest {g g' : Lg} {a b : Int} (h : LPut g a b g') : g'.own = g.own ∧ g'.m = g.m ∧ g'.trim = g.trim ∧ g'.gone = g.gone ∧ g'.down = g.down := LPutR.rest h
theorem LSync.rest {g g' : Lg} {k : Nat} (h : LSync g k g') : g'.own = g.own ∧ g'.m = g.m ∧ g'.trim = g.trim ∧ g'.gone = g.gone ∧ g'.down = g.down ∧ g'.next = g.next := by
  obtain ⟨sx, hx, rfl⟩ := h
  exact ⟨rfl, rfl, rfl, rfl, rfl, rfl⟩
theorem LPutR.li {room : Int} {n : Nat} {R : Nat → Rc} {g g' : Lg} {r : Rc} (hp : LPutR g r g') (h : LI room n R g) (hr : R g.next = r) (hk : SmR r) (hroom : (128 * n + 128 : Int) ≤ room) (hn : n < 7000) : LI room (n + 1) R g' ∧ g'.next = g.next + 1 := by
  obtain ⟨sx, p, hx, rfl⟩ := hp
  obtain ⟨h1, h2, h3, h4⟩ := li_put h hr hk hroom hn hx
  exact ⟨h4 p, by simp only [Lg.putG, h1, if_true]⟩
theorem LPut.li {room : Int} {n : Nat} {R : Nat → Rc} {g g' : Lg} {a b : Int} (hp : LPut g a b g') (h : LI room n R g) (hr : R g.next = rz a b) (hab : 0 ≤ a ∧ a < 8 ∧ 1 ≤ b ∧ b < 100000) (hroom : (128 * n + 128 : Int) ≤ room) (hn : n < 7000) : LI room (n + 1) R g' ∧ g'.next = g.next + 1 := LPutR.li hp h hr (smr_rz hab) hroom hn
theorem LPutR.rows {room : Int} {K i : Nat} {R : Nat → Rc} {g g' : Lg} {r : Rc} (hp : LPutR g r g') (h : Rows room K i R g) (hk : 1 ≤ K ∧ K ≤ 8) (hr : R i = r) (hs : SmR r) (hroom : (128 * i + 128 : Int) ≤ room) (hn : i < 7000) : Rows room K (i + 1) R g' := by
  obtain ⟨sx, p, hx, rfl⟩ := hp
  exact (rows_put h hk hr hs hroom hn hx).2 p
theorem LPut.rows {room : Int} {K i : Nat} {R : Nat → Rc} {g g' : Lg} {a b : Int} (hp : LPut g a b g') (h : Rows room K i R g) (hk : 1 ≤ K ∧ K ≤ 8) (hr : R i = rz a b) (hab : 0 ≤ a ∧ a < 8 ∧ 1 ≤ b ∧ b < 100000) (hroom : (128 * i + 128 : Int) ≤ room) (hn : i < 7000) : Rows room K (i + 1) R g' := LPutR.rows hp h hk hr (smr_rz hab) hroom hn
theorem LSync.li {room : Int} {n : Nat} {R : Nat → Rc} {g g' : Lg} {k : Nat} (hp : LSync g k g') (h : LI room n R g) : LI room n R g' := by
  obtain ⟨sx, hx, rfl⟩ := hp
  exact li_sync h hx
theorem LSync.syncI {room : Int} {K c k : Nat} {S : Nat → Bool} {R : Nat → Rc} {g g' : Lg} (hp : LSync g k g') (h : SyncI room K c S R g) : SyncI room K c (fun i => S i || decide (i = k)) R g' := by
  obtain ⟨sx, hx, rfl⟩ := hp
  exact h.step hx
def Lg.syncTo (g : Lg) (k : Nat) : Prop := ∀ j z, j < k → g.segs[j]? = some z → z.d.lasts = z.d.lines.length
theorem LSync.to {g g' : Lg} {k : Nat} (hp : LSync g k g') (h : g.syncTo k) : g'.syncTo (k + 1) := by
  obtain ⟨sx, hx, rfl⟩ := hp
  intro j z hj hz
  rcases sync_segs hx hz with ⟨rfl, e1, e2⟩ | ⟨hj2, hz⟩
  · rw [e2]; rfl
  · exact h j z (by omega) hz
theorem LPutR.sync {g g' g'' : Lg} {r : Rc} {k : Nat} (hp : LPutR g r g') (hs : LSync g' k g'') (hk : stripeM g.m g.next = k) (h : g.synced) : g''.synced := by
  obtain ⟨sx, p, hx, rfl⟩ := hp
  obtain ⟨sy, hy, rfl⟩ := hs
  subst hk
  intro z hz
  obtain ⟨j, hj, rfl⟩ := List.mem_iff_getElem.1 hz
  rcases sync_segs hy (List.getElem?_eq_getElem hj) with ⟨rfl, e1, e2⟩ | ⟨hj2, hz2⟩
  · rw [e2]; rfl
  · rcases put_segs hx hz2 with ⟨hj3, _⟩ | ⟨_, hz3⟩
    · exact absurd hj3 hj2
    · exact h _ (List.mem_of_getElem? hz3)
theorem LPut.sync {g g' g'' : Lg} {a b : Int} {k : Nat} (hp : LPut g a b g') (hs : LSync g' k g'') (hk : stripeM g.m g.next = k) (h : g.synced) : g''.synced := LPutR.sync hp hs hk h
theorem LBack.head_le {room : Int} {n : Nat} {R : Nat → Rc} {g g' : Lg} {keep : List Int} (h : LBack room n R g keep g') (hd : g.down = false) : g.head ≤ g'.next := by
  have hge : ∀ k p, headF g k p ≤ g.trim ∨ ∀ q, p ≤ q → q < headF g k p → g.lasts q = true := by
    intro k
    induction k with
    | zero => intro p; right; intro q h1 h2; exact absurd h2 (Nat.not_lt.2 h1)
    | succ k ih =>
      intro p
      unfold headF
      by_cases hl : g.lasts p = true
      · rw [if_pos hl]
        rcases ih (p + 1) with h1 | h1
        · exact .inl h1
        · right
          intro q h2 h3
          by_cases he : q = p
          · subst he; exact hl
          · exact h1 q (by omega) h3
      · rw [if_neg hl]
        right; intro q h1 h2; omega
  have hh : g.head = headF g (g.next - g.trim) g.trim := by unfold Lg.head; rw [hd, if_neg (by decide)]
  have hb := headF_le g (g.next - g.trim) g.trim
  rw [← hh] at hb
  have hnx := h.nx
  rcases hge (g.next - g.trim) g.trim with h1 | h1
  · rw [← hh] at h1; omega
  · rw [← hh] at h1
    rcases h.stop with h2 | h2
    · omega
    · by_cases hc : g'.next < g.head
      · have := keptP_of_lasts (keep := keep) (h1 g'.next h.nx.1 hc)
        rw [h2] at this; cases this
      · omega
theorem LBack.all {room : Int} {n m : Nat} {R R' : Nat → Rc} {g g' : Lg} {keep : List Int} (h : LBack room n R g keep g') (hg : LI room m R' g) (hd : g.down = false) (hs : g.synced) : g'.next = g.next := by
  have h1 := h.head_le hd
  rw [hg.head hd hs] at h1
  have := h.nx
  omega
end Go.Sl

set_option linter.unusedVariables false
set_option linter.unusedSimpArgs false
namespace Go.Sl
theorem span_no {c : UInt8} (hc : ¬ (48 ≤ c.toNat ∧ c.toNat ≤ 57)) (h : c ≠ 47) (p : Int × Int) : hasC c (spanX p) = false := by
  unfold spanX
  rw [has_app, has_cons, dec_no hc, dec_no hc]
  simp [Ne.symm h]
end Go.Sl

set_option linter.unusedVariables false
set_option linter.unusedSimpArgs false
namespace Go.Sl
theorem joinX_nl {ws : List Tx} (h : ∀ w ∈ ws, hasC 10 w = false) : hasC 10 (joinX ws) = false := joinX_no (by decide) h
theorem ol_nl (o : OL) : hasC 10 o.text = false := by
  cases o with
  | m l =>
    show hasC 10 ([109, 32] ++ mapX l) = false
    rw [has_app]
    have : hasC 10 (mapX l) = false := joinX_nl fun w hw => by
      obtain ⟨p, _, rfl⟩ := List.mem_map.1 hw
      exact span_no (by decide) (by decide) p
    rw [this]; rfl
  | t q v =>
    show hasC 10 ([116, 32] ++ (Lib.decDigits q ++ 32 :: vecX v)) = false
    simp only [has_app, has_cons, dec_no (c := 10) (by decide), vec_nl]; rfl
theorem ol_write {d : Dk} (o : OL) (hr : (usedL d.lines : Int) + o.text.length + 1 ≤ d.room) : d.write (txB o.text) = (0, { d with lines := d.lines ++ [txB o.text] }) := write_ok (ol_nl o) hr
def LTrim (g : Lg) (pos : Nat) (v : List Int) (g' : Lg) : Prop := ∃ l gA op, SegUp (fun x => x.s.trimAt x.d pos) g.segs 8 l ∧ g' = { g with segs := l, trim := pos, gone := v, gA := gA, op := op, own := (g.own.write (txB (OL.t pos v).text)).2.sync }
def LSize (g : Lg) (N : Int) (g' : Lg) : Prop := ∃ l mA op, SegUp (fun x => (x.s.sealG x.d (g.m.length : Int)).2) g.segs 8 l ∧ g' = { g with segs := l, m := g.m ++ [((g.next : Int), N)], mA := mA, op := op, own := (g.own.write (txB (OL.m (g.m ++ [((g.next : Int), N)])).text)).2.sync }
theorem LTrim.rest {g g' : Lg} {pos : Nat} {v : List Int} (h : LTrim g pos v g') : g'.m = g.m ∧ g'.trim = pos ∧ g'.gone = v ∧ g'.next = g.next ∧ g'.down = g.down ∧ g'.own = (g.own.write (txB (OL.t pos v).text)).2.sync := by
  obtain ⟨l, a, o, h1, rfl⟩ := h
  exact ⟨rfl, rfl, rfl, rfl, rfl, rfl⟩
theorem LSize.rest {g g' : Lg} {N : Int} (h : LSize g N g') : g'.m = g.m ++ [((g.next : Int), N)] ∧ g'.trim = g.trim ∧ g'.gone = g.gone ∧ g'.next = g.next ∧ g'.down = g.down ∧ g'.own = (g.own.write (txB (OL.m (g.m ++ [((g.next : Int), N)])).text)).2.sync := by
  obtain ⟨l, a, o, h1, rfl⟩ := h
  exact ⟨rfl, rfl, rfl, rfl, rfl, rfl⟩
theorem LTrim.li {room : Int} {n pos : Nat} {R : Nat → Rc} {g g' : Lg} {v : List Int} (ht : LTrim g pos v g') (h : LI room n R g) (h1 : g.trim ≤ pos ∧ pos ≤ g.next) (hn : n < 7000) (hroom : (128 * n + 128 : Int) ≤ room) : LI room (n + 1) R g' ∧ (g.synced → g'.synced) := by
  obtain ⟨l, a, o, hs, rfl⟩ := ht
  exact li_trim h h1 hn hroom hs rfl rfl rfl rfl (h.own.write _).sync
theorem LSize.li {room : Int} {n : Nat} {R : Nat → Rc} {g g' : Lg} {N : Int} (ht : LSize g N g') (h : LI room n R g) (hN : 1 ≤ N ∧ N ≤ 8) (hml : g.m.length ≤ 99) (hn : n < 7000) (hroom : (128 * n + 128 : Int) ≤ room) : LI room (n + 1) R g' ∧ g'.synced := by
  obtain ⟨l, a, o, hs, rfl⟩ := ht
  obtain ⟨h1, h2, _⟩ := li_resize (g' := { g with segs := l, m := g.m ++ [((g.next : Int), N)], mA := a, op := o, own := (g.own.write (txB (OL.m (g.m ++ [((g.next : Int), N)])).text)).2.sync }) h hN hml hn hroom hs rfl rfl rfl rfl (h.own.write _).sync
  exact ⟨h1, h2⟩
theorem LTrim.own {g g' : Lg} {pos : Nat} {v : List Int} {ls : List OL} (ht : LTrim g pos v g') (h : OwnI g ls) (hp : pos < 100000) (hl : v.length ≤ 8) (hv : ∀ x ∈ v, 0 ≤ x ∧ x ≤ 1048576) (hr : (usedL g.own.lines : Int) + 10 + 8 * v.length + 1 ≤ g.own.room) : OwnI g' (ls ++ [.t pos v]) ∧ usedL g'.own.lines ≤ usedL g.own.lines + 11 + 8 * v.length ∧ g'.own.room = g.own.room := by
  obtain ⟨e1, e2, e3, e4, e5, e6⟩ := ht.rest
  have hx := tX_len hp hv
  rw [ol_write (.t pos v) (by omega)] at e6
  simp only [Dk.sync, List.length_append, List.length_cons, List.length_nil] at e6
  have hh := own_t (g := g) (g' := g') (v := v) h (by rw [e2]; exact ⟨by omega, hl, hv⟩) (by rw [e2]; omega) (by rw [e2, e6]) e1 e3
  rw [e2] at hh
  refine ⟨hh, ?_, by rw [e6]⟩
  rw [e6]
  show usedL (g.own.lines ++ [txB (OL.t pos v).text]) ≤ _
  rw [usedL_app]; simp only [usedL, size_txB]; omega
theorem LSize.own {g g' : Lg} {N : Int} {ls : List OL} (ht : LSize g N g') (h : OwnI g ls) (hm : MapOk (g.m ++ [((g.next : Int), N)])) (hml : g.m.length ≤ 99) (hb : ∀ x ∈ g.m ++ [((g.next : Int), N)], x.1 < 100000) (hr : (usedL g.own.lines : Int) + 2 + 8 * (g.m.length + 1) + 1 ≤ g.own.room) : OwnI g' (ls ++ [.m (g.m ++ [((g.next : Int), N)])]) ∧ usedL g'.own.lines ≤ usedL g.own.lines + 11 + 8 * g.m.length ∧ g'.own.room = g.own.room := by
  obtain ⟨e1, e2, e3, e4, e5, e6⟩ := ht.rest
  have hx := mX_len (l := g.m ++ [((g.next : Int), N)]) fun x hx => ⟨(hm.bd x hx).1, hb x hx, (hm.bd x hx).2.2.1, (hm.bd x hx).2.2.2⟩
  rw [List.length_append] at hx
  simp only [List.length_cons, List.length_nil] at hx
  rw [ol_write (.m (g.m ++ [((g.next : Int), N)])) (by omega)] at e6
  simp only [Dk.sync, List.length_append, List.length_cons, List.length_nil] at e6
  have hh := own_m (g := g) (g' := g') h (by rw [e1]; exact ⟨hm, by rw [List.length_append]; simp; omega⟩) (by rw [e1]; omega) (by rw [e1, e6]) e2 e3
  rw [e1] at hh
  refine ⟨hh, ?_, by rw [e6]⟩
  rw [e6]
  show usedL (g.own.lines ++ [txB (OL.m (g.m ++ [((g.next : Int), N)])).text]) ≤ _
  rw [usedL_app]; simp only [usedL, size_txB]; omega
section
variable {g0 g1 g2 g3 g4 g5 g6 g7 g8 g9 : Lg}
end
end Go.Sl

set_option linter.unusedVariables false
set_option linter.unusedSimpArgs false
namespace Go.Sl
theorem LI.keys {room : Int} {n : Nat} {R : Nat → Rc} {g : Lg} (h : LI room n R g) : ∀ x ∈ g.segs, ∀ k ∈ keysM x.s.m, 0 ≤ k ∧ k ≤ 2147483647 := by
  intro x hx k hk
  obtain ⟨i, hi, rfl⟩ := List.mem_iff_getElem.1 hx
  have h1 := h.mg i _ (List.getElem?_eq_getElem hi) k
  have h2 := mget_isSome.2 hk
  have hb := h.bd
  split at h1
  · rename_i hc
    omega
  · have h3 := Option.map_eq_none_iff.1 h1
    rw [h3] at h2; cases h2
theorem LI.sites {room : Int} {n : Nat} {R : Nat → Rc} {g : Lg} (h : LI room n R g) : ∀ i, g.trim ≤ i → i < g.next → 0 ≤ (g.rcd i).site ∧ (g.rcd i).site ≤ 63 := by
  intro i h1 h2
  rw [h.rcd h1 h2]
  have := (rok_of (h.rz i h1 h2).1).site
  omega
end Go.Sl

set_option linter.unusedVariables false
set_option linter.unusedSimpArgs false
namespace Go.Sl
section
variable {g0 g1 g2 g3 g4 g5 g6 g7 g8 g9 : Lg}
end
end Go.Sl

set_option linter.unusedVariables false
set_option linter.unusedSimpArgs false
namespace Go.Sl
end Go.Sl

set_option linter.unusedVariables false
set_option linter.unusedSimpArgs false
namespace Go.Sl
def yR (p : Nat) : Rc := rz 0 ((p + 1 : Nat) : Int)
structure ResB (n c i : Nat) (g : Lg) : Prop where
  li : LI 100000 n yR g
  trim : g.trim = 0
  gone : g.gone = []
  next : g.next = c
  down : g.down = false
  ml : g.m.length = i + 1
  own : ∃ ls, OwnI g ls
  used : usedL g.own.lines ≤ 120 * i
  room : g.own.room = 100000
  mb : ∀ x ∈ g.m, x.1 < 100000
theorem OwnI.same {g g' : Lg} {ls : List OL} (h : OwnI g ls) (h1 : g'.own = g.own) (h2 : g'.m = g.m) (h3 : g'.trim = g.trim) (h4 : g'.gone = g.gone) : OwnI g' ls := h.congr h1 h2 h3 (by rw [h4])
theorem LPutR.waits {room : Int} {n : Nat} {R : Nat → Rc} {g g' : Lg} {r : Rc} (q : LPutR g r g') (h : LI room n R g) (hr : R g.next = r) (hsm : SmR r) (hroom : (128 * n + 128 : Int) ≤ room) (hn : n < 7000) : g'.lasts g.next = false := by
  obtain ⟨l', e'⟩ := q.li h hr hsm hroom hn
  obtain ⟨a1, a2, a3, a4, a5⟩ := q.rest
  obtain ⟨sx, p, hx, rfl⟩ := q
  obtain ⟨h1, h2, h3, h4⟩ := li_put h hr hsm hroom hn hx
  have hk := (List.getElem?_eq_some_iff.1 hx).1
  have hb := h.bd
  have hm := List.mem_of_getElem? hx
  have hno : mget sx.s.m (g.next : Int) = none := by
    have := h.mg _ sx hx g.next
    rw [if_neg (by omega)] at this
    exact Option.map_eq_none_iff.1 this
  have hl := lineP_le (n := g.next) hsm.1 (by omega)
  have hsl := h.sl sx hm
  have hrm := h.rm sx hm
  have hml := h.ml
  have hlp := h.m.len.1
  have hck := hsm.1
  have e := put_eq (s := sx.s) (d := sx.d) (ep := epochM g.m g.next) (pos := (g.next : Int)) (r := r) ⟨by omega, by rw [h.epoch]; omega, by omega, by rw [h.epoch]; omega⟩ (by rw [h.epoch]; omega) (by omega) hno hck
    (by rw [Int.toNat_natCast]; exact lineP_nlR hsm.1 _) (by rw [Int.toNat_natCast, hrm.1]; omega)
  rw [e]
  unfold Lg.lasts Sg.lastsAt
  simp only [Lg.putG, if_true]
  rw [List.getElem?_set_self hk]
  simp only [SB.upd]
  rw [mget_mput, if_pos rfl]
  simp only
  have hla := (h.ok.dk sx hm).lasts
  exact decide_eq_false (by omega)
theorem LPut.waits {room : Int} {n : Nat} {R : Nat → Rc} {g g' : Lg} {a b : Int} (q : LPut g a b g') (h : LI room n R g) (hr : R g.next = rz a b) (hab : 0 ≤ a ∧ a < 8 ∧ 1 ≤ b ∧ b < 100000) (hroom : (128 * n + 128 : Int) ≤ room) (hn : n < 7000) : g'.lasts g.next = false := LPutR.waits q h hr (smr_rz hab) hroom hn
theorem head_le {g : Lg} (hd : g.down = false) {q : Nat} (h1 : g.trim ≤ q) (h2 : q < g.next) (h3 : g.lasts q = false) : g.head ≤ q := by
  have hgen : ∀ k p, p ≤ q → q < p + k → headF g k p ≤ q := by
    intro k
    induction k with
    | zero => intro p hp hq; omega
    | succ k ih =>
      intro p hp hq
      unfold headF
      by_cases hpq : p = q
      · subst hpq
        rw [h3]
        exact Nat.le_refl _
      · by_cases hl : g.lasts p = true
        · rw [if_pos hl]; exact ih (p + 1) (by omega) (by omega)
        · rw [if_neg hl]; exact hp
  unfold Lg.head
  rw [hd, if_neg (by decide)]
  exact hgen _ _ h1 (by omega)
theorem ResB.put {n c i : Nat} {g g' : Lg} (h : ResB n c i g) (hn : n < 200) (hc : c < 200) (q : LPut g 0 ((c + 1 : Nat) : Int) g') : ResB (n + 1) (c + 1) i g' ∧ g'.head ≠ g'.next := by
  have hr : yR g.next = rz 0 ((c + 1 : Nat) : Int) := by rw [h.next]; rfl
  have hab : (0 : Int) ≤ 0 ∧ (0 : Int) < 8 ∧ (1 : Int) ≤ ((c + 1 : Nat) : Int) ∧ ((c + 1 : Nat) : Int) < 100000 := by omega
  obtain ⟨l, e⟩ := q.li h.li hr hab (by omega) (by omega)
  have hw := q.waits h.li hr hab (by omega) (by omega)
  obtain ⟨a1, a2, a3, a4, a5⟩ := q.rest
  obtain ⟨ls, ho⟩ := h.own
  have hd : g'.down = false := a5.trans h.down
  refine ⟨⟨l, a3.trans h.trim, a4.trans h.gone, by rw [e, h.next], hd, by rw [a2]; exact h.ml, ⟨ls, ho.same a1 a2 a3 a4⟩, by rw [a1]; exact h.used, by rw [a1]; exact h.room, by rw [a2]; exact h.mb⟩, ?_⟩
  have := head_le hd (q := g.next) (by rw [a3, h.trim]; omega) (by rw [e]; omega) hw
  rw [e]; omega
theorem ResB.sync {n c i k : Nat} {g g' : Lg} (h : ResB n c i g) (q : LSync g k g') : ResB n c i g' := by
  obtain ⟨a1, a2, a3, a4, a5, a6⟩ := q.rest
  obtain ⟨ls, ho⟩ := h.own
  exact ⟨q.li h.li, a3.trans h.trim, a4.trans h.gone, a6.trans h.next, a5.trans h.down, by rw [a2]; exact h.ml, ⟨ls, ho.same a1 a2 a3 a4⟩, by rw [a1]; exact h.used, by rw [a1]; exact h.room, by rw [a2]; exact h.mb⟩
theorem ResB.size {n c i N : Nat} {g g' : Lg} (h : ResB n c i g) (hn : n < 200) (hc : c < 200) (hi : i < 12) (hN : 1 ≤ N ∧ N ≤ 8) (q : LSize g (N : Int) g') : ResB (n + 1) c (i + 1) g' ∧ g'.synced ∧ g'.m[g'.m.length - 1]? = some ((c : Int), (N : Int)) := by
  obtain ⟨l, sy⟩ := q.li h.li (by omega) (by rw [h.ml]; omega) (by omega) (by omega)
  obtain ⟨a1, a2, a3, a4, a5, a6⟩ := q.rest
  obtain ⟨ls, ho⟩ := h.own
  have hm := map_app h.li.m (f := (g.next : Int)) (n := (N : Int)) h.li.lastm ⟨by omega, by rw [h.next]; omega⟩ (by omega) (by rw [h.ml]; omega)
  have hmb : ∀ x ∈ g.m ++ [((g.next : Int), (N : Int))], x.1 < 100000 := by
    intro x hx
    rcases List.mem_append.1 hx with hx | hx
    · exact h.mb x hx
    · simp at hx; subst hx; show (g.next : Int) < 100000; rw [h.next]; omega
  have hu := h.used
  obtain ⟨w1, w2, w3⟩ := q.own ho hm (by rw [h.ml]; omega) hmb (by rw [h.room, h.ml]; omega)
  refine ⟨⟨l, a2.trans h.trim, a3.trans h.gone, a4.trans h.next, a5.trans h.down, by rw [a1, List.length_append, h.ml]; rfl, ⟨_, w1⟩, ?_, by rw [w3, h.room], by rw [a1]; exact hmb⟩, sy, ?_⟩
  · rw [h.ml] at w2; omega
  · rw [a1, List.length_append]
    show (g.m ++ [((g.next : Int), (N : Int))])[g.m.length + 1 - 1]? = _
    rw [Nat.add_sub_cancel, List.getElem?_append_right (Nat.le_refl _), Nat.sub_self, h.next]; rfl
end Go.Sl

set_option linter.unusedVariables false
set_option linter.unusedSimpArgs false
namespace Go.Sl
def holeF (b : Nat → Bool) (c : Nat) : Nat → Nat → Nat
  | 0, _ => c
  | k + 1, i => if !b i && decide (i < c) then i else holeF b c k (i + 1)
theorem holeF_le (b : Nat → Bool) (c : Nat) : ∀ k i, holeF b c k i ≤ c
  | 0, i => Nat.le_refl _
  | k + 1, i => by
    unfold holeF
    split
    · rename_i h
      simp only [Bool.and_eq_true, decide_eq_true_eq] at h
      omega
    · exact holeF_le b c k (i + 1)
theorem holeF_ok (b : Nat → Bool) (c : Nat) : ∀ k i, (∀ j, i ≤ j → j < i + k → j < holeF b c k i → b j = true) ∧ (holeF b c k i = c ∨ (i ≤ holeF b c k i ∧ holeF b c k i < i + k ∧ b (holeF b c k i) = false))
  | 0, i => ⟨fun j h1 h2 => by omega, .inl rfl⟩
  | k + 1, i => by
    have ih := holeF_ok b c k (i + 1)
    have hle := holeF_le b c k (i + 1)
    unfold holeF
    split
    · rename_i h
      simp only [Bool.and_eq_true, decide_eq_true_eq, Bool.not_eq_true'] at h
      exact ⟨fun j h1 _ h3 => by omega, .inr ⟨Nat.le_refl _, by omega, h.1⟩⟩
    · rename_i h
      simp only [Bool.and_eq_true, decide_eq_true_eq, Bool.not_eq_true', not_and] at h
      refine ⟨fun j h1 h2 h3 => ?_, ?_⟩
      · by_cases hj : j = i
        · subst hj
          cases hb : b j with
          | true => rfl
          | false => exact absurd (h hb) (by omega)
        · exact ih.1 j (by omega) (by omega) h3
      · rcases ih.2 with h1 | ⟨h1, h2, h3⟩
        · exact .inl h1
        · exact .inr ⟨by omega, by omega, h3⟩
end Go.Sl

set_option linter.unusedVariables false
set_option linter.unusedSimpArgs false
namespace Go.Sl
def bitB (w j : Nat) : Bool := decide (w / 2 ^ j % 2 = 1)
def hR (H : Nat) (p : Nat) : Rc := if p < H then rz 0 ((p + 1 : Nat) : Int) else rz 1 ((p - H + 1 : Nat) : Int)
structure HolI (K c t w : Nat) (g : Lg) : Prop where
  sy : SyncI 100000 K c (fun j => decide (t ≤ j ∧ j < K) && bitB w j) (fun p => rz 0 ((p + 1 : Nat) : Int)) g
  own : g.own = ⟨100000, [], 0⟩
theorem HolI.skip {K c t w : Nat} {g : Lg} (h : HolI K c (t + 1) w g) (hb : bitB w t = false) : HolI K c t w g := by
  refine ⟨h.sy.congr fun j hj => ?_, h.own⟩
  by_cases hjt : j = t
  · subst hjt; rw [hb]; simp
  · have : decide (t ≤ j ∧ j < K) = decide (t + 1 ≤ j ∧ j < K) := by apply decide_eq_decide.2; omega
    rw [this]
theorem HolI.step {K c t w : Nat} {g g' : Lg} (h : HolI K c (t + 1) w g) (ht : t < K) (hb : bitB w t = true) (q : LSync g t g') : HolI K c t w g' := by
  obtain ⟨a1, _⟩ := q.rest
  refine ⟨(q.syncI h.sy).congr fun j hj => ?_, a1.trans h.own⟩
  by_cases hjt : j = t
  · subst hjt; rw [hb]; simp [ht]
  · have : decide (t ≤ j ∧ j < K) = decide (t + 1 ≤ j ∧ j < K) := by apply decide_eq_decide.2; omega
    simp only [this, hjt, decide_false, Bool.or_false]
theorem HolI.head {K c w : Nat} {g : Lg} (h : HolI K c 0 w g) (hk : 1 ≤ K ∧ K ≤ 8) : g.head = holeF (bitB w) c K 0 := by
  have hle := holeF_le (bitB w) c K 0
  obtain ⟨h1, h2⟩ := holeF_ok (bitB w) c K 0
  refine h.sy.head hk hle (fun p hp => ?_) ?_
  · have hm : p % K < K := Nat.mod_lt _ (by omega)
    have hl : p % K ≤ p := Nat.mod_le _ _
    rw [h1 (p % K) (Nat.zero_le _) (by omega) (by omega)]
    simp [hm]
  · rcases h2 with h2 | ⟨_, h3, h4⟩
    · exact .inl h2
    · right
      rw [Nat.mod_eq_of_lt (by omega), h4]
      simp
structure PutH (K n H i : Nat) (g : Lg) : Prop where
  li : LI 100000 (n + i) (hR H) g
  m : g.m = [(0, (K : Int))]
  trim : g.trim = 0
  next : g.next = H + i
  down : g.down = false
  own : g.own = ⟨100000, [], 0⟩
theorem PutH.put {K n H i : Nat} {g g' : Lg} (h : PutH K n H i g) (hn : n + i < 200) (q : LPut g 1 ((i + 1 : Nat) : Int) g') : PutH K n H (i + 1) g' := by
  have hr : hR H g.next = rz 1 ((i + 1 : Nat) : Int) := by
    unfold hR
    rw [h.next, if_neg (by omega), Nat.add_sub_cancel_left]
  obtain ⟨l, e⟩ := q.li h.li hr (by omega) (by omega) (by omega)
  obtain ⟨a1, a2, a3, a4, a5⟩ := q.rest
  exact ⟨l, a2.trans h.m, a3.trans h.trim, by rw [e, h.next]; omega, a5.trans h.down, a1.trans h.own⟩
theorem PutH.sync {K n H i k : Nat} {g g' : Lg} (h : PutH K n H i g) (q : LSync g k g') : PutH K n H i g' := by
  obtain ⟨a1, a2, a3, a4, a5, a6⟩ := q.rest
  exact ⟨q.li h.li, a2.trans h.m, a3.trans h.trim, a6.trans h.next, a5.trans h.down, a1.trans h.own⟩
end Go.Sl

set_option linter.unusedVariables false
set_option linter.unusedSimpArgs false
namespace Go.Sl
theorem getI_with (l : List Int) (s : Nat) (q : Int) (i : Nat) : getI (withI l s q) (i : Int) = if i = s then q else getI l (i : Int) := by
  rw [getI_nat, getI_nat]
  unfold withI
  simp only [List.getD_eq_getElem?_getD]
  by_cases h : i = s
  · subst h
    rw [if_pos rfl, List.getElem?_set_self (by rw [List.length_append, List.length_replicate]; omega)]
    rfl
  · rw [if_neg h, List.getElem?_set_ne (fun e => h e.symm)]
    rcases Nat.lt_or_ge i l.length with hl | hl
    · rw [List.getElem?_append_left hl]
    · rw [List.getElem?_append_right hl, List.getElem?_eq_none (l := l) hl]
      cases hr : (List.replicate (s + 1 - l.length) (0 : Int))[i - l.length]? with
      | none => rfl
      | some x =>
        have := List.eq_of_mem_replicate (List.mem_of_getElem? hr)
        subst this; rfl
theorem covers_iff' {a b : List Int} : coversB a b = true ↔ ∀ i : Nat, getI b (i : Int) ≤ getI a (i : Int) := by
  unfold coversB
  rw [List.all_eq_true]
  constructor
  · intro h i
    by_cases hi : i < max a.length b.length
    · have := h i (List.mem_range.2 hi)
      simp at this; exact this
    · rw [getI_nat, getI_nat, List.getD_eq_getElem?_getD, List.getD_eq_getElem?_getD, List.getElem?_eq_none (by omega), List.getElem?_eq_none (by omega)]
      exact Int.le_refl _
  · intro h i _
    have := h i
    simp; exact this
def flawK (was : List Int) (r : Rc) : Int :=
  if r.seq ≤ getI was r.site then 1 else if getI was r.site + 1 < r.seq then 2 else if coversB was r.dep = false then 3 else 0
def nextV (was : List Int) (r : Rc) : List Int := withI was r.site.toNat (if getI was r.site < r.seq then r.seq else getI was r.site)
def flawsF (was : List Int) : List (Int × Rc) → List (Int × Int)
  | [] => []
  | (p, r) :: l => (if flawK was r = 0 then [] else [(p, flawK was r)]) ++ flawsF (nextV was r) l
def vecL (was : List Int) : List (Int × Rc) → List Int
  | [] => was
  | (p, r) :: l => vecL (nextV was r) l
theorem flaws_app : ∀ (a b : List (Int × Rc)) (w : List Int), flawsF w (a ++ b) = flawsF w a ++ flawsF (vecL w a) b
  | [], b, w => rfl
  | (p, r) :: a, b, w => by
    simp only [List.cons_append, flawsF, vecL, flaws_app a b, List.append_assoc]
theorem vecL_app : ∀ (a b : List (Int × Rc)) (w : List Int), vecL w (a ++ b) = vecL (vecL w a) b
  | [], b, w => rfl
  | (p, r) :: a, b, w => by simp only [List.cons_append, vecL, vecL_app a b]
def likeV (a b : List Int) : Prop := ∀ i : Nat, getI a (i : Int) = getI b (i : Int)
theorem getI_neg {l : List Int} {i : Int} (h : i < 0) : getI l i = 0 := by unfold getI; rw [if_pos h]
theorem likeV.at {a b : List Int} (h : likeV a b) (i : Int) : getI a i = getI b i := by
  by_cases hi : i < 0
  · rw [getI_neg hi, getI_neg hi]
  · have := h i.toNat
    rwa [show ((i.toNat : Nat) : Int) = i by omega] at this
theorem likeV.covers {a b c : List Int} (h : likeV a b) : coversB a c = coversB b c := by
  rw [Bool.eq_iff_iff, covers_iff', covers_iff']
  constructor <;> intro h2 i <;> have := h2 i <;> have := h i <;> omega
theorem likeV.flaw {a b : List Int} (h : likeV a b) (r : Rc) : flawK a r = flawK b r := by
  unfold flawK
  rw [h.at, h.covers]
theorem likeV.next {a b : List Int} (h : likeV a b) (r : Rc) : likeV (nextV a r) (nextV b r) := by
  intro i
  unfold nextV
  rw [getI_with, getI_with, h.at r.site, h i]
theorem likeV.flaws : ∀ (l : List (Int × Rc)) {a b : List Int}, likeV a b → flawsF a l = flawsF b l
  | [], _, _, _ => rfl
  | (p, r) :: l, a, b, h => by
    simp only [flawsF]
    rw [h.flaw r, likeV.flaws l (h.next r)]
theorem likeV.vecL : ∀ (l : List (Int × Rc)) {a b : List Int}, likeV a b → likeV (vecL a l) (vecL b l)
  | [], _, _, h => h
  | (p, r) :: l, a, b, h => likeV.vecL l (h.next r)
def VBd (w : List Int) : Prop := w.length ≤ 64 ∧ ∀ i : Int, 0 ≤ getI w i ∧ getI w i ≤ 1000000000
def RBd (r : Rc) : Prop := (0 ≤ r.site ∧ r.site ≤ 63) ∧ 0 ≤ r.seq ∧ r.seq ≤ 1000000000
theorem VBd.next {w : List Int} {r : Rc} (h : VBd w) (hr : RBd r) : VBd (nextV w r) := by
  obtain ⟨h1, h2⟩ := h
  obtain ⟨⟨a, b⟩, c, d⟩ := hr
  have hs := h2 r.site
  refine ⟨?_, fun i => ?_⟩
  · unfold nextV; rw [withI_len]; omega
  · by_cases hi : i < 0
    · rw [getI_neg hi]; omega
    · have := getI_with w r.site.toNat (if getI w r.site < r.seq then r.seq else getI w r.site) i.toNat
      rw [show ((i.toNat : Nat) : Int) = i by omega] at this
      unfold nextV
      rw [this]
      have := h2 i
      split
      · split <;> omega
      · omega
theorem VBd.take {w : List Int} : ∀ {l : List (Int × Rc)}, VBd w → (∀ x ∈ l, RBd x.2) → VBd (vecL w l) := by
  intro l
  induction l generalizing w with
  | nil => intro h _; exact h
  | cons x l ih =>
    obtain ⟨p, r⟩ := x
    intro h hl
    exact ih (h.next (hl (p, r) (by simp))) fun y hy => hl y (by simp [hy])
theorem flaws_snoc {w : List Int} {l : List (Int × Rc)} {i : Nat} {p : Int} {r : Rc} (h : l[i]? = some (p, r)) : flawsF w (l.take (i + 1)) = flawsF w (l.take i) ++ (if flawK (vecL w (l.take i)) r = 0 then [] else [(p, flawK (vecL w (l.take i)) r)]) ∧ vecL w (l.take (i + 1)) = nextV (vecL w (l.take i)) r := by
  rw [List.take_add_one, h]
  simp only [Option.toList_some]
  rw [flaws_app, vecL_app]
  simp only [flawsF, vecL, List.append_nil, and_self]
theorem flaws_len (w : List Int) : ∀ l : List (Int × Rc), (flawsF w l).length ≤ l.length := by
  intro l
  induction l generalizing w with
  | nil => exact Nat.le_refl _
  | cons x l ih =>
    obtain ⟨p, r⟩ := x
    simp only [flawsF, List.length_append, List.length_cons]
    have := ih (nextV w r)
    split <;> simp <;> omega
end Go.Sl

set_option linter.unusedVariables false
set_option linter.unusedSimpArgs false
namespace Go.Sl
def posD (K j : Nat) : Nat → List Nat
  | 0 => []
  | c + 1 => posD K j c ++ (if c % K = j then [c] else [])
def cntD (K j c : Nat) : Nat := (posD K j c).length
def slotsD (R : Nat → Rc) (K j : Nat) : Nat → List (Int × Rc × Int)
  | 0 => []
  | c + 1 => slotsD R K j c ++ (if c % K = j then [((c : Int), R c, (cntD K j c : Int))] else [])
def linesD (R : Nat → Rc) (K j : Nat) : Nat → List ByteArray
  | 0 => []
  | c + 1 => linesD R K j c ++ (if c % K = j then [txB (lineP c (R c))] else [])
section
variable {R : Nat → Rc} {K j : Nat}
theorem cnt_succ (c : Nat) : cntD K j (c + 1) = cntD K j c + (if c % K = j then 1 else 0) := by
  unfold cntD
  simp only [posD, List.length_append]
  split <;> rfl
theorem cnt_mono {a b : Nat} (h : a ≤ b) : cntD K j a ≤ cntD K j b := by
  induction b with
  | zero => rw [Nat.le_zero.1 h]; exact Nat.le_refl _
  | succ b ih =>
    rcases Nat.lt_or_ge b a with h1 | h1
    · have : a = b + 1 := by omega
      subst this; exact Nat.le_refl _
    · have := ih h1
      rw [cnt_succ]; omega
theorem cnt_lt {p u : Nat} (hp : p % K = j) : cntD K j p < cntD K j u ↔ p < u := by
  constructor
  · intro h
    rcases Nat.lt_or_ge p u with h1 | h1
    · exact h1
    · have := cnt_mono (K := K) (j := j) h1; omega
  · intro h
    have h1 := cnt_mono (K := K) (j := j) (show p + 1 ≤ u from h)
    rw [cnt_succ, if_pos hp] at h1; omega
theorem cnt_le (c : Nat) : cntD K j c ≤ c := by
  induction c with
  | zero => exact Nat.le_refl _
  | succ c ih => rw [cnt_succ]; split <;> omega
theorem slots_len (c : Nat) : (slotsD R K j c).length = cntD K j c := by
  induction c with
  | zero => rfl
  | succ c ih =>
    rw [cnt_succ]
    simp only [slotsD, List.length_append, ih]
    split <;> rfl
theorem lines_len (c : Nat) : (linesD R K j c).length = cntD K j c := by
  induction c with
  | zero => rfl
  | succ c ih =>
    rw [cnt_succ]
    simp only [linesD, List.length_append, ih]
    split <;> rfl
theorem slots_lt {c : Nat} : ∀ x ∈ slotsD R K j c, x.1 < (c : Int) := by
  induction c with
  | zero => intro x hx; cases hx
  | succ c ih =>
    intro x hx
    simp only [slotsD] at hx
    rcases List.mem_append.1 hx with hx | hx
    · have := ih x hx; omega
    · split at hx
      · simp at hx; subst hx; show (c : Int) < ((c + 1 : Nat) : Int); omega
      · cases hx
theorem slots_at {p c : Nat} (hp : p % K = j) (hc : p < c) : (slotsD R K j c)[cntD K j p]? = some ((p : Int), R p, (cntD K j p : Int)) := by
  induction c with
  | zero => omega
  | succ c ih =>
    simp only [slotsD]
    rcases Nat.lt_or_ge p c with h1 | h1
    · have := (List.getElem?_eq_some_iff.1 (ih h1)).1
      rw [List.getElem?_append_left this]
      exact ih h1
    · have : p = c := by omega
      subst this
      rw [if_pos hp, List.getElem?_append_right (by rw [slots_len]; exact Nat.le_refl _), slots_len, Nat.sub_self]
      rfl
theorem atI_app (a b : List (Int × Rc × Int)) (p : Int) : atI (a ++ b) p = if atI a p < a.length then atI a p else a.length + atI b p := by
  induction a with
  | nil => simp [atI]
  | cons x a ih =>
    simp only [List.cons_append, atI, ih, List.length_cons]
    by_cases hx : x.1 < p
    · simp only [if_pos hx]
      by_cases h : atI a p < a.length
      · rw [if_pos h, if_pos (by omega)]
      · rw [if_neg h, if_neg (by omega)]; omega
    · simp only [if_neg hx]
      rw [if_pos (by omega)]
theorem slots_ix {p c : Nat} (hp : p % K = j) (hc : p < c) : atI (slotsD R K j c) p = cntD K j p := by
  induction c with
  | zero => omega
  | succ c ih =>
    simp only [slotsD]
    rw [atI_app, slots_len]
    rcases Nat.lt_or_ge p c with h1 | h1
    · rw [ih h1, if_pos ((cnt_lt hp).2 h1)]
    · have : p = c := by omega
      subst this
      rw [atI_all slots_lt, slots_len, if_neg (Nat.lt_irrefl _), if_pos hp]
      simp [atI]
theorem usedL_app' (a b : List ByteArray) : usedL (a ++ b) = usedL a + usedL b := by
  induction a with
  | nil => simp [usedL]
  | cons x a ih => simp only [List.cons_append, usedL, ih]; omega
theorem lines_used {c : Nat} (h : ∀ p, p < c → checkR (R p) 8 = 0) (hc : c < 100000) : usedL (linesD R K j c) ≤ 128 * c := by
  induction c with
  | zero => exact Nat.le_refl _
  | succ c ih =>
    have h1 := ih (fun p hp => h p (by omega)) (by omega)
    have h2 := lineP_le (n := c) (h c (by omega)) (by omega)
    simp only [linesD]
    rw [usedL_app']
    split
    · simp only [usedL, size_txB]; omega
    · simp only [usedL]; omega
theorem pos_ge {c : Nat} (hj : K ≤ j) (hK : 0 < K) : cntD K j c = 0 := by
  induction c with
  | zero => rfl
  | succ c ih =>
    rw [cnt_succ, ih, if_neg]
    have := Nat.mod_lt c hK
    omega
end
structure DI (room : Int) (K c : Nat) (us : Nat → Nat) (R : Nat → Rc) (d : DLg) : Prop where
  m : d.m = [(0, (K : Int))]
  len : d.segs.length = 8
  next : d.next = c
  trim : d.trim = 0
  v : d.v = []
  down : d.down = false
  sg : ∀ (j : Nat) (x : DD), d.segs[j]? = some x → x.l = slotsD R K j c ∧ x.lines = linesD R K j c ∧ x.lasts = (cntD K j (us j) : Int) ∧ x.sealed = 0 ∧ x.trimd = 0 ∧ x.room = room
  rs : ∀ p, p < c → checkR (R p) 8 = 0 ∧ (R p).dep = []
  cb : c ≤ 1000
theorem DI.at_ {room : Int} {K c : Nat} {us : Nat → Nat} {R : Nat → Rc} {d : DLg} (h : DI room K c us R d) (hK : 1 ≤ K ∧ K ≤ 8) (p : Nat) : ∃ x, d.segs[p % K]? = some x := by
  have : p % K < K := Nat.mod_lt _ (by omega)
  exact ⟨_, List.getElem?_eq_getElem (by rw [h.len]; omega)⟩
theorem DI.lasts {room : Int} {K c : Nat} {us : Nat → Nat} {R : Nat → Rc} {d : DLg} (h : DI room K c us R d) {p : Nat} (hp : p < c) {x : DD} (hx : d.segs[p % K]? = some x) : x.lastsAt p = decide (p < us (p % K)) := by
  obtain ⟨e1, e2, e3, _⟩ := h.sg _ x hx
  unfold DD.lastsAt
  rw [e1, slots_ix rfl hp, slots_at rfl hp, e3]
  simp only [decide_true, Bool.true_and]
  apply decide_eq_decide.2
  rw [← cnt_lt (K := K) (j := p % K) (u := us (p % K)) rfl]
  omega
theorem DI.slot {room : Int} {K c : Nat} {us : Nat → Nat} {R : Nat → Rc} {d : DLg} (h : DI room K c us R d) {p : Nat} (hp : p < c) {x : DD} (hx : d.segs[p % K]? = some x) : ∃ ln, x.l[atI x.l p]? = some ((p : Int), R p, ln) := by
  obtain ⟨e1, _⟩ := h.sg _ x hx
  rw [e1, slots_ix rfl hp, slots_at rfl hp]
  exact ⟨_, rfl⟩
theorem DI.put {room : Int} {K c : Nat} {us : Nat → Nat} {R : Nat → Rc} {d d' : DLg} (h : DI room K c us R d) (hc : c < 1000) (hr : checkR (R c) 8 = 0 ∧ (R c).dep = []) {x : DD} (hx : d.segs[c % K]? = some x) {sp dp : Pl}
    (e : d' = { d with next := c + 1, segs := d.segs.set (c % K) { x with sp := sp, dp := dp, lines := x.lines ++ [txB (lineP c (R c))], l := x.l ++ [((c : Int), R c, (x.lines.length : Int))] } }) : DI room K (c + 1) us R d' := by
  subst e
  obtain ⟨hk, _⟩ := List.getElem?_eq_some_iff.1 hx
  refine ⟨h.m, by rw [List.length_set]; exact h.len, rfl, h.trim, h.v, h.down, fun j z hz => ?_, fun p hp => ?_, by omega⟩
  · by_cases hj : c % K = j
    · subst hj
      rw [List.getElem?_set_self hk] at hz
      obtain rfl := Option.some.inj hz
      obtain ⟨e1, e2, e3, e4, e5, e6⟩ := h.sg _ x hx
      simp only [slotsD, linesD, if_true]
      refine ⟨?_, by rw [e2], e3, e4, e5, e6⟩
      rw [e1, e2, lines_len]
    · rw [List.getElem?_set_ne hj] at hz
      have := h.sg j z hz
      simp only [slotsD, linesD, if_neg hj, List.append_nil]
      exact this
  · rcases Nat.lt_or_ge p c with h1 | h1
    · exact h.rs p h1
    · have : p = c := by omega
      subst this; exact hr
theorem DI.sync {room : Int} {K c k : Nat} {us : Nat → Nat} {R : Nat → Rc} {d d' : DLg} (h : DI room K c us R d) {x : DD} (hx : d.segs[k]? = some x)
    (e : d' = { d with segs := d.segs.set k { x with lasts := (x.lines.length : Int) } }) : DI room K c (fun j => if j = k then c else us j) R d' := by
  subst e
  obtain ⟨hk, _⟩ := List.getElem?_eq_some_iff.1 hx
  refine ⟨h.m, by rw [List.length_set]; exact h.len, h.next, h.trim, h.v, h.down, fun j z hz => ?_, h.rs, h.cb⟩
  by_cases hj : k = j
  · subst hj
    rw [List.getElem?_set_self hk] at hz
    obtain rfl := Option.some.inj hz
    obtain ⟨e1, e2, e3, e4, e5, e6⟩ := h.sg _ x hx
    rw [if_pos rfl]
    refine ⟨e1, e2, ?_, e4, e5, e6⟩
    show (x.lines.length : Int) = _
    rw [e2, lines_len]
  · rw [List.getElem?_set_ne hj] at hz
    rw [if_neg (fun e => hj e.symm)]
    exact h.sg j z hz
theorem DI.congr {room : Int} {K c : Nat} {us us' : Nat → Nat} {R : Nat → Rc} {d : DLg} (h : DI room K c us R d) (hK : 1 ≤ K) (he : ∀ j, j < K → us' j = us j) : DI room K c us' R d :=
  ⟨h.m, h.len, h.next, h.trim, h.v, h.down, fun j z hz => by
    obtain ⟨e1, e2, e3, e4, e5, e6⟩ := h.sg j z hz
    refine ⟨e1, e2, ?_, e4, e5, e6⟩
    rw [e3]
    rcases Nat.lt_or_ge j K with h1 | h1
    · rw [he j h1]
    · rw [pos_ge h1 hK, pos_ge h1 hK], h.rs, h.cb⟩
def vecR (R : Nat → Rc) : Nat → Nat → List Int → List Int
  | 0, _, v => v
  | k + 1, p, v => vecR R k (p + 1) (withI v (R p).site.toNat (R p).seq)
theorem vecR_snoc (R : Nat → Rc) : ∀ (k p : Nat) (v : List Int), vecR R (k + 1) p v = withI (vecR R k p v) (R (p + k)).site.toNat (R (p + k)).seq
  | 0, p, v => rfl
  | k + 1, p, v => by
    show vecR R (k + 1) (p + 1) _ = _
    rw [vecR_snoc R k (p + 1)]
    simp only [vecR]
    rw [show p + 1 + k = p + (k + 1) by omega]
theorem vecF_R {g : Lg} {R : Nat → Rc} : ∀ (k p : Nat) (v : List Int), (∀ i, p ≤ i → i < p + k → g.rcd i = R i) → vecF g k p v = vecR R k p v
  | 0, _, _, _ => rfl
  | k + 1, p, v, h => by
    unfold vecF vecR
    rw [h p (Nat.le_refl _) (by omega)]
    exact vecF_R k (p + 1) _ fun i h1 h2 => h i (by omega) (by omega)
theorem vecR_len (R : Nat → Rc) (h : ∀ p, 0 ≤ (R p).site ∧ (R p).site ≤ 63) : ∀ (k p : Nat) (v : List Int), v.length ≤ 64 → (vecR R k p v).length ≤ 64
  | 0, _, v, hv => hv
  | k + 1, p, v, hv => by
    unfold vecR
    refine vecR_len R h k (p + 1) _ ?_
    rw [withI_len]
    have := h p
    omega
end Go.Sl

set_option linter.unusedVariables false
set_option linter.unusedSectionVars false
set_option linter.unusedSimpArgs false
namespace Go.Sl
section
variable {P : Program} [tb : Tab P] {rd : Option Nat} {N : Nat} {T : TT} {L L' L1 : List HP} {Q : Post} {ks : List K}
variable {all : Array Oper} {rest : List Oper} {d : Option Tmp} {ty : TypeId} {pos : String} {aft : Array Edge}
variable {κ α : Type} [DecidableEq κ] {kr : KR κ} {ρ : Rep α}
def nowM (k : κ) (u : α) (h : ρ.V) (x : MI κ ρ) : Prop := x.2.1 = x.2.2.2.1 ∧ ∃ born : Nat, ((k, u), (h, born)) ∈ x.1 ∧ x.2.2.2.2.getLast? = some born
def mitN (kr : KR κ) (ρ : Rep α) (r b : Nat) (l left : List (κ × α)) (k : κ) (u : α) (h : ρ.V) : HP := some1 (fun x => mitP (ρ := ρ) l left x ∧ nowM k u h x) (mitM kr r b)
theorem mitN_at {r b : Nat} {l left : List (κ × α)} {k : κ} {u : α} {h : ρ.V} {w : World} (hs : St w (mitN kr ρ r b l left k u h :: L)) : St w (mitAt kr ρ r b l left :: L) := by
  obtain ⟨⟨z, clock, since, last, seen⟩, ⟨⟨h1, h2, h3, h4, h5, h6⟩, _⟩, hs⟩ := some1_open hs
  exact hs.ent (mit_shut z clock since last seen h1 h2 h3 h4 h5 h6)
theorem mitN_shut {r b : Nat} {l left : List (κ × α)} {k : κ} {u : α} {h : ρ.V} (z : List (ZM κ ρ)) (clock since last : Nat) (seen : List Nat) (h1 : z.map (·.1) = l) (h2 : (keysM l).Nodup) (h3 : (z.map fun p : ZM κ ρ => p.2.2).Pairwise (· < ·) ∧ ∀ p ∈ z, p.2.2 < clock)
    (h4 : (leftZ z seen).map (·.1) = left) (h5 : ∀ p ∈ z, p.2.2 < since) (h6 : ∀ p ∈ z, p.2.2 < last) (h7 : clock = last) (h8 : ∃ born : Nat, ((k, u), (h, born)) ∈ z ∧ seen.getLast? = some born) :
    Ent (ob b (.map (z.map (entM kr ρ)).toArray clock) :: ob r (.mapIter (some b) since seen.toArray last) :: memA ρ (z.map fun p => (p.1.2, p.2.1)) :: L) (mitN kr ρ r b l left k u h :: L) :=
  ent_tok (p := fun x => mitP (ρ := ρ) l left x ∧ nowM k u h x) (M := mitM kr r b) (R := L) (L1 := []) ((z, clock, since, last, seen) : MI κ ρ) ⟨⟨h1, h2, h3, h4, h5, h6⟩, h7, h8⟩ takes_self
theorem SO.nextMapN {x : Operand} {r b : Nat} {l left : List (κ × α)} (hx : evO T x = some (.pointer (some ⟨r, 0, none⟩))) (htk : Take (mitAt kr ρ r b l left) L L') (hd : dstOk N d = true)
    (over : left = [] → SO P rd N all rest (putD d (.tuple #[.bool false]) T) (mitAt kr ρ r b l [] :: L') ks Q)
    (some_ : ∀ (k : κ) (u : α) (h : ρ.V), (k, u) ∈ left → (k, u) ∈ l → SO P rd N all rest (putD d (.tuple #[.bool true, kr.v k, ρ.val u h]) T) (ρ.atoms u h ++ mitN kr ρ r b l (mdel left k) k u h :: L') ks Q) :
    SO P rd N all (⟨d, .next x false, ty, pos, aft, none⟩ :: rest) T L ks Q := by
  refine SO.run (R := fun v L2 => (left = [] ∧ v = .tuple #[.bool false] ∧ L2 = mitAt kr ρ r b l [] :: L') ∨ ∃ k u h, (k, u) ∈ left ∧ (k, u) ∈ l ∧ v = .tuple #[.bool true, kr.v k, ρ.val u h] ∧ L2 = ρ.atoms u h ++ mitN kr ρ r b l (mdel left k) k u h :: L') rfl rfl hd ?_
    (by rintro _ _ (⟨h, rfl, rfl⟩ | ⟨k, u, h, h1, h2, rfl, rfl⟩) <;> first | exact over h | exact some_ k u h h1 h2)
  intro q hq F w hst
  have h1 : St w (mitAt kr ρ r b l left :: F :: L') := hst.ent ((Ent.cons htk.ent).trans Ent.swap)
  obtain ⟨⟨z, clock, since, last, seen⟩, ⟨hl, hn, ⟨hb1, hb2⟩, hlf, h5, h6⟩, hs⟩ := some1_open h1
  dsimp only at hl hb1 hb2 hlf h5 h6 hs
  have hs2 : St w (ob b (.map (z.map (entM kr ρ)).toArray clock) :: ob r (.mapIter (some b) since seen.toArray last) :: memA ρ (z.map fun p => (p.1.2, p.2.1)) :: F :: L') := hs
  obtain ⟨hob, _⟩ := hs2.obj
  obtain ⟨hor, _⟩ := (hs2.ent Ent.swap).obj
  have htest : (!seen.toArray.isEmpty && !(z.map (entM kr ρ)).toArray.isEmpty && (z.map (entM kr ρ)).toArray.all (fun x => decide (x.born ≥ last))) = false := by
    cases z with
    | nil => simp
    | cons p z =>
      have := h6 p (by simp)
      have h7 : decide (p.2.2 ≥ last) = false := decide_eq_false (by omega)
      simp [entM, h7]
  have hfil : (z.map (entM kr ρ)).toArray.filter (fun e => !seen.toArray.contains e.born) = ((leftZ z seen).map (entM kr ρ)).toArray := by
    unfold leftZ
    rw [List.filter_toArray]
    congr 1
    rw [List.filter_map]
    congr 1
    refine List.filter_congr fun p _ => ?_
    show (!seen.toArray.contains p.2.2) = !seen.elem p.2.2
    simp
  have hmem : ∀ x ∈ ((leftZ z seen).map (entM kr ρ)).toArray, x.born < since := fun x hx => by
    simp only [List.mem_toArray, List.mem_map] at hx
    obtain ⟨p, hp, rfl⟩ := hx
    exact h5 p (List.mem_filter.1 hp).1
  have e1 : ((leftZ z seen).map (entM kr ρ)).toArray.filter (fun x => decide (x.born < since)) = ((leftZ z seen).map (entM kr ρ)).toArray := Array.filter_eq_self.2 (fun x hx => by simpa using hmem x hx)
  have e2 : ((leftZ z seen).map (entM kr ρ)).toArray.filter (fun x => decide (x.born ≥ since)) = #[] := by
    rw [Array.filter_eq_empty_iff]
    intro x hx
    have := hmem x hx
    simp; omega
  have hrun : (execOp q ⟨d, .next x false, ty, pos, aft, none⟩).run P w = ((do
      match ((if ((leftZ z seen).map (entM kr ρ)).toArray.isEmpty then #[none] else #[]) ++ ((leftZ z seen).map (entM kr ρ)).toArray.map some)[← choose (.mapNext ((if ((leftZ z seen).map (entM kr ρ)).toArray.isEmpty then #[none] else #[]) ++ ((leftZ z seen).map (entM kr ρ)).toArray.map some).size)]? with
      | some (some e) => do
        setObj r (.mapIter (some b) since (seen.toArray.push e.born) clock)
        Pure.pure (.value (.tuple #[.bool true, e.key, e.val]))
      | some none => Pure.pure (.value (.tuple #[.bool false]))
      | none => stuck "Next: no such candidate" : Sem Next)).run P w := by
    simp only [execOp, hq _ _ hx, Instr.next, Sem.run_bind, run_getMap hor trivial, run_getMap hob trivial, Result.andThen_ok, htest, Bool.false_eq_true, if_false, hfil, e1, e2, Array.append_empty]
    generalize (choose _).run P w = res
    cases res with
    | ok n w1 =>
      simp only [Result.andThen_ok]
      split
      · rename_i e he
        simp only [he, Sem.run_bind]
        generalize (setObj r _).run P w1 = res2
        cases res2 <;> simp [Result.andThen]
      · rename_i he
        simp only [he]
        simp
      · rename_i he
        simp only [he]
        simp [stuck, Sem.run, Result.andThen]
    | halt e w1 => simp [Result.andThen]
  rw [hrun]
  cases hz0 : leftZ z seen with
  | nil =>
    have hle : left = [] := by rw [← hlf, hz0]; rfl
    refine ⟨_, w, _, .inl ?_, .inl ⟨hle, rfl, rfl⟩, ?_⟩
    · simp [choose, Sem.run, Question.forced]
    · exact (hs2.ent (mit_shut z clock since last seen hl hn ⟨hb1, hb2⟩ (by rw [hz0]; rfl) h5 h6)).ent Ent.swap
  | cons p0 y0 =>
    rw [← hz0]
    have hpos : 0 < (leftZ z seen).length := by rw [hz0]; simp
    have hne : ((leftZ z seen).map (entM kr ρ)).toArray.isEmpty = false := by rw [hz0]; rfl
    simp only [hne, Bool.false_eq_true, if_false, Array.empty_append, Array.size_map, List.size_toArray, List.length_map]
    have hch : ∃ (j : Nat) (w1 : World), j < (leftZ z seen).length ∧ (choose (Question.mapNext (leftZ z seen).length)).run P w = .ok j w1 ∧ (w1 = w ∨ w1 = { w with drawn := w.drawn + 1 }) := by
      by_cases hf : (leftZ z seen).length ≤ 1
      · exact ⟨0, w, hpos, by simp [choose, Sem.run, Question.forced, hf], .inl rfl⟩
      · exact ⟨_, _, Nat.mod_lt _ hpos, by
          simp only [choose, Sem.run, Question.forced, decide_eq_true_eq, hf, if_false, Question.cut]
          rfl, .inr rfl⟩
    obtain ⟨j, w1, hj, hcr, hw1⟩ := hch
    obtain ⟨p, hp⟩ : ∃ p, (leftZ z seen)[j]? = some p := ⟨_, List.getElem?_eq_getElem hj⟩
    have hpz : p ∈ z := (List.mem_filter.1 (List.mem_of_getElem? hp)).1
    have hs3 : St w1 (ob r (.mapIter (some b) since seen.toArray last) :: ob b (.map (z.map (entM kr ρ)).toArray clock) :: memA ρ (z.map fun p => (p.1.2, p.2.1)) :: F :: L') := by
      rcases hw1 with rfl | rfl
      · exact hs2.ent Ent.swap
      · exact (hs2.ent Ent.swap).drew _
    obtain ⟨hor1, _⟩ := hs3.obj
    have hs4 := hs3.setObj (z := .mapIter (some b) since (seen ++ [p.2.2]).toArray clock) trivial
    have hkl : (p.1.1, p.1.2) ∈ l := by rw [← hl]; exact List.mem_map.2 ⟨p, hpz, rfl⟩
    have hkf : (p.1.1, p.1.2) ∈ left := by rw [← hlf]; exact List.mem_map.2 ⟨p, List.mem_of_getElem? hp, rfl⟩
    refine ⟨.tuple #[.bool true, kr.v p.1.1, ρ.val p.1.2 p.2.1], { w1 with heap := w1.heap.setIfInBounds r (.mapIter (some b) since (seen ++ [p.2.2]).toArray clock) }, _, .inl ?_, .inr ⟨p.1.1, p.1.2, p.2.1, hkf, hkl, rfl, rfl⟩, ?_⟩
    · have hget : (((leftZ z seen).map (entM kr ρ)).toArray.map some)[j]? = some (some (entM kr ρ p)) := by
        simp [hp]
      simp only [Sem.run_bind, hcr, Result.andThen_ok, hget]
      have hpush : seen.toArray.push (entM kr ρ p).born = (seen ++ [p.2.2]).toArray := by simp [entM]
      rw [hpush]
      simp only [Sem.run_bind, run_setObj_some hor1 trivial, Result.andThen_ok, Sem.run_pure]
      rfl
    · obtain ⟨i, hi⟩ := List.getElem?_of_mem hpz
      have hzi : (z.map fun p : ZM κ ρ => (p.1.2, p.2.1))[i]? = some (p.1.2, p.2.1) := by rw [List.getElem?_map, hi]; rfl
      have hleft : (leftZ z (seen ++ [p.2.2])).map (·.1) = mdel left p.1.1 := by
        rw [leftZ_push, ← hlf]
        refine left_del (hb1.sublist ?_) ?_ hp
        · exact (List.filter_sublist).map _
        · unfold keysM at hn ⊢
          rw [← hl] at hn
          exact hn.sublist (((List.filter_sublist).map _).map _)
      have e3 : Ent (ob r (.mapIter (some b) since (seen ++ [p.2.2]).toArray clock) :: ob b (.map (z.map (entM kr ρ)).toArray clock) :: memA ρ (z.map fun p => (p.1.2, p.2.1)) :: F :: L')
          (ob b (.map (z.map (entM kr ρ)).toArray clock) :: ob r (.mapIter (some b) since (seen ++ [p.2.2]).toArray clock) :: memA ρ (z.map fun p => (p.1.2, p.2.1)) :: memA ρ (z.map fun p => (p.1.2, p.2.1)) :: F :: L') :=
        Ent.swap.trans (Ent.cons (Ent.cons (Ent.dup (pers_memA _ _))))
      refine hs4.ent (e3.trans ((mitN_shut z clock since clock (seen ++ [p.2.2]) hl hn ⟨hb1, hb2⟩ hleft h5 hb2 rfl (k := p.1.1) (u := p.1.2) (h := p.2.1) ⟨p.2.2, hpz, by simp⟩).trans ?_))
      refine (Ent.cons (memA_at hzi)).trans ?_
      refine ent_of_swap.trans ?_
      refine (Ent.app Ent.swap).trans ?_
      exact ent_swap_back
theorem find_stamp {z : List (ZM κ ρ)} {p : ZM κ ρ} (hb : (z.map fun p : ZM κ ρ => p.2.2).Pairwise (· < ·)) (hp : p ∈ z) : (z.map (entM kr ρ)).toArray.find? (fun e => e.born == p.2.2) = some (entM kr ρ p) := by
  induction z with
  | nil => cases hp
  | cons q z ih =>
    have h1 := List.pairwise_cons.1 hb
    rw [List.find?_toArray, List.map_cons, List.find?_cons]
    rcases List.mem_cons.1 hp with rfl | hp
    · simp [entM]
    · have h2 := h1.1 p.2.2 (List.mem_map.2 ⟨p, hp, rfl⟩)
      have h3 : ((entM kr ρ q).born == p.2.2) = false := by
        have h4 : q.2.2 < p.2.2 := h2
        show (q.2.2 == p.2.2) = false
        simp only [beq_eq_false_iff_ne, ne_eq]; omega
      rw [h3]
      have := ih h1.2 hp
      rw [List.find?_toArray] at this
      exact this
theorem SO.entry {x : Operand} {r b : Nat} {l left : List (κ × α)} {k : κ} {u : α} {h : ρ.V} (hx : evO T x = some (.pointer (some ⟨r, 0, none⟩))) (htk : Take (mitN kr ρ r b l left k u h) L L') (hd : dstOk N d = true)
    (kk : SO P rd N all rest (putD d (.tuple #[kr.v k, ρ.val u h]) T) (mitN kr ρ r b l left k u h :: L') ks Q) : SO P rd N all (⟨d, .entry x, ty, pos, aft, none⟩ :: rest) T L ks Q := by
  refine SO.run (R := fun v L2 => v = .tuple #[kr.v k, ρ.val u h] ∧ L2 = mitN kr ρ r b l left k u h :: L') rfl rfl hd ?_ (by rintro _ _ ⟨rfl, rfl⟩; exact kk)
  intro q hq F w hst
  have h1 : St w (mitN kr ρ r b l left k u h :: F :: L') := hst.ent ((Ent.cons htk.ent).trans Ent.swap)
  refine ⟨_, w, _, .inl ?_, ⟨rfl, rfl⟩, h1.ent Ent.swap⟩
  obtain ⟨⟨z, clock, since, last, seen⟩, ⟨⟨hl, hn, ⟨hb1, hb2⟩, hlf, h5, h6⟩, h7, born, hm, hg⟩, hs⟩ := some1_open h1
  dsimp only at hl hb1 hb2 hlf h5 h6 h7 hm hg hs
  subst h7
  have hs2 : St w (ob b (.map (z.map (entM kr ρ)).toArray clock) :: ob r (.mapIter (some b) since seen.toArray clock) :: memA ρ (z.map fun p => (p.1.2, p.2.1)) :: F :: L') := hs
  obtain ⟨hob, _⟩ := hs2.obj
  obtain ⟨hor, _⟩ := (hs2.ent Ent.swap).obj
  have hf := find_stamp (kr := kr) hb1 hm
  have hbk : seen.toArray.back? = some born := by rw [List.back?_toArray, hg]
  simp only [execOp, hq _ _ hx, Instr.entry, Sem.run_bind, run_getMap hor trivial, run_getMap hob trivial, Result.andThen_ok, hbk, bne_self_eq_false, Bool.false_eq_true, if_false, hf]
  rfl
theorem SK.itAt {c : Code} {r b : Nat} {l left : List (κ × α)} {k : κ} {u : α} {h : ρ.V} (htk : Take (mitN kr ρ r b l left k u h) L L') (hk : SK P rd N (.code c :: ks) T (mitAt kr ρ r b l left :: L') Q) : SK P rd N (.code c :: ks) T L Q :=
  SK.shift (fun F w hst => (mitN_at ((hst.ent (Ent.cons htk.ent)).ent Ent.swap)).ent Ent.swap) hk
theorem SO.itAt {ops : List Oper} {r b : Nat} {l left : List (κ × α)} {k : κ} {u : α} {h : ρ.V} (htk : Take (mitN kr ρ r b l left k u h) L L') (hk : SO P rd N all ops T (mitAt kr ρ r b l left :: L') ks Q) : SO P rd N all ops T L ks Q :=
  SO.shift (fun F w hst => (mitN_at ((hst.ent (Ent.cons htk.ent)).ent Ent.swap)).ent Ent.swap) hk
theorem SK.itMap {c : Code} {r b : Nat} {l left : List (κ × α)} (htk : Take (mitAt kr ρ r b l left) L L') (hk : SK P rd N (.code c :: ks) T (mpAt kr ρ b l :: L') Q) : SK P rd N (.code c :: ks) T L Q :=
  SK.shift (fun F w hst => (mit_mp ((hst.ent (Ent.cons htk.ent)).ent Ent.swap)).ent Ent.swap) hk
theorem SO.itMap {ops : List Oper} {r b : Nat} {l left : List (κ × α)} (htk : Take (mitAt kr ρ r b l left) L L') (hk : SO P rd N all ops T (mpAt kr ρ b l :: L') ks Q) : SO P rd N all ops T L ks Q :=
  SO.shift (fun F w hst => (mit_mp ((hst.ent (Ent.cons htk.ent)).ent Ent.swap)).ent Ent.swap) hk
end
end Go.Sl

set_option linter.unusedVariables false
set_option linter.unusedSimpArgs false
namespace Go.Sl
section
variable {α : Type}
theorem mdel_filter : ∀ {l : List (Int × α)} {k : Int}, (keysM l).Nodup → mdel l k = l.filter fun p => !decide (p.1 = k)
  | [], _, _ => rfl
  | (k', v) :: l, k, h => by
    unfold keysM at h
    rw [List.map_cons, List.nodup_cons] at h
    simp only [mdel]
    by_cases hk : k' = k
    · subst hk
      rw [if_pos rfl, List.filter_cons, if_neg (by simp)]
      refine (List.filter_eq_self.2 fun p hp => ?_).symm
      have : p.1 ≠ k' := fun he => h.1 (List.mem_map.2 ⟨p, hp, he⟩)
      simp [this]
    · rw [if_neg hk, List.filter_cons, if_pos (by simp [hk]), mdel_filter h.2]
theorem mdel_keys {l : List (Int × α)} {k j : Int} (h : (keysM l).Nodup) : j ∈ keysM (mdel l k) ↔ j ∈ keysM l ∧ j ≠ k := by
  rw [mdel_filter h]
  unfold keysM
  simp only [List.mem_map, List.mem_filter]
  constructor
  · rintro ⟨p, ⟨h1, h2⟩, rfl⟩
    exact ⟨⟨p, h1, rfl⟩, by simpa using h2⟩
  · rintro ⟨⟨p, h1, rfl⟩, h2⟩
    exact ⟨p, ⟨h1, by simpa using h2⟩, rfl⟩
theorem mdel_lt {l : List (Int × α)} {k : Int} (h : k ∈ keysM l) : (mdel l k).length < l.length := by
  induction l with
  | nil => cases h
  | cons p l ih =>
    obtain ⟨k', v⟩ := p
    simp only [mdel]
    split
    · simp
    · rename_i hk
      have : k ∈ keysM l := by
        unfold keysM at h ⊢
        rw [List.map_cons] at h
        rcases List.mem_cons.1 h with h | h
        · exact absurd h.symm hk
        · exact h
      have := ih this
      simp; omega
structure DelI (g : Int → Bool) (l0 l left : List (Int × α)) : Prop where
  nd : (keysM l0).Nodup
  ndl : (keysM left).Nodup
  eq : l = l0.filter fun p => decide (p.1 ∈ keysM left) || !g p.1
theorem delI_zero {g : Int → Bool} {l0 : List (Int × α)} (h : (keysM l0).Nodup) : DelI g l0 l0 l0 := by
  refine ⟨h, h, (List.filter_eq_self.2 fun p hp => ?_).symm⟩
  have : p.1 ∈ keysM l0 := List.mem_map.2 ⟨p, hp, rfl⟩
  simp [this]
theorem DelI.ndn {g : Int → Bool} {l0 l left : List (Int × α)} (h : DelI g l0 l left) : (keysM l).Nodup := by
  rw [h.eq]
  exact h.nd.sublist ((List.filter_sublist).map _)
theorem delI_yes {g : Int → Bool} {l0 l left : List (Int × α)} {k : Int} (h : DelI g l0 l left) (hg : g k = true) : DelI g l0 (mdel l k) (mdel left k) := by
  refine ⟨h.nd, nodup_mdel h.ndl _, ?_⟩
  rw [mdel_filter h.ndn, h.eq, List.filter_filter]
  refine List.filter_congr fun p _ => ?_
  by_cases hk : p.1 = k
  · have h1 : ¬ p.1 ∈ keysM (mdel left k) := fun hm => ((mdel_keys h.ndl).1 hm).2 hk
    rw [decide_eq_false h1, decide_eq_true hk, hk, hg]; rfl
  · have h1 : (p.1 ∈ keysM (mdel left k)) ↔ (p.1 ∈ keysM left) := ⟨fun hm => ((mdel_keys h.ndl).1 hm).1, fun hm => (mdel_keys h.ndl).2 ⟨hm, hk⟩⟩
    rw [decide_eq_false hk]
    simp [h1]
theorem delI_no {g : Int → Bool} {l0 l left : List (Int × α)} {k : Int} (h : DelI g l0 l left) (hg : g k = false) : DelI g l0 l (mdel left k) := by
  refine ⟨h.nd, nodup_mdel h.ndl _, ?_⟩
  conv => lhs; rw [h.eq]
  refine List.filter_congr fun p _ => ?_
  by_cases hk : p.1 = k
  · rw [hk, hg]; simp
  · have h1 : (p.1 ∈ keysM (mdel left k)) ↔ (p.1 ∈ keysM left) := ⟨fun hm => ((mdel_keys h.ndl).1 hm).1, fun hm => (mdel_keys h.ndl).2 ⟨hm, hk⟩⟩
    simp [h1]
theorem delI_end {g : Int → Bool} {l0 l : List (Int × α)} (h : DelI g l0 l []) : l = l0.filter fun p => !g p.1 := by
  rw [h.eq]
  refine List.filter_congr fun p _ => ?_
  simp [keysM]
end
section
variable {κ α : Type} [DecidableEq κ] {kr : KR κ} {ρ : Rep α}
theorem mp_nodup {b : Nat} {l : List (κ × α)} {L L' : List HP} (h : Take (mpAt kr ρ b l) L L') (r : Ro) (o : Own) (hs : seps L r o) : (keysM l).Nodup := by
  obtain ⟨x, y, d, le, ⟨z, clock, h1, h2, _⟩, hL⟩ := h.ent r o hs
  exact h2
end
end Go.Sl

set_option linter.unusedVariables false
set_option linter.unusedSimpArgs false
namespace Go.Sl
theorem lineT_parts {l : Tx} {ln : Ln} (h : lineT l = some ln) : (∃ l1 w t n r, cut1 32 l = some ([112], l1) ∧ cut1 32 l1 = some (w, t) ∧ numT 2147483647 w = some n ∧ recT t = some r ∧ ln = .put n r) ∨
    (∃ k w n, cut1 32 l = some ([k], w) ∧ hasC 32 w = false ∧ numT 2147483647 w = some n ∧ ((k = 115 ∧ ln = .sealing n) ∨ (k = 99 ∧ ln = .cut n) ∨ (k = 116 ∧ ln = .trim n))) := by
  unfold lineT at h
  simp only [Option.bind_eq_bind, Option.bind_eq_some_iff] at h
  obtain ⟨⟨k, l1⟩, h1, h⟩ := h
  by_cases hk : k = [112]
  · subst hk
    left
    rw [if_pos rfl] at h
    simp only [Option.bind_eq_some_iff] at h
    obtain ⟨⟨w, t⟩, h2, n, h3, r, h4, h5⟩ := h
    exact ⟨l1, w, t, n, r, h1, h2, h3, h4, (Option.some.inj h5).symm⟩
  · right
    simp only [hk, if_false] at h
    by_cases hc : hasC 32 l1 = true
    · simp only [hc, if_true] at h; cases h
    · have hc0 : hasC 32 l1 = false := by simpa using hc
      simp only [hc0, Bool.false_eq_true, if_false, Option.bind_eq_some_iff] at h
      obtain ⟨n, h2, h3⟩ := h
      by_cases k1 : k = [115]
      · subst k1; rw [if_pos rfl] at h3
        exact ⟨115, l1, n, h1, hc0, h2, .inl ⟨rfl, (Option.some.inj h3).symm⟩⟩
      · rw [if_neg k1] at h3
        by_cases k2 : k = [99]
        · subst k2; rw [if_pos rfl] at h3
          exact ⟨99, l1, n, h1, hc0, h2, .inr (.inl ⟨rfl, (Option.some.inj h3).symm⟩)⟩
        · rw [if_neg k2] at h3
          by_cases k3 : k = [116]
          · subst k3; rw [if_pos rfl] at h3
            exact ⟨116, l1, n, h1, hc0, h2, .inr (.inr ⟨rfl, (Option.some.inj h3).symm⟩)⟩
          · rw [if_neg k3] at h3; cases h3
theorem none_of_any {l : List (Int × Slt)} {n : Int} (h : (l.any fun p => decide (p.1 = n)) = false) : mget l n = none := by
  refine mget_none fun p hp he => ?_
  have := List.any_eq_false.1 h p hp
  exact this (decide_eq_true he)
theorem take_put_parts {s s' : Sg} {i n : Nat} {l : Tx} {r : Rc} (hl : lineT l = some (.put n r)) (h : s.take i l = some s') : mget s.m (n : Int) = none ∧ ¬ (n : Int) < (s.trim : Int) ∧ s' = { s with m := mput s.m (n : Int) (r, i) } := by
  unfold Sg.take at h
  rw [hl] at h
  simp only at h
  split at h
  · cases h
  · rename_i hc
    simp only [Bool.or_eq_true, decide_eq_true_eq, not_or, Bool.not_eq_true] at hc
    have hn := none_of_any hc.1
    refine ⟨hn, by omega, ?_⟩
    rw [mput_end hn]
    exact (Option.some.inj h).symm
theorem take_seal_parts {s s' : Sg} {i n : Nat} {l : Tx} (hl : lineT l = some (.sealing n)) (h : s.take i l = some s') : ¬ (n : Int) ≤ (s.sealed : Int) ∧ s' = { s with sealed := n } := by
  unfold Sg.take at h
  rw [hl] at h
  simp only at h
  split at h
  · cases h
  · exact ⟨by omega, (Option.some.inj h).symm⟩
theorem take_cut_parts {s s' : Sg} {i n : Nat} {l : Tx} (hl : lineT l = some (.cut n)) (h : s.take i l = some s') : s' = s.above n := by
  unfold Sg.take at h
  rw [hl] at h
  exact (Option.some.inj h).symm
theorem take_trim_parts {s s' : Sg} {i n : Nat} {l : Tx} (hl : lineT l = some (.trim n)) (h : s.take i l = some s') : ¬ (n : Int) ≤ (s.trim : Int) ∧ s' = s.below n := by
  unfold Sg.take at h
  rw [hl] at h
  simp only at h
  split at h
  · cases h
  · exact ⟨by omega, (Option.some.inj h).symm⟩
theorem take_line {s s' : Sg} {i : Nat} {l : Tx} (h : s.take i l = some s') : ∃ ln, lineT l = some ln := by
  unfold Sg.take at h
  cases hl : lineT l with
  | none => rw [hl] at h; cases h
  | some ln => exact ⟨ln, rfl⟩
def stAt (d : Dk) (i : Nat) : Sg := ((⟨[], 0, 0⟩ : Sg).plays 0 (txs (d.lines.take i))).getD ⟨[], 0, 0⟩
theorem stAt_end {s : Sg} {d : Dk} (h : Ply s d) : stAt d d.lines.length = s := by
  unfold stAt
  rw [List.take_length, h.pl]; rfl
theorem stAt_step {s : Sg} {d : Dk} (h : Ply s d) {i : Nat} {t : ByteArray} (ht : d.lines[i]? = some t) : (stAt d i).take i t.data.toList = some (stAt d (i + 1)) := by
  have hi := (List.getElem?_eq_some_iff.1 ht).1
  have e : txs (d.lines.take (i + 1)) = txs (d.lines.take i) ++ [t.data.toList] := by
    rw [List.take_add_one, ht, txs_app]; rfl
  have hsplit : txs d.lines = txs (d.lines.take (i + 1)) ++ txs (d.lines.drop (i + 1)) := by rw [← txs_app, List.take_append_drop]
  obtain ⟨y, hy⟩ := plays_front (l := txs (d.lines.take (i + 1))) (m := txs (d.lines.drop (i + 1))) (by rw [← hsplit]; exact h.pl)
  have hy2 := hy
  rw [e, plays_app] at hy
  cases hp : (⟨[], 0, 0⟩ : Sg).plays 0 (txs (d.lines.take i)) with
  | none => rw [hp] at hy; cases hy
  | some x =>
    rw [hp] at hy
    simp only [Option.bind_some, Sg.plays, txs_len, List.length_take, Nat.zero_add] at hy
    rw [Nat.min_eq_left (by omega)] at hy
    cases hx : x.take i t.data.toList with
    | none => rw [hx] at hy; cases hy
    | some z =>
      rw [hx] at hy
      have : z = y := Option.some.inj hy
      subst this
      unfold stAt
      rw [hp, hy2]
      exact hx
end Go.Sl

set_option linter.unusedVariables false
namespace Go.Sl
theorem ent_appL : ∀ (A : List HP) {B C : List HP}, Ent B C → Ent (A ++ B) (A ++ C)
  | [], _, _, h => h
  | X :: A, _, _, h => Ent.cons (ent_appL A h)
theorem Iter.bigs {P : Program} {f : FuncId} {caps : List Value} {α : Type} {e : Enc α} {xs : List α} {pers K0 Ke : List HP} {Kb : Nat → List HP} (it : Iter P f caps e xs pers K0 Kb Ke) : Iter P f caps e xs pers [big K0] (fun i => [big (Kb i)]) [big Ke] := by
  intro l J Jx hy
  have s := it l J Jx hy
  refine ⟨s.entry, s.hpers, fun F w hst => (s.calls F w (hst.ent (Ent.cons (ent_appL pers (Ent.cons ?_))))).mono ?_⟩
  · have := ent_big (A := K0) (L := [])
    rwa [List.append_nil] at this
  · rintro e w' ⟨x, hx, rfl, hst'⟩
    refine ⟨x, hx, rfl, hst'.ent (Ent.cons ?_)⟩
    cases x with
    | none =>
      have := big_ent (A := Ke) (L := [])
      rw [List.append_nil] at this
      exact Ent.cons this
    | some i =>
      have := big_ent (A := Kb i) (L := [])
      rw [List.append_nil] at this
      exact Ent.cons this
theorem ent_bigOf {A L L' : List HP} (h : Takes A L L') : Ent L (big A :: L') := h.ent.trans big_ent
end Go.Sl

set_option linter.unusedVariables false
set_option linter.unusedSectionVars false
set_option linter.unusedSimpArgs false
namespace Go.Sl
def pairV (k : IntKind) (p : Int × Int) : Value := .agg #[.int k p.1, .int k p.2]
structure PairT (P : Program) (k : IntKind) (t : Nat) : Prop where
  und : ∃ F x y, P.underlying t = some (.struct F) ∧ F.toList.map (fun f => (f.offset, f.type)) = [(0, x), (1, y)] ∧ P.underlying x = some (.int k) ∧ P.underlying y = some (.int k)
  eq : ∀ (a b : Int × Int) (w : World), (Op.equal t (pairV k a) (pairV k b)).run P w = .ok (decide (a = b)) w
theorem run_isAgg_int {P : Program} {t : Nat} {k : IntKind} (h : P.underlying t = some (.int k)) (w : World) : (isAgg t).run P w = .ok false w := by
  simp only [isAgg]
  rw [Sem.run_bind, run_und' h]; rfl
theorem pair_of {P : Program} [tb : Tab P] {k : IntKind} {t x y n1 n2 a1 a2 c1 c2 : Nat} {z z1 z2 : Value} (ht : tget tb.tab t = some ⟨.st [(0, x), (1, y)], n1, n2, z⟩) (hx : tget tb.tab x = some ⟨.int k, a1, a2, z1⟩) (hy : tget tb.tab y = some ⟨.int k, c1, c2, z2⟩) (hok : eqOk P t = true) : PairT P k t := by
  have hk := (tab_ok ht).k
  simp only [TK.ok] at hk
  obtain ⟨G, hG, hm⟩ := hk
  have hkx := (tab_ok hx).k
  have hky := (tab_ok hy).k
  simp only [TK.ok] at hkx hky
  refine ⟨⟨G, x, y, hG, hm, hkx, hky⟩, fun a b w => ?_⟩
  unfold eqOk at hok
  rw [hG] at hok
  simp only [Bool.and_eq_true, Bool.not_eq_true'] at hok
  obtain ⟨⟨h1, h2⟩, h3⟩ := hok
  have hF : P.fieldsOf t = G := by unfold Program.fieldsOf; rw [hG]
  have he : eqFs tb.tab [(0, x), (1, y)] [.int k a.1, .int k a.2] [.int k b.1, .int k b.2] = some (decide (a = b)) := by
    have e : (decide (a.1 = b.1) && (decide (a.2 = b.2) && true)) = decide (a = b) := by
      rw [Bool.and_true, ← Bool.decide_and]
      apply decide_eq_decide.2
      exact Prod.ext_iff.symm
    simp only [eqFs, List.getElem?_cons_zero, List.getElem?_cons_succ, hx, hy, eq1, intsOk, decide_true, cond_true]
    rw [e]
  unfold Op.equal pairV
  rw [show Op.maxDepth = 9998 + 1 + 1 from rfl, run_equalIn_struct w _ t _ _ (by rw [hF]; exact hG) h2, hF]
  exact eqFs_ok _ h1 (by rw [hm]; exact he) w
theorem ask_none {P : Program} {k : IntKind} {t : Nat} (h : PairT P k t) {a : Int × Int} (w : World) : ∀ {es : List MapEntry} {i : Nat}, (∀ e ∈ es, ∃ j, e.key = pairV k j ∧ j ≠ a) → (Instr.findAsking t (pairV k a) es i).run P w = .ok none w
  | [], i, _ => rfl
  | e :: es, i, hes => by
    obtain ⟨j, e1, e2⟩ := hes e (by simp)
    unfold Instr.findAsking
    rw [Sem.run_bind, e1, h.eq, decide_eq_false (fun he => e2 he.symm)]
    simp only [Result.andThen_ok, Bool.false_eq_true, if_false]
    exact ask_none h w fun q hq => hes q (by simp [hq])
theorem ask_some {P : Program} {k : IntKind} {t : Nat} (h : PairT P k t) {a : Int × Int} {p : MapEntry} {z2 : List MapEntry} (hp : p.key = pairV k a) (w : World) : ∀ {es : List MapEntry} {i : Nat}, (∀ e ∈ es, ∃ j, e.key = pairV k j ∧ j ≠ a) → (Instr.findAsking t (pairV k a) (es ++ p :: z2) i).run P w = .ok (some (i + es.length, p.val)) w
  | [], i, _ => by
    simp only [List.nil_append]
    unfold Instr.findAsking
    rw [Sem.run_bind, hp, h.eq, decide_eq_true rfl]
    rfl
  | e :: es, i, hes => by
    obtain ⟨j, e1, e2⟩ := hes e (by simp)
    simp only [List.cons_append]
    unfold Instr.findAsking
    rw [Sem.run_bind, e1, h.eq, decide_eq_false (fun he => e2 he.symm)]
    simp only [Result.andThen_ok, Bool.false_eq_true, if_false]
    rw [ask_some h hp w fun q hq => hes q (by simp [hq])]
    rw [show i + 1 + es.length = i + (e :: es).length by simp; omega]
theorem find_ask {P : Program} {k : IntKind} {t : Nat} (h : PairT P k t) {a : Int × Int} {es : List MapEntry} (w : World) (hne : ∀ e, es.head? = some e → ∃ j, e.key = pairV k j) : (Instr.findKey t (pairV k a) es).run P w = (Instr.findAsking t (pairV k a) es 0).run P w := by
  obtain ⟨F, x, y, h1, _⟩ := h.und
  unfold Instr.findKey
  rw [Sem.run_bind, run_und' h1]
  cases es with
  | nil => rfl
  | cons e es =>
    obtain ⟨j, e1⟩ := hne e rfl
    have : Instr.findNow (.struct F) (pairV k a) (e :: es) 0 = none := by
      unfold Instr.findNow
      rw [e1]; rfl
    simp only [Result.andThen_ok, this]
def KP (P0 : Program) (k : IntKind) (t0 : Nat) (h : PairT P0 k t0) : KR (Int × Int) where
  tk := fun P t _ => P = P0 ∧ t = t0
  v := pairV k
  bits := fun a => by simp [pairV, Instr.sameBits]
  chk := fun P t ti _ ht e a w => by
    obtain ⟨rfl, rfl⟩ := ht
    obtain ⟨F, x, y, h1, h2, h3, h4⟩ := h.und
    have hF : ∃ f1 f2, F = #[f1, f2] ∧ f1.offset = 0 ∧ f1.type = x ∧ f2.offset = 1 ∧ f2.type = y := by
      match F, h2 with
      | ⟨[f1, f2]⟩, h2 =>
        simp at h2
        exact ⟨f1, f2, rfl, h2.1.1, h2.1.2, h2.2.1, h2.2.2⟩
      | ⟨[]⟩, h2 => simp at h2
      | ⟨[f]⟩, h2 => simp at h2
      | ⟨f :: g :: i :: l⟩, h2 => simp at h2
    obtain ⟨f1, f2, rfl, o1, t1, o2, t2⟩ := hF
    have c1 : ∀ (n : Nat) (v : Value) (ty : Nat), P.underlying ty = some (.int k) → (Instr.checkKey e (n + 1) ty v).run P w = .ok () w := fun n v ty hty => by
      unfold Instr.checkKey
      simp [Sem.run_bind, run_und' hty]
    have p1 : (part f1.type #[.int k a.1, .int k a.2] f1.offset).run P w = .ok (.int k a.1) w := by
      simp only [part, Sem.run_bind, run_isAgg_int (show P.underlying f1.type = some (.int k) by rw [t1]; exact h3), Result.andThen_ok, o1]
      rfl
    have p2 : (part f2.type #[.int k a.1, .int k a.2] f2.offset).run P w = .ok (.int k a.2) w := by
      simp only [part, Sem.run_bind, run_isAgg_int (show P.underlying f2.type = some (.int k) by rw [t2]; exact h4), Result.andThen_ok, o2]
      rfl
    unfold Instr.checkKey pairV
    rw [Sem.run_bind, run_und' h1]
    simp only [Result.andThen_ok]
    have cc1 := fun v => c1 9998 v f1.type (by rw [t1]; exact h3)
    have cc2 := fun v => c1 9998 v f2.type (by rw [t2]; exact h4)
    have e1 : (forIn [f1, f2] PUnit.unit (fun f (_ : PUnit) => do
        if f.name ≠ "_" then Instr.checkKey e 9999 f.type (← part f.type #[.int k a.1, .int k a.2] f.offset)
        pure (ForInStep.yield PUnit.unit)) : Sem PUnit).run P w = .ok PUnit.unit w := by
      by_cases n1 : f1.name = "_" <;> by_cases n2 : f2.name = "_" <;> simp [n1, n2, Sem.run_bind, p1, p2, cc1, cc2]
    first
      | (by_cases n1 : f1.name = "_" <;> by_cases n2 : f2.name = "_" <;> simp [n1, n2, Sem.run_bind, p1, p2, cc1, cc2] <;> done)
      | (simp only [← Array.forIn_toList]; exact e1)
      | (simp; done)
  find0 := fun P t ti _ ht a es w hes => by
    obtain ⟨rfl, rfl⟩ := ht
    rw [find_ask h w fun e he => let ⟨j, e1, _⟩ := hes e (List.mem_of_mem_head? he); ⟨j, e1⟩]
    exact ask_none h w hes
  find1 := fun P t ti _ ht a es p es2 w hes hp => by
    obtain ⟨rfl, rfl⟩ := ht
    rw [find_ask h w fun e he => ?_]
    · rw [ask_some h hp w hes, Nat.zero_add]
    · cases es with
      | nil =>
        have : p = e := by simpa using he
        subst this
        exact ⟨a, hp⟩
      | cons q es =>
        have : q = e := by simpa using he
        subst this
        obtain ⟨j, e1, _⟩ := hes q (by simp)
        exact ⟨j, e1⟩
end Go.Sl

namespace Go.Sl
theorem Does.mapX {P : Program} {f : FuncId} {args : List Value} {pers own : List HP} {X Y : Type} {ok : X → Prop} {ret : X → Value} {out : X → List HP} {ok' : Y → Prop} {ret' : Y → Value} {out' : Y → List HP}
    (s : Does P f args pers own X ok ret out) (g : X → Y) (h1 : ∀ x, ok x → ok' (g x)) (h2 : ∀ x, ret' (g x) = ret x) (h3 : ∀ x, out' (g x) = out x) : Does P f args pers own Y ok' ret' out' :=
  ⟨s.entry, s.hpers, fun F w hst => (s.calls F w hst).mono (by
    rintro e w' ⟨x, hx, rfl, hst'⟩
    exact ⟨g x, h1 x hx, by rw [h2], by rw [h3]; exact hst'⟩)⟩
end Go.Sl

set_option linter.unusedVariables false
namespace Go.Sl
section
variable {P : Program} [tb : Tab P] {rd : Option Nat} {N : Nat} {T : TT} {L B E : List HP} {Q : Post} {ks : List K}
variable {all : Array Oper} {rest : XO} {d : Option Tmp} {ty : TypeId} {pos : String} {aft : Array Edge}
end
end Go.Sl

set_option linter.unusedVariables false
set_option linter.unusedSectionVars false
set_option linter.unusedSimpArgs false
namespace Go.Sl
section
variable {P : Program} [tb : Tab P] {rd : Option Nat} {N : Nat} {T : TT} {B E E' L M : List HP} {Q : Post} {ks : List K} {D0 : World → Prop}
variable {all : Array Oper} {rest : XO}
theorem SZ.guardY {k : Nat} {j : Nat} {want : Bool} {t : Nat} {dst : Option Tmp} {op : Op} {ty : TypeId} {pos : String} {aft : Array Edge}
    (hj : (all[j]?).bind (·.dst) = some t) (ht : T.get t = some (.bool want))
    (yes : SZ P rd N D0 all (.item k ⟨dst, op, ty, pos, aft, none⟩ rest) T B E ks Q) : SZ P rd N D0 all (.item k ⟨dst, op, ty, pos, aft, some (j, want)⟩ rest) T B E ks Q := by
  intro G r oB a w hs ok hD
  have hy : yielded all a.tmps j = some want := by
    simp only [yielded, hj, Option.bind_some, ok.get _ _ ht]
  have hw : Region.wanted (⟨dst, op, ty, pos, aft, some (j, want)⟩ : Oper) (yielded all a.tmps) = true := by simp [Region.wanted, hy]
  have h2 := yes G r oB a w hs ok hD
  simp only [wpX, hw, if_true]
  simp only [wpX, Region.wanted, if_true] at h2
  exact h2
theorem SZ.guardN {k : Nat} {j : Nat} {want : Bool} {t : Nat} {dst : Option Tmp} {op : Op} {ty : TypeId} {pos : String} {aft : Array Edge}
    (hj : (all[j]?).bind (·.dst) = some t) (ht : T.get t = some (.bool (!want))) (hd : dstOk N dst = true)
    (no : SZ P rd N D0 all rest (putD dst undef T) B E ks Q) : SZ P rd N D0 all (.item k ⟨dst, op, ty, pos, aft, some (j, want)⟩ rest) T B E ks Q := by
  intro G r oB a w hs ok hD
  have hy : yielded all a.tmps j = some (!want) := by
    simp only [yielded, hj, Option.bind_some, ok.get _ _ ht]
  have hw : Region.wanted (⟨dst, op, ty, pos, aft, some (j, want)⟩ : Oper) (yielded all a.tmps) = false := by simp [Region.wanted, hy]
  simp only [wpX, hw]
  exact no G r oB _ w hs (ok.putD hd undef) hD
theorem SZ.guardU {k : Nat} {j : Nat} {want : Bool} {t : Nat} {v : Value} {dst : Option Tmp} {op : Op} {ty : TypeId} {pos : String} {aft : Array Edge}
    (hj : (all[j]?).bind (·.dst) = some t) (ht : T.get t = some v) (hv : noBool v = true) (hd : dstOk N dst = true)
    (no : SZ P rd N D0 all rest (putD dst undef T) B E ks Q) : SZ P rd N D0 all (.item k ⟨dst, op, ty, pos, aft, some (j, want)⟩ rest) T B E ks Q := by
  intro G r oB a w hs ok hD
  have hy := yield_none hj (ok.get _ _ ht) hv
  have hw : Region.wanted (⟨dst, op, ty, pos, aft, some (j, want)⟩ : Oper) (yielded all a.tmps) = false := by simp [Region.wanted, hy]
  simp only [wpX, hw]
  exact no G r oB _ w hs (ok.putD hd undef) hD
theorem SZ.guardYP {k : Nat} {j : Nat} {want : Bool} {t : Nat} {β : Bool} {dst : Option Tmp} {op : Op} {ty : TypeId} {pos : String} {aft : Array Edge}
    (hj : (all[j]?).bind (·.dst) = some t) (ht : T.get t = some (.bool β)) (hb : β = want)
    (yes : SZ P rd N D0 all (.item k ⟨dst, op, ty, pos, aft, none⟩ rest) ((t, .bool want) :: T) B E ks Q) : SZ P rd N D0 all (.item k ⟨dst, op, ty, pos, aft, some (j, want)⟩ rest) T B E ks Q := by
  subst hb
  exact fun G r oB a w hs ok hD => (SZ.guardY (T := (t, .bool β) :: T) hj (by rw [TT.get_cons, if_pos rfl]) yes) G r oB a w hs (ok.know ht) hD
theorem SZ.guardNP {k : Nat} {j : Nat} {want : Bool} {t : Nat} {β : Bool} {dst : Option Tmp} {op : Op} {ty : TypeId} {pos : String} {aft : Array Edge}
    (hj : (all[j]?).bind (·.dst) = some t) (ht : T.get t = some (.bool β)) (hd : dstOk N dst = true) (hb : β = !want)
    (no : SZ P rd N D0 all rest (putD dst undef ((t, .bool (!want)) :: T)) B E ks Q) : SZ P rd N D0 all (.item k ⟨dst, op, ty, pos, aft, some (j, want)⟩ rest) T B E ks Q := by
  subst hb
  exact fun G r oB a w hs ok hD => (SZ.guardN (T := (t, .bool (!want)) :: T) hj (by rw [TT.get_cons, if_pos rfl]) hd no) G r oB a w hs (ok.know ht) hD
end
end Go.Sl

set_option linter.unusedVariables false
set_option linter.unusedSimpArgs false
namespace Go.Sl
def siteN (l : List Nat) (p : Nat) : Nat := l.getD p 0 % 4
def cntS (l : List Nat) (s : Nat) : Nat → Nat
  | 0 => 0
  | p + 1 => cntS l s p + (if siteN l p = s then 1 else 0)
def keyN (l : List Nat) (p : Nat) : ByteArray := ([⟨#[97]⟩, ⟨#[98]⟩, ⟨#[99]⟩] : List ByteArray).getD (l.getD p 0 / 4 % 3) bE
def lgR (l : List Nat) (p : Nat) : Rc := ⟨(siteN l p : Int), (cntS l (siteN l p) (p + 1) : Int), [], keyN l p, txB (Lib.decDigits p)⟩
theorem cntS_le (l : List Nat) (s : Nat) : ∀ p, cntS l s p ≤ p
  | 0 => Nat.le_refl _
  | p + 1 => by
    have := cntS_le l s p
    unfold cntS
    split <;> omega
theorem cntS_mono {l : List Nat} {s : Nat} {a b : Nat} (h : a ≤ b) : cntS l s a ≤ cntS l s b := by
  induction b with
  | zero => rw [Nat.le_zero.1 h]; exact Nat.le_refl _
  | succ b ih =>
    rcases Nat.lt_or_ge b a with h1 | h1
    · have : a = b + 1 := by omega
      subst this; exact Nat.le_refl _
    · have := ih h1
      show _ ≤ cntS l s b + _
      omega
theorem siteN_lt (l : List Nat) (p : Nat) : siteN l p < 4 := Nat.mod_lt _ (by decide)
theorem dig_bd : ∀ (n : Nat), ∀ b ∈ Lib.decDigits n, 48 ≤ b.toNat ∧ b.toNat ≤ 57 := by
  intro n
  induction n using Nat.strongRecOn with
  | _ n ih =>
    intro b hb
    rw [Lib.decDigits] at hb
    split at hb
    · obtain rfl := List.mem_singleton.1 hb
      rw [UInt8.toNat_ofNat']
      omega
    · rename_i hn
      rcases List.mem_append.1 hb with hb | hb
      · exact ih (n / 10) (by omega) b hb
      · obtain rfl := List.mem_singleton.1 hb
        rw [UInt8.toNat_ofNat']
        omega
theorem lgR_ok (l : List Nat) {p : Nat} (hp : p < 1000) : checkR (lgR l p) 8 = 0 := by
  have hs := siteN_lt l p
  have hc := cntS_le l (siteN l p) (p + 1)
  have h1 : 1 ≤ cntS l (siteN l p) (p + 1) := by unfold cntS; rw [if_pos rfl]; omega
  have hd := dec_len 2 p (by omega)
  have hk : keyN l p = ⟨#[97]⟩ ∨ keyN l p = ⟨#[98]⟩ ∨ keyN l p = ⟨#[99]⟩ := by
    unfold keyN
    have : l.getD p 0 / 4 % 3 < 3 := Nat.mod_lt _ (by decide)
    generalize l.getD p 0 / 4 % 3 = k at *
    match k, this with
    | 0, _ => exact .inl rfl
    | 1, _ => exact .inr (.inl rfl)
    | 2, _ => exact .inr (.inr rfl)
  refine rok_to ⟨?_, ?_, ?_, ?_, ?_, ?_, ?_, ?_, ?_⟩
  · show (0 : Int) ≤ (siteN l p : Int) ∧ (siteN l p : Int) < 8
    omega
  · show (1 : Int) ≤ (cntS l (siteN l p) (p + 1) : Int) ∧ (cntS l (siteN l p) (p + 1) : Int) ≤ 1048576
    omega
  · exact Nat.zero_le _
  · intro x hx; cases hx
  · show getI [] _ < (cntS l (siteN l p) (p + 1) : Int)
    have : getI [] (lgR l p).site = 0 := by unfold getI; split <;> simp
    rw [this]; omega
  · show 1 ≤ (keyN l p).size ∧ (keyN l p).size ≤ 8
    rcases hk with e | e | e <;> rw [e] <;> decide
  · show nameOk (keyN l p) = true
    rcases hk with e | e | e <;> rw [e] <;> decide
  · show valOk (txB (Lib.decDigits p)) = true
    unfold valOk bytesI
    rw [List.all_map, List.all_eq_true]
    intro b hb
    have := dig_bd p b hb
    simp; omega
  · show (txB (Lib.decDigits p)).size ≤ 16
    rw [size_txB]; omega
theorem lgR_sm (l : List Nat) {p : Nat} (hp : p < 1000) : SmR (lgR l p) := ⟨lgR_ok l hp, rfl⟩
theorem lgR_site (l : List Nat) (p : Nat) : 0 ≤ (lgR l p).site ∧ (lgR l p).site ≤ 63 := by
  have := siteN_lt l p
  show (0 : Int) ≤ (siteN l p : Int) ∧ (siteN l p : Int) ≤ 63
  omega
def seqL (l : List Nat) (i : Nat) : List Int := (List.range 8).map fun s => (cntS l s i : Int)
theorem seqL_at (l : List Nat) (i s : Nat) (hs : s < 8) : (seqL l i)[s]? = some (cntS l s i : Int) := by
  unfold seqL
  rw [List.getElem?_map, List.getElem?_range hs]
  rfl
theorem seqL_set (l : List Nat) (i : Nat) : (seqL l i).set (siteN l i) ((cntS l (siteN l i) i : Int) + 1) = seqL l (i + 1) := by
  have h4 := siteN_lt l i
  apply List.ext_getElem?
  intro s
  rcases Nat.lt_or_ge s 8 with hs | hs
  · rw [seqL_at l (i + 1) s hs]
    by_cases h : siteN l i = s
    · subst h
      rw [List.getElem?_set_self (by unfold seqL; simp; omega)]
      congr 1
      simp only [cntS, if_true]; omega
    · rw [List.getElem?_set_ne h, seqL_at l i s hs]
      congr 2
      simp only [cntS, if_neg h]; omega
  · rw [List.getElem?_eq_none (by unfold seqL; simp; omega), List.getElem?_eq_none (by unfold seqL; simp; omega)]
structure LogsI (K : Nat) (l : List Nat) (c u : Nat) (g : Lg) (d : DLg) : Prop where
  li : LI 50000 c (lgR l) g
  m : g.m = [(0, (K : Int))]
  trim : g.trim = 0
  gone : g.gone = []
  next : g.next = c
  down : g.down = false
  own : g.own = ⟨50000, [], 0⟩
  la : ∀ p, p < c → g.lasts p = decide (p < u)
  di : DI 50000 K c (fun _ => u) (lgR l) d
  ub : u ≤ c
  hi : ∀ j z, 4 ≤ j → g.segs[j]? = some z → z.d.lasts = z.d.lines.length
  sy : u = c → g.synced
theorem LPutR.lasts_old {room : Int} {n : Nat} {R : Nat → Rc} {g g' : Lg} {r : Rc} (q : LPutR g r g') (h : LI room n R g) (hr : R g.next = r) (hsm : SmR r) (hroom : (128 * n + 128 : Int) ≤ room) (hn : n < 7000) {p : Nat} (hp : p ≠ g.next) : g'.lasts p = g.lasts p := by
  obtain ⟨sx, pl, hx, rfl⟩ := q
  obtain ⟨h1, h2, h3, h4⟩ := li_put h hr hsm hroom hn hx
  have hk := (List.getElem?_eq_some_iff.1 hx).1
  have hb := h.bd
  have hm := List.mem_of_getElem? hx
  have hno : mget sx.s.m (g.next : Int) = none := by
    have := h.mg _ sx hx g.next
    rw [if_neg (by omega)] at this
    exact Option.map_eq_none_iff.1 this
  have hl := lineP_le (n := g.next) hsm.1 (by omega)
  have hsl := h.sl sx hm
  have hrm := h.rm sx hm
  have hml := h.ml
  have hlp := h.m.len.1
  have e := put_eq (s := sx.s) (d := sx.d) (ep := epochM g.m g.next) (pos := (g.next : Int)) (r := r) ⟨by omega, by rw [h.epoch]; omega, by omega, by rw [h.epoch]; omega⟩ (by rw [h.epoch]; omega) (by omega) hno hsm.1
    (by rw [Int.toNat_natCast]; exact lineP_nlR hsm.1 _) (by rw [Int.toNat_natCast, hrm.1]; omega)
  rw [e]
  unfold Lg.lasts Sg.lastsAt
  simp only [Lg.putG]
  by_cases hj : stripeM g.m g.next = stripeM g.m p
  · rw [← hj, List.getElem?_set_self hk, hx]
    simp only [SB.upd]
    rw [mget_mput, if_neg (by omega)]
    rfl
  · rw [List.getElem?_set_ne hj]
theorem LSync.lasts {g g' : Lg} {k : Nat} (q : LSync g k g') {p : Nat} (h : g.lasts p = true) (hd : ∀ x ∈ g.segs, x.d.Ok) : g'.lasts p = true := by
  obtain ⟨sx, hx, rfl⟩ := q
  have hk := (List.getElem?_eq_some_iff.1 hx).1
  have hlo := (hd sx (List.mem_of_getElem? hx)).lasts
  unfold Lg.lasts Sg.lastsAt at h ⊢
  simp only [Lg.sync]
  by_cases hj : k = stripeM g.m p
  · subst hj
    rw [hx] at h
    rw [List.getElem?_set_self hk]
    simp only [SB.upd, Dk.sync] at h ⊢
    revert h
    cases mget sx.s.m (p : Int) with
    | none => intro h; exact h
    | some y => intro h; have := of_decide_eq_true h; exact decide_eq_true (by omega)
  · rw [List.getElem?_set_ne hj]; exact h
end Go.Sl

set_option linter.unusedVariables false
set_option linter.unusedSimpArgs false
namespace Go.Sl
structure LogsJ (K : Nat) (l : List Nat) (c u j : Nat) (g : Lg) (d : DLg) : Prop where
  li : LI 50000 c (lgR l) g
  m : g.m = [(0, (K : Int))]
  trim : g.trim = 0
  gone : g.gone = []
  next : g.next = c
  down : g.down = false
  own : g.own = ⟨50000, [], 0⟩
  to : g.syncTo j
  hi : ∀ j z, 4 ≤ j → g.segs[j]? = some z → z.d.lasts = z.d.lines.length
  di : DI 50000 K c (fun k => if k < j then c else u) (lgR l) d
theorem LogsI.put {K c u : Nat} {l : List Nat} {g g' : Lg} {d d' : DLg} (h : LogsI K l c u g d) (hK : 1 ≤ K ∧ K ≤ 4) (hc : c < 300) (q : LPutR g (lgR l c) g') (e : DI 50000 K (c + 1) (fun _ => u) (lgR l) d') : LogsI K l (c + 1) u g' d' := by
  have hr : lgR l g.next = lgR l c := by rw [h.next]
  have hsm := lgR_sm l (p := c) (by omega)
  have hub := h.ub
  obtain ⟨h1, h2⟩ := q.li h.li hr hsm (by omega) (by omega)
  obtain ⟨r1, r2, r3, r4, r5⟩ := q.rest
  refine ⟨h1, r2.trans h.m, r3.trans h.trim, r4.trans h.gone, by rw [h2, h.next], r5.trans h.down, r1.trans h.own, fun p hp => ?_, e, by omega, ?_, fun hu => by omega⟩
  rotate_left
  · intro j z hj hz
    obtain ⟨sx, p, hx, rfl⟩ := q
    have e4 : stripeM g.m g.next = c % K := by
      rw [h.m, h.next, stripe_one (by omega)]; rfl
    have h4 : c % K < 4 := Nat.lt_of_lt_of_le (Nat.mod_lt _ (by omega)) hK.2
    rcases put_segs hx hz with ⟨e1, _⟩ | ⟨_, hz⟩
    · omega
    · exact h.hi j z hj hz
  by_cases hpc : p = c
  · subst hpc
    have := q.waits h.li hr hsm (by omega) (by omega)
    rw [h.next] at this
    rw [this]
    exact (decide_eq_false (by omega)).symm
  · rw [q.lasts_old h.li hr hsm (by omega) (by omega) (by rw [h.next]; exact hpc)]
    exact h.la p (by omega)
theorem LogsI.toJ {K c u : Nat} {l : List Nat} {g : Lg} {d : DLg} (h : LogsI K l c u g d) (hK : 1 ≤ K) : LogsJ K l c u 0 g d :=
  ⟨h.li, h.m, h.trim, h.gone, h.next, h.down, h.own, fun j z hj => absurd hj (Nat.not_lt_zero j), h.hi, h.di.congr hK fun j _ => by simp⟩
theorem LogsJ.sync {K c u j : Nat} {l : List Nat} {g g' : Lg} {d d' : DLg} (h : LogsJ K l c u j g d) (hK : 1 ≤ K) (q : LSync g j g') (e : DI 50000 K c (fun k => if k = j then c else (fun k => if k < j then c else u) k) (lgR l) d') : LogsJ K l c u (j + 1) g' d' := by
  obtain ⟨r1, r2, r3, r4, r5, r6⟩ := q.rest
  refine ⟨q.li h.li, r2.trans h.m, r3.trans h.trim, r4.trans h.gone, r6.trans h.next, r5.trans h.down, r1.trans h.own, q.to h.to, ?_, e.congr hK fun k _ => ?_⟩
  · intro k z hk hz
    obtain ⟨sx, hx, rfl⟩ := q
    rcases sync_segs hx hz with ⟨rfl, e1, e2⟩ | ⟨_, hz⟩
    · rw [e2]; rfl
    · exact h.hi k z hk hz
  dsimp only
  by_cases h1 : k < j
  · rw [if_pos (by omega), if_pos h1]; split <;> rfl
  · by_cases h2 : k = j
    · rw [if_pos (by omega), if_pos h2]
    · rw [if_neg (by omega), if_neg h2, if_neg h1]
theorem LogsJ.done {K c u : Nat} {l : List Nat} {g : Lg} {d : DLg} (h : LogsJ K l c u 4 g d) (hK : 1 ≤ K ∧ K ≤ 4) : LogsI K l c c g d := by
  refine ⟨h.li, h.m, h.trim, h.gone, h.next, h.down, h.own, fun p hp => ?_, h.di.congr hK.1 fun j hj => by rw [if_pos (by omega)], Nat.le_refl _, h.hi, fun _ x hx => ?_⟩
  rotate_left
  · obtain ⟨i, hi, rfl⟩ := List.mem_iff_getElem.1 hx
    rcases Nat.lt_or_ge i 4 with h4 | h4
    · exact h.to i _ h4 (List.getElem?_eq_getElem hi)
    · exact h.hi i _ h4 (List.getElem?_eq_getElem hi)
  rw [decide_eq_true hp]
  have e : stripeM g.m p = p % K := by
    rw [h.m, stripe_one (by omega)]; rfl
  have h4 : p % K < 4 := Nat.lt_of_lt_of_le (Nat.mod_lt _ (by omega)) hK.2
  obtain ⟨x, hx⟩ : ∃ x, g.segs[stripeM g.m p]? = some x := ⟨_, List.getElem?_eq_getElem (by rw [e, h.li.len]; omega)⟩
  exact h.li.lasts (by rw [h.trim]; omega) (by rw [h.next]; exact hp) hx (h.to _ x (by rw [e]; exact h4) hx)
end Go.Sl

set_option linter.unusedVariables false
set_option linter.unusedSimpArgs false
namespace Go.Sl
theorem cov_nil (v : List Int) (h : ∀ i : Nat, 0 ≤ getI v (i : Int)) : coversB v [] = true := by
  rw [covers_iff']
  intro i
  have : getI [] (i : Int) = 0 := by unfold getI; split <;> simp
  rw [this]; exact h i
theorem lg_step (l : List Nat) (p : Nat) {v : List Int} (hv : ∀ i : Nat, getI v (i : Int) = (cntS l i p : Int)) : flawK v (lgR l p) = 0 ∧ (∀ i : Nat, getI (withI v (lgR l p).site.toNat (lgR l p).seq) (i : Int) = (cntS l i (p + 1) : Int)) ∧ getI v (lgR l p).site + 1 = (lgR l p).seq := by
  have hs : getI v (lgR l p).site = (cntS l (siteN l p) p : Int) := hv (siteN l p)
  have hq : (lgR l p).seq = (cntS l (siteN l p) p : Int) + 1 := by
    show (cntS l (siteN l p) (p + 1) : Int) = _
    simp only [cntS, if_true]; omega
  have hd : coversB v (lgR l p).dep = true := cov_nil v fun i => by rw [hv i]; omega
  refine ⟨?_, fun i => ?_, by omega⟩
  · unfold flawK
    rw [if_neg (by omega), if_neg (by omega), hd]
    rfl
  · rw [show (lgR l p).site.toNat = siteN l p from Int.toNat_natCast _, getI_with, hq, hv i]
    simp only [cntS]
    by_cases h : i = siteN l p
    · subst h; simp
    · rw [if_neg h, if_neg (fun e => h e.symm)]; simp
def lgRows (l : List Nat) (u : Nat) : List (Int × Rc) := (List.range u).map fun p => (((p : Nat) : Int), lgR l p)
theorem lgRows_snoc (l : List Nat) (u : Nat) : lgRows l (u + 1) = lgRows l u ++ [((u : Int), lgR l u)] := by unfold lgRows; rw [List.range_succ, List.map_append]; rfl
theorem next_with {v : List Int} {r : Rc} (h : getI v r.site + 1 = r.seq) : nextV v r = withI v r.site.toNat r.seq := by
  unfold nextV
  rw [if_pos (by omega)]
theorem lg_flaws (l : List Nat) : ∀ u, flawsF [] (lgRows l u) = [] ∧ ∀ i : Nat, getI (vecL [] (lgRows l u)) (i : Int) = (cntS l i u : Int)
  | 0 => ⟨rfl, fun i => by
    show getI [] (i : Int) = 0
    unfold getI; split <;> simp⟩
  | u + 1 => by
    obtain ⟨h1, h2⟩ := lg_flaws l u
    obtain ⟨k1, k2, k3⟩ := lg_step l u h2
    rw [lgRows_snoc, flaws_app, vecL_app, h1]
    simp only [flawsF, vecL, k1, if_true, List.nil_append, List.append_nil, true_and]
    rw [next_with k3]
    exact k2
theorem lg_name {l : List Nat} {p q : Nat} (h1 : (lgR l p).site = (lgR l q).site) (h2 : (lgR l p).seq = (lgR l q).seq) : p = q := by
  have hs : siteN l p = siteN l q := Int.ofNat_inj.1 h1
  have hq : cntS l (siteN l p) (p + 1) = cntS l (siteN l q) (q + 1) := Int.ofNat_inj.1 h2
  rw [← hs] at hq
  have hp1 : cntS l (siteN l p) (p + 1) = cntS l (siteN l p) p + 1 := by simp [cntS]
  have hq1 : cntS l (siteN l p) (q + 1) = cntS l (siteN l p) q + 1 := by rw [hs]; simp [cntS]
  rcases Nat.lt_trichotomy p q with h | h | h
  · have := cntS_mono (l := l) (s := siteN l p) (show p + 1 ≤ q from h); omega
  · exact h
  · have := cntS_mono (l := l) (s := siteN l p) (show q + 1 ≤ p from h); omega
theorem sameR_symm (a b : Rc) : sameR a b = sameR b a := by
  unfold sameR sameV
  rw [Bool.eq_iff_iff]
  simp only [Bool.and_eq_true, decide_eq_true_eq]
  constructor
  · rintro ⟨⟨⟨⟨h1, h2⟩, h3, h4⟩, h5⟩, h6⟩
    exact ⟨⟨⟨⟨h1.symm, h2.symm⟩, h4, h3⟩, eqS_iff.2 (eqS_iff.1 h5).symm⟩, eqS_iff.2 (eqS_iff.1 h6).symm⟩
  · rintro ⟨⟨⟨⟨h1, h2⟩, h3, h4⟩, h5⟩, h6⟩
    exact ⟨⟨⟨⟨h1.symm, h2.symm⟩, h4, h3⟩, eqS_iff.2 (eqS_iff.1 h5).symm⟩, eqS_iff.2 (eqS_iff.1 h6).symm⟩
end Go.Sl

set_option linter.unusedVariables false
set_option linter.unusedSimpArgs false
namespace Go.Sl
def cnt4 (l : List Nat) (p : Nat) : List Int := (List.range 4).map fun s => (cntS l s p : Int)
def mrD (l : List Nat) (p : Nat) : List Int := if l.getD p 0 / 4 % 2 = 0 then [] else cnt4 l p
def mrR (l : List Nat) (p : Nat) : Rc := ⟨(siteN l p : Int), (cntS l (siteN l p) (p + 1) : Int), mrD l p, ⟨#[107]⟩, bE⟩
theorem cnt_hi (l : List Nat) {i : Nat} (h : 4 ≤ i) : ∀ p, cntS l i p = 0
  | 0 => rfl
  | p + 1 => by
    have := siteN_lt l p
    simp only [cntS, cnt_hi l h p]
    rw [if_neg (by omega)]
theorem cnt4_get (l : List Nat) (p i : Nat) : getI (cnt4 l p) (i : Int) = (cntS l i p : Int) := by
  rw [getI_nat, List.getD_eq_getElem?_getD]
  unfold cnt4
  rcases Nat.lt_or_ge i 4 with h | h
  · rw [List.getElem?_map, List.getElem?_range h]; rfl
  · rw [List.getElem?_eq_none (by simp; omega), cnt_hi l h]; rfl
theorem cnt4_at (l : List Nat) (p s : Nat) (hs : s < 4) : (cnt4 l p)[s]? = some (cntS l s p : Int) := by
  unfold cnt4
  rw [List.getElem?_map, List.getElem?_range hs]
  rfl
theorem cnt4_set (l : List Nat) (i : Nat) : (cnt4 l i).set (siteN l i) ((cntS l (siteN l i) i : Int) + 1) = cnt4 l (i + 1) := by
  have h4 := siteN_lt l i
  apply List.ext_getElem?
  intro s
  rcases Nat.lt_or_ge s 4 with hs | hs
  · rw [cnt4_at l (i + 1) s hs]
    by_cases h : siteN l i = s
    · subst h
      rw [List.getElem?_set_self (by unfold cnt4; simp; omega)]
      congr 1
      simp only [cntS, if_true]; omega
    · rw [List.getElem?_set_ne h, cnt4_at l i s hs]
      congr 2
      simp only [cntS, if_neg h]; omega
  · rw [List.getElem?_eq_none (by unfold cnt4; simp; omega), List.getElem?_eq_none (by unfold cnt4; simp; omega)]
theorem nil_get (i : Nat) : getI [] (i : Int) = 0 := by rw [getI_nat]; rfl
theorem mrD_le (l : List Nat) (p i : Nat) : 0 ≤ getI (mrD l p) (i : Int) ∧ getI (mrD l p) (i : Int) ≤ (cntS l i p : Int) := by
  unfold mrD
  split
  · rw [nil_get]; omega
  · rw [cnt4_get]; omega
theorem mr_seq (l : List Nat) (p : Nat) : (mrR l p).seq = (cntS l (siteN l p) p : Int) + 1 := by
  show (cntS l (siteN l p) (p + 1) : Int) = _
  simp only [cntS, if_true]; omega
theorem mr_next (l : List Nat) (p : Nat) {v : List Int} {c : Nat → Int} (hv : ∀ i : Nat, getI v (i : Int) = c i) (hs : c (siteN l p) = (cntS l (siteN l p) p : Int)) : ∀ i : Nat, getI (nextV v (mrR l p)) (i : Int) = if i = siteN l p then (cntS l (siteN l p) p : Int) + 1 else c i := by
  intro i
  have hg : getI v (mrR l p).site = (cntS l (siteN l p) p : Int) := (hv (siteN l p)).trans hs
  have hq := mr_seq l p
  unfold nextV
  rw [if_pos (by omega), show (mrR l p).site.toNat = siteN l p from Int.toNat_natCast _, getI_with, hq, hv i]
theorem mr_ok (l : List Nat) (p : Nat) {v : List Int} (hs : getI v (siteN l p : Int) = (cntS l (siteN l p) p : Int)) (hc : ∀ i : Nat, getI (mrD l p) (i : Int) ≤ getI v (i : Int)) : flawK v (mrR l p) = 0 := by
  have hq := mr_seq l p
  have hg : getI v (mrR l p).site = (cntS l (siteN l p) p : Int) := hs
  unfold flawK
  rw [if_neg (by omega), if_neg (by omega), if_neg]
  rw [show (mrR l p).dep = mrD l p from rfl, covers_iff'.2 hc]
  decide
theorem mr_step (l : List Nat) (p : Nat) {v : List Int} (hv : ∀ i : Nat, getI v (i : Int) = (cntS l i p : Int)) : flawK v (mrR l p) = 0 ∧ ∀ i : Nat, getI (nextV v (mrR l p)) (i : Int) = (cntS l i (p + 1) : Int) := by
  refine ⟨mr_ok l p (hv _) fun i => by rw [hv i]; exact (mrD_le l p i).2, fun i => ?_⟩
  rw [mr_next l p hv rfl i]
  simp only [cntS]
  by_cases h : i = siteN l p
  · subst h; simp
  · rw [if_neg h, if_neg (fun e => h e.symm)]; simp
theorem mr_from (l : List Nat) (q : Nat → Int) (t : Nat) {v : List Int} (hv : ∀ i : Nat, getI v (i : Int) = (cntS l i t : Int)) : ∀ k, flawsF v ((List.range k).map fun i => (q i, mrR l (t + i))) = [] ∧ ∀ i : Nat, getI (vecL v ((List.range k).map fun i => (q i, mrR l (t + i)))) (i : Int) = (cntS l i (t + k) : Int)
  | 0 => ⟨rfl, hv⟩
  | k + 1 => by
    obtain ⟨h1, h2⟩ := mr_from l q t hv k
    obtain ⟨k1, k2⟩ := mr_step l (t + k) h2
    rw [List.range_succ, List.map_append, flaws_app, vecL_app, h1]
    simp only [List.map_cons, List.map_nil, flawsF, vecL, k1, if_true, List.nil_append, List.append_nil, true_and]
    exact k2
def hangsR (a b : Rc) : Bool := decide (a.site = b.site) || decide (a.seq ≤ getI b.dep a.site)
theorem mr_two (l : List Nat) (k : Nat) (p q : Int) {v : List Int} (hv : ∀ i : Nat, getI v (i : Int) = (cntS l i k : Int)) :
    (hangsR (mrR l k) (mrR l (k + 1)) = true → flawK v (mrR l (k + 1)) ≠ 0) ∧ (hangsR (mrR l k) (mrR l (k + 1)) = false → flawsF v [(p, mrR l (k + 1)), (q, mrR l k)] = [] ∧ ∀ i : Nat, getI (vecL v [(p, mrR l (k + 1)), (q, mrR l k)]) (i : Int) = (cntS l i (k + 2) : Int)) := by
  have hqa := mr_seq l k
  have hqb := mr_seq l (k + 1)
  have hc1 : ∀ i, cntS l i (k + 1) = cntS l i k + (if siteN l k = i then 1 else 0) := fun i => rfl
  have hc2 : ∀ i, cntS l i (k + 2) = cntS l i (k + 1) + (if siteN l (k + 1) = i then 1 else 0) := fun i => rfl
  have hbs : getI v (mrR l (k + 1)).site = (cntS l (siteN l (k + 1)) k : Int) := hv _
  by_cases hab : siteN l k = siteN l (k + 1)
  · have e : cntS l (siteN l (k + 1)) (k + 1) = cntS l (siteN l (k + 1)) k + 1 := by rw [hc1, if_pos hab]
    refine ⟨fun _ => ?_, fun h => ?_⟩
    · unfold flawK
      rw [if_neg (by omega), if_pos (by omega)]
      decide
    · unfold hangsR at h
      rw [decide_eq_true (show (mrR l k).site = (mrR l (k + 1)).site from congrArg (fun n : Nat => (n : Int)) hab)] at h
      simp at h
  · have hns : ¬ (mrR l k).site = (mrR l (k + 1)).site := fun e => hab (Int.ofNat_inj.1 e)
    have e : cntS l (siteN l (k + 1)) (k + 1) = cntS l (siteN l (k + 1)) k := by rw [hc1, if_neg hab]; rfl
    have ea : cntS l (siteN l k) (k + 1) = cntS l (siteN l k) k + 1 := by rw [hc1, if_pos rfl]
    have hda : getI (mrR l (k + 1)).dep (mrR l k).site = getI (mrD l (k + 1)) (siteN l k : Int) := rfl
    refine ⟨fun h => ?_, fun h => ?_⟩
    · unfold hangsR at h
      rw [decide_eq_false hns, Bool.false_or] at h
      have h := of_decide_eq_true h
      unfold flawK
      rw [if_neg (by omega), if_neg (by omega), if_pos]
      · decide
      · cases hcv : coversB v (mrR l (k + 1)).dep with
        | false => rfl
        | true =>
          have := covers_iff'.1 hcv (siteN l k)
          rw [hv] at this
          have h2 : (mrR l k).seq ≤ getI (mrR l (k + 1)).dep (siteN l k : Int) := h
          omega
    · unfold hangsR at h
      rw [decide_eq_false hns, Bool.false_or] at h
      have h := of_decide_eq_false h
      have hd0 : mrD l (k + 1) = [] := by
        unfold mrD
        split
        · rfl
        · rename_i hne
          refine absurd ?_ h
          rw [hda, hqa]
          unfold mrD
          rw [if_neg hne, cnt4_get, ea]
          omega
      have f1 : flawK v (mrR l (k + 1)) = 0 := mr_ok l (k + 1) (by rw [hv, e]) fun i => by
        rw [hd0, nil_get, hv i]; omega
      have n1 := mr_next l (k + 1) hv (by rw [e])
      have f2 : flawK (nextV v (mrR l (k + 1))) (mrR l k) = 0 := mr_ok l k (by rw [n1, if_neg hab]) fun i => by
        have := (mrD_le l k i).2
        rw [n1]
        split
        · rename_i hi; subst hi; omega
        · exact this
      have n2 := mr_next l k n1 (by rw [if_neg hab])
      refine ⟨by simp only [flawsF, f1, f2, if_true, List.append_nil], fun i => ?_⟩
      show getI (nextV (nextV v (mrR l (k + 1))) (mrR l k)) (i : Int) = _
      rw [n2 i]
      have e1 := hc1 i
      have e2 := hc2 i
      by_cases h1 : i = siteN l k
      · subst h1
        rw [if_pos rfl]
        rw [if_neg (fun x => hab x.symm)] at e2
        rw [if_pos rfl] at e1
        omega
      · rw [if_neg h1]
        rw [if_neg (fun x => h1 x.symm)] at e1
        by_cases h2 : i = siteN l (k + 1)
        · subst h2
          rw [if_pos rfl, e]
          rw [if_pos rfl] at e2
          omega
        · rw [if_neg h2]
          rw [if_neg (fun x => h2 x.symm)] at e2
          omega
def swR (l : List Nat) (k u : Nat) : List Rc := ((List.range u).map (mrR l)).set k (mrR l (k + 1)) |>.set (k + 1) (mrR l k)
theorem swR_split (l : List Nat) (k m : Nat) : swR l k (k + (2 + m)) = ((List.range k).map fun i => mrR l (0 + i)) ++ ([mrR l (k + 1), mrR l k] ++ (List.range m).map fun i => mrR l (k + 2 + i)) := by
  apply List.ext_getElem?
  intro i
  unfold swR
  by_cases h1 : i = k + 1
  · subst h1
    rw [List.getElem?_set_self (by simp; omega), List.getElem?_append_right (by simp)]
    simp
  · rw [List.getElem?_set_ne (by omega)]
    by_cases h0 : i = k
    · subst h0
      rw [List.getElem?_set_self (by simp; omega), List.getElem?_append_right (by simp)]
      simp
    · rw [List.getElem?_set_ne (by omega)]
      rcases Nat.lt_or_ge i k with hk | hk
      · rw [List.getElem?_append_left (by simp; exact hk), List.getElem?_map, List.getElem?_map, List.getElem?_range hk, List.getElem?_range (by omega)]
        simp
      · rw [List.getElem?_append_right (by simp; exact hk), List.getElem?_append_right (by simp; omega)]
        simp only [List.length_map, List.length_range, List.length_cons, List.length_nil]
        rcases Nat.lt_or_ge i (k + (2 + m)) with hm | hm
        · rw [List.getElem?_map, List.getElem?_map, List.getElem?_range hm, List.getElem?_range (by omega)]
          simp only [Option.map_some]
          congr 2
          omega
        · rw [List.getElem?_eq_none (by simp; omega), List.getElem?_eq_none (by simp; omega)]
def okR : List Int → List Rc → Prop
  | _, [] => True
  | v, r :: x => flawK v r = 0 ∧ okR (nextV v r) x
theorem flaws_okR : ∀ (y : List (Int × Rc)) (v : List Int), flawsF v y = [] ↔ okR v (y.map (·.2))
  | [], v => by simp [flawsF, okR]
  | (p, r) :: y, v => by
    have ih := flaws_okR y (nextV v r)
    simp only [List.map_cons, flawsF, okR, List.append_eq_nil_iff, ih]
    by_cases hk : flawK v r = 0
    · simp [hk]
    · simp [hk]
theorem mr_order (l : List Nat) (u : Nat) : okR [] ((List.range u).map (mrR l)) := by
  have h := (mr_from l (fun _ => 0) 0 (v := []) (fun i => by rw [nil_get]; rfl) u).1
  rw [flaws_okR, List.map_map] at h
  have e : ((fun x : Int × Rc => x.2) ∘ fun i => ((0 : Int), mrR l (0 + i))) = mrR l := funext fun i => by simp
  rw [e] at h
  exact h
theorem mr_swap (l : List Nat) (k m : Nat) : okR [] (swR l k (k + (2 + m))) ↔ hangsR (mrR l k) (mrR l (k + 1)) = false := by
  have e : swR l k (k + (2 + m)) = (((List.range k).map fun i => ((0 : Int), mrR l (0 + i))) ++ ([((0 : Int), mrR l (k + 1)), ((0 : Int), mrR l k)] ++ (List.range m).map fun i => ((0 : Int), mrR l (k + 2 + i)))).map (·.2) := by
    rw [swR_split, List.map_append, List.map_append, List.map_map, List.map_map]
    rfl
  rw [e, ← flaws_okR, flaws_app]
  obtain ⟨a1, a2⟩ := mr_from l (fun _ => 0) 0 (v := []) (fun i => by rw [nil_get]; rfl) k
  rw [a1, List.nil_append]
  rw [Nat.zero_add] at a2
  obtain ⟨b1, b2⟩ := mr_two l k 0 0 a2
  generalize vecL [] ((List.range k).map fun i => ((0 : Int), mrR l (0 + i))) = v at *
  cases hh : hangsR (mrR l k) (mrR l (k + 1)) with
  | true =>
    have := b1 hh
    simp [flawsF, this]
  | false =>
    obtain ⟨c1, c2⟩ := b2 hh
    rw [flaws_app, c1, (mr_from l (fun _ => 0) (k + 2) c2 m).1]
    simp
theorem mr_bd (l : List Nat) {p : Nat} (hp : p ≤ 1000) : RBd (mrR l p) := by
  have h1 := siteN_lt l p
  have h2 := cntS_le l (siteN l p) (p + 1)
  exact ⟨⟨by show (0 : Int) ≤ (siteN l p : Int); omega, by show (siteN l p : Int) ≤ 63; omega⟩, by show (0 : Int) ≤ (cntS l (siteN l p) (p + 1) : Int); omega, by show (cntS l (siteN l p) (p + 1) : Int) ≤ 1000000000; omega⟩
end Go.Sl

set_option linter.unusedVariables false
set_option linter.unusedSectionVars false
set_option linter.unusedSimpArgs false
namespace Go.Sl
theorem ent_arr {b : Nat} {k : IntKind} {l : List Int} {L : List HP} (h : l.length ≤ lim) : Ent (pts b 0 (l.map (Value.int k)) :: L) (sqAt true (RK k) (some ⟨b, 0, none⟩) l.length l.length l :: L) := by
  have hf : ∀ l : List Int, flat (RK k) (l.map fun x => (x, ())) = l.map (Value.int k) := by
    intro l
    induction l with
    | nil => rfl
    | cons x l ih => simp only [List.map_cons, flat, ih]; rfl
  have hz : (l.map fun x => (x, ())).map Prod.fst = l := by rw [List.map_map]; exact List.map_id l
  have h1 := sq_shut (ρ := RK k) (w := true) (a := ⟨b, 0, none⟩) (n := l.length) (c := l.length) (l := l) (L := L) (z := l.map fun x => (x, ())) (sp := []) rfl h (Nat.le_refl _) rfl hz (by simp)
  rw [hf l] at h1
  refine Ent.trans (Ent.cons ?_) h1
  rintro r o hL
  exact ⟨fun _ _ => none, o, fun _ _ => .inl rfl, none_add, fun i v e => (by cases e), fun _ _ => none, o, fun _ _ => .inl rfl, none_add, fun i x h e => trivial, hL⟩
section
variable {P : Program} [tb : Tab P] {rd : Option Nat} {N : Nat} {T : TT} {L L' L1 E : List HP} {Q : Post} {ks : List K}
theorem SK.arr {c : Code} {b n : Nat} {k : IntKind} {cs : List Value} (l : List Int) (hh : Take (pts b 0 cs) L L') (e : cs = l.map (Value.int k)) (hn : l.length = n) (h1 : n ≤ lim)
    (h : SK P rd N (.code c :: ks) T (sqAt true (RK k) (some ⟨b, 0, none⟩) n n l :: L') Q) : SK P rd N (.code c :: ks) T L Q := by
  subst e
  subst hn
  exact SK.shift (fun F w hst => hst.ent (Ent.cons (hh.ent.trans (ent_arr h1)))) h
end
end Go.Sl

set_option linter.unusedVariables false
set_option linter.unusedSectionVars false
namespace Go.Sl
section
variable {P : Program} [tb : Tab P] {rd : Option Nat} {N : Nat} {T : TT} {L L' E : List HP} {Q : Post} {ks : List K}
variable {all : Array Oper} {rest : List Oper} {restX : XO} {d : Option Tmp} {ty : TypeId} {pos : String} {aft : Array Edge}
theorem rd_indexB {x y : Operand} {t e : Nat} {sz n1 n2 b1 : Nat} {z z2 : Value} {ke : TK} {a : Addr} {n c i : Nat} {k : IntKind} {j : Int} (hx : evO T x = some (.slice (some a) n c)) (hy : evO T y = some (.int k j))
    (ht : tget tb.tab t = some ⟨.sl e, n1, n2, z⟩) (hte : tget tb.tab e = some ⟨ke, sz, b1, z2⟩) (hj : Int.ofNat i = j) (hi : i < n) : Reads P T L ⟨d, .indexAddr t x y, ty, pos, aft, none⟩ (fun v L2 => v = .pointer (some (eadr (some a) i sz 0)) ∧ L2 = L) := by
  intro q hq rr oo F hs
  refine ⟨_, L, ⟨rfl, rfl⟩, hs, fun w sat => ?_⟩
  have hj' : j = (i : Int) := hj.symm
  subst hj'
  simp only [execOp, hq _ _ hx, hq _ _ hy, Sem.run_bind, run_indexAt ht hte hi, Result.andThen_ok]
  rfl
theorem SO.indexB {x y : Operand} {t e : Nat} {sz n1 n2 b1 : Nat} {z z2 : Value} {ke : TK} {a : Addr} {n c i : Nat} {k : IntKind} {j : Int} (hx : evO T x = some (.slice (some a) n c)) (hy : evO T y = some (.int k j))
    (ht : tget tb.tab t = some ⟨.sl e, n1, n2, z⟩) (hte : tget tb.tab e = some ⟨ke, sz, b1, z2⟩) (hj : Int.ofNat i = j) (hi : i < n) (hd : dstOk N d = true)
    (kk : SO P rd N all rest (putD d (.pointer (some (eadr (some a) i sz 0))) T) L ks Q) : SO P rd N all (⟨d, .indexAddr t x y, ty, pos, aft, none⟩ :: rest) T L ks Q :=
  SO.reads (rd_indexB hx hy ht hte hj hi) rfl rfl hd (by rintro _ _ ⟨rfl, rfl⟩; exact kk)
theorem SX.indexB {x y : Operand} {t e : Nat} {sz n1 n2 b1 : Nat} {z z2 : Value} {ke : TK} {a : Addr} {n c i : Nat} {k : IntKind} {j : Int} (hx : evO T x = some (.slice (some a) n c)) (hy : evO T y = some (.int k j))
    (ht : tget tb.tab t = some ⟨.sl e, n1, n2, z⟩) (hte : tget tb.tab e = some ⟨ke, sz, b1, z2⟩) (hj : Int.ofNat i = j) (hi : i < n) (hd : dstOk N d = true)
    (kk : SX P rd N all restX (putD d (.pointer (some (eadr (some a) i sz 0))) T) L E ks Q) : SX P rd N all (.item 0 ⟨d, .indexAddr t x y, ty, pos, aft, none⟩ restX) T L E ks Q :=
  SX.reads (rd_indexB hx hy ht hte hj hi) rfl hd (by rintro _ _ ⟨rfl, rfl⟩; exact kk)
end
end Go.Sl
