/- A part of a proof: what functions of the program compute. -/
import Derived.Test.YtbaalaaoggplmaaDoorSlLib
/-! Names: letters and digits alone. -/
set_option linter.unusedVariables false
set_option linter.unusedSimpArgs false
namespace Go.Sl
open Go.Lib
def nameR (x : Nat) : Bool := (decide (97 ≤ x) && decide (x ≤ 122)) || (decide (48 ≤ x) && decide (x ≤ 57))
theorem nameR_lt {x : Nat} (h : nameR x = true) : x < 128 := by
  simp [nameR] at h; omega
def nameOk (s : ByteArray) : Bool := s.data.toList.all fun b => nameR b.toNat

/-- A rune below 128 is its byte. -/
theorem decode_small {s : ByteArray} {i : Nat} (h : (Utf8.decode s i).1 < 128) : Utf8.decode s i = ((s.get! i).toNat, 1) := by
  unfold Utf8.decode at h ⊢
  simp only [Nat.add_zero] at h ⊢
  split at h
  · rename_i h0; rw [if_pos h0]
  · exfalso
    split at h
    · split at h
      · rename_i hc; simp only at h hc; omega
      · simp [Utf8.runeError] at h
    · split at h
      · split at h
        · rename_i hc; simp only [Bool.and_eq_true, decide_eq_true_eq] at h hc; omega
        · simp [Utf8.runeError] at h
      · split at h
        · split at h
          · rename_i hc; simp only [Bool.and_eq_true, decide_eq_true_eq] at h hc; omega
          · simp [Utf8.runeError] at h
        · simp [Utf8.runeError] at h
theorem decode_byte {s : ByteArray} {i : Nat} (h : (s.get! i).toNat < 128) : Utf8.decode s i = ((s.get! i).toNat, 1) := by
  unfold Utf8.decode
  simp only [Nat.add_zero]
  rw [if_pos h]
theorem name_decode (s : ByteArray) (i : Nat) : nameR (Utf8.decode s i).1 = nameR (s.get! i).toNat := by
  by_cases h : (s.get! i).toNat < 128
  · rw [decode_byte h]
  · have h1 : nameR (s.get! i).toNat = false := by
      cases hb : nameR (s.get! i).toNat with
      | false => rfl
      | true => exact absurd (nameR_lt hb) h
    rw [h1]
    cases hb : nameR (Utf8.decode s i).1 with
    | false => rfl
    | true =>
      have := decode_small (nameR_lt hb)
      rw [this] at hb
      exact absurd (nameR_lt hb) h
theorem len_data (s : ByteArray) : s.data.toList.length = s.size := Array.length_toList
theorem get_data (s : ByteArray) (i : Nat) : s.get! i = s.data.toList.getD i 0 := by
  show s.data[i]! = _
  simp [Array.getElem!_eq_getD, Array.getD_eq_getD_getElem?, List.getD, default]

theorem left_none (s : ByteArray) : ∀ (f pos : Nat), s.size ≤ pos + f → (idxFuncFrom nameR false s f pos = -1 ↔ ∀ k, pos ≤ k → k < s.size → nameR (s.get! k).toNat = true)
  | 0, pos, h => ⟨fun _ k h1 h2 => by omega, fun _ => rfl⟩
  | f + 1, pos, h => by
    unfold idxFuncFrom
    by_cases hp : pos < s.size
    · rw [if_pos hp]
      cases hn : nameR (Utf8.decode s pos).1 with
      | false =>
        rw [if_pos rfl]
        refine ⟨fun h => by omega, fun h => ?_⟩
        have := h pos (Nat.le_refl _) hp
        rw [← name_decode, hn] at this; cases this
      | true =>
        rw [if_neg (by simp)]
        have hd := decode_small (nameR_lt hn)
        rw [hd]
        have ih := left_none s f (pos + 1) (by omega)
        show idxFuncFrom nameR false s f (pos + 1) = -1 ↔ _
        rw [ih]
        refine ⟨fun h k h1 h2 => ?_, fun h k h1 h2 => h k (by omega) h2⟩
        rcases Nat.lt_or_ge pos k with h3 | h3
        · exact h k h3 h2
        · have : k = pos := by omega
          subst this
          rw [name_decode] at hn; exact hn
    · rw [if_neg hp]
      exact ⟨fun _ k h1 h2 => by omega, fun _ => rfl⟩
theorem left_at (s : ByteArray) : ∀ (f pos : Nat), idxFuncFrom nameR false s f pos ≠ -1 → ∃ i : Nat, idxFuncFrom nameR false s f pos = (i : Int) ∧ i < s.size ∧ nameR (s.get! i).toNat = false
  | 0, pos, h => absurd rfl h
  | f + 1, pos, h => by
    unfold idxFuncFrom at h ⊢
    by_cases hp : pos < s.size
    · rw [if_pos hp] at h ⊢
      cases hn : nameR (Utf8.decode s pos).1 with
      | false => rw [if_pos rfl]; exact ⟨pos, rfl, hp, by rw [← name_decode]; exact hn⟩
      | true =>
        rw [hn, if_neg (by simp)] at h
        rw [if_neg (by simp)]
        exact left_at s f _ h
    · rw [if_neg hp] at h; exact absurd rfl h
theorem last_small {l : List UInt8} (h : nameR (decodeLastL l).1 = true) (hl : l ≠ []) : decodeLastL l = ((l.getD (l.length - 1) 0).toNat, 1) := by
  unfold decodeLastL at h ⊢
  rw [if_neg hl] at h ⊢
  by_cases h1 : (l.getD (l.length - 1) 0).toNat < 128
  · rw [if_pos h1]
  · exfalso
    rw [if_neg h1] at h
    simp only at h
    split at h
    · rename_i h2
      have h3 := nameR_lt h
      unfold decodeL at h3 h2
      have h4 := decode_small h3
      rw [h4] at h2 h3
      simp only at h2 h3
      rw [get_data] at h3
      apply h1
      have h5 : lastStart l = l.length - 1 := by omega
      simp only [List.toList_toArray] at h3
      rw [h5] at h3
      simpa [List.getD, List.getElem?_drop] using h3
    · have := nameR_lt h
      simp [Utf8.runeError] at this
theorem last_none (s : ByteArray) : ∀ (f i : Nat), i ≤ f → i ≤ s.size → lastIdxFuncFrom nameR false s f i = -1 → ∀ k, k < i → nameR (s.get! k).toNat = true
  | 0, i, h, _, _ => fun k hk => by omega
  | f + 1, i, h, hi, he => by
    intro k hk
    unfold lastIdxFuncFrom at he
    have hpos : 0 < i := by omega
    rw [if_pos hpos] at he
    have hlen : (s.data.toList.take i).length = i := by
      rw [List.length_take, len_data]; omega
    have hne : s.data.toList.take i ≠ [] := by intro h0; rw [h0] at hlen; simp at hlen; omega
    cases hn : nameR (decodeLastL (s.data.toList.take i)).1 with
    | false => rw [hn, if_pos rfl] at he; omega
    | true =>
      rw [hn, if_neg (by simp)] at he
      have hd := last_small hn hne
      rw [hd] at he hn
      simp only at he hn
      rw [hlen] at hn
      have hlast : nameR (s.get! (i - 1)).toNat = true := by
        rw [get_data]
        have : (s.data.toList.take i).getD (i - 1) 0 = s.data.toList.getD (i - 1) 0 := by
          simp only [List.getD]; rw [List.getElem?_take_of_lt (by omega)]
        rw [this] at hn; exact hn
      rcases Nat.lt_or_ge k (i - 1) with h3 | h3
      · exact last_none s f (i - 1) (by omega) (by omega) he k h3
      · have : k = i - 1 := by omega
        subst this; exact hlast
theorem nameOk_iff (s : ByteArray) : nameOk s = true ↔ ∀ k, k < s.size → nameR (s.get! k).toNat = true := by
  unfold nameOk
  rw [List.all_eq_true]
  constructor
  · intro h k hk
    rw [get_data]
    have hk' : k < s.data.toList.length := by rw [len_data]; exact hk
    have : s.data.toList.getD k 0 = s.data.toList[k] := by rw [List.getD, List.getElem?_eq_getElem hk']; rfl
    rw [this]; exact h _ (List.getElem_mem hk')
  · intro h b hb
    obtain ⟨k, hk⟩ := List.getElem?_of_mem hb
    have hk' := (List.getElem?_eq_some_iff.1 hk).1
    have := h k (by rw [← len_data]; exact hk')
    rw [get_data, List.getD, hk] at this
    exact this
theorem size_extract (s : ByteArray) (i j : Nat) : (s.extract i j).size = min j s.size - i := by
  simp [ByteArray.size_extract]
theorem extract_get (s : ByteArray) (i k : Nat) (h : i + k < s.size) : (s.extract i s.size).get! k = s.get! (i + k) := by
  rw [get_data, get_data]
  have : (s.extract i s.size).data.toList = s.data.toList.drop i := by
    rw [ByteArray.data_extract, Array.toList_extract, List.extract_eq_take_drop]
    rw [List.take_of_length_le]
    rw [List.length_drop, len_data]; omega
  rw [this]; simp only [List.getD, List.getElem?_drop]
theorem empty_of_size {s : ByteArray} (h : s.size = 0) : s = ⟨#[]⟩ := by
  cases s with | mk d =>
  have : d = #[] := Array.eq_empty_of_size_eq_zero h
  rw [this]
/-- What strings.TrimFunc leaves of a name. -/
theorem trim_name (s : ByteArray) : eqS (Lib.trimF nameR s) ⟨#[]⟩ = nameOk s := by
  rw [Bool.eq_iff_iff, eqS_iff]
  by_cases hl : idxFunc nameR false s = -1
  · have h1 : Lib.trimLeftF nameR s = ⟨#[]⟩ := by unfold Lib.trimLeftF; rw [if_pos hl]
    have h2 : nameOk s = true := (nameOk_iff s).2 fun k hk => (left_none s s.size 0 (by omega)).1 hl k (Nat.zero_le _) hk
    rw [h2]
    refine ⟨fun _ => rfl, fun _ => ?_⟩
    unfold Lib.trimF
    rw [h1]
    exact empty_of_size (by unfold Lib.trimRightF; rw [size_extract]; show min _ 0 - 0 = 0; omega)
  · obtain ⟨i, hi, his, hin⟩ := left_at s s.size 0 hl
    have h2 : ¬ nameOk s = true := fun h => by
      have := (nameOk_iff s).1 h i his
      rw [hin] at this; cases this
    refine ⟨fun h => ?_, fun h => absurd h h2⟩
    exfalso
    have h1 : Lib.trimLeftF nameR s = s.extract i s.size := by
      unfold Lib.trimLeftF
      rw [if_neg hl]
      have : idxFunc nameR false s = (i : Int) := hi
      rw [this]; rfl
    unfold Lib.trimF at h
    rw [h1] at h
    have hts : (s.extract i s.size).size = s.size - i := by rw [size_extract]; omega
    have ht0 : nameR ((s.extract i s.size).get! 0).toNat = false := by rw [extract_get s i 0 (by omega)]; exact hin
    revert h hts ht0
    generalize s.extract i s.size = t
    intro h hts ht0
    have htpos : 0 < t.size := by omega
    have hne : ¬ lastIdxFunc nameR false t = -1 := fun he => by
      have := last_none t t.size t.size (Nat.le_refl _) (Nat.le_refl _) he 0 htpos
      rw [this] at ht0; cases ht0
    have hge : 0 ≤ lastIdxFunc nameR false t := by
      rcases lastIdxFuncFrom_range nameR false t t.size t.size with h3 | h3
      · exact absurd h3 hne
      · exact h3.1
    have hsz : (Lib.trimRightF nameR t).size = 0 := by rw [h]; rfl
    unfold Lib.trimRightF at hsz
    rw [size_extract] at hsz
    have hend : Lib.rightEndF nameR t = 0 := by omega
    unfold Lib.rightEndF at hend
    rw [if_pos hge] at hend
    have hj : (lastIdxFunc nameR false t).toNat = 0 := by omega
    rw [hj] at hend
    have hw : (decodeGoB (t.extract 0 t.size)).2 = 0 := by omega
    unfold decodeGoB at hw
    rw [if_neg (by rw [size_extract]; omega)] at hw
    have := Lib.width_pos (t.extract 0 t.size) 0
    omega
end Go.Sl
