/-
  PLAIN: the forms of a text as a list and by position; Unquote of a quoted string.
-/
import Derived.Test.YtnoodiibkchaaaaGreatDoorWEscG
namespace Go.Proofs.YtnoodiibkchaaaaGreatDoor

/-- the bytes of a text from a position on -/
def tl (t : ByteArray) (pos : Nat) : List Nat := cut t pos (t.size - pos)
theorem tl_length (t : ByteArray) (pos : Nat) : (tl t pos).length = t.size - pos := by simp [tl, cut]
theorem tl_cons (t : ByteArray) (pos : Nat) (h : pos < t.size) : tl t pos = bAt t pos :: tl t (pos + 1) := by
  unfold tl cut
  rw [show t.size - pos = (t.size - (pos + 1)) + 1 by omega, List.range_succ_eq_map, List.map_cons, List.map_map]
  congr 1
  apply List.map_congr_left
  intro j _
  simp [Nat.add_comm, Nat.add_left_comm]
theorem tl_nil (t : ByteArray) (pos : Nat) (h : ¬ pos < t.size) : tl t pos = [] := List.eq_nil_of_length_eq_zero (by rw [tl_length]; omega)
theorem oneP_len (t : ByteArray) (pos : Nat) : (oneP t pos).2 = 0 ∧ (oneP t pos).1 = [] ∨ (oneP t pos).2 ≠ 0 ∧ ∃ x, (oneP t pos).1 = [x] := by
  unfold oneP
  repeat' split
  all_goals simp
theorem oneL_at (t : ByteArray) (pos : Nat) (h : pos < t.size) : oneL (tl t pos) = if (oneP t pos).2 = 0 then none else some ((oneP t pos).1.headD 0, tl t (pos + (oneP t pos).2)) := by
  rw [tl_cons t pos h]
  by_cases h1 : bAt t pos ≠ 92
  · have hv : oneP t pos = ([bAt t pos], 1) := by unfold oneP; rw [if_pos h1]
    rw [hv]; simp [oneL, h1]
  have h1' : bAt t pos = 92 := by omega
  by_cases h2 : t.size < pos + 2
  · have hv : oneP t pos = ([], 0) := by unfold oneP; rw [if_neg h1, if_pos h2]
    rw [hv, tl_nil t (pos + 1) (by omega)]; simp [oneL, h1']
  rw [tl_cons t (pos + 1) (by omega)]
  by_cases a1 : bAt t (pos + 1) = 34
  · have hv : oneP t pos = ([34], 2) := by unfold oneP; rw [if_neg h1, if_neg h2, if_pos a1]
    rw [hv]; simp [oneL, h1', a1]
  by_cases a2 : bAt t (pos + 1) = 92
  · have hv : oneP t pos = ([92], 2) := by unfold oneP; rw [if_neg h1, if_neg h2, if_neg a1, if_pos a2]
    rw [hv]; simp [oneL, h1', a2]
  by_cases a3 : bAt t (pos + 1) = 110
  · have hv : oneP t pos = ([10], 2) := by unfold oneP; rw [if_neg h1, if_neg h2, if_neg a1, if_neg a2, if_pos a3]
    rw [hv]; simp [oneL, h1', a3]
  by_cases a4 : bAt t (pos + 1) = 120
  · by_cases h4 : t.size < pos + 4
    · have hv : oneP t pos = ([], 0) := by unfold oneP; rw [if_neg h1, if_neg h2, if_neg a1, if_neg a2, if_neg a3, if_pos (.inr h4)]
      rw [hv]
      by_cases h3 : pos + 2 < t.size
      · rw [tl_cons t (pos + 1 + 1) (by omega), tl_nil t (pos + 1 + 1 + 1) (by omega)]
        simp [oneL, h1', a4]
      · rw [tl_nil t (pos + 1 + 1) (by omega)]
        simp [oneL, h1', a4]
    · rw [tl_cons t (pos + 1 + 1) (by omega), tl_cons t (pos + 1 + 1 + 1) (by omega)]
      have e2 : pos + 1 + 1 = pos + 2 := rfl
      have e3 : pos + 1 + 1 + 1 = pos + 3 := rfl
      rw [e3, e2]
      have u2 := digitI_unhex (bAt t (pos + 2))
      have u3 := digitI_unhex (bAt t (pos + 3))
      have b2 := digitI_bd (bAt t (pos + 2))
      have b3 := digitI_bd (bAt t (pos + 3))
      by_cases d2 : digitI (bAt t (pos + 2)) < 0
      · rw [if_pos d2] at u2
        have hv : oneP t pos = ([], 0) := by unfold oneP; rw [if_neg h1, if_neg h2, if_neg a1, if_neg a2, if_neg a3, if_neg (by omega), if_pos (.inl d2)]
        rw [hv]
        simp [oneL, h1', a4, u2]
      · rw [if_neg d2] at u2
        by_cases d3 : digitI (bAt t (pos + 3)) < 0
        · rw [if_pos d3] at u3
          have hv : oneP t pos = ([], 0) := by unfold oneP; rw [if_neg h1, if_neg h2, if_neg a1, if_neg a2, if_neg a3, if_neg (by omega), if_pos (.inr d3)]
          rw [hv]
          simp [oneL, h1', a4, u2, u3]
        · rw [if_neg d3] at u3
          have hv : oneP t pos = ([(16 * digitI (bAt t (pos + 2)) + digitI (bAt t (pos + 3))).toNat], 4) := by unfold oneP; rw [if_neg h1, if_neg h2, if_neg a1, if_neg a2, if_neg a3, if_neg (by omega), if_neg (by omega)]
          rw [hv]
          simp [oneL, h1', a4, u2, u3]
          omega
  · have hv : oneP t pos = ([], 0) := by unfold oneP; rw [if_neg h1, if_neg h2, if_neg a1, if_neg a2, if_neg a3, if_pos (.inl a4)]
    rw [hv]
    simp [oneL, h1', a1, a2, a3, a4]
theorem scan_unqL (t : ByteArray) : ∀ f pos, pos ≤ t.size → scan t f pos = (unqL f (tl t pos)).map fun p => (p.1, t.size - p.2.length)
  | 0, _, _ => rfl
  | f + 1, pos, hle => by
    rw [scan]
    by_cases hp : pos < t.size
    · rw [if_pos hp]
      have ho := oneL_at t pos hp
      have hl := oneP_len t pos
      have hv := oneV_at t pos hp
      have hvl := oneV_le (t.extract pos t.size) (by rw [rest_size]; omega)
      have hrs := rest_size t pos
      rw [hv] at hvl
      rw [hv]
      rw [tl_cons t pos hp] at ho ⊢
      rw [unqL]
      by_cases hm : bAt t pos = 34
      · rw [if_pos hm, if_pos hm]
        simp [tl_length]
        omega
      · rw [if_neg hm, if_neg hm, ho]
        rcases hl with ⟨h0, _⟩ | ⟨h0, x, hx⟩
        · rw [if_pos h0, if_pos h0]; rfl
        · rw [if_neg h0, if_neg h0, scan_unqL t f _ (by omega), hx]
          simp only [List.headD_cons]
          rw [Option.map_map, Option.map_map]
          rfl
    · rw [if_neg hp, tl_nil t pos hp]
      rfl
theorem piece_ge (s : ByteArray) (pos : Nat) (h : pos < s.size) : (Utf8.decode s pos).2 ≤ (piece s pos).length := by
  have hw := width_pos s pos h
  rcases decode_ways s pos h with ⟨ha, e⟩ | ⟨ha, e⟩ | ⟨ha, hc, hn, hle, hall⟩
  · rw [e]; simp only [piece, e]; repeat' split
    all_goals simp [cut]
  · rw [e]; simp only [piece, e]; repeat' split
    all_goals simp [cut]
  · simp only [piece]
    rw [if_neg (by omega), if_neg (by omega), if_neg (by omega), if_neg (by omega)]
    simp [cut]
theorem quoteFrom_ge (s : ByteArray) : ∀ k pos, s.size ≤ pos + k → s.size - pos ≤ (quoteFrom s k pos).length
  | 0, pos, h => by simp [quoteFrom]; omega
  | k + 1, pos, h => by
    by_cases hp : pos < s.size
    · have hw := width_pos s pos hp
      have hg := piece_ge s pos hp
      have := quoteFrom_ge s k (pos + (Utf8.decode s pos).2) (by omega)
      rw [quoteFrom, if_pos hp, List.length_append]
      omega
    · omega
theorem quoteFrom_le (s : ByteArray) : ∀ k pos, (quoteFrom s k pos).length ≤ 4 * (s.size - pos)
  | 0, pos => by simp [quoteFrom]
  | k + 1, pos => by
    by_cases hp : pos < s.size
    · have hw := width_pos s pos hp
      have hg := piece_len s pos hp
      have := quoteFrom_le s k (pos + (Utf8.decode s pos).2)
      rw [quoteFrom, if_pos hp, List.length_append]
      omega
    · rw [quoteFrom, if_neg hp]; simp
theorem quoteL_le (s : ByteArray) : (quoteL s).length ≤ 4 * s.size + 2 := by
  have := quoteFrom_le s s.size 0
  simp [quoteL]; omega
theorem list_len (t : ByteArray) : t.data.toList.length = t.size := by rw [Array.length_toList]; rfl
theorem bAt_data (t : ByteArray) (k : Nat) (h : k < t.size) : t.data.toList[k]? = some (UInt8.ofNat (bAt t k)) := by
  rw [bAt_get t k h, Array.getElem?_toList, Array.getElem?_eq_getElem (show k < t.data.size from h)]
  show some (t.data[k]) = some (UInt8.ofNat (t.data[k]).toNat)
  simp
theorem tl_data (t : ByteArray) (pos : Nat) : tl t pos = (t.data.toList.drop pos).map UInt8.toNat := by
  apply List.ext_getElem?
  intro j
  have hsz := list_len t
  by_cases hj : pos + j < t.size
  · rw [List.getElem?_map, List.getElem?_drop, bAt_data t (pos + j) hj]
    have hb := bAt_lt t (pos + j)
    unfold tl cut
    rw [List.getElem?_map, List.getElem?_range (by omega)]
    show some (bAt t (pos + j)) = some (UInt8.toNat (UInt8.ofNat (bAt t (pos + j))))
    rw [UInt8.toNat_ofNat']
    congr 1
    omega
  · rw [List.getElem?_eq_none (by rw [tl_length]; omega), List.getElem?_eq_none (by rw [List.length_map, List.length_drop]; omega)]
theorem nums_u8L (l : List Nat) (h : ∀ c ∈ l, c < 256) : (u8L l).map UInt8.toNat = l := by
  unfold u8L
  rw [List.map_map]
  have : l.map (UInt8.toNat ∘ UInt8.ofNat) = l.map id := List.map_congr_left fun c hc => by
    have := h c hc
    simp [UInt8.toNat_ofNat']; omega
  rw [this, List.map_id]
theorem cut_lt (s : ByteArray) (a n : Nat) : ∀ c ∈ cut s a n, c < 256 := by
  intro c hc
  simp only [cut, List.mem_map, List.mem_range] at hc
  obtain ⟨j, _, rfl⟩ := hc
  exact bAt_lt s _
theorem piece_lt (s : ByteArray) (pos : Nat) : ∀ c ∈ piece s pos, c < 256 := by
  have hb := bAt_lt s pos
  have h1 := hexB_lt (bAt s pos / 16) (by omega)
  have h2 := hexB_lt (bAt s pos % 16) (by omega)
  intro c hc
  simp only [piece] at hc
  repeat' split at hc
  all_goals first
    | exact cut_lt s _ _ c hc
    | (simp at hc; omega)
theorem quoteFrom_lt (s : ByteArray) : ∀ k pos, ∀ c ∈ quoteFrom s k pos, c < 256
  | 0, _, c, h => by simp [quoteFrom] at h
  | k + 1, pos, c, h => by
    rw [quoteFrom] at h
    split at h
    · rcases List.mem_append.1 h with h | h
      · exact piece_lt s pos c h
      · exact quoteFrom_lt s k _ c h
    · cases h
theorem quoteL_lt (s : ByteArray) : ∀ c ∈ quoteL s, c < 256 := by
  intro c hc
  simp only [quoteL, List.mem_cons, List.mem_append, List.cons_append, List.not_mem_nil, or_false] at hc
  rcases hc with rfl | h | rfl
  · decide
  · exact quoteFrom_lt s _ _ c h
  · decide
theorem strOf_list (l : List Nat) : (strOf l).data.toList = u8L l := by simp [strOf]
theorem extract_list (t : ByteArray) (a b : Nat) : (t.extract a b).data.toList = (t.data.toList.drop a).take (b - a) := by
  rw [ByteArray.data_extract, Array.toList_extract, List.extract_eq_take_drop]
theorem strOf_all (s : ByteArray) : strOf (cut s 0 s.size) = s := by
  have h := cut_strOf s 0 s.size (by omega)
  rw [← h]
  simp
/-- Unquote inverts Quote, whatever stands before and behind -/
theorem unqV_quote (before s after : ByteArray) : unqV (before ++ strOf (quoteL s) ++ after) before.size = some (cut s 0 s.size, before.size + (quoteL s).length) := by
  obtain ⟨t, ht⟩ : ∃ t, t = before ++ strOf (quoteL s) ++ after := ⟨_, rfl⟩
  rw [← ht]
  have hl : t.data.toList = before.data.toList ++ (u8L (quoteL s) ++ after.data.toList) := by
    rw [ht, ByteArray.data_append, ByteArray.data_append, Array.toList_append, Array.toList_append, strOf_list, List.append_assoc]
  have hbl := list_len before
  have hal := list_len after
  have hsz : t.size = before.size + ((quoteL s).length + after.size) := by
    have h1 := list_len t
    rw [← h1, hl, List.length_append, List.length_append, u8L_length, hbl, hal]
  have hql : (quoteL s).length = (quoteFrom s s.size 0).length + 2 := by simp [quoteL]
  have hge := quoteFrom_ge s s.size 0 (by omega)
  have htl : tl t before.size = quoteL s ++ after.data.toList.map UInt8.toNat := by
    rw [tl_data, hl, List.drop_left' hbl, List.map_append, nums_u8L _ (quoteL_lt s)]
  have hlt : before.size < t.size := by omega
  have hcons := tl_cons t before.size hlt
  rw [htl] at hcons
  have hq : quoteL s ++ after.data.toList.map UInt8.toNat = 34 :: (quoteFrom s s.size 0 ++ 34 :: after.data.toList.map UInt8.toNat) := by simp [quoteL]
  rw [hq] at hcons
  obtain ⟨h34, hrest⟩ := List.cons.inj hcons
  unfold unqV
  rw [if_pos ⟨hlt, h34.symm⟩, scan_unqL t _ _ (by omega), ← hrest]
  have hu := unqL_quote s (after.data.toList.map UInt8.toNat) s.size 0 (t.size + 1) (by omega) (by omega) (by omega)
  rw [hu, Nat.sub_zero]
  simp only [Option.map_some, Option.bind_some, List.length_cons, List.length_map, hal]
  have hp : t.size - (after.size + 1) + 1 = before.size + (quoteL s).length := by omega
  rw [hp, strOf_all, if_pos]
  apply ByteArray.ext
  apply Array.toList_inj.1
  rw [strOf_list, extract_list, hl, List.drop_left' hbl, show before.size + (quoteL s).length - before.size = (u8L (quoteL s)).length by rw [u8L_length]; omega, List.take_left']
  rfl
theorem indexByte_none (l : List UInt8) (c : UInt8) (h : c ∉ l) : Lib.indexByte l c = -1 := by
  induction l with
  | nil => rfl
  | cons b l ih =>
    have h1 : b ≠ c := fun e => h (by simp [e])
    have h2 := ih (fun hm => h (List.mem_cons_of_mem _ hm))
    rw [Lib.indexByte, if_neg (by simpa using h1), h2]
    rfl
/-- no newline in a quoted string -/
theorem quote_noNl (s : ByteArray) : (10 : UInt8) ∉ u8L (quoteL s) := by
  intro h
  simp only [u8L, List.mem_map] at h
  obtain ⟨c, hc, he⟩ := h
  have hlt := quoteL_lt s c hc
  have h10 : c = 10 := by
    have := congrArg UInt8.toNat he
    rw [UInt8.toNat_ofNat'] at this
    have e : c % 2 ^ 8 = c := by omega
    rw [e] at this
    exact this
  subst h10
  simp only [quoteL, List.mem_cons, List.mem_append, List.cons_append, List.not_mem_nil, or_false] at hc
  rcases hc with h | h | h
  · cases h
  · exact quoteFrom_noNl s _ _ h
  · cases h
end Go.Proofs.YtnoodiibkchaaaaGreatDoor
