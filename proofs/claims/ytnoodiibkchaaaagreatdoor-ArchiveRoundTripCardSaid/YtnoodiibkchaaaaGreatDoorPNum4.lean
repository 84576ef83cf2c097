/-
  PLAIN: 16 hexadecimal digits in a text; a number's decimal form read back.
-/
import Derived.Test.YtnoodiibkchaaaaGreatDoorXNum
import Derived.Test.YtnoodiibkchaaaaGreatDoorWEscN
import Derived.Lib.SlTrimSet
namespace Go.Proofs.YtnoodiibkchaaaaGreatDoor

/-- what the first k digits at an offset spell -/
def hexAcc (t : ByteArray) (a : Nat) : Nat → Nat
  | 0 => 0
  | k + 1 => hexAcc t a k * 16 + (digitI (bAt t (a + k))).toNat
theorem digitI_bd2 (c : Nat) : -1 ≤ digitI c ∧ digitI c ≤ 15 := by
  unfold digitI
  repeat' split
  all_goals omega
theorem hexAcc_lt (t : ByteArray) (a : Nat) : ∀ k, hexAcc t a k < 16 ^ k
  | 0 => by simp [hexAcc]
  | k + 1 => by
    have h := hexAcc_lt t a k
    have h2 := digitI_bd2 (bAt t (a + k))
    rw [hexAcc, Nat.pow_succ]
    omega
theorem hexB_digitI : ∀ c, c < 256 → 0 ≤ digitI c → hexB (digitI c).toNat = c := by decide +kernel
theorem digitI_hexB : ∀ d, d < 16 → digitI (hexB d) = (d : Int) := by decide
theorem hexTail_snoc (x d k : Nat) (hd : d < 16) : hexTail (x * 16 + d) (k + 1) = hexTail x k ++ [hexB d] := by
  unfold hexTail
  rw [List.range_succ, List.map_append]
  congr 1
  · apply List.map_congr_left
    intro j hj
    have hj := List.mem_range.1 hj
    have e : k + 1 - 1 - j = (k - 1 - j) + 1 := by omega
    rw [e, Nat.pow_succ, Nat.mul_comm (16 ^ _) 16, ← Nat.div_div_eq_div_mul, show (x * 16 + d) / 16 = x by omega]
  · rw [List.map_cons, List.map_nil, show k + 1 - 1 - k = 0 by omega, Nat.pow_zero, Nat.div_one, show (x * 16 + d) % 16 = d by omega]
theorem hexTail_acc (t : ByteArray) (a : Nat) : ∀ k, (∀ j, j < k → 0 ≤ digitI (bAt t (a + j))) → hexTail (hexAcc t a k) k = cut t a k
  | 0, _ => rfl
  | k + 1, h => by
    have h2 := digitI_bd2 (bAt t (a + k))
    have h3 := h k (by omega)
    rw [hexAcc, hexTail_snoc _ _ _ (by omega), hexTail_acc t a k (fun j hj => h j (by omega)), hexB_digitI _ (bAt_lt _ _) h3, cut_snoc]
theorem hexAcc_tail (t : ByteArray) (a x : Nat) (hx : x < 16 ^ 16) (h : ∀ j, j < 16 → bAt t (a + j) = hexB (x / 16 ^ (15 - j) % 16)) : ∀ k, k ≤ 16 → hexAcc t a k = x / 16 ^ (16 - k)
  | 0, _ => by rw [hexAcc, Nat.div_eq_of_lt hx]
  | k + 1, hk => by
    rw [hexAcc, hexAcc_tail t a x hx h k (by omega), h k (by omega), digitI_hexB _ (Nat.mod_lt _ (by decide)), show 16 - (k + 1) = 15 - k by omega, show 16 - k = (15 - k) + 1 by omega, Nat.pow_succ, ← Nat.div_div_eq_div_mul]
    omega
/-- do 16 digits lie at the offset? -/
def hexOk (t : ByteArray) (a : Nat) : Bool := decide (a + 16 ≤ t.size) && (List.range 16).all fun j => decide (0 ≤ digitI (bAt t (a + j)))
theorem hexOk_iff (t : ByteArray) (a : Nat) : hexOk t a = true ↔ (a + 16 ≤ t.size ∧ ∀ j, j < 16 → 0 ≤ digitI (bAt t (a + j))) := by
  unfold hexOk
  rw [Bool.and_eq_true, decide_eq_true_iff, List.all_eq_true]
  simp only [List.mem_range, decide_eq_true_iff]
def wordV (t : ByteArray) (a : Nat) : Option (Nat × Nat) := if hexOk t a = true then some (hexAcc t a 16, a + 16) else none
def wordR : Option (Nat × Nat) → Value
  | some p => .tuple #[.int .u64 ((p.1 : Nat) : Int), .int .i64 ((p.2 : Nat) : Int), .int .i64 0]
  | none => .tuple #[.int .u64 0, .int .i64 0, .int .i64 24]
theorem ret_wordR {S T : Option (Nat × Nat)} {v : Value} (h : S = T) (hv : v = wordR T) : Ending.returned v = .returned (wordR S) := by rw [h, hv]
theorem dropW_nil {p : UInt8 → Bool} : ∀ l : List UInt8, (∀ x ∈ l.dropWhile p, p x = true) → l.dropWhile p = []
  | [], _ => rfl
  | a :: l, h => by
    by_cases ha : p a = true
    · rw [List.dropWhile_cons_of_pos ha] at h ⊢
      exact dropW_nil l h
    · rw [List.dropWhile_cons_of_neg ha] at h
      exact absurd (h a (by simp)) ha
theorem dropW_all {p : UInt8 → Bool} : ∀ l : List UInt8, (l.dropWhile p = []) ↔ ∀ x ∈ l, p x = true
  | [] => by simp
  | a :: l => by
    by_cases ha : p a = true
    · rw [List.dropWhile_cons_of_pos ha, dropW_all l]
      simp [ha]
    · rw [List.dropWhile_cons_of_neg ha]
      simp [ha]
theorem trim_nil (l cs : List UInt8) : Lib.trimS l cs = [] ↔ ∀ x ∈ l, cs.contains x = true := by
  unfold Lib.trimS Lib.trimLeftS Lib.trimRightS
  rw [dropW_all]
  constructor
  · intro h
    have h2 := dropW_nil (p := (cs.contains ·)) l.reverse (fun x hx => h x (List.mem_reverse.2 hx))
    rw [dropW_all] at h2
    exact fun x hx => h2 x (List.mem_reverse.2 hx)
  · intro h
    rw [(dropW_all l.reverse).2 (fun x hx => h x (List.mem_reverse.1 hx))]
    intro x hx
    cases hx
theorem hexSet : ∀ c, c < 256 → (({ data := #[48, 49, 50, 51, 52, 53, 54, 55, 56, 57, 97, 98, 99, 100, 101, 102] } : ByteArray).data.toList.contains (UInt8.ofNat c) = true ↔ 0 ≤ digitI c) := by decide +kernel
/-- the trimmed digits are empty -/
theorem trim_hex (t : ByteArray) (a : Nat) (h : a + 16 ≤ t.size) : Lib.trimS (t.extract a (a + 16)).data.toList ({ data := #[48, 49, 50, 51, 52, 53, 54, 55, 56, 57, 97, 98, 99, 100, 101, 102] } : ByteArray).data.toList = [] ↔ hexOk t a = true := by
  rw [trim_nil, hexOk_iff, cut_data t a 16 h]
  constructor
  · intro h2
    refine ⟨h, fun j hj => ?_⟩
    have := h2 (UInt8.ofNat (bAt t (a + j))) (by
      simp only [u8L, cut, List.map_map, List.mem_map, List.mem_range]
      exact ⟨j, hj, rfl⟩)
    exact (hexSet _ (bAt_lt _ _)).1 this
  · rintro ⟨_, h2⟩ x hx
    simp only [u8L, cut, List.map_map, List.mem_map, List.mem_range] at hx
    obtain ⟨j, hj, rfl⟩ := hx
    exact (hexSet _ (bAt_lt _ _)).2 (h2 j hj)
/-- a number's digits -/
theorem dec_digs : ∀ (u : Nat), ∃ D, Lib.decDigits u = u8L D ∧ Digs D ∧ valL 0 D = u ∧ D ≠ [] ∧ (D.length = 1 ∨ D.headD 0 ≠ 48) ∧ (10 ≤ u → 10 ^ (D.length - 1) ≤ u) ∧ (D.headD 0 = 48 → u = 0) := by
  intro u
  induction u using Nat.strongRecOn with
  | _ u ih =>
    rw [Lib.decDigits]
    by_cases h : u < 10
    · rw [dif_pos h]
      refine ⟨[48 + u], rfl, fun c hc => ?_, ?_, by simp, .inl rfl, by omega, fun he => ?_⟩
      · rw [List.mem_singleton] at hc; omega
      · rw [valL_cons, valL_nil]; omega
      · have : 48 + u = 48 := he
        omega
    · rw [dif_neg h]
      obtain ⟨D, e, hd, hv, hne, hh, hl, hz⟩ := ih (u / 10) (by omega)
      have hlen : 1 ≤ D.length := by cases D; exact absurd rfl hne; simp
      have hhead : (D ++ [48 + u % 10]).headD 0 = D.headD 0 := by cases D; exact absurd rfl hne; rfl
      refine ⟨D ++ [48 + u % 10], by rw [u8L_append, ← e]; rfl, ?_, ?_, by simp, ?_, ?_, ?_⟩
      · intro c hc
        rcases List.mem_append.1 hc with hc | hc
        · exact hd c hc
        · rw [List.mem_singleton] at hc; omega
      · rw [valL_snoc, hv]; omega
      · right
        rw [hhead]
        intro he
        have := hz he
        omega
      · intro _
        rw [List.length_append, List.length_singleton, Nat.add_sub_cancel]
        by_cases h10 : 10 ≤ u / 10
        · have := hl h10
          obtain ⟨m, hm⟩ : ∃ m, D.length = m + 1 := ⟨D.length - 1, by omega⟩
          rw [hm] at this ⊢
          rw [Nat.add_sub_cancel] at this
          rw [Nat.pow_succ]
          omega
        · have h1 : D.length = 1 := by
            rcases hh with h1 | h1
            · exact h1
            · have e2 := e
              rw [Lib.decDigits, dif_pos (by omega)] at e2
              have := congrArg List.length e2
              rw [u8L_length] at this
              simpa using this.symm
          rw [h1]
          omega
      · rw [hhead]
        intro he
        have := hz he
        omega
/-- a number of 64 bits, read back from its digits -/
theorem intS_dec (n : Int) (h0 : -9223372036854775808 ≤ n) (h1 : n ≤ 9223372036854775807) : ∃ (neg : Bool) (D : List Nat), Lib.itoa n = u8L (signed neg D) ∧ Digs D ∧ intS neg D = some n := by
  have hlen : ∀ (D : List Nat) (u : Nat), (10 ≤ u → 10 ^ (D.length - 1) ≤ u) → D.length = 1 ∨ D.headD 0 ≠ 48 → valL 0 D = u → u ≤ 9223372036854775808 → (u < 10 → D.length = 1) → ¬ 19 < D.length := by
    intro D u hl _ _ hu h10 hlt
    by_cases h : 10 ≤ u
    · have := hl h
      have h2 : 10 ^ 19 ≤ 10 ^ (D.length - 1) := Nat.pow_le_pow_right (by decide) (by omega)
      have h3 : (10 : Nat) ^ 19 = 10000000000000000000 := by decide
      omega
    · have := h10 (by omega); omega
  have hsm : ∀ (D : List Nat) (u : Nat), Lib.decDigits u = u8L D → u < 10 → D.length = 1 := by
    intro D u e h
    rw [Lib.decDigits, dif_pos h] at e
    have := congrArg List.length e
    rw [u8L_length] at this
    simpa using this.symm
  by_cases hn : n < 0
  · obtain ⟨D, e, hd, hv, hne, hh, hl, hz⟩ := dec_digs n.natAbs
    refine ⟨true, D, ?_, hd, ?_⟩
    · unfold Lib.itoa
      rw [if_pos hn, e]
      rfl
    · have hx : n.natAbs ≤ 9223372036854775808 := by omega
      have hc : ¬ (D.length = 0 ∨ 19 < D.length ∨ (D.headD 0 = 48 ∧ (1 < D.length ∨ true = true))) := by
        rintro (h | h | ⟨h, _⟩)
        · exact hne (List.eq_nil_of_length_eq_zero h)
        · exact hlen D _ hl hh hv hx (hsm D _ e) h
        · have := hz h; omega
      unfold intS
      rw [if_neg hc, if_pos rfl, hv, if_pos hx]
      congr 1
      omega
  · obtain ⟨D, e, hd, hv, hne, hh, hl, hz⟩ := dec_digs n.toNat
    refine ⟨false, D, ?_, hd, ?_⟩
    · unfold Lib.itoa
      rw [if_neg hn, e]
      rfl
    · have hx : n.toNat ≤ 9223372036854775808 := by omega
      have hc : ¬ (D.length = 0 ∨ 19 < D.length ∨ (D.headD 0 = 48 ∧ (1 < D.length ∨ false = true))) := by
        rintro (h | h | ⟨h, h' | h'⟩)
        · exact hne (List.eq_nil_of_length_eq_zero h)
        · exact hlen D _ hl hh hv hx (hsm D _ e) h
        · rcases hh with h2 | h2
          · omega
          · exact h2 h
        · cases h'
      unfold intS
      rw [if_neg hc, if_neg (by decide), hv, if_pos (by omega)]
      congr 1
      omega
/-- the digits' end, where the text is known -/
theorem digEnd_run (t : ByteArray) : ∀ (m f k : Nat), t.size + 1 ≤ k + f → k + m < t.size → (∀ j, j < m → 48 ≤ bAt t (k + j) ∧ bAt t (k + j) ≤ 57) → ¬ (48 ≤ bAt t (k + m) ∧ bAt t (k + m) ≤ 57) → digEnd t f k = k + m
  | 0, f, k, _, _, _, h => digEnd_stop t f k (fun h2 => h h2.2)
  | m + 1, f, k, hf, hs, h, h2 => by
    obtain ⟨f', e1, e2⟩ := digEnd_next t f k hf ⟨by omega, h 0 (by omega)⟩
    rw [e1, digEnd_run t m f' (k + 1) e2 (by omega) (fun j hj => by have := h (j + 1) (by omega); rw [show k + 1 + j = k + (j + 1) by omega]; exact this) (by rw [show k + 1 + m = k + (m + 1) by omega]; exact h2)]
    omega
theorem bAt_list (t : ByteArray) (l : List UInt8) (h : t.data.toList = l) (k : Nat) (c : UInt8) (hc : l[k]? = some c) : bAt t k = c.toNat := by
  subst h
  obtain ⟨hk, e⟩ := List.getElem?_eq_some_iff.1 hc
  rw [list_len] at hk
  rw [bAt_get t k hk, ← e]
  rfl
/-- Int's answer at a decimal form that a byte follows which is no digit -/
theorem intV_dec (t : ByteArray) (neg : Bool) (D : List Nat) (v : Int) (r : List UInt8) (hd : Digs D) (hv : intS neg D = some v) (h : t.data.toList = u8L (signed neg D) ++ UInt8.ofNat 32 :: r) : intV t 0 = some (v, (signed neg D).length) := by
  have hlen : t.size = (signed neg D).length + 1 + r.length := by
    rw [← list_len t, h, List.length_append, u8L_length, List.length_cons]; omega
  have hat : ∀ k, k < (signed neg D).length → bAt t k = (signed neg D).getD k 0 % 256 := by
    intro k hk
    have hc : (u8L (signed neg D) ++ UInt8.ofNat 32 :: r)[k]? = some (UInt8.ofNat ((signed neg D).getD k 0)) := by
      rw [List.getElem?_append_left (by rw [u8L_length]; exact hk)]
      simp [u8L, hk, List.getD_eq_getElem?_getD]
    rw [bAt_list t _ h k _ hc]
    exact UInt8.toNat_ofNat' ..
  have hsp : bAt t (signed neg D).length = 32 := by
    have hc : (u8L (signed neg D) ++ UInt8.ofNat 32 :: r)[(signed neg D).length]? = some (UInt8.ofNat 32) := by
      rw [List.getElem?_append_right (by rw [u8L_length]; exact Nat.le_refl _), u8L_length, Nat.sub_self]
      rfl
    rw [bAt_list t _ h _ _ hc]
    rfl
  have hne : D ≠ [] := by
    rintro rfl
    rw [show intS neg [] = none from by unfold intS; rw [if_pos (.inl rfl)]] at hv
    cases hv
  have hdl : 1 ≤ D.length := by cases D; exact absurd rfl hne; simp
  have hdig : ∀ j, j < D.length → 48 ≤ D.getD j 0 ∧ D.getD j 0 ≤ 57 := by
    intro j hj
    have : D.getD j 0 = D[j] := by simp [List.getD_eq_getElem?_getD, hj]
    rw [this]
    exact hd _ (List.getElem_mem _)
  cases neg with
  | true =>
    have hs : sgn t 0 = true := by
      unfold sgn
      have := hat 0 (by simp [signed])
      simp only [signed] at this hlen
      exact decide_eq_true ⟨by omega, this⟩
    have hf : fromOf t 0 = 1 := by unfold fromOf; rw [if_pos hs]
    have hl : (signed true D).length = D.length + 1 := by simp [signed]
    have hdj : ∀ j, j < D.length → bAt t (1 + j) = D.getD j 0 := by
      intro j hj
      rw [hat (1 + j) (by omega)]
      have := hdig j hj
      rw [show (signed true D).getD (1 + j) 0 = D.getD j 0 from by rw [Nat.add_comm]; simp [signed, List.getD_eq_getElem?_getD]]
      omega
    have he : endOf t 0 = (signed true D).length := by
      unfold endOf
      rw [hf, digEnd_run t D.length _ 1 (by omega) (by omega) (fun j hj => by rw [hdj j hj]; exact hdig j hj) (by rw [show 1 + D.length = (signed true D).length by omega, hsp]; omega)]
      omega
    unfold intV
    rw [he, hf, hs]
    have hcut : cut t 1 ((signed true D).length - 1) = D := by
      rw [hl, Nat.add_sub_cancel]
      refine List.ext_getElem? fun j => ?_
      by_cases hj : j < D.length
      · rw [show (cut t 1 D.length)[j]? = some (bAt t (1 + j)) from by simp [cut, hj], hdj j hj]
        simp [hj, List.getD_eq_getElem?_getD]
      · rw [List.getElem?_eq_none (by rw [cut_length]; omega), List.getElem?_eq_none (by omega)]
    rw [hcut, hv]
    rfl
  | false =>
    have hl : (signed false D).length = D.length := by simp [signed]
    have hdj : ∀ j, j < D.length → bAt t j = D.getD j 0 := by
      intro j hj
      rw [hat j (by omega)]
      have := hdig j hj
      rw [show (signed false D).getD j 0 = D.getD j 0 from rfl]
      omega
    have hs : sgn t 0 = false := by
      unfold sgn
      have h1 := hdj 0 (by omega)
      have h2 := hdig 0 (by omega)
      exact decide_eq_false (fun h3 => by omega)
    have hf : fromOf t 0 = 0 := by unfold fromOf; rw [if_neg (by rw [hs]; decide)]
    have he : endOf t 0 = (signed false D).length := by
      unfold endOf
      rw [hf, digEnd_run t D.length _ 0 (by omega) (by omega) (fun j hj => by rw [Nat.zero_add, hdj j hj]; exact hdig j hj) (by rw [Nat.zero_add, ← hl, hsp]; omega)]
      omega
    unfold intV
    rw [he, hf, hs]
    have hcut : cut t 0 ((signed false D).length - 0) = D := by
      rw [hl, Nat.sub_zero]
      refine List.ext_getElem? fun j => ?_
      by_cases hj : j < D.length
      · rw [show (cut t 0 D.length)[j]? = some (bAt t (0 + j)) from by simp [cut, hj], Nat.zero_add, hdj j hj]
        simp [hj, List.getD_eq_getElem?_getD]
      · rw [List.getElem?_eq_none (by rw [cut_length]; omega), List.getElem?_eq_none (by omega)]
    rw [hcut, hv]
    rfl
end Go.Proofs.YtnoodiibkchaaaaGreatDoor
