/-
  PLAIN: decimal numbers as texts: what strconv's reading and writing at base 10 say of a sign and digits.
-/
import Derived.Test.YtgleiicielmnmaaDoorWEscB
import Derived.Lib.ParseIntB
import Derived.Lib.ItoaNum
namespace Go.Proofs.YtgleiicielmnmaaDoor

/-- every byte is a decimal digit -/
def Digs (D : List Nat) : Prop := ∀ c ∈ D, 48 ≤ c ∧ c ≤ 57
theorem Digs.tail {c : Nat} {D : List Nat} (h : Digs (c :: D)) : Digs D := fun x hx => h x (List.mem_cons_of_mem _ hx)
theorem Digs.head {c : Nat} {D : List Nat} (h : Digs (c :: D)) : 48 ≤ c ∧ c ≤ 57 := h c (by simp)
/-- what digits spell behind what the digits before them spell -/
def valL (acc : Nat) (D : List Nat) : Nat := D.foldl (fun a c => a * 10 + (c - 48)) acc
theorem valL_nil (acc : Nat) : valL acc [] = acc := rfl
theorem valL_cons (acc c : Nat) (r : List Nat) : valL acc (c :: r) = valL (acc * 10 + (c - 48)) r := by simp only [valL, List.foldl_cons]
theorem valL_ge (D : List Nat) : ∀ acc, acc ≤ valL acc D := by
  induction D with
  | nil => intro acc; exact Nat.le_refl _
  | cons c r ih => intro acc; rw [valL_cons]; have := ih (acc * 10 + (c - 48)); omega
theorem valL_snoc (D : List Nat) (d : Nat) : ∀ acc, valL acc (D ++ [d]) = valL acc D * 10 + (d - 48) := by
  induction D with
  | nil => intro acc; rfl
  | cons c r ih => intro acc; rw [List.cons_append, valL_cons, valL_cons]; exact ih _
theorem valL_lt (D : List Nat) (h : Digs D) : ∀ acc, valL acc D < (acc + 1) * 10 ^ D.length := by
  induction D with
  | nil => intro acc; simp [valL_nil]
  | cons c r ih =>
    intro acc
    rw [valL_cons, List.length_cons, Nat.pow_succ]
    have h1 := ih h.tail (acc * 10 + (c - 48))
    have h2 := h.head
    have h3 : (acc * 10 + (c - 48) + 1) * 10 ^ r.length ≤ (acc + 1) * (10 ^ r.length * 10) := by
      rw [Nat.mul_comm (10 ^ r.length) 10, ← Nat.mul_assoc]
      exact Nat.mul_le_mul_right _ (by omega)
    omega
theorem valL_lo (D : List Nat) : ∀ acc, acc * 10 ^ D.length ≤ valL acc D := by
  induction D with
  | nil => intro acc; simp [valL_nil]
  | cons c r ih =>
    intro acc
    rw [valL_cons, List.length_cons, Nat.pow_succ]
    have h1 := ih (acc * 10 + (c - 48))
    have h3 : acc * (10 ^ r.length * 10) ≤ (acc * 10 + (c - 48)) * 10 ^ r.length := by
      rw [Nat.mul_comm (10 ^ r.length) 10, ← Nat.mul_assoc]
      exact Nat.mul_le_mul_right _ (by omega)
    omega
theorem ofNat_toNat' (c : Nat) (h : c < 256) : (UInt8.ofNat c).toNat = c := by rw [UInt8.toNat_ofNat']; omega
theorem parseM_dig (M : Nat) (hM : M ≤ 18446744073709551615) (D : List Nat) (h : Digs D) : ∀ acc, acc ≤ M → Lib.parseUintM M acc (u8L D) = if valL acc D ≤ M then .ok (valL acc D) else .range := by
  induction D with
  | nil => intro acc ha; simp [u8L, Lib.parseUintM, valL_nil, ha]
  | cons c r ih =>
    intro acc ha
    have hc := h.head
    have hg := valL_ge r (acc * 10 + (c - 48))
    show Lib.parseUintM M acc (UInt8.ofNat c :: u8L r) = _
    rw [Lib.parseUintM, ofNat_toNat' c (by omega), if_pos hc, valL_cons]
    by_cases h1 : 1844674407370955162 ≤ acc
    · rw [if_pos h1, if_neg (by omega)]
    · rw [if_neg h1]
      by_cases h2 : M < acc * 10 + (c - 48)
      · rw [if_pos h2, if_neg (by omega)]
      · rw [if_neg h2, ih h.tail _ (by omega)]
theorem parseU_dig (D : List Nat) (hne : D ≠ []) (h : Digs D) : Lib.parseUintB 64 (u8L D) = if valL 0 D ≤ 18446744073709551615 then .ok (valL 0 D) else .range := by
  unfold Lib.parseUintB
  rw [if_neg (by cases D; exact absurd rfl hne; simp [u8L])]
  exact parseM_dig _ (by decide) D h 0 (Nat.zero_le _)
/-- the text of a sign and digits -/
def signed (neg : Bool) (D : List Nat) : List Nat := if neg then 45 :: D else D
theorem parseI_pos (D : List Nat) (hne : D ≠ []) (h : Digs D) : Lib.parseIntB 64 (u8L D) = if valL 0 D < 9223372036854775808 then .ok (valL 0 D : Int) else .range := by
  cases D with
  | nil => exact absurd rfl hne
  | cons c r =>
    have hc := h.head
    have e := ofNat_toNat' c (by omega)
    have hp := parseU_dig (c :: r) hne h
    show Lib.parseIntB 64 (UInt8.ofNat c :: u8L r) = _
    unfold Lib.parseIntB
    simp only [e]
    rw [if_neg (by omega)]
    have hp' : Lib.parseUintB 64 (UInt8.ofNat c :: u8L r) = _ := hp
    rw [hp']
    by_cases h1 : valL 0 (c :: r) ≤ 18446744073709551615
    · rw [if_pos h1]
      simp only
      by_cases h2 : valL 0 (c :: r) < 9223372036854775808
      · rw [if_neg (by have : (2 : Nat) ^ (64 - 1) = 9223372036854775808 := by decide
                       omega), if_neg (by omega), if_neg (by omega), if_pos h2]
      · rw [if_pos ⟨by omega, by have : (2 : Nat) ^ (64 - 1) = 9223372036854775808 := by decide
                                 omega⟩, if_neg h2]
    · rw [if_neg h1, if_neg (by omega)]
theorem parseI_neg (D : List Nat) (hne : D ≠ []) (h : Digs D) : Lib.parseIntB 64 (u8L (45 :: D)) = if valL 0 D ≤ 9223372036854775808 then .ok (-(valL 0 D : Int)) else .range := by
  have hp := parseU_dig D hne h
  show Lib.parseIntB 64 (UInt8.ofNat 45 :: u8L D) = _
  unfold Lib.parseIntB
  have e := ofNat_toNat' 45 (by decide)
  simp only [e]
  rw [if_pos (.inr trivial), hp]
  have hpow : (2 : Nat) ^ (64 - 1) = 9223372036854775808 := by decide
  by_cases h1 : valL 0 D ≤ 18446744073709551615
  · rw [if_pos h1]
    simp only
    by_cases h2 : valL 0 D ≤ 9223372036854775808
    · rw [if_neg (fun h => h.1 trivial), if_neg (by omega), if_pos trivial, if_pos h2]
    · rw [if_neg (fun h => h.1 trivial), if_pos ⟨trivial, by omega⟩, if_neg h2]
  · rw [if_neg h1, if_neg (by omega)]
theorem parseI_none (neg : Bool) : ∀ v, Lib.parseIntB 64 (u8L (signed neg [])) ≠ .ok v := by
  intro v
  cases neg
  · exact fun h => by cases h
  · exact fun h => by cases h
/-- digits as Go writes them: no leading zero -/
theorem dec_canon : ∀ (n : Nat) (D : List Nat), D.length = n → D ≠ [] → Digs D → (D.length = 1 ∨ D.headD 0 ≠ 48) → Lib.decDigits (valL 0 D) = u8L D := by
  intro n
  induction n with
  | zero => intro D hl hne; exact absurd (List.eq_nil_of_length_eq_zero hl) hne
  | succ n ih =>
    intro D hl hne hd hc
    rcases List.eq_nil_or_concat D with h | ⟨D', d, rfl⟩
    · exact absurd h hne
    · have hdd : 48 ≤ d ∧ d ≤ 57 := hd d (by simp)
      have hd' : Digs D' := fun c hc => hd c (by simp [hc])
      rw [List.concat_eq_append, valL_snoc]
      by_cases he : D' = []
      · subst he
        rw [Lib.decDigits, dif_pos (by rw [valL_nil]; omega)]
        rw [List.nil_append, show valL 0 [] * 10 + (d - 48) = d - 48 by rw [valL_nil]; omega]
        show [UInt8.ofNat (48 + (d - 48))] = [UInt8.ofNat d]
        rw [show 48 + (d - 48) = d by omega]
      · obtain ⟨c, r, rfl⟩ : ∃ c r, D' = c :: r := by
          cases D' with
          | nil => exact absurd rfl he
          | cons c r => exact ⟨c, r, rfl⟩
        have hcc := hd'.head
        have h48 : c ≠ 48 := by
          rcases hc with h | h
          · simp at h
          · simpa using h
        have hv : 1 ≤ valL 0 (c :: r) := by
          have := valL_ge r (0 * 10 + (c - 48))
          rw [valL_cons]
          omega
        have hi := ih (c :: r) (by simpa using hl) (by simp) hd' (.inr (by simpa using h48))
        rw [Lib.decDigits, dif_neg (by omega), show (valL 0 (c :: r) * 10 + (d - 48)) / 10 = valL 0 (c :: r) by omega, hi, show (valL 0 (c :: r) * 10 + (d - 48)) % 10 = d - 48 by omega, u8L_append]
        congr 1
        show [UInt8.ofNat (48 + (d - 48))] = [UInt8.ofNat d]
        rw [show 48 + (d - 48) = d by omega]
theorem dec_head : ∀ (u : Nat), 10 ≤ u → ∃ c d r, Lib.decDigits u = c :: d :: r ∧ c.toNat ≠ 48 := by
  intro u
  induction u using Nat.strongRecOn with
  | _ u ih =>
    intro h
    rw [Lib.decDigits, dif_neg (by omega)]
    by_cases h2 : u / 10 < 10
    · rw [Lib.decDigits, dif_pos h2]
      refine ⟨_, _, _, rfl, ?_⟩
      rw [ofNat_toNat' _ (by omega)]
      omega
    · obtain ⟨c, d, r, e, hc⟩ := ih (u / 10) (by omega) (by omega)
      rw [e]
      exact ⟨c, d, r ++ [UInt8.ofNat (48 + u % 10)], rfl, hc⟩
theorem dec_not (D : List Nat) (h1 : 1 < D.length) (h2 : D.headD 0 = 48) (u : Nat) : Lib.decDigits u ≠ u8L D := by
  intro e
  by_cases hu : u < 10
  · rw [Lib.decDigits, dif_pos hu] at e
    have := congrArg List.length e
    rw [u8L_length] at this
    simp at this; omega
  · obtain ⟨c, d, r, e2, hc⟩ := dec_head u (by omega)
    rw [e2] at e
    cases D with
    | nil => simp at h1
    | cons x t =>
      simp only [List.headD_cons] at h2
      subst h2
      have := (List.cons.inj e).1
      rw [this] at hc
      exact hc (ofNat_toNat' 48 (by decide))
theorem dec_pos (u : Nat) : ∃ c r, Lib.decDigits u = c :: r ∧ 48 ≤ c.toNat ∧ c.toNat ≤ 57 := by
  induction u using Nat.strongRecOn with
  | _ u ih =>
    rw [Lib.decDigits]
    by_cases h : u < 10
    · rw [dif_pos h]
      exact ⟨_, _, rfl, by rw [ofNat_toNat' _ (by omega)]; omega, by rw [ofNat_toNat' _ (by omega)]; omega⟩
    · rw [dif_neg h]
      obtain ⟨c, r, e, hc⟩ := ih (u / 10) (by omega)
      rw [e]
      exact ⟨c, _, rfl, hc⟩
end Go.Proofs.YtgleiicielmnmaaDoor
