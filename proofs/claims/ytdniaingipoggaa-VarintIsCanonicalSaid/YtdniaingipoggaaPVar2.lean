/-
  PLAIN: what is read of an encoding, of its prefixes, and that what is read is an encoding. No program in sight.
-/
import Derived.Test.YtdniaingipoggaaPVar
namespace Go.Proofs.Ytdniaingipoggaa

/-- no proper part of an encoding is read -/
theorem vgo_prefix (n : Nat) : ∀ (y i acc k : Nat), i + n ≤ 9 → k < (vencF n y).length → vgo i acc ((vencF n y).take k) = (0, 0, 3) := by
  induction n with
  | zero => intro y i acc k _ hk; simp [vencF] at hk; subst hk; rfl
  | succ n ih =>
    intro y i acc k hi hk
    simp only [vencF] at hk ⊢
    split at hk
    · rename_i h
      simp at hk; subst hk; rfl
    · rename_i h
      rw [if_neg h]
      cases k with
      | zero => rfl
      | succ k =>
        rw [List.take_succ_cons, vgo, if_neg (by omega), if_neg (by omega), if_neg (by omega)]
        exact ih _ _ _ _ (by omega) (by simpa using hk)
/-- an encoding is read, whatever follows -/
theorem vgo_enc (n : Nat) (rest : List Nat) : ∀ (y i acc : Nat), y < 128 ^ (n + 1) → i + n ≤ 9 → (i = 9 → y ≤ 1) → (n ≠ 0 → y * 2 ^ (7 * i) < 2 ^ 64) → (0 < i → 0 < y) →
    vgo i acc (vencF n y ++ rest) = (acc + y * 2 ^ (7 * i), i + (vencF n y).length, 0) := by
  induction n with
  | zero =>
    intro y i acc hy hi h9 _ h0
    simp only [vencF, List.singleton_append, List.length_singleton]
    rw [vgo, if_neg (by omega), if_neg (by omega), if_pos (by omega), Nat.mod_eq_of_lt (by omega)]
  | succ n ih =>
    intro y i acc hy hi h9 h64 h0
    simp only [vencF]
    split
    · rename_i h
      simp only [List.singleton_append, List.length_singleton]
      rw [vgo, if_neg (by omega), if_neg (by omega), if_pos h, Nat.mod_eq_of_lt h]
    · rename_i h
      have e : (y / 128) * 2 ^ (7 * (i + 1)) = (y / 128 * 128) * 2 ^ (7 * i) := by
        rw [show 7 * (i + 1) = 7 * i + 7 by omega, Nat.pow_add, Nat.mul_assoc, Nat.mul_comm (2 ^ (7 * i)) (2 ^ 7)]
      have h64' := h64 (by omega)
      have hle : (y / 128 * 128) * 2 ^ (7 * i) ≤ y * 2 ^ (7 * i) := Nat.mul_le_mul_right _ (by omega)
      simp only [List.cons_append, List.length_cons]
      rw [vgo, if_neg (by omega), if_neg (by omega), if_neg (by omega)]
      rw [ih (y / 128) (i + 1) _ (Nat.div_lt_of_lt_mul (by rw [Nat.pow_succ] at hy; omega)) (by omega) ?_ (fun _ => by rw [e]; omega) (fun _ => by omega)]
      · simp only [Prod.mk.injEq]
        refine ⟨?_, by omega, trivial⟩
        rw [e, Nat.add_assoc, ← Nat.add_mul]
        congr 2
        omega
      · intro h8
        obtain rfl : i = 8 := by omega
        have h2 := Nat.lt_of_le_of_lt hle h64'
        have e1 : (2 : Nat) ^ (7 * 8) = 72057594037927936 := by decide
        have e2 : (2 : Nat) ^ 64 = 18446744073709551616 := by decide
        rw [e1, e2] at h2
        clear hle h64' e ih h64 hy
        omega
theorem vgo_venc (x : Nat) (h : x ≤ 18446744073709551615) (rest : List Nat) : vgo 0 0 (venc x ++ rest) = (x, (venc x).length, 0) := by
  have h10 : x < 128 ^ (9 + 1) := by omega
  have h64 : x * 2 ^ (7 * 0) < 2 ^ 64 := by rw [Nat.mul_zero, Nat.pow_zero, Nat.mul_one]; omega
  have := vgo_enc 9 rest x 0 0 h10 (Nat.le_refl _) (fun h => absurd h (by decide)) (fun _ => h64) (fun h => absurd h (by decide))
  rw [Nat.mul_zero, Nat.pow_zero, Nat.mul_one, Nat.zero_add, Nat.zero_add] at this
  exact this
/-- what is read is an encoding -/
theorem vgo_canon (l : List Nat) (hb : ∀ c ∈ l, c < 256) : ∀ (i acc x cnt : Nat), i ≤ 9 → vgo i acc l = (x, cnt, 0) →
    ∃ (y : Nat), i < cnt ∧ cnt ≤ i + l.length ∧ vencF (9 - i) y = l.take (cnt - i) ∧ x = acc + y * 2 ^ (7 * i) ∧ y < 128 ^ (9 - i + 1) ∧ (i = 9 → y ≤ 1) ∧ (0 < i → 0 < y) := by
  induction l with
  | nil => intro i acc x cnt _ h; simp [vgo] at h
  | cons c r ih =>
    intro i acc x cnt hi h
    rw [vgo] at h
    split at h
    · simp at h
    · rename_i h9
      split at h
      · simp at h
      · rename_i h0
        split at h
        · rename_i hc
          simp only [Prod.mk.injEq] at h
          obtain ⟨rfl, rfl, _⟩ := h
          have hp : 1 ≤ 128 ^ (9 - i) := Nat.pow_pos (by decide)
          refine ⟨c, by omega, by simp, ?_, by rw [Nat.mod_eq_of_lt hc], by rw [Nat.pow_succ]; omega, by omega, by omega⟩
          rw [show i + 1 - i = 1 by omega]
          cases h8 : 9 - i with
          | zero => simp [vencF]
          | succ m => simp [vencF, hc]
        · rename_i hc
          have hi8 : i < 9 := by
            rcases Nat.lt_or_ge i 9 with h5 | h5
            · exact h5
            · omega
          obtain ⟨y, h1, h2, h3, h4, h5, h6, h7⟩ := ih (fun c hc => hb c (by simp [hc])) (i + 1) _ x cnt (by omega) h
          have hc256 := hb c (by simp)
          have hy0 := h7 (by omega)
          refine ⟨c % 128 + 128 * y, by omega, by simp; omega, ?_, ?_, ?_, by omega, by omega⟩
          · rw [show 9 - i = (9 - (i + 1)) + 1 by omega, vencF, if_neg (by omega)]
            have e1 : (c % 128 + 128 * y) % 128 + 128 = c := by omega
            have e2 : (c % 128 + 128 * y) / 128 = y := by omega
            rw [e1, e2, h3, show cnt - i = (cnt - (i + 1)) + 1 by omega, List.take_succ_cons]
          · rw [h4, show 7 * (i + 1) = 7 * i + 7 by omega, Nat.pow_add, Nat.add_mul, Nat.add_assoc]
            congr 1
            rw [Nat.mul_comm 128 y, Nat.mul_assoc, Nat.mul_comm (2 ^ (7 * i)) (2 ^ 7)]
          · rw [show 9 - i + 1 = (9 - (i + 1) + 1) + 1 by omega, Nat.pow_succ]
            omega
theorem vgo_err (l : List Nat) : ∀ i acc, (vgo i acc l).2.2 ≠ 0 → (vgo i acc l).1 = 0 ∧ (vgo i acc l).2.1 = 0 := by
  induction l with
  | nil => intro i acc _; simp [vgo]
  | cons c r ih =>
    intro i acc h
    rw [vgo] at h ⊢
    split
    · simp
    · rename_i h9
      rw [if_neg h9] at h
      split
      · simp
      · rename_i h0
        rw [if_neg h0] at h
        split
        · rename_i hc
          rw [if_pos hc] at h
          simp at h
        · rename_i hc
          rw [if_neg hc] at h
          exact ih _ _ h
#print axioms vgo_canon
end Go.Proofs.Ytdniaingipoggaa
