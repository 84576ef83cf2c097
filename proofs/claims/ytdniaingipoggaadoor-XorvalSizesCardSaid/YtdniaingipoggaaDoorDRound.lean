/-
  PLAIN: what was packed is read back (made by extract.py).
-/
import Derived.Test.YtdniaingipoggaaDoorPRdr
import Derived.Test.YtdniaingipoggaaDoorWReader
namespace Go.Proofs.YtdniaingipoggaaDoor
open Go.RowKit
theorem byte_testBit : ∀ (b0 b1 b2 b3 b4 b5 b6 b7 : Bool) (r : Fin 8),
    (((((((b0.toNat * 2 + b1.toNat) * 2 + b2.toNat) * 2 + b3.toNat) * 2 + b4.toNat) * 2 + b5.toNat) * 2 + b6.toNat) * 2 + b7.toNat).testBit (7 - r.val) = [b0, b1, b2, b3, b4, b5, b6, b7].getD r.val false := by
  decide +kernel
theorem rbit_packed (L : List Bool) (i : Nat) (h : i < 8 * ((L.length + 7) / 8)) : rbit (packed L) i = L.getD i false := by
  unfold rbit
  rw [packed_getD L (i / 8) (by omega)]
  have hb := byte_testBit (L.getD (8 * (i / 8)) false) (L.getD (8 * (i / 8) + 1) false) (L.getD (8 * (i / 8) + 2) false) (L.getD (8 * (i / 8) + 3) false)
    (L.getD (8 * (i / 8) + 4) false) (L.getD (8 * (i / 8) + 5) false) (L.getD (8 * (i / 8) + 6) false) (L.getD (8 * (i / 8) + 7) false) ⟨i % 8, Nat.mod_lt _ (by decide)⟩
  unfold byteAt bitAt
  rw [hb]
  show List.getD _ (i % 8) false = _
  clear hb
  have hm : i % 8 < 8 := Nat.mod_lt _ (by decide)
  obtain ⟨r, hr⟩ : ∃ r, r = i % 8 := ⟨_, rfl⟩
  have hi : i = 8 * (i / 8) + r := by omega
  obtain ⟨q, hq⟩ : ∃ q, q = i / 8 := ⟨_, rfl⟩
  rw [← hq] at hi ⊢
  rw [← hr] at hm ⊢
  subst hi
  match r, hm with
  | 0, _ => rfl
  | 1, _ => rfl
  | 2, _ => rfl
  | 3, _ => rfl
  | 4, _ => rfl
  | 5, _ => rfl
  | 6, _ => rfl
  | 7, _ => rfl
theorem bitsFrom_packed (L : List Bool) (i n : Nat) (h : i + n ≤ L.length) : bitsFrom (packed L) i n = (L.drop i).take n := by
  apply List.ext_getElem?
  intro k
  unfold bitsFrom
  rw [List.getElem?_take, List.getElem?_take]
  split
  · rw [List.getElem?_drop, List.getElem?_drop, unpackB_get _ _ (by rw [packed_length]; omega), rbit_packed _ _ (by omega), List.getD_eq_getElem?_getD, List.getElem?_eq_getElem (by omega)]
    rfl
  · rfl
theorem bitsNat_take (X n : Nat) : ∀ k, k ≤ n → bitsNat (fieldTake X n k) = X / 2 ^ (n - k) % 2 ^ k := by
  intro k
  induction k with
  | zero => intro _; simp [fieldTake_zero, bitsNat_nil, Nat.mod_one]
  | succ k ih =>
    intro hk
    rw [fieldTake_succ, bitsNat_snoc, ih (by omega), ← testBit_toNat]
    obtain ⟨m, hm⟩ : ∃ m, m = n - (k + 1) := ⟨_, rfl⟩
    rw [show n - 1 - k = m by omega, show n - k = m + 1 by omega, ← hm, Nat.pow_succ 2 m, ← Nat.div_div_eq_div_mul]
    generalize X / 2 ^ m = Y
    rw [Nat.pow_succ, Nat.mul_comm (2 ^ k) 2, Nat.mod_mul]
    omega
theorem bitsNat_field (X n : Nat) : bitsNat (fieldBits X n) = X % 2 ^ n := by
  rw [← fieldTake_all, bitsNat_take X n n (Nat.le_refl _)]
  simp
theorem endOf_packed (L : List Bool) : endOf ((unpackB (packed L)).drop L.length) = 0 := by
  apply endOf_none
  · rw [packed_length]; omega
  · intro k hk
    rw [packed_length] at hk
    rw [rbit_packed _ _ hk, List.getD_eq_getElem?_getD, List.getElem?_eq_none (by omega)]
    rfl
theorem bits_inv (l : List Bool) : fieldBits (bitsNat l) l.length = l := by
  have key : ∀ (n : Nat) (l : List Bool), l.length = n → fieldBits (bitsNat l) n = l := by
    intro n
    induction n with
    | zero => intro l hl; rw [List.eq_nil_of_length_eq_zero hl]; rfl
    | succ n ih =>
      intro l hl
      rcases snoc_cases l with rfl | ⟨l', b, rfl⟩
      · simp at hl
      · have := ih l' (by simpa using hl)
        rw [bitsNat_snoc, ← fieldTake_all, fieldTake_succ]
        have e : ∀ i, i < n → (bitsNat l' * 2 + b.toNat).testBit (n + 1 - 1 - i) = (bitsNat l').testBit (n - 1 - i) := by
          intro i hi
          rw [show n + 1 - 1 - i = (n - 1 - i) + 1 by omega, Nat.testBit_succ]
          congr 1
          cases b <;> simp <;> omega
        have e2 : fieldTake (bitsNat l' * 2 + b.toNat) (n + 1) n = l' := by
          refine Eq.trans ?_ this
          unfold fieldTake fieldBits
          exact List.map_congr_left fun i hi => e i (List.mem_range.1 hi)
        rw [e2]
        congr 1
        simp only [Nat.add_sub_cancel, Nat.sub_self, Nat.testBit_zero]
        cases b <;> simp <;> omega
  exact key _ l rfl
end Go.Proofs.YtdniaingipoggaaDoor
