/-
  PLAIN: what was packed is read back. No walk here.
-/
import Derived.Test.YtdniaingipoggaaPRdr
import Derived.Test.YtdniaingipoggaaWReader
import Derived.Test.YtdniaingipoggaaWLaw01a
namespace Go.Proofs.Ytdniaingipoggaa
open Go.RowKit

theorem byte_testBit : ∀ (b0 b1 b2 b3 b4 b5 b6 b7 : Bool) (r : Fin 8),
    (((((((b0.toNat * 2 + b1.toNat) * 2 + b2.toNat) * 2 + b3.toNat) * 2 + b4.toNat) * 2 + b5.toNat) * 2 + b6.toNat) * 2 + b7.toNat).testBit (7 - r.val) = [b0, b1, b2, b3, b4, b5, b6, b7].getD r.val false := by
  decide +kernel
theorem rbit_packed (L : List Bool) (i : Nat) (h : i < 8 * ((L.length + 7) / 8)) : rbit (packed L) i = L.getD i false := by
  unfold rbit
  rw [packed_getD L (i / 8) (by omega)]
  have hb := byte_testBit (L.getD (8 * (i / 8)) false) (L.getD (8 * (i / 8) + 1) false) (L.getD (8 * (i / 8) + 2) false) (L.getD (8 * (i / 8) + 3) false)
    (L.getD (8 * (i / 8) + 4) false) (L.getD (8 * (i / 8) + 5) false) (L.getD (8 * (i / 8) + 6) false) (L.getD (8 * (i / 8) + 7) false) ⟨i % 8, Nat.mod_lt _ (by decide)⟩
  unfold byteAt bitAt
  rw [hb]
  show List.getD _ (i % 8) false = _
  clear hb
  have hm : i % 8 < 8 := Nat.mod_lt _ (by decide)
  obtain ⟨r, hr⟩ : ∃ r, r = i % 8 := ⟨_, rfl⟩
  have hi : i = 8 * (i / 8) + r := by omega
  obtain ⟨q, hq⟩ : ∃ q, q = i / 8 := ⟨_, rfl⟩
  rw [← hq] at hi ⊢
  rw [← hr] at hm ⊢
  subst hi
  match r, hm with
  | 0, _ => rfl
  | 1, _ => rfl
  | 2, _ => rfl
  | 3, _ => rfl
  | 4, _ => rfl
  | 5, _ => rfl
  | 6, _ => rfl
  | 7, _ => rfl
theorem bitsFrom_packed (L : List Bool) (i n : Nat) (h : i + n ≤ L.length) : bitsFrom (packed L) i n = (L.drop i).take n := by
  apply List.ext_getElem?
  intro k
  unfold bitsFrom
  rw [List.getElem?_take, List.getElem?_take]
  split
  · rw [List.getElem?_drop, List.getElem?_drop, unpackB_get _ _ (by rw [packed_length]; omega), rbit_packed _ _ (by omega), List.getD_eq_getElem?_getD, List.getElem?_eq_getElem (by omega)]
    rfl
  · rfl
theorem bitsNat_take (X n : Nat) : ∀ k, k ≤ n → bitsNat (fieldTake X n k) = X / 2 ^ (n - k) % 2 ^ k := by
  intro k
  induction k with
  | zero => intro _; simp [fieldTake_zero, bitsNat_nil, Nat.mod_one]
  | succ k ih =>
    intro hk
    rw [fieldTake_succ, bitsNat_snoc, ih (by omega), ← testBit_toNat]
    obtain ⟨m, hm⟩ : ∃ m, m = n - (k + 1) := ⟨_, rfl⟩
    rw [show n - 1 - k = m by omega, show n - k = m + 1 by omega, ← hm, Nat.pow_succ 2 m, ← Nat.div_div_eq_div_mul]
    generalize X / 2 ^ m = Y
    rw [Nat.pow_succ, Nat.mul_comm (2 ^ k) 2, Nat.mod_mul]
    omega
theorem bitsNat_field (X n : Nat) : bitsNat (fieldBits X n) = X % 2 ^ n := by
  rw [← fieldTake_all, bitsNat_take X n n (Nat.le_refl _)]
  simp
theorem endOf_packed (L : List Bool) : endOf ((unpackB (packed L)).drop L.length) = 0 := by
  apply endOf_none
  · rw [packed_length]; omega
  · intro k hk
    rw [packed_length] at hk
    rw [rbit_packed _ _ hk, List.getD_eq_getElem?_getD, List.getElem?_eq_none (by omega)]
    rfl
/-- the fields are read one by one -/
theorem field_at {fs : List (Nat × Int)} {k X : Nat} {N : Int} (h : fs[k]? = some (X, N)) (hN : 0 ≤ N ∧ N ≤ 64) :
    (bitsOfFields (fs.take k)).length + N.toNat ≤ (bitsOfFields fs).length ∧ bitsFrom (packed (bitsOfFields fs)) (bitsOfFields (fs.take k)).length N.toNat = fieldBits X N.toNat ∧
      (bitsOfFields (fs.take (k + 1))).length = (bitsOfFields (fs.take k)).length + N.toNat := by
  have hs : bitsOfFields (fs.take (k + 1)) = bitsOfFields (fs.take k) ++ fieldBits X N.toNat := by
    rw [take_snoc_field h, bitsOfFields_snoc]
    congr 1
    unfold bitsOfField okN
    rw [if_pos (by simpa using hN)]
  have hall : bitsOfFields fs = bitsOfFields (fs.take k) ++ (fieldBits X N.toNat ++ bitsOfFields (fs.drop (k + 1))) := by
    rw [← List.append_assoc, ← hs]
    unfold bitsOfFields
    rw [← List.flatMap_append, List.take_append_drop]
  have hle : (bitsOfFields (fs.take k)).length + N.toNat ≤ (bitsOfFields fs).length := by
    rw [hall]; simp only [List.length_append, fieldBits_length]; omega
  refine ⟨hle, ?_, by rw [hs, List.length_append, fieldBits_length]⟩
  rw [bitsFrom_packed _ _ _ hle, hall, List.drop_left]
  have : (fieldBits X N.toNat ++ bitsOfFields (fs.drop (k + 1))).take N.toNat = fieldBits X N.toNat := by
    rw [List.take_left' (by rw [fieldBits_length])]
  exact this
theorem field_skip {fs : List (Nat × Int)} {k X : Nat} {N : Int} (h : fs[k]? = some (X, N)) (hN : ¬ (0 ≤ N ∧ N ≤ 64)) : bitsOfFields (fs.take (k + 1)) = bitsOfFields (fs.take k) := by
  rw [take_snoc_field h, bitsOfFields_snoc]
  unfold bitsOfField okN
  rw [if_neg (by simpa using hN), List.append_nil]
end Go.Proofs.Ytdniaingipoggaa
