/-
  PLAIN: the encoding of numbers with a variable length, as lists of bytes. No program in sight.
-/
import Derived.Test.YtdniaingipoggaaPRdr
import Derived.WalkKit
namespace Go.Proofs.Ytdniaingipoggaa
open Go.RowKit

def groupsF : Nat → Nat → List (Nat × Bool)
  | 0, x => [(x, true)]
  | n + 1, x => if x < 128 then [(x, true)] else (x % 128, false) :: groupsF n (x / 128)
def byteOf (p : Nat × Bool) : Nat := if p.2 then p.1 else p.1 + 128
def vencF : Nat → Nat → List Nat
  | 0, x => [x]
  | n + 1, x => if x < 128 then [x] else (x % 128 + 128) :: vencF n (x / 128)
/-- the encoding of a number below 2^64 -/
def venc (x : Nat) : List Nat := vencF 9 x
theorem venc_groups (n x : Nat) : (groupsF n x).map byteOf = vencF n x := by
  induction n generalizing x with
  | zero => rfl
  | succ n ih =>
    simp only [groupsF, vencF]
    split
    · rfl
    · simp [byteOf, ih]
/-- what is read at byte i with the value x so far -/
def vgo : Nat → Nat → List Nat → Nat × Nat × Nat
  | _, _, [] => (0, 0, 3)
  | i, x, c :: r => if i = 9 ∧ 1 < c then (0, 0, 6) else if c = 0 ∧ 0 < i then (0, 0, 5) else if c < 128 then (x + c % 128 * 2 ^ (7 * i), i + 1, 0) else vgo (i + 1) (x + c % 128 * 2 ^ (7 * i)) r
theorem vencF_lt (n x : Nat) (h : x < 128 ^ (n + 1)) : ∀ c ∈ vencF n x, c < 256 := by
  induction n generalizing x with
  | zero => intro c hc; simp [vencF] at hc; omega
  | succ n ih =>
    intro c hc
    simp only [vencF] at hc
    split at hc
    · simp at hc; omega
    · simp only [List.mem_cons] at hc
      rcases hc with rfl | hc
      · omega
      · exact ih (x / 128) (Nat.div_lt_of_lt_mul (by rw [Nat.pow_succ] at h; omega)) c hc
theorem venc_lt (x : Nat) (h : x ≤ 18446744073709551615) : ∀ c ∈ venc x, c < 256 := vencF_lt 9 x (by omega)
theorem vencF_length (n x : Nat) : (vencF n x).length ≤ n + 1 := by
  induction n generalizing x with
  | zero => simp [vencF]
  | succ n ih => simp only [vencF]; split <;> simp; exact ih _
theorem vencF_pos (n x : Nat) : 0 < (vencF n x).length := by
  cases n with
  | zero => simp [vencF]
  | succ n => simp only [vencF]; split <;> simp
/-- enough fuel is enough -/
theorem vencF_succ (n x : Nat) (h : x < 128 ^ (n + 1)) : vencF (n + 1) x = vencF n x := by
  induction n generalizing x with
  | zero => simp only [vencF]; rw [if_pos (by simpa using h)]
  | succ n ih =>
    have hi := ih (x / 128) (Nat.div_lt_of_lt_mul (by rw [Nat.pow_succ] at h; omega))
    show (if x < 128 then [x] else (x % 128 + 128) :: vencF (n + 1) (x / 128)) = (if x < 128 then [x] else (x % 128 + 128) :: vencF n (x / 128))
    rw [hi]
theorem vencF_fuel (n m x : Nat) (h : x < 128 ^ (n + 1)) (hm : n ≤ m) : vencF m x = vencF n x := by
  obtain ⟨d, rfl⟩ := Nat.exists_eq_add_of_le hm
  induction d with
  | zero => rfl
  | succ d ih =>
    rw [show n + (d + 1) = (n + d) + 1 by omega, vencF_succ _ _ (Nat.lt_of_lt_of_le h (Nat.pow_le_pow_right (by decide) (by omega)))]
    exact ih (by omega)
/-- the recursion that the reference uses -/
theorem venc_eq (x : Nat) (h : x ≤ 18446744073709551615) : venc x = if x < 128 then [x] else (x % 128 + 128) :: venc (x / 128) := by
  unfold venc
  rw [vencF]
  split
  · rfl
  · congr 1
    exact (vencF_fuel 8 9 (x / 128) (by omega) (by omega)).symm
theorem groupsF_lt (n x : Nat) (h : x < 128 ^ (n + 1)) : ∀ p ∈ groupsF n x, p.1 < 128 := by
  induction n generalizing x with
  | zero => intro p hp; simp [groupsF] at hp; subst hp; simpa using h
  | succ n ih =>
    intro p hp
    simp only [groupsF] at hp
    split at hp
    · simp at hp; subst hp; assumption
    · simp only [List.mem_cons] at hp
      rcases hp with rfl | hp
      · simp only; omega
      · exact ih (x / 128) (Nat.div_lt_of_lt_mul (by rw [Nat.pow_succ] at h; omega)) p hp
theorem groupsF_length (n x : Nat) : (groupsF n x).length ≤ n + 1 := by
  induction n generalizing x with
  | zero => simp [groupsF]
  | succ n ih => simp only [groupsF]; split <;> simp; exact ih _
theorem or128 (c : Nat) (h : c < 128) : bits .or .u8 ((c : Nat) : Int) 128 = ((c + 128 : Nat) : Int) := by
  rw [show (128 : Int) = ((128 : Nat) : Int) from rfl, u8_or_nat c 128 (by omega) (by decide)]
  congr 1
  rw [Nat.or_comm, nat_join 7 128 c (by decide) (by omega)]
  omega
theorem venc_length_le (x : Nat) : (venc x).length ≤ 10 := vencF_length 9 x
/-- the number as which a signed number is encoded -/
def foldN (x : Int) : Nat := if x < 0 then (-(2 * x) - 1).toNat else (2 * x).toNat
def unfoldI (X : Nat) : Int := if X % 2 = 1 then -((X : Int) / 2) - 1 else (X : Int) / 2
theorem unfold_fold (x : Int) : unfoldI (foldN x) = x := by
  unfold unfoldI foldN
  split <;> split <;> omega
theorem foldN_le (x : Int) (h1 : -9223372036854775808 ≤ x) (h2 : x ≤ 9223372036854775807) : foldN x ≤ 18446744073709551615 := by
  unfold foldN
  split <;> omega
theorem xor_ones (v : BitVec 64) : (v ^^^ BitVec.allOnes 64).toNat = 18446744073709551615 - v.toNat := by
  rw [BitVec.xor_allOnes, BitVec.toNat_not]
theorem fold_eq (x : Int) (h1 : -9223372036854775808 ≤ x) (h2 : x ≤ 9223372036854775807) :
    bits .xor .u64 (IntKind.u64.wrap (IntKind.u64.wrap x * 2)) (IntKind.u64.wrap (x / 9223372036854775808)) = ((foldN x : Nat) : Int) := by
  unfold foldN
  by_cases h : x < 0
  · rw [if_pos h]
    have e1 : IntKind.u64.wrap (x / 9223372036854775808) = ((18446744073709551615 : Nat) : Int) := by rw [IntKind.wrap_u64]; omega
    have e2 : IntKind.u64.wrap (IntKind.u64.wrap x * 2) = (((2 * x + 18446744073709551616).toNat : Nat) : Int) := by rw [IntKind.wrap_u64, IntKind.wrap_u64]; omega
    rw [e1, e2, u64_xor_nat _ _ (by omega) (by decide)]
    congr 1
    have hv := xor_ones (BitVec.ofNat 64 (2 * x + 18446744073709551616).toNat)
    rw [BitVec.toNat_xor, BitVec.toNat_ofNat, BitVec.toNat_allOnes] at hv
    have e3 : (2 * x + 18446744073709551616).toNat % 2 ^ 64 = (2 * x + 18446744073709551616).toNat := Nat.mod_eq_of_lt (by omega)
    rw [e3] at hv
    have e4 : 2 ^ 64 - 1 = 18446744073709551615 := by decide
    rw [e4] at hv
    rw [hv]; omega
  · rw [if_neg h]
    have e1 : IntKind.u64.wrap (x / 9223372036854775808) = ((0 : Nat) : Int) := by rw [IntKind.wrap_u64]; omega
    have e2 : IntKind.u64.wrap (IntKind.u64.wrap x * 2) = (((2 * x).toNat : Nat) : Int) := by rw [IntKind.wrap_u64, IntKind.wrap_u64]; omega
    rw [e1, e2, u64_xor_nat _ _ (by omega) (by decide), Nat.xor_zero]
theorem bits_xor_i64 (a b : Int) : bits .xor .i64 a b = IntKind.i64.wrap ((BitVec.ofInt 64 a ^^^ BitVec.ofInt 64 b).toNat : Int) := rfl
theorem unfold_eq (X : Nat) (h : X ≤ 18446744073709551615) :
    bits .xor .i64 ((X : Int) / 2) (wrap64 (-wrap64 (bits .and .u64 (X : Int) 1))) = unfoldI X := by
  rw [and_one_u64 X (by omega)]
  unfold unfoldI
  by_cases h2 : X % 2 = 1
  · rw [if_pos h2, h2]
    have e1 : wrap64 (-wrap64 ((1 : Nat) : Int)) = -1 := by simp [wrap64]
    rw [e1]
    rw [bits_xor_i64]
    have e2 : BitVec.ofInt 64 (-1) = BitVec.allOnes 64 := by decide
    have e3 : BitVec.ofInt 64 ((X : Int) / 2) = BitVec.ofNat 64 (X / 2) := by
      have : ((X : Int) / 2) = ((X / 2 : Nat) : Int) := by omega
      rw [this, BitVec.ofInt_natCast]
    rw [e2, e3, xor_ones, BitVec.toNat_ofNat]
    have e4 : X / 2 % 2 ^ 64 = X / 2 := Nat.mod_eq_of_lt (by omega)
    rw [e4, IntKind.wrap_i64]
    omega
  · have h3 : X % 2 = 0 := by omega
    rw [if_neg h2, h3]
    have e1 : wrap64 (-wrap64 ((0 : Nat) : Int)) = 0 := by simp [wrap64]
    rw [e1]
    rw [bits_xor_i64]
    have e2 : BitVec.ofInt 64 0 = 0#64 := by decide
    have e3 : BitVec.ofInt 64 ((X : Int) / 2) = BitVec.ofNat 64 (X / 2) := by
      have : ((X : Int) / 2) = ((X / 2 : Nat) : Int) := by omega
      rw [this, BitVec.ofInt_natCast]
    rw [e2, e3, BitVec.xor_zero, BitVec.toNat_ofNat]
    have e4 : X / 2 % 2 ^ 64 = X / 2 := Nat.mod_eq_of_lt (by omega)
    rw [e4, IntKind.wrap_i64]
    omega
end Go.Proofs.Ytdniaingipoggaa
