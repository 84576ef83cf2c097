/-
  PLAIN: lists of bits, their packing into bytes, the bits of a number. No program in sight.
-/
import Derived.Lib.Hide
import Derived.WalkKit
namespace Go.Proofs.YtdniaingipoggaaDoor

/-- the lowest n bits of x, the highest first -/
def fieldBits (x n : Nat) : List Bool := (List.range n).map fun i => x.testBit (n - 1 - i)
theorem fieldBits_length (x n : Nat) : (fieldBits x n).length = n := by simp [fieldBits]
/-- the first k of the lowest n bits -/
def fieldTake (x n k : Nat) : List Bool := (List.range k).map fun i => x.testBit (n - 1 - i)
theorem fieldTake_length (x n k : Nat) : (fieldTake x n k).length = k := by simp [fieldTake]
theorem fieldTake_zero (x n : Nat) : fieldTake x n 0 = [] := rfl
theorem fieldTake_all (x n : Nat) : fieldTake x n n = fieldBits x n := rfl
theorem fieldTake_succ (x n k : Nat) : fieldTake x n (k + 1) = fieldTake x n k ++ [x.testBit (n - 1 - k)] := by
  simp [fieldTake, List.range_succ]

def bitAt (l : List Bool) (i : Nat) : Nat := (l.getD i false).toNat
/-- byte j of packed bits -/
def byteAt (l : List Bool) (j : Nat) : Nat :=
  ((((((((bitAt l (8 * j)) * 2 + bitAt l (8 * j + 1)) * 2 + bitAt l (8 * j + 2)) * 2 + bitAt l (8 * j + 3)) * 2 + bitAt l (8 * j + 4)) * 2 + bitAt l (8 * j + 5)) * 2 + bitAt l (8 * j + 6)) * 2 + bitAt l (8 * j + 7))
def packed (l : List Bool) : List Nat := (List.range ((l.length + 7) / 8)).map (byteAt l)
def packedTo (l : List Bool) : List Nat := (List.range (l.length / 8 + 1)).map (byteAt l)
theorem packed_length (l : List Bool) : (packed l).length = (l.length + 7) / 8 := by simp [packed]
theorem packedTo_length (l : List Bool) : (packedTo l).length = l.length / 8 + 1 := by simp [packedTo]
theorem bitAt_le (l : List Bool) (i : Nat) : bitAt l i ≤ 1 := by unfold bitAt; cases l.getD i false <;> simp
theorem bitAt_past (l : List Bool) (i : Nat) (h : l.length ≤ i) : bitAt l i = 0 := by simp [bitAt, h]
theorem byteAt_lt (l : List Bool) (j : Nat) : byteAt l j < 256 := by
  unfold byteAt
  have := bitAt_le l (8 * j); have := bitAt_le l (8 * j + 1); have := bitAt_le l (8 * j + 2); have := bitAt_le l (8 * j + 3)
  have := bitAt_le l (8 * j + 4); have := bitAt_le l (8 * j + 5); have := bitAt_le l (8 * j + 6); have := bitAt_le l (8 * j + 7)
  omega
theorem byteAt_past (l : List Bool) (j : Nat) (h : l.length ≤ 8 * j) : byteAt l j = 0 := by
  simp [byteAt, bitAt_past l _ (show l.length ≤ 8 * j by omega), bitAt_past l _ (show l.length ≤ 8 * j + 1 by omega), bitAt_past l _ (show l.length ≤ 8 * j + 2 by omega), bitAt_past l _ (show l.length ≤ 8 * j + 3 by omega),
    bitAt_past l _ (show l.length ≤ 8 * j + 4 by omega), bitAt_past l _ (show l.length ≤ 8 * j + 5 by omega), bitAt_past l _ (show l.length ≤ 8 * j + 6 by omega), bitAt_past l _ (show l.length ≤ 8 * j + 7 by omega)]
theorem packedTo_of_zero (l : List Bool) (h : l.length % 8 = 0) : packedTo l = packed l ++ [0] := by
  unfold packedTo packed
  rw [show (l.length + 7) / 8 = l.length / 8 by omega, List.range_succ, List.map_append]
  simp only [List.map_cons, List.map_nil]
  rw [byteAt_past l _ (by omega)]
theorem packedTo_of_ne (l : List Bool) (h : ¬ l.length % 8 = 0) : packedTo l = packed l := by
  unfold packedTo packed
  rw [show (l.length + 7) / 8 = l.length / 8 + 1 by omega]
theorem bitAt_snoc (l : List Bool) (b : Bool) (i : Nat) : bitAt (l ++ [b]) i = if i = l.length then b.toNat else bitAt l i := by
  unfold bitAt
  rcases Nat.lt_trichotomy i l.length with h | h | h
  · simp [List.getD_eq_getElem?_getD, List.getElem?_append_left h, Nat.ne_of_lt h]
  · subst h; simp
  · simp [show ¬ i = l.length by omega, show l.length ≤ i by omega, List.getD_eq_getElem?_getD, List.getElem?_append_right (Nat.le_of_lt h), List.getElem?_eq_none (show [b].length ≤ i - l.length by simp; omega)]
theorem or_bit : ∀ (b0 b1 b2 b3 b4 b5 b6 b7 b : Bool) (r : Fin 8),
    (let f : Nat → Bool → Nat := fun i x => if i < r.val then x.toNat else 0
     let g : Nat → Bool → Nat := fun i x => if i = r.val then b.toNat else f i x
     ((((((((g 0 b0) * 2 + g 1 b1) * 2 + g 2 b2) * 2 + g 3 b3) * 2 + g 4 b4) * 2 + g 5 b5) * 2 + g 6 b6) * 2 + g 7 b7) =
     (((((((((f 0 b0) * 2 + f 1 b1) * 2 + f 2 b2) * 2 + f 3 b3) * 2 + f 4 b4) * 2 + f 5 b5) * 2 + f 6 b6) * 2 + f 7 b7) ||| (b.toNat * 2 ^ (7 - r.val)))) := by
  decide +kernel
theorem byteAt_snoc_at (l : List Bool) (b : Bool) : byteAt (l ++ [b]) (l.length / 8) = byteAt l (l.length / 8) ||| (b.toNat * 2 ^ (7 - l.length % 8)) := by
  have h := or_bit (l.getD (8 * (l.length / 8)) false) (l.getD (8 * (l.length / 8) + 1) false) (l.getD (8 * (l.length / 8) + 2) false) (l.getD (8 * (l.length / 8) + 3) false)
    (l.getD (8 * (l.length / 8) + 4) false) (l.getD (8 * (l.length / 8) + 5) false) (l.getD (8 * (l.length / 8) + 6) false) (l.getD (8 * (l.length / 8) + 7) false) b ⟨l.length % 8, Nat.mod_lt _ (by decide)⟩
  have e : ∀ k, k < 8 → (if k < l.length % 8 then (l.getD (8 * (l.length / 8) + k) false).toNat else 0) = bitAt l (8 * (l.length / 8) + k) := by
    intro k hk
    split
    · rfl
    · rw [bitAt_past]; omega
  have e' : ∀ k, k < 8 → (if k = l.length % 8 then b.toNat else bitAt l (8 * (l.length / 8) + k)) = bitAt (l ++ [b]) (8 * (l.length / 8) + k) := by
    intro k hk
    rw [bitAt_snoc]
    by_cases h : k = l.length % 8
    · rw [if_pos h, if_pos (by omega)]
    · rw [if_neg h, if_neg (by omega)]
  have e0 := e 0 (by decide)
  have e0' := e' 0 (by decide)
  simp only [Nat.add_zero] at e0 e0'
  simp only [e 1 (by decide), e 2 (by decide), e 3 (by decide), e 4 (by decide), e 5 (by decide), e 6 (by decide), e 7 (by decide), e0] at h
  simp only [e' 1 (by decide), e' 2 (by decide), e' 3 (by decide), e' 4 (by decide), e' 5 (by decide), e' 6 (by decide), e' 7 (by decide), e0'] at h
  exact h
theorem byteAt_snoc_lt (l : List Bool) (b : Bool) (j : Nat) (h : j < l.length / 8) : byteAt (l ++ [b]) j = byteAt l j := by
  unfold byteAt
  simp only [bitAt_snoc]
  rw [if_neg (by omega), if_neg (by omega), if_neg (by omega), if_neg (by omega), if_neg (by omega), if_neg (by omega), if_neg (by omega), if_neg (by omega)]
theorem packed_snoc (l : List Bool) (b : Bool) :
    packed (l ++ [b]) = (packedTo l).set (l.length / 8) (byteAt l (l.length / 8) ||| (b.toNat * 2 ^ (7 - l.length % 8))) := by
  apply List.ext_getElem
  · rw [packed_length, List.length_set, packedTo_length, List.length_append, List.length_singleton]; omega
  · intro j h1 h2
    rw [packed_length, List.length_append, List.length_singleton] at h1
    rw [List.getElem_set]
    split
    · rename_i hj
      subst hj
      simp only [packed, List.getElem_map, List.getElem_range]
      exact byteAt_snoc_at l b
    · rename_i hj
      simp only [packed, packedTo, List.getElem_map, List.getElem_range]
      exact byteAt_snoc_lt l b j (by omega)
theorem packed_getD (l : List Bool) (j : Nat) (h : j < (l.length + 7) / 8) : (packed l).getD j 0 = byteAt l j := by
  simp [packed, List.getD_eq_getElem?_getD, h]
theorem packedTo_at (l : List Bool) : (packedTo l)[l.length / 8]? = some (byteAt l (l.length / 8)) := by
  simp [packedTo]
theorem bit_and_one (x s : Nat) (hx : x < 18446744073709551616) : bits .and .u64 ((x : Int) / 2 ^ s) 1 = ((x.testBit s).toNat : Int) := by
  have e : ((x : Int) / 2 ^ s) = ((x / 2 ^ s : Nat) : Int) := by simp
  rw [e, show (1 : Int) = ((1 : Nat) : Int) from rfl, u64_and_nat _ _ (Nat.lt_of_le_of_lt (Nat.div_le_self _ _) hx) (by decide)]
  congr 1
  rw [Nat.and_one_is_mod, Nat.testBit_eq_decide_div_mod_eq]
  rcases Nat.mod_two_eq_zero_or_one (x / 2 ^ s) with h | h <;> simp [h]
theorem bool_toNat_le (b : Bool) : b.toNat ≤ 1 := by cases b <;> simp
#print axioms packed_snoc
end Go.Proofs.YtdniaingipoggaaDoor
