/-
  PLAIN: times (chapter 5): differences of differences, their forms, writing and reading. No program in sight.
-/
import Derived.Test.YtdniaingipoggaaDoorDRound
import Derived.IntWalk
import Derived.Laws.Bits64
namespace Go.Proofs.YtdniaingipoggaaDoor
open Go.RowKit

def inI (x : Int) : Prop := -9223372036854775808 ≤ x ∧ x ≤ 9223372036854775807
def W (x : Int) : Int := IntKind.i64.wrap x
theorem W_eq (x : Int) : W x = (x + 9223372036854775808) % 18446744073709551616 - 9223372036854775808 := IntKind.wrap_i64 x
theorem W_in (x : Int) : inI (W x) := by rw [W_eq]; unfold inI; omega
theorem W_of {x : Int} (h : inI x) : W x = x := by rw [W_eq]; unfold inI at h; omega
/-- the word of a number -/
def U (x : Int) : Nat := (x % 18446744073709551616).toNat
theorem U_lt (x : Int) : U x < 18446744073709551616 := by unfold U; omega
theorem U_wrap (x : Int) : IntKind.u64.wrap x = ((U x : Nat) : Int) := by rw [IntKind.wrap_u64]; unfold U; omega
theorem W_U {x : Int} (h : inI x) : W ((U x : Nat) : Int) = x := by rw [W_eq]; unfold U inI at *; omega
theorem U_W (n : Nat) (h : n < 18446744073709551616) : U (W (n : Int)) = n := by rw [W_eq]; unfold U; omega
/-- the form of a number -/
def formI (x : Int) : Nat := if x = 0 then 0 else if -64 ≤ x ∧ x ≤ 63 then 1 else if -2048 ≤ x ∧ x ≤ 2047 then 2 else if -2147483648 ≤ x ∧ x ≤ 2147483647 then 3 else 4
theorem formI_le (x : Int) : formI x ≤ 4 := by unfold formI; split <;> (try split) <;> (try split) <;> (try split) <;> omega
def fBits (k : Nat) : Nat := [0, 2, 6, 14, 15].getD k 0
def fLen (k : Nat) : Nat := [1, 2, 3, 4, 4].getD k 0
def fWidth (k : Nat) : Nat := [0, 7, 12, 32, 64].getD k 0
/-- the signed number whose lowest w bits are those of X -/
def ext (X w : Nat) : Int := if w = 0 then 0 else if X % 2 ^ w < 2 ^ (w - 1) then ((X % 2 ^ w : Nat) : Int) else ((X % 2 ^ w : Nat) : Int) - ((2 ^ w : Nat) : Int)
theorem ext_in (X k : Nat) (hk : k ≤ 4) : inI (ext X (fWidth k)) := by
  have h : k = 0 ∨ k = 1 ∨ k = 2 ∨ k = 3 ∨ k = 4 := by omega
  unfold inI ext
  rcases h with rfl | rfl | rfl | rfl | rfl <;> simp only [fWidth, List.getD_eq_getElem?_getD, List.getElem?_cons_zero, List.getElem?_cons_succ, Option.getD_some] <;> simp <;> (try split) <;> omega
theorem ext_eq (x : Int) (h : inI x) (k : Nat) (hk : k ≤ 4) : ext (U x) (fWidth k) = x ↔ formI x ≤ k := by
  have hc : k = 0 ∨ k = 1 ∨ k = 2 ∨ k = 3 ∨ k = 4 := by omega
  unfold inI at h
  unfold ext U formI
  rcases hc with rfl | rfl | rfl | rfl | rfl <;> simp only [fWidth, List.getD_eq_getElem?_getD, List.getElem?_cons_zero, List.getElem?_cons_succ, Option.getD_some] <;> simp <;> (repeat' split) <;> omega
/-- the lowest bits are kept -/
theorem U_ext (X k : Nat) (hk : k ≤ 4) : U (ext X (fWidth k)) % 2 ^ fWidth k = X % 2 ^ fWidth k := by
  have hc : k = 0 ∨ k = 1 ∨ k = 2 ∨ k = 3 ∨ k = 4 := by omega
  unfold ext U
  rcases hc with rfl | rfl | rfl | rfl | rfl <;> simp only [fWidth, List.getD_eq_getElem?_getD, List.getElem?_cons_zero, List.getElem?_cons_succ, Option.getD_some] <;> simp <;> (repeat' split) <;> omega
theorem ext_mod (X k : Nat) : ext (X % 2 ^ fWidth k) (fWidth k) = ext X (fWidth k) := by
  unfold ext
  rw [Nat.mod_mod]
/-- differences of differences behind t, the difference before being d -/
def chgF : Int → Int → List Int → List Int
  | _, _, [] => []
  | d, t, s :: r => W (W (s - t) - d) :: chgF (W (s - t)) s r
def changesOf : List Int → List Int
  | [] => []
  | t :: r => chgF 0 t r
theorem chgF_length (d t : Int) (l : List Int) : (chgF d t l).length = l.length := by
  induction l generalizing d t with
  | nil => rfl
  | cons s r ih => simp [chgF, ih]
theorem changesOf_length (l : List Int) : (changesOf l).length = l.length - 1 := by cases l <;> simp [changesOf, chgF_length]
theorem chgF_in (d t : Int) (l : List Int) : ∀ x ∈ chgF d t l, inI x := by
  induction l generalizing d t with
  | nil => intro x hx; simp [chgF] at hx
  | cons s r ih =>
    intro x hx
    simp only [chgF, List.mem_cons] at hx
    rcases hx with rfl | hx
    · exact W_in _
    · exact ih _ _ x hx
theorem changesOf_in (l : List Int) : ∀ x ∈ changesOf l, inI x := by
  cases l with
  | nil => intro x hx; simp [changesOf] at hx
  | cons t r => exact chgF_in _ _ _
/-- the bits of a difference -/
def encChange (x : Int) : List Bool := fieldBits (fBits (formI x)) (fLen (formI x)) ++ fieldBits (U x) (fWidth (formI x))
theorem fLen_le (k : Nat) (h : k ≤ 4) : 1 ≤ fLen k ∧ fLen k ≤ 4 := by
  have hc : k = 0 ∨ k = 1 ∨ k = 2 ∨ k = 3 ∨ k = 4 := by omega
  rcases hc with rfl | rfl | rfl | rfl | rfl <;> simp [fLen]
theorem fWidth_le (k : Nat) (h : k ≤ 4) : fWidth k ≤ 64 := by
  have hc : k = 0 ∨ k = 1 ∨ k = 2 ∨ k = 3 ∨ k = 4 := by omega
  rcases hc with rfl | rfl | rfl | rfl | rfl <;> simp [fWidth]
theorem encChange_length (x : Int) : (encChange x).length = fLen (formI x) + fWidth (formI x) := by simp [encChange, fieldBits_length]
theorem encChange_le (x : Int) : (encChange x).length ≤ 68 := by
  rw [encChange_length]
  have := formI_le x
  have := fLen_le (formI x) this
  have := fWidth_le (formI x) ‹_›
  omega
def encChanges (l : List Int) : List Bool := l.flatMap encChange
theorem encChanges_le (l : List Int) : (encChanges l).length ≤ 68 * l.length := by
  induction l with
  | nil => simp [encChanges]
  | cons x l ih => have := encChange_le x; simp only [encChanges, List.flatMap_cons, List.length_append, List.length_cons] at ih ⊢; omega
theorem encChanges_snoc (l : List Int) (x : Int) : encChanges (l ++ [x]) = encChanges l ++ encChange x := by simp [encChanges]
/-- the bits of times -/
def enc5 : List Int → List Bool
  | [] => []
  | t :: r => fieldBits (U t) 64 ++ encChanges (chgF 0 t r)
theorem enc5_length (l : List Int) : (enc5 l).length ≤ 68 * l.length := by
  cases l with
  | nil => simp [enc5]
  | cons t r => have := encChanges_le (chgF 0 t r); rw [chgF_length] at this; simp only [enc5, List.length_append, fieldBits_length, List.length_cons]; omega
/-- the bits of a form: its number, the error, how many bits it took -/
def formB (b : List Bool) : Nat × Nat × Nat :=
  match b with
  | [] => (0, 3, 0)
  | false :: _ => (0, 0, 1)
  | true :: [] => (1, 3, 1)
  | true :: false :: _ => (1, 0, 2)
  | true :: true :: [] => (2, 3, 2)
  | true :: true :: false :: _ => (2, 0, 3)
  | true :: true :: true :: [] => (3, 3, 3)
  | true :: true :: true :: false :: _ => (3, 0, 4)
  | true :: true :: true :: true :: _ => (4, 0, 4)
/-- a difference that is read: the number, the error, how many bits it took -/
def changeB (b : List Bool) : Int × Nat × Nat :=
  if (formB b).2.1 ≠ 0 then (0, (formB b).2.1, (formB b).2.2) else
  if b.length < (formB b).2.2 + fWidth (formB b).1 then (0, 3, (formB b).2.2) else
  if formI (ext (bitsNat ((b.drop (formB b).2.2).take (fWidth (formB b).1))) (fWidth (formB b).1)) ≠ (formB b).1 then (0, 8, (formB b).2.2 + fWidth (formB b).1) else
  (ext (bitsNat ((b.drop (formB b).2.2).take (fWidth (formB b).1))) (fWidth (formB b).1), 0, (formB b).2.2 + fWidth (formB b).1)
/-- n times behind t, the difference before being d -/
def decT : Nat → Int → Int → List Bool → Nat × List Int × List Bool
  | 0, _, _, b => (0, [], b)
  | n + 1, t, d, b =>
    if (changeB b).2.1 ≠ 0 then ((changeB b).2.1, [], b.drop (changeB b).2.2) else
    ((decT n (W (t + W (d + (changeB b).1))) (W (d + (changeB b).1)) (b.drop (changeB b).2.2)).1,
      W (t + W (d + (changeB b).1)) :: (decT n (W (t + W (d + (changeB b).1))) (W (d + (changeB b).1)) (b.drop (changeB b).2.2)).2.1,
      (decT n (W (t + W (d + (changeB b).1))) (W (d + (changeB b).1)) (b.drop (changeB b).2.2)).2.2)
/-- the read of n times -/
def dec5 (n : Nat) (b : List Bool) : Nat × List Int × List Bool :=
  if n = 0 then (0, [], b) else if b.length < 64 then (3, [], b) else
  ((decT (n - 1) (W (bitsNat (b.take 64))) 0 (b.drop 64)).1,
    if (decT (n - 1) (W (bitsNat (b.take 64))) 0 (b.drop 64)).1 = 0 then W (bitsNat (b.take 64)) :: (decT (n - 1) (W (bitsNat (b.take 64))) 0 (b.drop 64)).2.1 else [],
    (decT (n - 1) (W (bitsNat (b.take 64))) 0 (b.drop 64)).2.2)
end Go.Proofs.YtdniaingipoggaaDoor
