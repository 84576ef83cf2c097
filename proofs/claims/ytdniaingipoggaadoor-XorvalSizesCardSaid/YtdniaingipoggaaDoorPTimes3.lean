/-
  PLAIN: times (chapter 5): constant differences, shifted times. No program in sight.
-/
import Derived.Test.YtdniaingipoggaaDoorPTimes2
namespace Go.Proofs.YtdniaingipoggaaDoor
open Go.RowKit

/-- n times with a constant difference -/
def lineOf : Int → Int → Nat → List Int
  | _, _, 0 => []
  | t, s, n + 1 => t :: lineOf (W (t + s)) s n
theorem lineOf_length : ∀ (n : Nat) (t s : Int), (lineOf t s n).length = n
  | 0, _, _ => rfl
  | n + 1, t, s => by simp [lineOf, lineOf_length n]
theorem lineOf_in : ∀ (n : Nat) (t s : Int), inI t → ∀ x ∈ lineOf t s n, inI x
  | 0, _, _, _, x, hx => by simp [lineOf] at hx
  | n + 1, t, s, ht, x, hx => by
    rcases List.mem_cons.1 hx with rfl | hx
    · exact ht
    · exact lineOf_in n _ _ (W_in _) x hx
theorem line_back {t s : Int} (_ : inI t) (hs : inI s) : W (W (t + s) - t) = s := by simp only [W_eq]; unfold inI at *; omega
theorem encChange_zero : encChange 0 = [false] := by decide
theorem chgF_line (d : Int) (hd : inI d) : ∀ (n : Nat) (t : Int), inI t → encChanges (chgF d t (lineOf (W (t + d)) d n)) = List.replicate n false
  | 0, _, _ => rfl
  | n + 1, t, ht => by
    have e : W (d - d) = 0 := by simp [W_eq]
    have := chgF_line d hd n (W (t + d)) (W_in _)
    rw [lineOf, chgF, line_back ht hd, e, encChanges, List.flatMap_cons, encChange_zero]
    unfold encChanges at this
    rw [this, List.replicate_succ]
    rfl
/-- constant differences take one bit for each time after the second one -/
theorem enc5_line (t s : Int) (ht : inI t) (hs : inI s) (n : Nat) : (enc5 (lineOf t s (n + 2))).length = (enc5 ((lineOf t s (n + 2)).take 2)).length + n := by
  have e : (lineOf t s (n + 2)).take 2 = [t, W (t + s)] := by simp [lineOf]
  rw [e]
  have e2 : lineOf t s (n + 2) = t :: W (t + s) :: lineOf (W (W (t + s) + s)) s n := rfl
  rw [e2]
  simp only [enc5, chgF, line_back ht hs]
  have h := chgF_line s hs n (W (t + s)) (W_in _)
  unfold encChanges at *
  simp only [List.flatMap_cons, List.flatMap_nil, h, List.length_append, List.length_replicate, List.length_nil]
  omega
theorem chgF_shift (b : Int) : ∀ (l : List Int) (d t : Int), chgF d (W (t + b)) (l.map fun x => W (x + b)) = chgF d t l
  | [], _, _ => rfl
  | s :: r, d, t => by
    have e : W (W (s + b) - W (t + b)) = W (s - t) := by simp only [W_eq]; omega
    rw [List.map_cons, chgF, chgF, e, chgF_shift b r]
theorem enc5_shift (b : Int) (l : List Int) : (enc5 (l.map fun x => W (x + b))).drop 64 = (enc5 l).drop 64 ∧ (enc5 (l.map fun x => W (x + b))).length = (enc5 l).length := by
  cases l with
  | nil => exact ⟨rfl, rfl⟩
  | cons t r =>
    rw [List.map_cons, enc5, enc5, chgF_shift]
    exact ⟨by rw [List.drop_left' (fieldBits_length _ _), List.drop_left' (fieldBits_length _ _)], by simp [fieldBits_length]⟩
theorem enc5_long (l : List Int) (h : l ≠ []) : 64 ≤ (enc5 l).length := by
  cases l with
  | nil => exact absurd rfl h
  | cons t r => simp only [enc5, List.length_append, fieldBits_length]; omega
/-- the bytes behind the first word are those of the bits behind the first word -/
theorem packed_drop8 (L : List Bool) : (packed L).drop 8 = packed (L.drop 64) := by
  unfold packed
  apply List.ext_getElem?
  intro i
  rw [List.getElem?_drop, List.getElem?_map, List.getElem?_map]
  by_cases h : 8 + i < (L.length + 7) / 8
  · rw [List.getElem?_range h, List.getElem?_range (by rw [List.length_drop]; omega)]
    simp only [Option.map_some, Option.some.injEq]
    have e : ∀ k, bitAt L (8 * (8 + i) + k) = bitAt (L.drop 64) (8 * i + k) := fun k => by
      unfold bitAt
      rw [List.getD_eq_getElem?_getD, List.getD_eq_getElem?_getD, List.getElem?_drop]
      congr 3
      omega
    have e0 := e 0
    simp only [Nat.add_zero] at e0
    unfold byteAt
    simp only [e, e0]
  · rw [List.getElem?_eq_none (by rw [List.length_range]; omega), List.getElem?_eq_none (by rw [List.length_range, List.length_drop]; omega)]
    rfl
end Go.Proofs.YtdniaingipoggaaDoor
