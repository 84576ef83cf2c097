/-
  PLAIN: what reading bits answers (made by extract.py).
-/
import Derived.Test.YtdniaingipoggaaDoorDHelp
namespace Go.Proofs.YtdniaingipoggaaDoor
open Go.RowKit
theorem stepB_one_nil : stepB ((1 : Nat) : Int) [] = (0, 3, 0) := rfl
theorem stepB_one_cons (x : Bool) (r : List Bool) : stepB ((1 : Nat) : Int) (x :: r) = (x.toNat, 0, 1) := by
  unfold stepB
  rw [if_neg (by omega), if_neg (by simp)]
  cases x <;> rfl
theorem stepB_in (n : Nat) (b : List Bool) (hn : n ≤ 64) (h : n ≤ b.length) : stepB (n : Int) b = (bitsNat (b.take n), 0, n) := by
  unfold stepB
  rw [if_neg (by omega), if_neg (by simpa using h)]
  rfl
theorem stepB_eof (n : Nat) (b : List Bool) (hn : n ≤ 64) (h : b.length < n) : stepB (n : Int) b = (0, 3, 0) := by
  unfold stepB
  rw [if_neg (by omega), if_pos (by simpa using h)]
theorem rest_length' (bs : List Nat) (i : Nat) : ((unpackB bs).drop i).length = 8 * bs.length - i := by rw [List.length_drop, unpackB_length]
theorem drop_next {bs : List Nat} {i : Nat} {x : Bool} {r : List Bool} (h : (unpackB bs).drop i = x :: r) : (unpackB bs).drop (i + 1) = r ∧ i + 1 ≤ 8 * bs.length := by
  have h1 := congrArg List.length h
  rw [rest_length'] at h1
  simp only [List.length_cons] at h1
  refine ⟨?_, by omega⟩
  rw [← List.drop_drop, h]; rfl
end Go.Proofs.YtdniaingipoggaaDoor
