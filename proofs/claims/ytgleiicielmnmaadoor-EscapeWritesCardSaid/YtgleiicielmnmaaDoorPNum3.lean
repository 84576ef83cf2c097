/-
  PLAIN: a decimal number in a text, by position.
-/
import Derived.Test.YtgleiicielmnmaaDoorPNum2
import Derived.Test.YtgleiicielmnmaaDoorPEsc2
namespace Go.Proofs.YtgleiicielmnmaaDoor

/-- where the digits from a position on end -/
def digEnd (t : ByteArray) : Nat → Nat → Nat
  | 0, k => k
  | f + 1, k => if k < t.size ∧ 48 ≤ bAt t k ∧ bAt t k ≤ 57 then digEnd t f (k + 1) else k
theorem digEnd_next (t : ByteArray) (f k : Nat) (hf : t.size + 1 ≤ k + f) (h : k < t.size ∧ 48 ≤ bAt t k ∧ bAt t k ≤ 57) : ∃ f', digEnd t f k = digEnd t f' (k + 1) ∧ t.size + 1 ≤ k + 1 + f' := by
  obtain ⟨f, rfl⟩ : ∃ g, f = g + 1 := ⟨f - 1, by omega⟩
  exact ⟨f, by rw [digEnd, if_pos h], by omega⟩
theorem digEnd_stop (t : ByteArray) (f k : Nat) (h : ¬ (k < t.size ∧ 48 ≤ bAt t k ∧ bAt t k ≤ 57)) : digEnd t f k = k := by
  cases f with
  | zero => rfl
  | succ f => rw [digEnd, if_neg h]
theorem digEnd_spec (t : ByteArray) : ∀ f k, k ≤ t.size → k ≤ digEnd t f k ∧ digEnd t f k ≤ t.size ∧ ∀ j, k ≤ j → j < digEnd t f k → 48 ≤ bAt t j ∧ bAt t j ≤ 57
  | 0, k, h => ⟨Nat.le_refl _, h, fun j h1 h2 => absurd h1 (Nat.not_le.2 h2)⟩
  | f + 1, k, h => by
    by_cases hc : k < t.size ∧ 48 ≤ bAt t k ∧ bAt t k ≤ 57
    · obtain ⟨h1, h2, h3⟩ := digEnd_spec t f (k + 1) (by omega)
      rw [digEnd, if_pos hc]
      refine ⟨by omega, h2, fun j hj hlt => ?_⟩
      by_cases hjk : j = k
      · subst hjk; exact hc.2
      · exact h3 j (by omega) hlt
    · rw [digEnd, if_neg hc]
      exact ⟨Nat.le_refl _, h, fun j h1 h2 => absurd h1 (Nat.not_le.2 h2)⟩
theorem cut_digs (t : ByteArray) (k n : Nat) (h : ∀ j, k ≤ j → j < k + n → 48 ≤ bAt t j ∧ bAt t j ≤ 57) : Digs (cut t k n) := by
  intro c hc
  simp only [cut, List.mem_map, List.mem_range] at hc
  obtain ⟨j, hj, rfl⟩ := hc
  exact h _ (by omega) (by omega)
theorem cut_length (t : ByteArray) (k n : Nat) : (cut t k n).length = n := by simp [cut]
theorem cut_snoc (t : ByteArray) (k n : Nat) : cut t k (n + 1) = cut t k n ++ [bAt t (k + n)] := by
  rw [cut_add t k n 1]
  simp [cut]
theorem cut_cons (t : ByteArray) (k n : Nat) : cut t k (n + 1) = bAt t k :: cut t (k + 1) n := by
  rw [Nat.add_comm n 1, cut_add t k 1 n]
  simp [cut]
/-- is there a sign at the offset? -/
def sgn (t : ByteArray) (a : Nat) : Bool := decide (a < t.size ∧ bAt t a = 45)
def fromOf (t : ByteArray) (a : Nat) : Nat := if sgn t a = true then a + 1 else a
def endOf (t : ByteArray) (a : Nat) : Nat := digEnd t (t.size + 1) (fromOf t a)
/-- what Int answers at an offset of the text -/
def intV (t : ByteArray) (a : Nat) : Option (Int × Nat) := (intS (sgn t a) (cut t (fromOf t a) (endOf t a - fromOf t a))).map fun v => (v, endOf t a)
def intR : Option (Int × Nat) → Value
  | some p => .tuple #[.int .i64 p.1, .int .i64 ((p.2 : Nat) : Int), .int .i64 0]
  | none => .tuple #[.int .i64 0, .int .i64 0, .int .i64 24]
theorem from_le (t : ByteArray) (a : Nat) (h : a ≤ t.size) : a ≤ fromOf t a ∧ fromOf t a ≤ t.size := by
  unfold fromOf sgn
  by_cases hc : a < t.size ∧ bAt t a = 45
  · rw [if_pos (by simpa using hc)]; omega
  · rw [if_neg (by simpa using hc)]; omega
theorem text_of (t : ByteArray) (a : Nat) (h : a ≤ t.size) : (t.extract a (endOf t a)).data.toList = u8L (signed (sgn t a) (cut t (fromOf t a) (endOf t a - fromOf t a))) := by
  have hf := from_le t a h
  obtain ⟨h1, h2, _⟩ := digEnd_spec t (t.size + 1) (fromOf t a) hf.2
  have e : a + (endOf t a - a) = endOf t a := by unfold endOf; omega
  have hc := cut_data t a (endOf t a - a) (by unfold endOf; omega)
  rw [e] at hc
  rw [hc]
  congr 1
  unfold fromOf at hf ⊢
  by_cases hs : sgn t a = true
  · rw [if_pos hs] at hf ⊢
    rw [hs]
    have hb : bAt t a = 45 := by
      unfold sgn at hs
      exact (of_decide_eq_true hs).2
    have e2 : endOf t a - a = (endOf t a - (a + 1)) + 1 := by
      unfold endOf fromOf
      rw [if_pos hs]
      unfold fromOf at h1
      rw [if_pos hs] at h1
      omega
    rw [e2, cut_cons, hb]
    rfl
  · rw [if_neg hs]
    have hs' : sgn t a = false := by simpa using hs
    rw [hs']
    rfl
theorem digs_of (t : ByteArray) (a : Nat) (h : a ≤ t.size) : Digs (cut t (fromOf t a) (endOf t a - fromOf t a)) := by
  have hf := from_le t a h
  obtain ⟨h1, h2, h3⟩ := digEnd_spec t (t.size + 1) (fromOf t a) hf.2
  refine cut_digs _ _ _ fun j hj hlt => h3 j hj ?_
  unfold endOf at hlt
  omega
theorem intV_parsed (t : ByteArray) (a : Nat) (h : a ≤ t.size) : intV t a = (parsed (t.extract a (endOf t a)).data.toList).map fun v => (v, endOf t a) := by
  rw [text_of t a h, parsed_eq _ _ (digs_of t a h)]
  rfl
end Go.Proofs.YtgleiicielmnmaaDoor
