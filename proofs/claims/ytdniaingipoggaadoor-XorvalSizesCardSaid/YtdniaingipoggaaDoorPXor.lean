/-
  PLAIN: xorval (chapter 6): windows, writing and reading. No program in sight.
-/
import Derived.Test.YtdniaingipoggaaDoorDRound
import Derived.IntWalk
import Derived.Lib.BitFns
import Derived.Lib.TrailingZeros
namespace Go.Proofs.YtdniaingipoggaaDoor
open Go.RowKit

/-- the numbers of leading and trailing zeros of a word -/
def lz (x : Nat) : Nat := 64 - Lib.bitLen x
def tz (x : Nat) : Nat := Lib.ctz 64 x
theorem bitLenAux_bounds : ∀ (f x : Nat), x < 2 ^ f → x ≠ 0 → 1 ≤ Lib.bitLenAux f x ∧ Lib.bitLenAux f x ≤ f ∧ 2 ^ (Lib.bitLenAux f x - 1) ≤ x ∧ x < 2 ^ Lib.bitLenAux f x
  | 0, x, h, h0 => by simp at h; omega
  | f + 1, x, h, h0 => by
    simp only [Lib.bitLenAux, if_neg h0]
    by_cases h1 : x / 2 = 0
    · have hx : x = 1 := by omega
      subst hx
      have e : Lib.bitLenAux f (1 / 2) = 0 := by cases f <;> simp [Lib.bitLenAux]
      rw [e]
      simp
    · obtain ⟨a, b, c, d⟩ := bitLenAux_bounds f (x / 2) (by rw [Nat.pow_succ] at h; omega) h1
      obtain ⟨L, hL⟩ : ∃ L, Lib.bitLenAux f (x / 2) = L + 1 := ⟨Lib.bitLenAux f (x / 2) - 1, by omega⟩
      rw [hL] at b c d ⊢
      simp only [Nat.add_sub_cancel] at c
      refine ⟨by omega, by omega, ?_, ?_⟩
      · rw [show 1 + (L + 1) - 1 = L + 1 by omega, Nat.pow_succ]; omega
      · rw [show 1 + (L + 1) = (L + 1) + 1 by omega, Nat.pow_succ]; omega
theorem bitLen_bounds {x : Nat} (h : x < 18446744073709551616) (h0 : x ≠ 0) : 1 ≤ Lib.bitLen x ∧ Lib.bitLen x ≤ 64 ∧ 2 ^ (Lib.bitLen x - 1) ≤ x ∧ x < 2 ^ Lib.bitLen x := bitLenAux_bounds 64 x h h0
theorem bitLen_le64 (x : Nat) : Lib.bitLen x ≤ 64 := by
  have : ∀ f y, Lib.bitLenAux f y ≤ f := by
    intro f
    induction f with
    | zero => intro y; simp [Lib.bitLenAux]
    | succ f ih => intro y; simp only [Lib.bitLenAux]; split <;> (try omega); have := ih (y / 2); omega
  exact this 64 x
theorem lz_le (x : Nat) : lz x ≤ 64 := by unfold lz; omega
theorem tz_spec {x : Nat} (h : x < 18446744073709551616) (h0 : x ≠ 0) : (∃ m, x = 2 ^ tz x * (2 * m + 1)) ∧ tz x < 64 := by
  unfold tz Lib.ctz
  rw [if_neg h0]
  obtain ⟨m, hm, hk⟩ := Lib.ctzFrom_spec 64 x (by omega) h
  exact ⟨⟨m, hm⟩, hk⟩
theorem lz_tz {x : Nat} (h : x < 18446744073709551616) (h0 : x ≠ 0) : lz x + tz x ≤ 63 := by
  obtain ⟨a, b, c, d⟩ := bitLen_bounds h h0
  obtain ⟨⟨m, hm⟩, hk⟩ := tz_spec h h0
  have h1 : 2 ^ tz x ≤ x := by
    have : 2 ^ tz x ≤ 2 ^ tz x * (2 * m + 1) := Nat.le_mul_of_pos_right _ (by omega)
    omega
  have h2 : tz x < Lib.bitLen x := (Nat.pow_lt_pow_iff_right (by decide)).1 (Nat.lt_of_le_of_lt h1 d)
  unfold lz
  omega
/-- a window that a word fits holds all of its bits -/
theorem win_inside {x a b : Nat} (h : x < 18446744073709551616) (h0 : x ≠ 0) (ha : a ≤ lz x) (hb : b ≤ tz x) : x / 2 ^ b < 2 ^ (64 - a - b) ∧ x / 2 ^ b * 2 ^ b = x ∧ x / 2 ^ b ≠ 0 := by
  obtain ⟨c1, c2, c3, c4⟩ := bitLen_bounds h h0
  obtain ⟨⟨m, hm⟩, hk⟩ := tz_spec h h0
  have hlt := lz_tz h h0
  have hl : x < 2 ^ (64 - a) := Nat.lt_of_lt_of_le c4 (Nat.pow_le_pow_right (by decide) (by unfold lz at ha; omega))
  have hdvd : x / 2 ^ b * 2 ^ b = x := by
    apply Nat.div_mul_cancel
    rw [hm, show tz x = b + (tz x - b) by omega, Nat.pow_add, Nat.mul_assoc]
    exact Nat.dvd_mul_right _ _
  refine ⟨?_, hdvd, fun e => ?_⟩
  · apply Nat.div_lt_of_lt_mul
    rw [← Nat.pow_add, show b + (64 - a - b) = 64 - a by omega]
    exact hl
  · rw [e, Nat.zero_mul] at hdvd
    exact h0 hdvd.symm
/-- the window of no value; a window is its numbers of leading and trailing bits -/
def win0 : Nat × Nat := (0, 64)
def okWin (s : Nat × Nat) : Prop := s = win0 ∨ s.1 + s.2 ≤ 63
theorem okWin_le {s : Nat × Nat} (h : okWin s) : s.1 + s.2 ≤ 64 := by
  rcases h with rfl | h
  · simp [win0]
  · omega
def fitsX (s : Nat × Nat) (x : Nat) : Bool := decide (s.1 ≤ lz x) && decide (s.2 ≤ tz x)
theorem fitsX_none {x : Nat} (h : x < 18446744073709551616) (h0 : x ≠ 0) : fitsX win0 x = false := by
  have := (tz_spec h h0).2
  unfold fitsX win0
  simp; omega
/-- the window behind a difference -/
def newX (s : Nat × Nat) (x : Nat) : Nat × Nat := if x = 0 then s else if fitsX s x then s else (lz x, tz x)
theorem newX_ok {s : Nat × Nat} {x : Nat} (hs : okWin s) (h : x < 18446744073709551616) : okWin (newX s x) := by
  unfold newX
  split
  · exact hs
  · split
    · exact hs
    · exact .inr (lz_tz h ‹_›)
def headX (s : Nat × Nat) (x : Nat) : List Bool := if fitsX s x then [true, false] else [true, true] ++ fieldBits (lz x) 6 ++ fieldBits (63 - lz x - tz x) 6
/-- the bits of a difference -/
def bitsX (s : Nat × Nat) (x : Nat) : List Bool := if x = 0 then [false] else headX s x ++ fieldBits (x / 2 ^ (newX s x).2) (64 - (newX s x).1 - (newX s x).2)
theorem bitsX_le (s : Nat × Nat) (x : Nat) : (bitsX s x).length ≤ 78 := by
  unfold bitsX headX
  split
  · simp
  · split <;> simp only [List.length_append, fieldBits_length, List.length_cons, List.length_nil] <;> omega
/-- the bits of values behind a value -/
def encX : Nat × Nat → Nat → List Nat → List Bool
  | _, _, [] => []
  | s, p, v :: r => bitsX s (v ^^^ p) ++ encX (newX s (v ^^^ p)) v r
def enc6 : List Nat → List Bool
  | [] => []
  | v :: r => fieldBits v 64 ++ encX win0 v r
theorem encX_le : ∀ (l : List Nat) (s : Nat × Nat) (p : Nat), (encX s p l).length ≤ 78 * l.length
  | [], _, _ => by simp [encX]
  | v :: r, s, p => by
    have := bitsX_le s (v ^^^ p)
    have := encX_le r (newX s (v ^^^ p)) v
    simp only [encX, List.length_append, List.length_cons]
    omega
theorem enc6_length (l : List Nat) : (enc6 l).length ≤ 78 * l.length := by
  cases l with
  | nil => simp [enc6]
  | cons v r => have := encX_le r win0 v; simp only [enc6, List.length_append, fieldBits_length, List.length_cons]; omega
/-- a difference that is read: the word, the error, how many bits it took, the window behind it -/
def getX (s : Nat × Nat) (b : List Bool) : Nat × Nat × Nat × (Nat × Nat) :=
  match b with
  | [] => (0, 3, 0, s)
  | false :: _ => (0, 0, 1, s)
  | true :: [] => (0, 3, 1, s)
  | true :: false :: r =>
    if s = win0 then (0, 8, 2, s) else
    if r.length < 64 - s.1 - s.2 then (0, 3, 2, s) else
    if bitsNat (r.take (64 - s.1 - s.2)) = 0 then (0, 8, 2 + (64 - s.1 - s.2), s) else
    (bitsNat (r.take (64 - s.1 - s.2)) * 2 ^ s.2, 0, 2 + (64 - s.1 - s.2), s)
  | true :: true :: r =>
    if r.length < 6 then (0, 3, 2, s) else
    if r.length < 12 then (0, 3, 8, s) else
    if 63 < bitsNat (r.take 6) + bitsNat ((r.drop 6).take 6) then (0, 8, 14, s) else
    if r.length < 13 + bitsNat ((r.drop 6).take 6) then (0, 3, 14, s) else
    if bitsNat ((r.drop 12).take (1 + bitsNat ((r.drop 6).take 6))) = 0 then (0, 8, 15 + bitsNat ((r.drop 6).take 6), s) else
    if lz (bitsNat ((r.drop 12).take (1 + bitsNat ((r.drop 6).take 6))) * 2 ^ (63 - bitsNat (r.take 6) - bitsNat ((r.drop 6).take 6))) ≠ bitsNat (r.take 6) ∨
        tz (bitsNat ((r.drop 12).take (1 + bitsNat ((r.drop 6).take 6))) * 2 ^ (63 - bitsNat (r.take 6) - bitsNat ((r.drop 6).take 6))) ≠ 63 - bitsNat (r.take 6) - bitsNat ((r.drop 6).take 6) ∨
        fitsX s (bitsNat ((r.drop 12).take (1 + bitsNat ((r.drop 6).take 6))) * 2 ^ (63 - bitsNat (r.take 6) - bitsNat ((r.drop 6).take 6))) = true then (0, 8, 15 + bitsNat ((r.drop 6).take 6), s) else
    (bitsNat ((r.drop 12).take (1 + bitsNat ((r.drop 6).take 6))) * 2 ^ (63 - bitsNat (r.take 6) - bitsNat ((r.drop 6).take 6)), 0, 15 + bitsNat ((r.drop 6).take 6), (bitsNat (r.take 6), 63 - bitsNat (r.take 6) - bitsNat ((r.drop 6).take 6)))
theorem bitsNat_lt' {l : List Bool} {n : Nat} (h : l.length ≤ n) : bitsNat l < 2 ^ n := Nat.lt_of_lt_of_le (bitsNat_lt l) (Nat.pow_le_pow_right (by decide) h)
theorem field_take {b : List Bool} {n : Nat} (h : n ≤ b.length) : fieldBits (bitsNat (b.take n)) n = b.take n := by
  have := bits_inv (b.take n)
  rwa [List.length_take, Nat.min_eq_left h] at this
theorem win_lt {u a t : Nat} (hu : u < 2 ^ (64 - a - t)) (h : a + t ≤ 63) : u * 2 ^ t < 18446744073709551616 := by
  have h1 : u * 2 ^ t < 2 ^ (64 - a - t) * 2 ^ t := Nat.mul_lt_mul_of_pos_right hu (Nat.pow_pos (by decide))
  rw [← Nat.pow_add] at h1
  have h2 : 2 ^ (64 - a - t + t) ≤ 2 ^ 64 := Nat.pow_le_pow_right (by decide) (by omega)
  omega
theorem win_fits {u a t : Nat} (hu : u < 2 ^ (64 - a - t)) (h0 : u ≠ 0) (h : a + t ≤ 63) : fitsX (a, t) (u * 2 ^ t) = true := by
  have hx := win_lt hu h
  have hx0 : u * 2 ^ t ≠ 0 := Nat.mul_ne_zero h0 (Nat.ne_of_gt (Nat.pow_pos (by decide)))
  obtain ⟨c1, c2, c3, c4⟩ := bitLen_bounds hx hx0
  obtain ⟨⟨m, hm⟩, hk⟩ := tz_spec hx hx0
  have h1 : u * 2 ^ t < 2 ^ (64 - a) := by
    have h1 : u * 2 ^ t < 2 ^ (64 - a - t) * 2 ^ t := Nat.mul_lt_mul_of_pos_right hu (Nat.pow_pos (by decide))
    rw [← Nat.pow_add, show 64 - a - t + t = 64 - a by omega] at h1
    exact h1
  have h2 : Lib.bitLen (u * 2 ^ t) - 1 < 64 - a := (Nat.pow_lt_pow_iff_right (by decide)).1 (Nat.lt_of_le_of_lt c3 h1)
  have h3 : t ≤ tz (u * 2 ^ t) := by
    rcases Nat.lt_or_ge (tz (u * 2 ^ t)) t with hlt | hge
    · exfalso
      obtain ⟨d, hd⟩ : ∃ d, t = tz (u * 2 ^ t) + (d + 1) := ⟨t - tz (u * 2 ^ t) - 1, by omega⟩
      have e : 2 ^ tz (u * 2 ^ t) * (u * 2 ^ (d + 1)) = 2 ^ tz (u * 2 ^ t) * (2 * m + 1) := by
        rw [← hm]
        have : 2 ^ t = 2 ^ tz (u * 2 ^ t) * 2 ^ (d + 1) := by rw [← Nat.pow_add, ← hd]
        rw [Nat.mul_left_comm, ← this]
      have e2 := Nat.eq_of_mul_eq_mul_left (Nat.pow_pos (by decide)) e
      rw [Nat.pow_succ, ← Nat.mul_assoc] at e2
      omega
    · exact hge
  unfold fitsX lz
  simp only [Bool.and_eq_true, decide_eq_true_eq]
  exact ⟨by omega, h3⟩
/-- what a difference that was read tells -/
theorem getX_bounds (s : Nat × Nat) (b : List Bool) (hs : okWin s) : (getX s b).2.2.1 ≤ b.length ∧ ((getX s b).2.1 = 0 ∨ (getX s b).2.1 = 3 ∨ (getX s b).2.1 = 8) ∧ (getX s b).1 < 18446744073709551616 ∧ okWin (getX s b).2.2.2 := by
  unfold getX
  split
  · exact ⟨Nat.le_refl _, by simp, by simp, hs⟩
  · exact ⟨by simp, by simp, by simp, hs⟩
  · exact ⟨by simp, by simp, by simp, hs⟩
  · split
    · exact ⟨by simp, by simp, by simp, hs⟩
    · rename_i r hne
      have hs' : s.1 + s.2 ≤ 63 := hs.resolve_left hne
      split
      · exact ⟨by simp, by simp, by simp, hs⟩
      · split
        · exact ⟨by simp only [List.length_cons]; omega, by simp, by simp, hs⟩
        · exact ⟨by simp only [List.length_cons]; omega, by simp, win_lt (a := s.1) (bitsNat_lt' (List.length_take_le _ _)) hs', hs⟩
  · rename_i r
    have hy : bitsNat ((r.drop 6).take 6) < 2 ^ 6 := bitsNat_lt' (List.length_take_le _ _)
    have ha : bitsNat (r.take 6) < 2 ^ 6 := bitsNat_lt' (List.length_take_le _ _)
    have hu : bitsNat ((r.drop 12).take (1 + bitsNat ((r.drop 6).take 6))) < 2 ^ (1 + bitsNat ((r.drop 6).take 6)) := bitsNat_lt' (List.length_take_le _ _)
    generalize bitsNat ((r.drop 6).take 6) = y at *
    generalize bitsNat (r.take 6) = a at *
    generalize bitsNat ((r.drop 12).take (1 + y)) = u at *
    split
    · exact ⟨by simp, by simp, by simp, hs⟩
    · split
      · exact ⟨by simp only [List.length_cons]; omega, by simp, by simp, hs⟩
      · split
        · exact ⟨by simp only [List.length_cons]; omega, by simp, by simp, hs⟩
        · split
          · exact ⟨by simp only [List.length_cons]; omega, by simp, by simp, hs⟩
          · split
            · exact ⟨by simp only [List.length_cons]; omega, by simp, by simp, hs⟩
            · split
              · exact ⟨by simp only [List.length_cons]; omega, by simp, by simp, hs⟩
              · refine ⟨by simp only [List.length_cons]; omega, by simp, ?_, .inr (by simp only; omega)⟩
                refine win_lt (a := a) ?_ (by omega)
                rwa [show 64 - a - (63 - a - y) = 1 + y by omega]
theorem getX_sound {s s' : Nat × Nat} {b : List Bool} {x m : Nat} (hs : okWin s) (h : getX s b = (x, 0, m, s')) : b.take m = bitsX s x ∧ s' = newX s x := by
  unfold getX at h
  split at h
  · simp at h
  · simp only [Prod.mk.injEq, true_and] at h
    obtain ⟨rfl, rfl, rfl⟩ := h
    simp [bitsX, newX]
  · simp at h
  · split at h
    · simp at h
    · split at h
      · simp at h
      · split at h
        · simp at h
        · rename_i r hne hl hu0
          have hs' : s.1 + s.2 ≤ 63 := hs.resolve_left hne
          simp only [Prod.mk.injEq, true_and] at h
          obtain ⟨rfl, rfl, rfl⟩ := h
          have hu : bitsNat (r.take (64 - s.1 - s.2)) < 2 ^ (64 - s.1 - s.2) := bitsNat_lt' (List.length_take_le _ _)
          have hf : fitsX s (bitsNat (r.take (64 - s.1 - s.2)) * 2 ^ s.2) = true := win_fits (a := s.1) hu hu0 hs'
          have hx0 : bitsNat (r.take (64 - s.1 - s.2)) * 2 ^ s.2 ≠ 0 := Nat.mul_ne_zero hu0 (Nat.ne_of_gt (Nat.pow_pos (by decide)))
          have hn : newX s (bitsNat (r.take (64 - s.1 - s.2)) * 2 ^ s.2) = s := by unfold newX; rw [if_neg hx0, if_pos hf]
          refine ⟨?_, hn.symm⟩
          unfold bitsX headX
          rw [if_neg hx0, if_pos hf, hn, Nat.mul_div_cancel _ (Nat.pow_pos (by decide)), field_take (by omega), show 2 + (64 - s.1 - s.2) = (64 - s.1 - s.2) + 1 + 1 by omega]
          rfl
  · rename_i r
    split at h
    · simp at h
    · rename_i hl6
      split at h
      · simp at h
      · rename_i hl12
        have hfa : fieldBits (bitsNat (r.take 6)) 6 = r.take 6 := field_take (by omega)
        have hfy : fieldBits (bitsNat ((r.drop 6).take 6)) 6 = (r.drop 6).take 6 := field_take (by rw [List.length_drop]; omega)
        obtain ⟨a, haa⟩ : ∃ a, a = bitsNat (r.take 6) := ⟨_, rfl⟩
        obtain ⟨y, hyy⟩ : ∃ y, y = bitsNat ((r.drop 6).take 6) := ⟨_, rfl⟩
        rw [← haa] at hfa h
        rw [← hyy] at hfy h
        split at h
        · simp at h
        · rename_i hay
          split at h
          · simp at h
          · rename_i hl
            have hfu : fieldBits (bitsNat ((r.drop 12).take (1 + y))) (1 + y) = (r.drop 12).take (1 + y) := field_take (by rw [List.length_drop]; omega)
            obtain ⟨u, huu⟩ : ∃ u, u = bitsNat ((r.drop 12).take (1 + y)) := ⟨_, rfl⟩
            rw [← huu] at hfu h
            split at h
            · simp at h
            · rename_i hu0
              split at h
              · simp at h
              · rename_i hc
                simp only [not_or, Decidable.not_not, Bool.not_eq_true] at hc
                obtain ⟨hc1, hc2, hc3⟩ := hc
                simp only [Prod.mk.injEq, true_and] at h
                obtain ⟨rfl, rfl, rfl⟩ := h
                obtain ⟨x, hx⟩ : ∃ x, x = u * 2 ^ (63 - a - y) := ⟨_, rfl⟩
                have hdiv : x / 2 ^ (63 - a - y) = u := by rw [hx]; exact Nat.mul_div_cancel _ (Nat.pow_pos (by decide))
                have hx0 : x ≠ 0 := by rw [hx]; exact Nat.mul_ne_zero hu0 (Nat.ne_of_gt (Nat.pow_pos (by decide)))
                rw [← hx] at hc1 hc2 hc3 ⊢
                have hn : newX s x = (a, 63 - a - y) := by unfold newX; rw [if_neg hx0, if_neg (by simp [hc3]), hc1, hc2]
                refine ⟨?_, hn.symm⟩
                unfold bitsX headX
                rw [if_neg hx0, if_neg (by simp [hc3]), hn]
                simp only
                rw [hc1, hc2, hdiv, show 63 - a - (63 - a - y) = y by omega, show 64 - a - (63 - a - y) = 1 + y by omega, hfa, hfy, hfu]
                rw [show 15 + y = (6 + (6 + (1 + y))) + 1 + 1 by omega]
                simp only [List.take_succ_cons, List.cons_append, List.nil_append, List.append_assoc]
                rw [List.take_add, List.take_add, List.drop_drop]
theorem take_left {l r : List Bool} {n : Nat} (h : l.length = n) : (l ++ r).take n = l := List.take_left' h
theorem drop_left {l r : List Bool} {n : Nat} (h : l.length = n) : (l ++ r).drop n = r := List.drop_left' h
/-- a difference is read back -/
theorem getX_enc {s : Nat × Nat} {x : Nat} (hs : okWin s) (hx : x < 18446744073709551616) (r : List Bool) : getX s (bitsX s x ++ r) = (x, 0, (bitsX s x).length, newX s x) := by
  by_cases h0 : x = 0
  · subst h0
    simp [bitsX, newX, getX]
  · have hlt := lz_tz hx h0
    by_cases hf : fitsX s x = true
    · have hne : s ≠ win0 := fun e => by rw [e, fitsX_none hx h0] at hf; cases hf
      have hs' : s.1 + s.2 ≤ 63 := hs.resolve_left hne
      have hfit := hf
      unfold fitsX at hfit
      simp only [Bool.and_eq_true, decide_eq_true_eq] at hfit
      obtain ⟨i1, i2, i3⟩ := win_inside hx h0 hfit.1 hfit.2
      have hn : newX s x = s := by unfold newX; rw [if_neg h0, if_pos hf]
      have hb : bitsX s x = true :: false :: fieldBits (x / 2 ^ s.2) (64 - s.1 - s.2) := by
        unfold bitsX headX
        rw [if_neg h0, if_pos hf, hn]
        rfl
      have hnat : bitsNat (fieldBits (x / 2 ^ s.2) (64 - s.1 - s.2)) = x / 2 ^ s.2 := by rw [bitsNat_field, Nat.mod_eq_of_lt i1]
      rw [hb, hn]
      unfold getX
      simp only [List.cons_append]
      rw [take_left (fieldBits_length _ _), hnat, if_neg hne, if_neg (by rw [List.length_append, fieldBits_length]; omega), if_neg i3, i2]
      simp only [List.length_cons, fieldBits_length]
      congr 3
      omega
    · have hf' : fitsX s x = false := by simpa using hf
      obtain ⟨i1, i2, i3⟩ := win_inside hx h0 (Nat.le_refl (lz x)) (Nat.le_refl (tz x))
      have hn : newX s x = (lz x, tz x) := by unfold newX; rw [if_neg h0, if_neg hf]
      obtain ⟨a, ha⟩ : ∃ a, a = lz x := ⟨_, rfl⟩
      obtain ⟨t, ht⟩ : ∃ t, t = tz x := ⟨_, rfl⟩
      have hb : bitsX s x = true :: true :: (fieldBits a 6 ++ (fieldBits (63 - a - t) 6 ++ fieldBits (x / 2 ^ t) (64 - a - t))) := by
        unfold bitsX headX
        rw [if_neg h0, if_neg hf, hn, ha, ht]
        simp
      rw [← ha, ← ht] at hlt i1 hn
      rw [← ht] at i2 i3
      have hp6 : (2 : Nat) ^ 6 = 64 := by decide
      have hna : bitsNat (fieldBits a 6) = a := by rw [bitsNat_field, Nat.mod_eq_of_lt (by omega)]
      have hny : bitsNat (fieldBits (63 - a - t) 6) = 63 - a - t := by rw [bitsNat_field, Nat.mod_eq_of_lt (by omega)]
      obtain ⟨y, hy⟩ : ∃ y, y = 63 - a - t := ⟨_, rfl⟩
      rw [← hy] at hny hb
      have h64 : 64 - a - t = 1 + y := by omega
      have h63 : 63 - a - y = t := by omega
      rw [h64] at i1 hb
      have hnu : bitsNat (fieldBits (x / 2 ^ t) (1 + y)) = x / 2 ^ t := by rw [bitsNat_field, Nat.mod_eq_of_lt i1]
      rw [hb, hn]
      unfold getX
      simp only [List.cons_append, List.append_assoc]
      obtain ⟨R, hR⟩ : ∃ R, R = fieldBits a 6 ++ (fieldBits y 6 ++ (fieldBits (x / 2 ^ t) (1 + y) ++ r)) := ⟨_, rfl⟩
      have r1 : R.take 6 = fieldBits a 6 := by rw [hR]; exact take_left (fieldBits_length _ _)
      have r2 : (R.drop 6).take 6 = fieldBits y 6 := by rw [hR, drop_left (fieldBits_length _ _)]; exact take_left (fieldBits_length _ _)
      have r3 : (R.drop 12).take (1 + y) = fieldBits (x / 2 ^ t) (1 + y) := by
        rw [show 12 = 6 + 6 from rfl, ← List.drop_drop, hR, drop_left (fieldBits_length _ _), drop_left (fieldBits_length _ _)]
        exact take_left (fieldBits_length _ _)
      have r4 : R.length = 13 + y + r.length := by rw [hR]; simp only [List.length_append, fieldBits_length]; omega
      rw [← hR, r1, hna, r2, hny, r3, hnu, h63, i2, if_neg (by omega), if_neg (by omega), if_neg (by omega), if_neg (by omega), if_neg i3, if_neg (by simp [ha, ht, hf'])]
      simp only [List.length_cons, List.length_append, fieldBits_length]
      congr 3
      omega
/-- the read of n values behind the value p -/
def decX : Nat → Nat × Nat → Nat → List Bool → Nat × List Nat × List Bool
  | 0, _, _, b => (0, [], b)
  | n + 1, s, p, b =>
    if (getX s b).2.1 ≠ 0 then ((getX s b).2.1, [], b.drop (getX s b).2.2.1) else
    ((decX n (getX s b).2.2.2 (p ^^^ (getX s b).1) (b.drop (getX s b).2.2.1)).1,
      (p ^^^ (getX s b).1) :: (decX n (getX s b).2.2.2 (p ^^^ (getX s b).1) (b.drop (getX s b).2.2.1)).2.1,
      (decX n (getX s b).2.2.2 (p ^^^ (getX s b).1) (b.drop (getX s b).2.2.1)).2.2)
theorem decX_succ {n : Nat} {s s' : Nat × Nat} {p : Nat} {b : List Bool} {x e m : Nat} (h : getX s b = (x, e, m, s')) :
    decX (n + 1) s p b = if e ≠ 0 then (e, [], b.drop m) else ((decX n s' (p ^^^ x) (b.drop m)).1, (p ^^^ x) :: (decX n s' (p ^^^ x) (b.drop m)).2.1, (decX n s' (p ^^^ x) (b.drop m)).2.2) := by
  rw [decX, h]
def dec6 (n : Nat) (b : List Bool) : Nat × List Nat × List Bool :=
  if n = 0 then (0, [], b) else if b.length < 64 then (3, [], b) else
  ((decX (n - 1) win0 (bitsNat (b.take 64)) (b.drop 64)).1,
    if (decX (n - 1) win0 (bitsNat (b.take 64)) (b.drop 64)).1 = 0 then bitsNat (b.take 64) :: (decX (n - 1) win0 (bitsNat (b.take 64)) (b.drop 64)).2.1 else [],
    (decX (n - 1) win0 (bitsNat (b.take 64)) (b.drop 64)).2.2)
theorem xor_lt64 {a b : Nat} (ha : a < 18446744073709551616) (hb : b < 18446744073709551616) : a ^^^ b < 18446744073709551616 := Nat.xor_lt_two_pow (n := 64) ha hb
theorem xor_back (p x : Nat) : (p ^^^ x) ^^^ p = x := by rw [Nat.xor_comm p x, Nat.xor_assoc, Nat.xor_self, Nat.xor_zero]
theorem xor_forth (p v : Nat) : p ^^^ (v ^^^ p) = v := by rw [Nat.xor_comm v p, ← Nat.xor_assoc, Nat.xor_self, Nat.zero_xor]
theorem decX_sound : ∀ (n : Nat) (s : Nat × Nat) (p : Nat) (b : List Bool) (vs : List Nat) (r : List Bool), okWin s → p < 18446744073709551616 → decX n s p b = (0, vs, r) → b = encX s p vs ++ r ∧ vs.length = n ∧ ∀ v ∈ vs, v < 18446744073709551616 := by
  intro n
  induction n with
  | zero =>
    intro s p b vs r _ _ h
    simp only [decX, Prod.mk.injEq, true_and] at h
    obtain ⟨rfl, rfl⟩ := h
    exact ⟨rfl, rfl, by simp⟩
  | succ n ih =>
    intro s p b vs r hs hp h
    obtain ⟨⟨x, e, m, s'⟩, hc⟩ : ∃ c, getX s b = c := ⟨_, rfl⟩
    have hbd := getX_bounds s b hs
    rw [hc] at hbd
    rw [decX_succ hc] at h
    split at h
    · rename_i he; simp only [Prod.mk.injEq] at h; exact absurd h.1 he
    · rename_i he
      have he0 : e = 0 := by simpa using he
      subst he0
      obtain ⟨c1, c2⟩ := getX_sound hs hc
      obtain ⟨⟨e', ts', r'⟩, hq⟩ : ∃ q, decX n s' (p ^^^ x) (b.drop m) = q := ⟨_, rfl⟩
      rw [hq] at h
      simp only [Prod.mk.injEq] at h
      obtain ⟨rfl, rfl, rfl⟩ := h
      have hpx := xor_lt64 hp hbd.2.2.1
      obtain ⟨i1, i2, i3⟩ := ih _ _ _ _ _ hbd.2.2.2 hpx hq
      refine ⟨?_, by simp [i2], fun v hv => ?_⟩
      · rw [encX, xor_back, List.append_assoc, ← c1, ← c2, ← i1, List.take_append_drop]
      · rcases List.mem_cons.1 hv with rfl | hv
        · exact hpx
        · exact i3 v hv
theorem decX_complete (pad : List Bool) : ∀ (vs : List Nat) (s : Nat × Nat) (p : Nat), okWin s → p < 18446744073709551616 → (∀ v ∈ vs, v < 18446744073709551616) → decX vs.length s p (encX s p vs ++ pad) = (0, vs, pad) := by
  intro vs
  induction vs with
  | nil => intro s p _ _ _; rfl
  | cons v vs ih =>
    intro s p hs hp hv
    have hvI := hv v (by simp)
    have hx := xor_lt64 hvI hp
    have hb : encX s p (v :: vs) ++ pad = bitsX s (v ^^^ p) ++ (encX (newX s (v ^^^ p)) v vs ++ pad) := by rw [encX, List.append_assoc]
    rw [List.length_cons, hb, decX_succ (getX_enc hs hx _)]
    rw [if_neg (by simp), xor_forth, List.drop_left, ih _ v (newX_ok hs hx) hvI (fun u hu => hv u (by simp [hu]))]
theorem dec6_packed (l : List Nat) (hX : ∀ x ∈ l, x ≤ 18446744073709551615) : dec6 l.length ((unpackB (packed (enc6 l))).drop 0) = (0, l, (unpackB (packed (enc6 l))).drop (enc6 l).length) := by
  obtain ⟨L, hL⟩ : ∃ L, L = enc6 l := ⟨_, rfl⟩
  rw [← hL]
  have h1 := bitsFrom_packed L 0 L.length (by omega)
  unfold bitsFrom at h1
  rw [List.drop_zero, List.drop_zero, List.take_length] at h1
  have h2 : unpackB (packed L) = L ++ (unpackB (packed L)).drop L.length := by
    have := List.take_append_drop L.length (unpackB (packed L))
    rw [h1] at this
    exact this.symm
  rw [List.drop_zero]
  obtain ⟨pad, hpad⟩ : ∃ pad, pad = (unpackB (packed L)).drop L.length := ⟨_, rfl⟩
  rw [← hpad] at h2 ⊢
  rw [h2]
  subst hL
  clear h1 h2 hpad
  cases l with
  | nil => simp [dec6, enc6]
  | cons v r =>
    have hv := hX v (by simp)
    have e1 : (enc6 (v :: r) ++ pad).take 64 = fieldBits v 64 := by simp only [enc6, List.append_assoc]; rw [List.take_left' (by rw [fieldBits_length])]
    have e2 : (enc6 (v :: r) ++ pad).drop 64 = encX win0 v r ++ pad := by simp only [enc6, List.append_assoc]; rw [List.drop_left' (by rw [fieldBits_length])]
    have e3 : bitsNat ((enc6 (v :: r) ++ pad).take 64) = v := by
      rw [e1, bitsNat_field, Nat.mod_eq_of_lt (by omega)]
    have hl : ¬ (enc6 (v :: r) ++ pad).length < 64 := by simp only [enc6, List.length_append, fieldBits_length]; omega
    unfold dec6
    rw [if_neg (by simp), if_neg hl, e3, e2, List.length_cons, Nat.add_sub_cancel, decX_complete pad r win0 v (.inl rfl) (by omega) (fun s hs => by have := hX s (by simp [hs]); omega)]
    simp
theorem dec6_sound {n : Nat} {b : List Bool} {vs : List Nat} {r : List Bool} (h : dec6 n b = (0, vs, r)) : b = enc6 vs ++ r ∧ vs.length = n := by
  unfold dec6 at h
  split at h
  · rename_i h0
    simp only [Prod.mk.injEq, true_and] at h
    obtain ⟨rfl, rfl⟩ := h
    exact ⟨rfl, h0.symm⟩
  · split at h
    · simp at h
    · rename_i hn hl
      obtain ⟨⟨e, ts, r'⟩, hq⟩ : ∃ q, decX (n - 1) win0 (bitsNat (b.take 64)) (b.drop 64) = q := ⟨_, rfl⟩
      rw [hq] at h
      simp only [Prod.mk.injEq] at h
      obtain ⟨rfl, h2, rfl⟩ := h
      rw [if_pos rfl] at h2
      subst h2
      have hlt : bitsNat (b.take 64) < 2 ^ 64 := bitsNat_lt' (List.length_take_le _ _)
      obtain ⟨i1, i2, i3⟩ := decX_sound _ _ _ _ _ _ (.inl rfl) hlt hq
      refine ⟨?_, by simp only [List.length_cons]; omega⟩
      simp only [enc6, List.append_assoc]
      rw [← i1, field_take (by omega), List.take_append_drop]
theorem dec6_bad {n : Nat} {b : List Bool} (h : (dec6 n b).1 ≠ 0) : (dec6 n b).2.1 = [] := by
  unfold dec6 at *
  split
  · rfl
  · split
    · rfl
    · rename_i hn hl
      rw [if_neg hn, if_neg hl] at h
      simp only at h ⊢
      rw [if_neg h]
theorem dec6_lt {n : Nat} {b : List Bool} {vs : List Nat} {r : List Bool} (h : dec6 n b = (0, vs, r)) : ∀ x ∈ vs, x ≤ 18446744073709551615 := by
  unfold dec6 at h
  split at h
  · simp only [Prod.mk.injEq, true_and] at h
    obtain ⟨rfl, rfl⟩ := h
    simp
  · split at h
    · simp at h
    · obtain ⟨⟨e, ts, r'⟩, hq⟩ : ∃ q, decX (n - 1) win0 (bitsNat (b.take 64)) (b.drop 64) = q := ⟨_, rfl⟩
      rw [hq] at h
      simp only [Prod.mk.injEq] at h
      obtain ⟨rfl, h2, rfl⟩ := h
      rw [if_pos rfl] at h2
      subst h2
      have hlt : bitsNat (b.take 64) < 2 ^ 64 := bitsNat_lt' (List.length_take_le _ _)
      obtain ⟨i1, i2, i3⟩ := decX_sound _ _ _ _ _ _ (.inl rfl) hlt hq
      intro x hx
      rcases List.mem_cons.1 hx with rfl | hx
      · omega
      · have := i3 x hx; omega
/-- chapter 6's laws of sizes -/
theorem encX_append (l m : List Nat) : ∀ (s : Nat × Nat) (p : Nat), ∃ t, encX s p (l ++ m) = encX s p l ++ t := by
  induction l with
  | nil => intro s p; exact ⟨_, rfl⟩
  | cons v r ih =>
    intro s p
    obtain ⟨t, ht⟩ := ih (newX s (v ^^^ p)) v
    exact ⟨t, by rw [List.cons_append, encX, encX, ht, List.append_assoc]⟩
theorem enc6_twice (l m : List Nat) : (enc6 l).length ≤ (enc6 (l ++ m)).length := by
  cases l with
  | nil => simp [enc6]
  | cons v r =>
    obtain ⟨t, ht⟩ := encX_append r m win0 v
    simp only [List.cons_append, enc6, ht, List.length_append]
    omega
theorem encX_rep (x : Nat) (s : Nat × Nat) : ∀ n, encX s x (List.replicate n x) = List.replicate n false
  | 0 => rfl
  | n + 1 => by
    rw [List.replicate_succ, encX, Nat.xor_self]
    have e : newX s 0 = s := by simp [newX]
    have e2 : bitsX s 0 = [false] := by simp [bitsX]
    rw [e, e2, encX_rep x s n, List.replicate_succ]
    rfl
theorem enc6_rep (x n : Nat) : (enc6 (List.replicate n x)).length = if n = 0 then 0 else 63 + n := by
  cases n with
  | zero => rfl
  | succ n => rw [List.replicate_succ, enc6, encX_rep]; simp only [List.length_append, fieldBits_length, List.length_replicate]; simp; omega
theorem encX_mask (m : Nat) : ∀ (l : List Nat) (s : Nat × Nat) (p : Nat), encX s (p ^^^ m) (l.map (· ^^^ m)) = encX s p l
  | [], _, _ => rfl
  | v :: r, s, p => by
    have e : (v ^^^ m) ^^^ (p ^^^ m) = v ^^^ p := by
      rw [Nat.xor_assoc, Nat.xor_comm p m, ← Nat.xor_assoc m m p, Nat.xor_self, Nat.zero_xor]
    rw [List.map_cons, encX, encX, e, encX_mask m r]
theorem enc6_mask (m : Nat) (l : List Nat) : (enc6 (l.map (· ^^^ m))).drop 64 = (enc6 l).drop 64 ∧ (enc6 (l.map (· ^^^ m))).length = (enc6 l).length := by
  cases l with
  | nil => exact ⟨rfl, rfl⟩
  | cons v r =>
    rw [List.map_cons, enc6, enc6, encX_mask]
    exact ⟨by rw [List.drop_left' (fieldBits_length _ _), List.drop_left' (fieldBits_length _ _)], by simp [fieldBits_length]⟩
end Go.Proofs.YtdniaingipoggaaDoor
