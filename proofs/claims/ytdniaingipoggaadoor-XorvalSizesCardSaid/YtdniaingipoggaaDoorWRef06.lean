/-
  WALKS: tsblockref06.inside, outside, zeros.
-/
import Derived.Test.YtdniaingipoggaaDoorWXorA
import Derived.Test.YtdniaingipoggaaDoorWRef01
namespace Go.Proofs.YtdniaingipoggaaDoor
open Go.RowKit

theorem bit_top {x : Nat} (h : x < 18446744073709551616) (h0 : x ≠ 0) : x.testBit (63 - lz x) = true ∧ ∀ j, j < lz x → x.testBit (63 - j) = false := by
  obtain ⟨a, b, c, d⟩ := bitLen_bounds h h0
  have e : 63 - lz x = Lib.bitLen x - 1 := by unfold lz; omega
  constructor
  · rw [e]
    have h1 : x / 2 ^ (Lib.bitLen x - 1) = 1 := by
      apply Nat.div_eq_of_lt_le
      · omega
      · rw [show (1 + 1) * 2 ^ (Lib.bitLen x - 1) = 2 ^ Lib.bitLen x by rw [show Lib.bitLen x = (Lib.bitLen x - 1) + 1 by omega, Nat.pow_succ, Nat.add_sub_cancel]; omega]
        exact d
    have h2 := testBit_toNat x (Lib.bitLen x - 1)
    rw [h1] at h2
    cases hb : x.testBit (Lib.bitLen x - 1)
    · rw [hb] at h2; simp at h2
    · rfl
  · intro j hj
    apply Nat.testBit_lt_two_pow
    exact Nat.lt_of_lt_of_le d (Nat.pow_le_pow_right (by decide) (by unfold lz at hj; omega))
theorem bit_low {x : Nat} (h : x < 18446744073709551616) (h0 : x ≠ 0) : x.testBit (tz x) = true ∧ ∀ j, j < tz x → x.testBit j = false := by
  obtain ⟨⟨m, hm⟩, hk⟩ := tz_spec h h0
  obtain ⟨t, ht⟩ : ∃ t, t = tz x := ⟨_, rfl⟩
  rw [← ht] at hm hk ⊢
  constructor
  · have h1 : x / 2 ^ t = 2 * m + 1 := by rw [hm]; exact Nat.mul_div_cancel_left _ (Nat.pow_pos (by decide))
    have h2 := testBit_toNat x t
    rw [h1] at h2
    cases hb : x.testBit t
    · rw [hb] at h2; simp at h2
    · rfl
  · intro j hj
    obtain ⟨d, hd⟩ : ∃ d, t = j + (d + 1) := ⟨t - j - 1, by omega⟩
    have h1 : x / 2 ^ j = 2 * (2 ^ d * (2 * m + 1)) := by
      rw [hm, hd, Nat.pow_add, Nat.mul_assoc, Nat.mul_div_cancel_left _ (Nat.pow_pos (by decide)), Nat.pow_succ, Nat.mul_comm (2 ^ d) 2, Nat.mul_assoc]
    have h2 := testBit_toNat x j
    rw [h1, Nat.mul_mod_right] at h2
    cases hb : x.testBit j
    · rfl
    · rw [hb] at h2; simp at h2
theorem field_get (x n j : Nat) (h : j < n) : (bools (fieldBits x n))[j]? = some (.bool (x.testBit (n - 1 - j))) := by
  simp [bools, fieldBits, h]
set_option maxHeartbeats 1000000 in
theorem inside_any (x t : Nat) (w : World) (hx : x < 18446744073709551616) (ht : t ≤ 64) : Calls Tryd.prog 57 #[.int .u64 (x : Nat), .int .i64 (t : Nat)] w fun e w' => e = .returned (.int .u64 ((x / 2 ^ t : Nat) : Int)) ∧ w = w' := by
  go_enter Tryd.func57, Tryd.ntmps57
  go_wp2
  go_loop [0, 5] (fun y i => ∃ k : Nat, k ≤ t ∧ i = .int .i64 k ∧ y = .int .u64 ((x / 2 ^ k : Nat) : Int)) (fun _ i => t - (intOf i).toNat)
  case atStart => exact ⟨0, by omega, rfl, by simp⟩
  case round =>
    obtain ⟨k, hk, rfl, rfl⟩ := hrel
    have e : x / 2 ^ (k + 1) = x / 2 ^ k / 2 := by rw [Nat.pow_succ, Nat.div_div_eq_div_mul]
    have hb : x / 2 ^ k ≤ x := Nat.div_le_self _ _
    obtain ⟨y, hy⟩ : ∃ y, y = x / 2 ^ k := ⟨_, rfl⟩
    rw [← hy] at e hb ⊢
    have E := Lib.hid e
    by_cases hlt : k < t
    · have hkt : (k : Int) < t := by omega
      obtain ⟨z, hz⟩ : ∃ z, z = y / 2 := ⟨_, rfl⟩
      have e2 : (y : Int) / 2 = (z : Int) := by omega
      have e3 : IntKind.u64.wrap (z : Int) = (z : Int) := IntWalk.u64_in _ (by omega)
      have HZ := Lib.hid hz
      clear e hy hz hb
      go_wp2
      exact ⟨⟨k + 1, by omega, by go_num, by rw [E.out, ← HZ.out]⟩, by simp [intOf]; omega⟩
    · obtain rfl : k = t := by omega
      have HY := Lib.hid hy
      clear e hy
      go_wp2
      go_ret
      have h9 := HY.out
      subst h9
      exact ⟨rfl, rfl⟩
set_option maxHeartbeats 1000000 in
theorem outside_any (x t : Nat) (w : World) (hx : x * 2 ^ t < 18446744073709551616) (ht : t ≤ 64) : Calls Tryd.prog 55 #[.int .u64 (x : Nat), .int .i64 (t : Nat)] w fun e w' => e = .returned (.int .u64 ((x * 2 ^ t : Nat) : Int)) ∧ w = w' := by
  have HX := Lib.hid hx
  clear hx
  go_enter Tryd.func55, Tryd.ntmps55
  go_wp2
  go_loop [0, 5] (fun y i => ∃ k : Nat, k ≤ t ∧ i = .int .i64 k ∧ y = .int .u64 ((x * 2 ^ k : Nat) : Int)) (fun _ i => t - (intOf i).toNat)
  case atStart => exact ⟨0, by omega, rfl, by simp⟩
  case round =>
    obtain ⟨k, hk, rfl, rfl⟩ := hrel
    have e : x * 2 ^ (k + 1) = x * 2 ^ k * 2 := by rw [Nat.pow_succ, Nat.mul_assoc]
    by_cases hlt : k < t
    · have hkt : (k : Int) < t := by omega
      have hb : x * 2 ^ (k + 1) ≤ x * 2 ^ t := Nat.mul_le_mul_left _ (Nat.pow_le_pow_right (by decide) (by omega))
      have hx := HX.out
      obtain ⟨y, hy⟩ : ∃ y, y = x * 2 ^ k := ⟨_, rfl⟩
      obtain ⟨z, hz⟩ : ∃ z, z = x * 2 ^ (k + 1) := ⟨_, rfl⟩
      obtain ⟨q, hq⟩ : ∃ q, q = x * 2 ^ t := ⟨_, rfl⟩
      rw [← hy, ← hz] at e
      rw [← hz, ← hq] at hb
      rw [← hq] at hx
      rw [← hy]
      have e3 : IntKind.u64.wrap ((y : Int) * 2) = (z : Int) := by rw [IntWalk.u64_in _ (by omega)]; omega
      have HZ := Lib.hid hz
      clear e hy hz hq hb hx
      go_wp2
      exact ⟨⟨k + 1, by omega, by go_num, by rw [← HZ.out]⟩, by simp [intOf]; omega⟩
    · obtain rfl : k = t := by omega
      clear e
      go_wp2
      go_ret
      exact ⟨rfl, rfl⟩
set_option maxRecDepth 100000 in
set_option maxHeartbeats 1000000 in
theorem zeros_any (x : Nat) (w : World) (hx : x < 18446744073709551616) (h0 : x ≠ 0) : Calls Tryd.prog 56 #[.int .u64 (x : Nat)] w fun e w' => e = .returned (.tuple #[.int .i64 (lz x : Nat), .int .i64 (tz x : Nat)]) ∧ Keeps (fun _ => False) w w' := by
  obtain ⟨p1, p2⟩ := bit_top hx h0
  obtain ⟨q1, q2⟩ := bit_low hx h0
  have hlt := lz_tz hx h0
  obtain ⟨a, ha⟩ : ∃ a, a = lz x := ⟨_, rfl⟩
  obtain ⟨b, hb⟩ : ∃ b, b = tz x := ⟨_, rfl⟩
  rw [← ha] at p1 p2 hlt ⊢
  rw [← hb] at q1 q2 hlt ⊢
  have P1 := Lib.hid p1; have P2 := Lib.hid p2; have Q1 := Lib.hid q1; have Q2 := Lib.hid q2
  clear p1 p2 q1 q2 ha hb h0
  go_enter Tryd.func56, Tryd.ntmps56
  go_wp2_with fail
  refine (refWrite_any w.heap.size (.slice none 0 0) [] x 64 w (World.ownsRow_nil _ _ _ _) (by omega) (by decide) (by decide) (Nat.le_refl _)).mono ?_
  rw [List.nil_append]
  rintro e w1 ⟨vb, rfl, hR⟩
  have hrow := hR.row
  have k1 : Keeps (fun _ => False) w w1 := hR.keeps.mono (fun k hk e => by simp [own, Value.ownBlock] at e)
  rw [bools_length, fieldBits_length] at hrow
  obtain ⟨ad, cap, rfl⟩ := row_slice hrow
  have HROW := Lib.hid hrow; have K1 := Lib.hid k1
  clear hR hrow k1
  go_wp2
  go_loop [5] (fun i => ∃ k : Nat, k ≤ a ∧ i = .int .i64 k) (fun i => a - (intOf i).toNat)
  case atStart => exact ⟨0, by omega, rfl⟩
  case round =>
    obtain ⟨k, hk, rfl⟩ := hrel
    have hk63 : (k : Int) < 64 := by omega
    by_cases hlt2 : k < a
    · obtain ⟨g1, cp1, hv1, hn1, _, hcell, _⟩ := row_cell HROW.out (i := k) (field_get x 64 k (by omega))
      simp only [Value.slice.injEq] at hv1
      obtain ⟨rfl, _, rfl⟩ := hv1
      rw [show 64 - 1 - k = 63 - k by omega, P2.out k hlt2] at hcell
      go_wp2
      exact ⟨⟨k + 1, by omega, by go_num⟩, by simp [intOf]; omega⟩
    · obtain rfl : k = a := by omega
      obtain ⟨g1, cp1, hv1, hn1, _, hcell, _⟩ := row_cell HROW.out (i := k) (field_get x 64 k (by omega))
      simp only [Value.slice.injEq] at hv1
      obtain ⟨rfl, _, rfl⟩ := hv1
      rw [show 64 - 1 - k = 63 - k by omega, P1.out] at hcell
      go_wp2
      clear hcell
      go_loop [6] (fun i => ∃ j : Nat, j ≤ b ∧ i = .int .i64 j) (fun i => b - (intOf i).toNat)
      case atStart => exact ⟨0, by omega, rfl⟩
      case round =>
        obtain ⟨j, hj, rfl⟩ := hrel
        obtain ⟨m, hm⟩ : ∃ m, m = 63 - j := ⟨_, rfl⟩
        have hm1 : (63 : Int) - j = m := by omega
        have hm2 : IntKind.i64.wrap (m : Int) = m := wrap_nat m (by omega)
        have hm3 : (m : Int) < 64 := by omega
        have hm4 : IntKind.i64.wrap (63 - (j : Int)) = m := by rw [hm1, hm2]
        obtain ⟨g2, cp2, hv2, hn2, _, hcell, _⟩ := row_cell HROW.out (i := m) (field_get x 64 m (by omega))
        simp only [Value.slice.injEq, Option.some.injEq, Addr.mk.injEq] at hv2
        obtain ⟨⟨rfl, _, _⟩, _, rfl⟩ := hv2
        rw [show 64 - 1 - m = j by omega] at hcell
        have HM := Lib.hid hm
        clear hm
        by_cases hlt3 : j < b
        · rw [Q2.out j hlt3] at hcell
          go_wp2
          exact ⟨⟨j + 1, by omega, by go_num⟩, by simp [intOf]; omega⟩
        · obtain rfl : j = b := by omega
          rw [Q1.out] at hcell
          go_wp2
          go_ret2
          exact ⟨rfl, K1.out⟩
end Go.Proofs.YtdniaingipoggaaDoor
