/-
  WALKS: tsblockref05.form, Signed.
-/
import Derived.Test.YtdniaingipoggaaDoorWTimesA
import Derived.Test.YtdniaingipoggaaDoorWRef01
namespace Go.Proofs.YtdniaingipoggaaDoor
open Go.RowKit

theorem formI_0 : formI 0 = 0 := rfl
theorem formI_1 {x : Int} (h0 : x ≠ 0) (h : -64 ≤ x ∧ x ≤ 63) : formI x = 1 := by unfold formI; rw [if_neg h0, if_pos h]
theorem formI_2 {x : Int} (h1 : ¬ (-64 ≤ x ∧ x ≤ 63)) (h : -2048 ≤ x ∧ x ≤ 2047) : formI x = 2 := by unfold formI; rw [if_neg (by omega), if_neg h1, if_pos h]
theorem formI_3 {x : Int} (h1 : ¬ (-2048 ≤ x ∧ x ≤ 2047)) (h : -2147483648 ≤ x ∧ x ≤ 2147483647) : formI x = 3 := by unfold formI; rw [if_neg (by omega), if_neg (by omega), if_neg h1, if_pos h]
theorem formI_4 {x : Int} (h1 : ¬ (-2147483648 ≤ x ∧ x ≤ 2147483647)) : formI x = 4 := by unfold formI; rw [if_neg (by omega), if_neg (by omega), if_neg (by omega), if_neg h1]
set_option maxHeartbeats 1000000 in
theorem rform_any (x : Int) (w : World) : Calls Tryd.prog 49 #[.int .i64 x] w fun e w' => e = .returned (.int .i64 ((formI x : Nat) : Int)) ∧ w = w' := by
  have hc : x = 0 ∨ (x ≠ 0 ∧ -64 ≤ x ∧ x ≤ 63) ∨ (-2048 ≤ x ∧ x < -64) ∨ (63 < x ∧ x ≤ 2047) ∨ (-2147483648 ≤ x ∧ x < -2048) ∨ (2047 < x ∧ x ≤ 2147483647) ∨ x < -2147483648 ∨ 2147483647 < x := by omega
  rcases hc with rfl | ⟨h0, h1, h2⟩ | ⟨h1, h2⟩ | ⟨h1, h2⟩ | ⟨h1, h2⟩ | ⟨h1, h2⟩ | h1 | h1
  · go_enter Tryd.func49, Tryd.ntmps49
    go_wp2
    go_ret
    exact ⟨rfl, rfl⟩
  · have H := Lib.hid (formI_1 h0 ⟨h1, h2⟩)
    have e0 : (x == 0) = false := by simp; omega
    clear h0
    go_enter Tryd.func49, Tryd.ntmps49
    go_wp2
    go_ret
    exact ⟨by rw [H.out]; rfl, rfl⟩
  · have H := Lib.hid (formI_2 (x := x) (by omega) ⟨by omega, by omega⟩)
    have e0 : (x == 0) = false := by simp; omega
    have e1 : decide (-64 ≤ x) = false := by simp; omega
    go_enter Tryd.func49, Tryd.ntmps49
    go_wp2
    go_ret
    exact ⟨by rw [H.out]; rfl, rfl⟩
  · have H := Lib.hid (formI_2 (x := x) (by omega) ⟨by omega, by omega⟩)
    have e0 : (x == 0) = false := by simp; omega
    have e1 : decide (x ≤ 63) = false := by simp; omega
    go_enter Tryd.func49, Tryd.ntmps49
    go_wp2
    go_ret
    exact ⟨by rw [H.out]; rfl, rfl⟩
  · have H := Lib.hid (formI_3 (x := x) (by omega) ⟨by omega, by omega⟩)
    have e0 : (x == 0) = false := by simp; omega
    have e1 : decide (-64 ≤ x) = false := by simp; omega
    have e2 : decide (-2048 ≤ x) = false := by simp; omega
    go_enter Tryd.func49, Tryd.ntmps49
    go_wp2
    go_ret
    exact ⟨by rw [H.out]; rfl, rfl⟩
  · have H := Lib.hid (formI_3 (x := x) (by omega) ⟨by omega, by omega⟩)
    have e0 : (x == 0) = false := by simp; omega
    have e1 : decide (x ≤ 63) = false := by simp; omega
    have e2 : decide (x ≤ 2047) = false := by simp; omega
    go_enter Tryd.func49, Tryd.ntmps49
    go_wp2
    go_ret
    exact ⟨by rw [H.out]; rfl, rfl⟩
  · have H := Lib.hid (formI_4 (x := x) (by omega))
    have e0 : (x == 0) = false := by simp; omega
    have e1 : decide (-64 ≤ x) = false := by simp; omega
    have e2 : decide (-2048 ≤ x) = false := by simp; omega
    have e3 : decide (-2147483648 ≤ x) = false := by simp; omega
    go_enter Tryd.func49, Tryd.ntmps49
    go_wp2
    go_ret
    exact ⟨by rw [H.out]; rfl, rfl⟩
  · have H := Lib.hid (formI_4 (x := x) (by omega))
    have e0 : (x == 0) = false := by simp; omega
    have e1 : decide (x ≤ 63) = false := by simp; omega
    have e2 : decide (x ≤ 2047) = false := by simp; omega
    have e3 : decide (x ≤ 2147483647) = false := by simp; omega
    go_enter Tryd.func49, Tryd.ntmps49
    go_wp2
    go_ret
    exact ⟨by rw [H.out]; rfl, rfl⟩

set_option maxRecDepth 100000 in
set_option maxHeartbeats 1000000 in
theorem signed_any (X n : Nat) (w : World) (hn : 1 ≤ n) (hn2 : n ≤ 64) (hX : X < 2 ^ n) : Calls Tryd.prog 48 #[.int .u64 X, .int .i64 n] w fun e w' => e = .returned (.int .i64 (ext X n)) ∧ w = w' := by
  obtain ⟨H, hH⟩ : ∃ H, H = 2 ^ (n - 1) := ⟨_, rfl⟩
  have hP : 2 ^ n = 2 * H := by rw [hH, show n = (n - 1) + 1 by omega, Nat.pow_succ, Nat.add_sub_cancel]; omega
  have hH63 : H ≤ 9223372036854775808 := by
    have : H ≤ 2 ^ 63 := by rw [hH]; exact Nat.pow_le_pow_right (by decide) (by omega)
    omega
  have hext : ext X n = if X < H then (X : Int) else (X : Int) - 2 * H := by
    unfold ext
    rw [if_neg (by omega), Nat.mod_eq_of_lt hX, ← hH, hP]
    split <;> (try rfl) <;> omega
  rw [hP] at hX
  have HE := Lib.hid hext; have HH := Lib.hid hH
  clear hext hH hP
  go_enter Tryd.func48, Tryd.ntmps48
  go_wp2
  go_loop [5, 6] (fun h i => ∃ k : Nat, 1 ≤ k ∧ k ≤ n ∧ i = .int .i64 k ∧ h = .int .u64 ((2 ^ (k - 1) : Nat) : Int)) (fun _ i => n - (intOf i).toNat)
  case atStart => exact ⟨1, by omega, by omega, rfl, rfl⟩
  case round =>
    obtain ⟨k, hk1, hk, rfl, rfl⟩ := hrel
    by_cases hlt : k < n
    · have hb : 2 ^ (k - 1) * 2 = 2 ^ (k + 1 - 1) := by rw [show k + 1 - 1 = (k - 1) + 1 by omega, Nat.pow_succ]
      have hp : 2 ^ (k + 1 - 1) ≤ 2 ^ 63 := Nat.pow_le_pow_right (by decide) (by omega)
      obtain ⟨q, hq⟩ : ∃ q, q = 2 ^ (k - 1) := ⟨_, rfl⟩
      obtain ⟨q', hq'⟩ : ∃ q', q' = 2 ^ (k + 1 - 1) := ⟨_, rfl⟩
      rw [← hq, ← hq'] at hb
      rw [← hq'] at hp
      rw [← hq]
      have hw : IntKind.u64.wrap ((q : Int) * 2) = (q' : Int) := by rw [IntWalk.u64_in _ (by omega)]; omega
      have hkn : (k : Int) < n := by omega
      have HQ := Lib.hid hq'
      clear hb hp hq hq'
      go_wp2
      exact ⟨⟨k + 1, by omega, by omega, by go_num, by rw [← HQ.out]⟩, by simp [intOf]; omega⟩
    · obtain rfl : k = n := by omega
      rw [← HH.out]
      by_cases hx : X < H
      · have hx' : ¬ (H : Int) ≤ X := by omega
        go_wp2
        go_ret
        refine ⟨ret_int ?_, rfl⟩
        rw [HE.out, if_pos hx]
        try unfold wrap64
        try omega
      · have hx' : (H : Int) ≤ X := by omega
        go_wp2
        go_ret
        refine ⟨ret_int ?_, rfl⟩
        rw [HE.out, if_neg hx]
        unfold wrap64
        simp only [IntKind.wrap_u64]
        omega
end Go.Proofs.YtdniaingipoggaaDoor
