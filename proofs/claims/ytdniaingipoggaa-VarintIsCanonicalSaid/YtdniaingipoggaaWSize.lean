/-
  WALKS: math/bits.Len64 (after the guide's own proof of it, at this program), varint.Size.
-/
import Derived.Test.YtdniaingipoggaaPVar
import Derived.Test.YtdniaingipoggaaWReader
import Derived.WalkKit
import Derived.WalkSpells
import Derived.WalkLawsBesides
import Derived.Lib.Hide
import Derived.Lib.Strings
import Derived.Lib.Slices
import Derived.Lib.Small
import Derived.Lib.Walk
import Derived.Lib.BitFns
import Derived.Lib.Tables
import Derived.Deep.Light
namespace Go.Proofs.Ytdniaingipoggaa
open Go.RowKit

set_option maxRecDepth 100000 in
theorem len8_size : (Lib.len8tab.size : Int) = 256 := by
  have h : Lib.len8tab.size = 256 := by decide
  omega
/-- what the table holds -/
theorem tab_len (y : Int) (h : y.toNat < Lib.len8tab.size) (h0 : 0 ≤ y) (h1 : y ≤ 255) : ((Lib.len8tab[y.toNat]'h).toNat : Int) = ((Lib.bitLen y.toNat : Nat) : Int) := by
  rw [← Lib.len8_of y h0 h1]
  unfold Lib.len8
  rw [getElem?_pos Lib.len8tab y.toNat h]
  rfl
/-- one way through Len64: k bits were shifted out, and the byte that is left is looked up -/
theorem len_case (k : Nat) (x y : Int) (hy : y.toNat = x.toNat / 2 ^ k) (h0 : 0 ≤ y) (h1 : y ≤ 255) (hk : k = 0 ∨ 2 ^ k ≤ x.toNat) (hx : x ≤ 18446744073709551615) (h : y.toNat < Lib.len8tab.size) :
    wrap64 ((k : Int) + wrap64 ((Lib.len8tab[y.toNat]'h).toNat : Int)) = ((Lib.bitLen x.toNat : Nat) : Int) := by
  rw [tab_len y h h0 h1]
  have h8 := Lib.bitLen_le8' y h0 h1
  have e : Lib.bitLen x.toNat = k + Lib.bitLen y.toNat := by
    rcases hk with rfl | hk
    · rw [hy]; simp
    · rw [hy]; exact Lib.bitLen_shift k x.toNat hk (by omega)
  have hk64 : k ≤ 64 := by
    rcases hk with rfl | hk
    · omega
    · rcases Nat.lt_or_ge 64 k with h9 | h9
      · have : 2 ^ 64 ≤ 2 ^ k := Nat.pow_le_pow_right (by decide) (by omega)
        omega
      · exact h9
  rw [e]
  simp only [wrap64]
  omega
theorem len_zero (x : Int) (h0 : 0 ≤ x) (h1 : x ≤ 255) (h : x.toNat < Lib.len8tab.size) : wrap64 (wrap64 ((Lib.len8tab[x.toNat]'h).toNat : Int)) = ((Lib.bitLen x.toNat : Nat) : Int) := by
  have := len_case 0 x x (by simp) h0 h1 (.inl rfl) (by omega) h
  simpa using this

set_option maxHeartbeats 4000000 in
set_option maxRecDepth 100000 in
theorem len64_any (x : Int) (w : World) (h0 : 0 ≤ x) (h1 : x ≤ 18446744073709551615) :
    Calls Try.prog 64 #[.int .u64 x] w fun e w' => e = .returned (.int .i64 (Lib.bitLen x.toNat)) ∧ w' = w := by
  go_enter Try.func64, Try.ntmps64
  go_wp2
  all_goals first
    | (go_ret; refine ⟨ret_int ?_, rfl⟩; go_light)
    | (exfalso; go_light; have hs := len8_size; omega)
  all_goals first
    | exact len_case 56 x _ (by omega) (by omega) (by omega) (.inr (by omega)) h1 _
    | exact len_case 48 x _ (by omega) (by omega) (by omega) (.inr (by omega)) h1 _
    | exact len_case 40 x _ (by omega) (by omega) (by omega) (.inr (by omega)) h1 _
    | exact len_case 32 x _ (by omega) (by omega) (by omega) (.inr (by omega)) h1 _
    | exact len_case 24 x _ (by omega) (by omega) (by omega) (.inr (by omega)) h1 _
    | exact len_case 16 x _ (by omega) (by omega) (by omega) (.inr (by omega)) h1 _
    | exact len_case 8 x _ (by omega) (by omega) (by omega) (.inr (by omega)) h1 _
    | exact len_zero x (by omega) (by omega) _

theorem bitLenAux_more (f d x : Nat) (h : x < 2 ^ f) : Lib.bitLenAux (f + d) x = Lib.bitLenAux f x := Lib.bitLenAux_fuel f x h (f + d) (by omega)
theorem bitLen_128 (x : Nat) (h : 128 ≤ x) (hx : x < 2 ^ 64) : Lib.bitLen x = 7 + Lib.bitLen (x / 128) := Lib.bitLen_shift 7 x h hx
theorem bitLen_small (x : Nat) (h : x < 128) : Lib.bitLen x ≤ 7 := by
  have e : Lib.bitLen x = Lib.bitLenAux 7 x := bitLenAux_more 7 57 x h
  rw [e]
  exact Lib.bitLenAux_le 7 x 7 h
theorem venc_size (n x : Nat) (h : x < 128 ^ (n + 1)) (hx : x < 2 ^ 64) : (vencF n x).length = Nat.max ((Lib.bitLen x + 6) / 7) 1 := by
  induction n generalizing x with
  | zero =>
    have := bitLen_small x h
    simp only [vencF, List.length_singleton]
    have e : (Lib.bitLen x + 6) / 7 ≤ 1 := by omega
    simp [Nat.max_def]; omega
  | succ n ih =>
    simp only [vencF]
    split
    · rename_i h1
      have := bitLen_small x h1
      simp [Nat.max_def]; omega
    · rename_i h1
      have h2 := ih (x / 128) (Nat.div_lt_of_lt_mul (by rw [Nat.pow_succ] at h; omega)) (by omega)
      have h3 := bitLen_128 x (by omega) hx
      have h4 := Lib.bitLen_half (x / 128) (by omega) (by omega)
      rw [List.length_cons, h2, h3]
      simp only [Nat.max_def]
      split <;> split <;> omega
set_option maxHeartbeats 400000 in
theorem size_any (X : Nat) (w : World) (h : X ≤ 18446744073709551615) :
    Calls Try.prog 44 #[.int .u64 X] w fun e w' => e = .returned (.int .i64 (((venc X).length : Nat) : Int)) ∧ w = w' := by
  have hs := venc_size 9 X (by omega) (by omega)
  have hle : Lib.bitLen X ≤ 64 := Lib.bitLenAux_le 64 X 64 (by omega)
  generalize hb : Lib.bitLen X = b at *
  have Hb := Lib.hid hb; have Hs := Lib.hid hs
  clear hb hs
  go_enter Try.func44, Try.ntmps44
  go_wp2_with fail
  refine (len64_any X w (by omega) (by omega)).mono ?_
  rw [Int.toNat_natCast, Hb.out]
  rintro e w1 ⟨rfl, rfl⟩
  go_wp2_with fail
  go_ret
  refine ⟨ret_int ?_, rfl⟩
  show max (((b : Int) + 7 - 1) / 7) 1 = (((vencF 9 X).length : Nat) : Int)
  rw [Hs.out]
  simp only [Nat.max_def, Int.max_def]
  split <;> split <;> omega
end Go.Proofs.Ytdniaingipoggaa
