/-
  WALKS: math/bits.Len64 (made by extract.py).
-/
import Derived.IntWalk
import Derived.Test.YtdniaingipoggaaDoorWReader
import Derived.WalkKit
import Derived.WalkSpells
import Derived.WalkLawsBesides
import Derived.Lib.Hide
import Derived.Lib.Strings
import Derived.Lib.Slices
import Derived.Lib.Small
import Derived.Lib.Walk
import Derived.Lib.BitFns
import Derived.Lib.Tables
import Derived.Deep.Light
namespace Go.Proofs.YtdniaingipoggaaDoor
open Go.RowKit
set_option maxRecDepth 100000 in
theorem len8_size : (Lib.len8tab.size : Int) = 256 := by
  have h : Lib.len8tab.size = 256 := by decide
  omega
/-- what the table holds -/
theorem tab_len (y : Int) (h : y.toNat < Lib.len8tab.size) (h0 : 0 ≤ y) (h1 : y ≤ 255) : ((Lib.len8tab[y.toNat]'h).toNat : Int) = ((Lib.bitLen y.toNat : Nat) : Int) := by
  rw [← Lib.len8_of y h0 h1]
  unfold Lib.len8
  rw [getElem?_pos Lib.len8tab y.toNat h]
  rfl
/-- one way through Len64: k bits were shifted out, and the byte that is left is looked up -/
theorem len_case (k : Nat) (x y : Int) (hy : y.toNat = x.toNat / 2 ^ k) (h0 : 0 ≤ y) (h1 : y ≤ 255) (hk : k = 0 ∨ 2 ^ k ≤ x.toNat) (hx : x ≤ 18446744073709551615) (h : y.toNat < Lib.len8tab.size) :
    wrap64 ((k : Int) + wrap64 ((Lib.len8tab[y.toNat]'h).toNat : Int)) = ((Lib.bitLen x.toNat : Nat) : Int) := by
  rw [tab_len y h h0 h1]
  have h8 := Lib.bitLen_le8' y h0 h1
  have e : Lib.bitLen x.toNat = k + Lib.bitLen y.toNat := by
    rcases hk with rfl | hk
    · rw [hy]; simp
    · rw [hy]; exact Lib.bitLen_shift k x.toNat hk (by omega)
  have hk64 : k ≤ 64 := by
    rcases hk with rfl | hk
    · omega
    · rcases Nat.lt_or_ge 64 k with h9 | h9
      · have : 2 ^ 64 ≤ 2 ^ k := Nat.pow_le_pow_right (by decide) (by omega)
        omega
      · exact h9
  rw [e]
  simp only [wrap64]
  omega
theorem len_zero (x : Int) (h0 : 0 ≤ x) (h1 : x ≤ 255) (h : x.toNat < Lib.len8tab.size) : wrap64 (wrap64 ((Lib.len8tab[x.toNat]'h).toNat : Int)) = ((Lib.bitLen x.toNat : Nat) : Int) := by
  have := len_case 0 x x (by simp) h0 h1 (.inl rfl) (by omega) h
  simpa using this
set_option maxHeartbeats 4000000 in
set_option maxRecDepth 100000 in
theorem len64_any (x : Int) (w : World) (h0 : 0 ≤ x) (h1 : x ≤ 18446744073709551615) :
    Calls Tryd.prog 75 #[.int .u64 x] w fun e w' => e = .returned (.int .i64 (Lib.bitLen x.toNat)) ∧ w' = w := by
  go_enter Tryd.func75, Tryd.ntmps75
  go_wp2
  all_goals first
    | (go_ret; refine ⟨ret_int ?_, rfl⟩; go_light)
    | (exfalso; go_light; have hs := len8_size; omega)
  all_goals first
    | exact len_case 56 x _ (by omega) (by omega) (by omega) (.inr (by omega)) h1 _
    | exact len_case 48 x _ (by omega) (by omega) (by omega) (.inr (by omega)) h1 _
    | exact len_case 40 x _ (by omega) (by omega) (by omega) (.inr (by omega)) h1 _
    | exact len_case 32 x _ (by omega) (by omega) (by omega) (.inr (by omega)) h1 _
    | exact len_case 24 x _ (by omega) (by omega) (by omega) (.inr (by omega)) h1 _
    | exact len_case 16 x _ (by omega) (by omega) (by omega) (.inr (by omega)) h1 _
    | exact len_case 8 x _ (by omega) (by omega) (by omega) (.inr (by omega)) h1 _
    | exact len_zero x (by omega) (by omega) _
end Go.Proofs.YtdniaingipoggaaDoor
