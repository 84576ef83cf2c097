/-
  WALKS: tsblockref01's Write, Pack, Unpack.
-/
import Derived.Test.YtdniaingipoggaaDoorPRead
import Derived.Test.YtdniaingipoggaaDoorWSlices
import Derived.WalkKit
import Derived.WalkSpells
import Derived.WalkLawsBesides
import Derived.Lib.Hide
namespace Go.Proofs.YtdniaingipoggaaDoor
open Go.RowKit

theorem infoBool : (Tryd.prog.info? 4).map (fun i => (i.zero, i.size, i.bytes)) = some (some (.bool false), 1, 1) := by kernel_rfl
theorem wrap_u64 (n : Nat) (h : n ≤ 18446744073709551615) : IntKind.u64.wrap (n : Int) = n := IntWalk.u64_in _ (by omega)
/-- the unit behind k halvings -/
def unitAt (n k : Nat) : Nat := 2 ^ (n - 1) / 2 ^ k
theorem unitAt_zero (n : Nat) : unitAt n 0 = 2 ^ (n - 1) := by simp [unitAt]
theorem unitAt_succ (n k : Nat) : unitAt n (k + 1) = unitAt n k / 2 := by simp [unitAt, Nat.pow_succ, Nat.div_div_eq_div_mul]
theorem unitAt_eq (n k : Nat) (h : k < n) : unitAt n k = 2 ^ (n - 1 - k) := by unfold unitAt; rw [Nat.pow_div (by omega) (by decide)]
theorem bit_of_unit (X n k : Nat) (h : k < n) : ((X : Int) / (unitAt n k : Int) % 2 == 1) = X.testBit (n - 1 - k) := by
  rw [unitAt_eq n k h, Nat.testBit_eq_decide_div_mod_eq]
  have e : ((X : Int) / ((2 ^ (n - 1 - k) : Nat) : Int) % 2) = ((X / 2 ^ (n - 1 - k) % 2 : Nat) : Int) := by simp
  rw [e, Bool.eq_iff_iff, beq_iff_eq, decide_eq_true_iff]
  omega

set_option maxRecDepth 100000 in
set_option maxHeartbeats 1000000 in
theorem refWrite_any (base : Nat) (v : Value) (l : List Bool) (X N : Nat) (w : World) (h : w.ownsRow base 4 1 v (bools l).length (bools l)) (hX : X ≤ 18446744073709551615) (hN : N ≤ 64) (hl : l.length ≤ 1099511627776) (hb0 : base ≤ w.heap.size) :
    Calls Tryd.prog 46 #[v, .int .u64 X, .int .i64 N] w fun e w' => ∃ v', e = .returned v' ∧ RowTo 4 base v w v' (bools (l ++ fieldBits X N)) w' := by
  obtain ⟨i0, hi, hz0, hz1, hz2⟩ := info_parts infoBool
  go_enter Tryd.func46, Tryd.ntmps46
  go_wp2
  go_loop [7, 8] (fun u i => ∃ k : Nat, 1 ≤ k ∧ (k ≤ N ∨ k = 1) ∧ i = .int .i64 k ∧ u = .int .u64 ((2 ^ (k - 1) : Nat) : Int)) (fun _ i => N - (intOf i).toNat)
  case atStart => exact ⟨1, Nat.le_refl _, .inr rfl, rfl, rfl⟩
  case round =>
    obtain ⟨k, hk1, hk, rfl, rfl⟩ := hrel
    have hp : 2 ^ (k - 1) ≤ 2 ^ 63 := Nat.pow_le_pow_right (by decide) (by omega)
    by_cases hlt : k < N
    · have hp2 : 2 ^ (k - 1) ≤ 2 ^ 62 := Nat.pow_le_pow_right (by decide) (by omega)
      have hsucc : 2 ^ (k + 1 - 1) = 2 ^ (k - 1) * 2 := by rw [← Nat.pow_succ]; congr 1; omega
      generalize hu : 2 ^ (k - 1) = u at hp hp2 hsucc
      have Hs := Lib.hid hsucc
      have Hu := Lib.hid hu
      clear hsucc hu hp
      have hw : IntKind.u64.wrap ((u : Int) * 2) = (u : Int) * 2 := IntWalk.u64_in _ (by omega)
      go_wp2
      exact ⟨⟨k + 1, by omega, .inl (by omega), by go_num, by rw [Hs.out]; go_num⟩, by simp [intOf]; omega⟩
    · have hkN : k = N ∨ (k = 1 ∧ N = 0) := by omega
      have huN : 2 ^ (k - 1) = unitAt N 0 := by
        rw [unitAt_zero]; congr 1; omega
      clear hkN hp
      go_wp2
      clear huN
      go_loopw [0, 7, 9] (fun b u i wr => ∃ (k : Nat) (v1 : Value), k ≤ N ∧ b = v1 ∧ i = .int .i64 k ∧ u = .int .u64 (unitAt N k : Int) ∧ RowTo 4 base v w v1 (bools (l ++ fieldTake X N k)) wr) (fun _ _ i wr => N - (intOf i).toNat)
      case atStart => exact ⟨0, v, Nat.zero_le _, rfl, rfl, rfl, by rw [fieldTake_zero, List.append_nil]; exact RowTo.refl h⟩
      case round =>
        obtain ⟨k, v1, hk, rfl, rfl, rfl, hR⟩ := hrel
        by_cases hlt : k < N
        · have hrow := hR.row
          have hus : unitAt N (k + 1) = unitAt N k / 2 := unitAt_succ _ _
          have hbit := bit_of_unit X N k hlt
          have hu1 : unitAt N k ≤ 2 ^ 63 := by rw [unitAt_eq N k hlt]; exact Nat.pow_le_pow_right (by decide) (by omega)
          have hu0 : 0 < unitAt N k := by rw [unitAt_eq N k hlt]; exact Nat.pow_pos (by decide)
          have hfs := fieldTake_succ X N k
          generalize unitAt N k = u at *
          generalize X.testBit (N - 1 - k) = bit at *
          have hlen : (bools (l ++ fieldTake X N k)).length = l.length + k := by rw [bools_length, List.length_append, fieldTake_length]
          have hb1 : base ≤ wr.heap.size := Nat.le_trans hb0 hR.keeps.size
          have Hus := Lib.hid hus; have Hfs := Lib.hid hfs; have Hlen := Lib.hid hlen; have HR := Lib.hid hR
          clear hus hfs hlen hR
          have hne : ¬ (u : Int) = 0 := by omega
          obtain ⟨q, hq, hq64⟩ : ∃ q : Nat, (X : Int) / (u : Int) = q ∧ q ≤ 18446744073709551615 := ⟨X / u, by simp, Nat.le_trans (Nat.div_le_self _ _) hX⟩
          have hwq := wrap_u64 q hq64
          rw [hq] at hbit
          have hbit' : ((q : Int).tmod 2 == 1) = bit := by rw [Int.tmod_eq_emod_of_nonneg (by omega)]; exact hbit
          obtain ⟨u2, hu2⟩ : ∃ u2 : Nat, u2 = u / 2 := ⟨_, rfl⟩
          have hu2' : (u : Int) / 2 = u2 := by omega
          have hwu := wrap_u64 u2 (by omega)
          rw [← hu2] at Hus
          clear hu2
          go_wp2_with (at_builtin; refine wpList_append_new _ rfl _ _ 32 rfl base 4 i0 (.bool false) 1 1 Tryd.underlying32 hi hz0 hz1 hz2 rfl (by decide) _ _ _ rfl (hrow.alloc _) ⟨wr.heap.size, 0, none⟩ 1 1 [.bool bit] rfl rfl ?c1 ?c2 ?c3 ?c4 ?c5 ?_)
          case c1 => exact cell_one_new _ _ _
          case c2 => simp [Value.oneCell']
          case c3 => have := Hlen.out; unfold maxLen; omega
          case c4 => have := Hlen.out; omega
          case c5 => simp; omega
          intro v' w1 hown' hgrow hnew
          have hR1 := HR.out.append (ys := bools (l ++ fieldTake X N k) ++ [Value.bool bit]) (by simpa using hown') hgrow (by simpa using hnew)
          have e : bools (l ++ fieldTake X N k) ++ [Value.bool bit] = bools (l ++ fieldTake X N (k + 1)) := by rw [Hfs.out]; simp [bools]
          rw [e] at hR1
          clear e hown' hgrow hnew hrow
          have HR1 := Lib.hid hR1
          clear hR1
          go_wp2
          exact ⟨⟨k + 1, v', by omega, rfl, by go_num, by rw [Hus.out], HR1.out⟩, by simp [intOf]; omega⟩
        · go_wp2
          go_ret
          obtain rfl : k = N := by omega
          exact ⟨_, rfl, hR⟩
end Go.Proofs.YtdniaingipoggaaDoor
