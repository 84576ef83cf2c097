/-
  WALKS: tsblockref01.Pack.
-/
import Derived.Test.YtdniaingipoggaaDoorWRef01
import Derived.WalkKit
import Derived.WalkSpells
import Derived.WalkLawsBesides
import Derived.Lib.Hide
namespace Go.Proofs.YtdniaingipoggaaDoor
open Go.RowKit

/-- the first k bits of byte j as a number -/
def bytePart (l : List Bool) (j : Nat) : Nat → Nat
  | 0 => 0
  | k + 1 => bytePart l j k * 2 + bitAt l (8 * j + k)
theorem bytePart_all (l : List Bool) (j : Nat) : bytePart l j 8 = byteAt l j := by
  simp [bytePart, byteAt]
theorem bytePart_lt (l : List Bool) (j k : Nat) : bytePart l j k < 2 ^ k := by
  induction k with
  | zero => simp [bytePart]
  | succ k ih => have := bitAt_le l (8 * j + k); simp only [bytePart, Nat.pow_succ]; omega
def packedUpto (l : List Bool) (j : Nat) : List Nat := (List.range j).map (byteAt l)
theorem packedUpto_succ (l : List Bool) (j : Nat) : packedUpto l (j + 1) = packedUpto l j ++ [byteAt l j] := by simp [packedUpto, List.range_succ]
theorem u8s_snoc (l : List Nat) (c : Nat) : u8s (l ++ [c]) = u8s l ++ [.int .u8 c] := by simp [u8s]

set_option maxRecDepth 100000 in
set_option maxHeartbeats 1000000 in
theorem refPack_any (v : Value) (l : List Bool) (w : World) (h : Holds w v (bools l)) (hl : l.length ≤ 1099511627776) :
    Calls Tryd.prog 31 #[v] w fun e w' => ∃ v', e = .returned v' ∧ RowTo 5 w.heap.size (.slice none 0 0) w v' (u8s (packed l)) w' := by
  obtain ⟨i0, hi, hz0, hz1, hz2⟩ := info_parts infoU8
  obtain ⟨ad, cap, rfl, hc, hcells⟩ := h
  rw [bools_length] at hc ⊢
  have HC := Lib.hid hcells
  clear hcells
  go_enter Tryd.func31, Tryd.ntmps31
  go_wp2
  go_loopw [3, 4] (fun o i wr => ∃ (j : Nat) (v1 : Value), 8 * j < l.length + 8 ∧ o = v1 ∧ i = .int .i64 ((8 * j : Nat) : Int) ∧ RowTo 5 w.heap.size (.slice none 0 0) w v1 (u8s (packedUpto l j)) wr) (fun _ i wr => l.length + 8 - (intOf i).toNat)
  case atStart => exact ⟨0, _, by omega, rfl, rfl, RowTo.refl (World.ownsRow_nil _ _ _ _)⟩
  case round =>
    obtain ⟨j, v1, hj, rfl, rfl, hR⟩ := hrel
    by_cases hlt : 8 * j < l.length
    · have HR := Lib.hid hR
      have hrow := hR.row
      have hb1 : w.heap.size ≤ wr.heap.size := hR.keeps.size
      have hlen : (u8s (packedUpto l j)).length ≤ 1099511627776 := by rw [u8s_length]; simp [packedUpto]; omega
      have hus := u8s_snoc (packedUpto l j) (byteAt l j)
      rw [← packedUpto_succ] at hus
      have Hus := Lib.hid hus
      have hby := byteAt_lt l j
      clear hR hus
      generalize u8s (packedUpto l j) = xs at *
      go_wp2
      go_loop [5, 6] (fun c k => ∃ k' : Nat, k' ≤ 8 ∧ k = .int .i64 k' ∧ c = .int .i64 (bytePart l j k' : Int)) (fun _ k => 8 - (intOf k).toNat)
      case atStart => exact ⟨0, by omega, rfl, rfl⟩
      case round =>
        obtain ⟨k, hk, rfl, rfl⟩ := hrel
        by_cases hk8 : k < 8
        · have hbp := bytePart_lt l j k
          have hp : 2 ^ k ≤ 2 ^ 7 := Nat.pow_le_pow_right (by decide) (by omega)
          have hnx : bytePart l j (k + 1) = bytePart l j k * 2 + bitAt l (8 * j + k) := rfl
          by_cases hin : 8 * j + k < l.length
          · obtain ⟨b, off, cap', hv, hcell⟩ := (show Holds w (.slice ad l.length cap) (bools l) from ⟨ad, cap, by rw [bools_length], by rw [bools_length]; exact hc, HC.out⟩).index (j := 8 * j + k) (u := .bool (l.getD (8 * j + k) false)) (by simp [bools, hin, List.getD_eq_getElem?_getD])
            simp only [Value.slice.injEq] at hv
            obtain ⟨rfl, _, rfl⟩ := hv
            have hcell' : wr.cell? ⟨b, off + (8 * j + k), none⟩ = some (.bool (l.getD (8 * j + k) false)) := HR.out.keeps.cell hcell (by simp [own, Value.ownBlock])
            have hb : bitAt l (8 * j + k) = (l.getD (8 * j + k) false).toNat := rfl
            rw [hb] at hnx
            generalize l.getD (8 * j + k) false = bit at *
            generalize bytePart l j k = c at *
            have Hnx := Lib.hid hnx
            clear hnx hb hcell
            have hw1 : IntKind.i64.wrap (8 * (j : Int) + k) = 8 * j + k := IntWalk.i64_in _ (by omega)
            have hin' : 8 * (j : Int) + k < l.length := by omega
            cases bit
            · go_wp2
              exact ⟨⟨k + 1, by omega, by omega, by rw [Hnx.out]; simp⟩, by simp [intOf]; omega⟩
            · go_wp2
              exact ⟨⟨k + 1, by omega, by omega, by rw [Hnx.out]; simp⟩, by simp [intOf]; omega⟩
          · rw [bitAt_past l _ (by omega)] at hnx
            generalize bytePart l j k = c at *
            have Hnx := Lib.hid hnx
            clear hnx
            have hw1 : IntKind.i64.wrap (8 * (j : Int) + k) = 8 * j + k := IntWalk.i64_in _ (by omega)
            have hin' : ¬ 8 * (j : Int) + k < l.length := by omega
            go_wp2
            exact ⟨⟨k + 1, by omega, by go_num, by rw [Hnx.out]; go_num⟩, by simp [intOf]; omega⟩
        · obtain rfl : k = 8 := by omega
          rw [bytePart_all] at *
          generalize byteAt l j = c at *
          have hwc : IntKind.u8.wrap (c : Int) = c := IntWalk.u8_in _ (by omega)
          go_wp2_with (at_builtin; refine wpList_append_new _ rfl _ _ 22 rfl w.heap.size 5 i0 (.int .u8 0) 1 1 Tryd.underlying22 hi hz0 hz1 hz2 rfl (by decide) _ _ _ rfl (hrow.alloc _) ⟨wr.heap.size, 0, none⟩ 1 1 [.int .u8 c] rfl rfl ?c1 ?c2 ?c3 ?c4 ?c5 ?_)
          case c2 => simp [Value.oneCell']
          case c3 => unfold maxLen; omega
          case c4 => omega
          case c5 => first | exact Nat.le_trans hb1 (by simp) | omega
          intro v' w1 hown' hgrow hnew
          have hR1 := HR.out.append (ys := xs ++ [.int .u8 c]) (by simpa using hown') hgrow (by simpa using hnew)
          rw [← Hus.out] at hR1
          have HR1 := Lib.hid hR1
          clear hR1 hown' hgrow hnew hrow
          go_wp2
          exact ⟨⟨j + 1, v', by omega, rfl, by go_num, HR1.out⟩, by simp [intOf]; omega⟩
    · go_wp2
      go_ret
      have hj' : j = (l.length + 7) / 8 := by omega
      exact ⟨_, rfl, by have := hR; rw [hj'] at this; exact this⟩
end Go.Proofs.YtdniaingipoggaaDoor
