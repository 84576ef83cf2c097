/-
  WALKS: slices.Equal of words and of Booleans.
-/
import Derived.Test.YtdniaingipoggaaDoorPArgs
import Derived.Test.YtdniaingipoggaaDoorWReader
import Derived.WalkSpells
import Derived.WalkLawsBesides
import Derived.Deep.QuietTactic
import Derived.BigQuiet
namespace Go.Proofs.YtdniaingipoggaaDoor
open Go.RowKit

set_option maxRecDepth 100000 in
set_option maxHeartbeats 1000000 in
theorem equalU64_any (v v' : Value) (l l' : List Nat) (w : World) (h : Holds w v (u64s l)) (h' : Holds w v' (u64s l')) (hl : l.length ≤ 9223372036854775807) :
    Calls Tryd.prog 37 #[v, v'] w fun e w' => e = .returned (.bool (decide (l = l'))) ∧ ∃ n, w' = w.drewN n := by
  have HH := Lib.hid h; have HH' := Lib.hid h'
  obtain ⟨ad, cap, rfl, hc, _⟩ := h
  obtain ⟨ad', cap', rfl, hc', _⟩ := h'
  rw [u64s_length] at hc hc' HH HH'
  rw [u64s_length, u64s_length]

  by_cases hll : l.length = l'.length
  · have hll' : (l.length : Int) = l'.length := by omega
    have HLL := Lib.hid hll
    rw [← hll] at HH' hc' ⊢
    clear hll hll'
    go_enter Tryd.func37, Tryd.ntmps37
    go_wp2
    go_loopw [13] (fun c wr => ∃ k : Nat, k ≤ l.length ∧ c = .int .i64 k ∧ l.take k = l'.take k ∧ ∃ n, wr = w.drewN n) (fun c _ => l.length - (intOf c).toNat)
    case atStart => exact ⟨0, by omega, rfl, rfl, 0, rfl⟩
    case round =>
      obtain ⟨k, hk, rfl, htk, n, hwr⟩ := hrel
      have g1 : Holds wr (.slice ad l.length cap) (u64s l) := by rw [hwr]; exact HH.out.keeps ((Keeps.refl (fun _ => False) w).drewN n) (fun _ _ h => h)
      have g2 : Holds wr (.slice ad' l.length cap') (u64s l') := by rw [hwr]; exact HH'.out.keeps ((Keeps.refl (fun _ => False) w).drewN n) (fun _ _ h => h)
      have HWR := Lib.hid hwr; have HTK := Lib.hid htk
      clear hwr htk
      by_cases hlt : k < l.length
      · obtain ⟨x, hx⟩ : ∃ x, l[k]? = some x := ⟨l[k], by simp [hlt]⟩
        have hlt' : k < l'.length := by have := HLL.out; omega
        obtain ⟨y, hy⟩ : ∃ y, l'[k]? = some y := ⟨l'[k], by simp [hlt']⟩
        obtain ⟨b1, o1, _, hv1, c1⟩ := g1.index (j := k) (u := .int .u64 ((x : Nat) : Int)) (by simp [u64s, hx])
        obtain ⟨b2, o2, _, hv2, c2⟩ := g2.index (j := k) (u := .int .u64 ((y : Nat) : Int)) (by simp [u64s, hy])
        simp only [Value.slice.injEq] at hv1 hv2
        obtain ⟨rfl, _, _⟩ := hv1
        obtain ⟨rfl, _, _⟩ := hv2
        have hklt : (k : Int) < l.length := by omega
        have HX := Lib.hid hx; have HY := Lib.hid hy
        clear hx hy g1 g2 hlt hlt'
        by_cases hxy : x = y
        · subst hxy
          go_wp2
          go_quiet (fail)
          go_wp2
          refine ⟨⟨k + 1, by omega, by go_num, ?_, n + nq, by rw [HWR.out, World.drewN_drewN]⟩, by simp [intOf]; omega⟩
          rw [List.take_add_one, List.take_add_one, HTK.out, HX.out, HY.out]
        · have n1 : ((x : Int) == (y : Int)) = false := by simp; omega
          have n2 : ((x : Int) != (y : Int)) = true := by simp; omega
          have hne : l ≠ l' := fun e => by
            have h1 := HX.out
            rw [e, HY.out] at h1
            simp only [Option.some.injEq] at h1
            exact hxy h1.symm
          have HNE := Lib.hid hne
          clear hxy hne
          go_wp2
          go_quiet (fail)
          go_wp2
          go_ret
          exact ⟨by rw [decide_eq_false HNE.out]; rfl, n + nq, by rw [HWR.out, World.drewN_drewN]⟩
      · obtain rfl : k = l.length := by omega
        have he : l = l' := by
          have h1 := HTK.out
          have h2 := HLL.out
          rw [List.take_length, List.take_of_length_le (by omega)] at h1
          exact h1
        have HE := Lib.hid he
        clear he
        go_wp2
        go_ret
        exact ⟨by rw [decide_eq_true HE.out]; rfl, n, HWR.out⟩
  · have hll' : ¬ (l.length : Int) = l'.length := by omega
    have hne : l ≠ l' := fun e => hll (by rw [e])
    have HNE := Lib.hid hne
    clear hne hll
    go_enter Tryd.func37, Tryd.ntmps37
    go_wp2
    go_ret
    exact ⟨by rw [decide_eq_false HNE.out]; rfl, 0, rfl⟩

set_option maxRecDepth 100000 in
set_option maxHeartbeats 1000000 in
theorem equalBool_any (v v' : Value) (l l' : List Bool) (w : World) (h : Holds w v (bools l)) (h' : Holds w v' (bools l')) (hl : l.length ≤ 9223372036854775807) :
    Calls Tryd.prog 23 #[v, v'] w fun e w' => e = .returned (.bool (decide (l = l'))) ∧ ∃ n, w' = w.drewN n := by
  have HH := Lib.hid h; have HH' := Lib.hid h'
  obtain ⟨ad, cap, rfl, hc, _⟩ := h
  obtain ⟨ad', cap', rfl, hc', _⟩ := h'
  rw [bools_length] at hc hc' HH HH'
  rw [bools_length, bools_length]

  by_cases hll : l.length = l'.length
  · have hll' : (l.length : Int) = l'.length := by omega
    have HLL := Lib.hid hll
    rw [← hll] at HH' hc' ⊢
    clear hll hll'
    go_enter Tryd.func23, Tryd.ntmps23
    go_wp2
    go_loopw [13] (fun c wr => ∃ k : Nat, k ≤ l.length ∧ c = .int .i64 k ∧ l.take k = l'.take k ∧ ∃ n, wr = w.drewN n) (fun c _ => l.length - (intOf c).toNat)
    case atStart => exact ⟨0, by omega, rfl, rfl, 0, rfl⟩
    case round =>
      obtain ⟨k, hk, rfl, htk, n, hwr⟩ := hrel
      have g1 : Holds wr (.slice ad l.length cap) (bools l) := by rw [hwr]; exact HH.out.keeps ((Keeps.refl (fun _ => False) w).drewN n) (fun _ _ h => h)
      have g2 : Holds wr (.slice ad' l.length cap') (bools l') := by rw [hwr]; exact HH'.out.keeps ((Keeps.refl (fun _ => False) w).drewN n) (fun _ _ h => h)
      have HWR := Lib.hid hwr; have HTK := Lib.hid htk
      clear hwr htk
      by_cases hlt : k < l.length
      · obtain ⟨x, hx⟩ : ∃ x, l[k]? = some x := ⟨l[k], by simp [hlt]⟩
        have hlt' : k < l'.length := by have := HLL.out; omega
        obtain ⟨y, hy⟩ : ∃ y, l'[k]? = some y := ⟨l'[k], by simp [hlt']⟩
        obtain ⟨b1, o1, _, hv1, c1⟩ := g1.index (j := k) (u := .bool x) (by simp [bools, hx])
        obtain ⟨b2, o2, _, hv2, c2⟩ := g2.index (j := k) (u := .bool y) (by simp [bools, hy])
        simp only [Value.slice.injEq] at hv1 hv2
        obtain ⟨rfl, _, _⟩ := hv1
        obtain ⟨rfl, _, _⟩ := hv2
        have hklt : (k : Int) < l.length := by omega
        have HX := Lib.hid hx; have HY := Lib.hid hy
        clear hx hy g1 g2 hlt hlt'
        by_cases hxy : x = y
        · subst hxy
          go_wp2
          go_quiet (fail)
          go_wp2
          refine ⟨⟨k + 1, by omega, by go_num, ?_, n + nq, by rw [HWR.out, World.drewN_drewN]⟩, by simp [intOf]; omega⟩
          rw [List.take_add_one, List.take_add_one, HTK.out, HX.out, HY.out]
        · have n1 : (x == y) = false := by simp [hxy]
          have n2 : (x != y) = true := by simp [hxy]
          have hne : l ≠ l' := fun e => by
            have h1 := HX.out
            rw [e, HY.out] at h1
            simp only [Option.some.injEq] at h1
            exact hxy h1.symm
          have HNE := Lib.hid hne
          clear hxy hne
          go_wp2
          go_quiet (fail)
          go_wp2
          go_ret
          exact ⟨by rw [decide_eq_false HNE.out]; rfl, n + nq, by rw [HWR.out, World.drewN_drewN]⟩
      · obtain rfl : k = l.length := by omega
        have he : l = l' := by
          have h1 := HTK.out
          have h2 := HLL.out
          rw [List.take_length, List.take_of_length_le (by omega)] at h1
          exact h1
        have HE := Lib.hid he
        clear he
        go_wp2
        go_ret
        exact ⟨by rw [decide_eq_true HE.out]; rfl, n, HWR.out⟩
  · have hll' : ¬ (l.length : Int) = l'.length := by omega
    have hne : l ≠ l' := fun e => hll (by rw [e])
    have HNE := Lib.hid hne
    clear hne hll
    go_enter Tryd.func23, Tryd.ntmps23
    go_wp2
    go_ret
    exact ⟨by rw [decide_eq_false HNE.out]; rfl, 0, rfl⟩
end Go.Proofs.YtdniaingipoggaaDoor
