/-
  WALKS: RunvalSplits.
-/
import Derived.Test.YtdniaingipoggaaWLaw07a
namespace Go.Proofs.Ytdniaingipoggaa
open Go.RowKit

set_option maxRecDepth 100000 in
set_option maxHeartbeats 4000000 in
theorem runvalSplits_any (v : Value) (l : List Nat) (w : World) (h : Holds w v (u64s l)) :
    Calls Try.prog 15 #[v] w fun e w' => e = .returned (.bool true) ∧ Keeps (fun _ => False) w w' := by
  have HH := Lib.hid h
  obtain ⟨ad, cap, rfl, hc, _⟩ := h
  rw [u64s_length] at hc HH ⊢
  by_cases hl : l.length ≤ 600
  · have hl' : ¬ 600 < (l.length : Int) := by omega
    obtain ⟨rs, hrs⟩ : ∃ rs, rs = runsOf l := ⟨_, rfl⟩
    have hrl : rs.length ≤ 600 := by rw [hrs]; exact Nat.le_trans (runsOf_length l) hl
    have hjo : joinI (intRuns rs) = l := by rw [joinI_intRuns rs (fun p hp => (runsOf_mem (by rw [← hrs]; exact hp)).2.2), hrs, joinOf_runsOf]
    have HRS := Lib.hid hrs; have HJO := Lib.hid hjo
    clear hrs hjo
    go_enter Try.func15, Try.ntmps15
    go_wp2_with fail
    refine (refSplit_any _ l w (by omega) HH.out).mono ?_
    rw [← HRS.out]
    rintro e w1 ⟨v1, v2, rfl, hr1, hr2, hk1⟩
    obtain ⟨a1, c1, rfl⟩ := row_slice hr1
    obtain ⟨a2, c2, rfl⟩ := row_slice hr2
    have HR1 := Lib.hid hr1; have HR2 := Lib.hid hr2; have HK1 := Lib.hid hk1; have HH1 := Lib.hid (HH.out.keeps hk1 (fun _ _ h => h))
    clear hr1 hr2 hk1
    go_wp2_with fail
    refine (split_any _ l w1 (by omega) HH1.out).mono ?_
    rw [← HRS.out]
    rintro e w2 ⟨v5, rfl, hr5, hk2⟩
    obtain ⟨a5, c5, rfl⟩ := row_slice hr5
    have HR5 := Lib.hid (holdsP_row hr5); have HK2 := Lib.hid (HK1.out.trans hk2 (fun _ _ h => h)); have HR1b := Lib.hid (hk2.row HR1.out (fun _ _ h => h)); have HR2b := Lib.hid (hk2.row HR2.out (fun _ _ h => h))
    clear hr5 hk2
    go_wp2
    go_loopw [26] (fun c wr => ∃ k : Nat, k ≤ rs.length ∧ c = .int .i64 k ∧ Keeps (fun _ => False) w2 wr) (fun c _ => rs.length - (intOf c).toNat)
    case atStart => exact ⟨0, by omega, rfl, Keeps.refl _ _⟩
    case round =>
      obtain ⟨k, hk, rfl, hkw⟩ := hrel
      by_cases hlt : k < rs.length
      · obtain ⟨⟨x, c⟩, hxk⟩ : ∃ p, rs[k]? = some p := ⟨rs[k], by simp [hlt]⟩
        obtain ⟨b5, o5, rfl, p0, p1⟩ := (HR5.out.keeps hkw (fun _ _ h => h)).cell (k := k) (X := x) (N := (c : Int)) (by simp [intRuns, hxk])
        obtain ⟨g1, cp1, hv1, _, _, q1, _⟩ := row_cell (hkw.row HR1b.out (fun _ _ h => h)) (i := k) (u := .int .u64 (x : Nat)) (by simp [u64s, hxk])
        obtain ⟨g2, cp2, hv2, _, _, q2, _⟩ := row_cell (hkw.row HR2b.out (fun _ _ h => h)) (i := k) (u := .int .i64 (c : Nat)) (by simp [natI, hxk])
        simp only [Value.slice.injEq] at hv1 hv2
        obtain ⟨rfl, _, rfl⟩ := hv1
        obtain ⟨rfl, _, rfl⟩ := hv2
        have hklt : (k : Int) < rs.length := by omega
        have hg1 : g1 < wr.heap.size := World.block_lt_of_cell? wr _ q1
        have hg2 : g2 < wr.heap.size := World.block_lt_of_cell? wr _ q2
        obtain ⟨wa, hwa⟩ : ∃ wa, wa = wr.alloc (.cells #[.int .u64 (x : Nat), .int .i64 (c : Nat)] 82) := ⟨_, rfl⟩
        have hX := heap_alloc_new wr (.cells #[.int .u64 (x : Nat), .int .i64 (c : Nat)] 82)
        rw [← hwa] at hX
        have r0 : wa.cell? ⟨wr.heap.size, 0, none⟩ = some (.int .u64 (x : Nat)) := by rw [cell_of_row _ _ _ _ _ _ hX]; rfl
        have r1 : wa.cell? ⟨wr.heap.size, 1, none⟩ = some (.int .i64 (c : Nat)) := by rw [cell_of_row _ _ _ _ _ _ hX]; rfl
        have q1' : wa.cell? ⟨g1, k, none⟩ = some (.int .u64 (x : Nat)) := by rw [hwa]; exact (cell_alloc_below wr _ _ hg1).trans q1
        have q2' : wa.cell? ⟨g2, k, none⟩ = some (.int .i64 (c : Nat)) := by rw [hwa]; exact (cell_alloc_below wr _ _ hg2).trans q2
        have hkwa : Keeps (fun _ => False) w2 wa := by rw [hwa]; exact hkw.alloc _
        have HWA := Lib.hid hwa; have HKWA := Lib.hid hkwa
        clear hwa hkw hkwa hX q1 q2 hxk
        go_upto_region 10 with (fail)
        rw [← HWA.out]
        go_quiet (fail)
        go_wp2
        exact ⟨⟨k + 1, by omega, by go_num, HKWA.out.drewN nq⟩, by simp [intOf]; omega⟩
      · obtain rfl : k = rs.length := by omega
        have HKW := Lib.hid hkw
        clear hkw
        go_wp2_with fail
        refine (alive07_any wr).mono ?_
        rintro e w3 ⟨rfl, hk3⟩
        have hk23 := HKW.out.trans hk3 (fun _ _ h => h)
        have hp3 := HR5.out.keeps hk23 (fun _ _ h => h)
        have HK23 := Lib.hid hk23; have HP3 := Lib.hid hp3
        clear hk3 hk23 hp3
        go_wp2_with fail
        refine (join_any _ (intRuns rs) w3 HP3.out (by rw [intRuns_length]; omega)).mono ?_
        rw [HJO.out]
        rintro e w4 ⟨v4, rfl, r4, hk4⟩
        have hk24 := HK23.out.trans hk4 (fun _ _ h => h)
        have hkall := HK2.out.trans hk24 (fun _ _ h => h)
        have HA := Lib.hid (HH.out.keeps hkall (fun _ _ h => h)); have HB := Lib.hid (holds_row r4); have HKA := Lib.hid hkall
        clear r4 hk4 hk24 hkall
        go_wp2_with fail
        refine (equalU64_any _ _ l l w4 HB.out HA.out (by omega)).mono ?_
        rintro e w5 ⟨rfl, n5, hw5⟩
        have hk5 : Keeps (fun _ => False) w w5 := by rw [hw5]; exact HKA.out.drewN n5
        have HK5 := Lib.hid hk5
        clear hk5 hw5
        go_wp2
        go_ret
        exact ⟨by simp, HK5.out⟩
  · have hl' : 600 < (l.length : Int) := by omega
    go_enter Try.func15, Try.ntmps15
    go_wp2_with fail
    refine (alive07_any w).mono ?_
    rintro e w1 ⟨rfl, k1⟩
    go_wp2
    go_ret
    exact ⟨rfl, k1⟩
end Go.Proofs.Ytdniaingipoggaa
