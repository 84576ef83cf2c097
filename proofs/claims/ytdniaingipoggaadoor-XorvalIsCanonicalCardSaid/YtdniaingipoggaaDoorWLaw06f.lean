/-
  WALKS: xorval's IsCanonical (made by lawgen.py).
-/
import Derived.Test.YtdniaingipoggaaDoorWAlive06
import Derived.Test.YtdniaingipoggaaDoorWRef01
import Derived.Test.YtdniaingipoggaaDoorWPack
import Derived.Test.YtdniaingipoggaaDoorWSlices
import Derived.Test.YtdniaingipoggaaDoorDRef01b
import Derived.Test.YtdniaingipoggaaDoorPQuiet
namespace Go.Proofs.YtdniaingipoggaaDoor
open Go.RowKit

set_option maxRecDepth 100000 in
set_option maxHeartbeats 4000000 in
theorem xorvalIsCanonical_any (v : Value) (l : List Nat) (n : Int) (w : World) (h : Holds w v (u8s l)) (hb : ∀ c ∈ l, c < 256) (hT : TabZ w) :
    Calls Tryd.prog 10 #[v, .int .i64 n] w fun e w' => e = .returned (.bool true) ∧ Keeps (fun _ => False) w w' := by
  obtain ⟨i0, hi, hz0, hz1, hz2⟩ := info_parts infoBool
  have HH := Lib.hid h; have HB := Lib.hid hb; have HT := Lib.hid hT
  obtain ⟨ad, cap, rfl, hc, _⟩ := h
  rw [u8s_length] at hc HH ⊢
  clear hb hT
  by_cases hl : l.length ≤ 300
  · have hl' : ¬ 300 < (l.length : Int) := by omega
    by_cases hn : n ≤ 2400
    · have hn' : ¬ 2400 < n := by omega
      by_cases hneg : n < 0
      · go_enter Tryd.func10, Tryd.ntmps10
        go_wp2_with fail
        refine (alive06_any w HT.out).mono ?_
        rintro e w1 ⟨rfl, k1⟩
        go_wp2
        go_ret
        exact ⟨rfl, k1⟩
      · obtain ⟨N, rfl⟩ : ∃ N : Nat, n = N := ⟨n.toNat, by omega⟩
        obtain ⟨⟨er, vs, rest⟩, hd⟩ : ∃ d, dec6 N (unpackB l) = d := ⟨_, rfl⟩
        have hne : ¬ ((N : Int) < 0) := by omega
        by_cases her : er = 0
        · subst her
          obtain ⟨s1, s2⟩ := dec6_sound hd
          have hX := dec6_lt hd
          have HD := Lib.hid hd; have S1 := Lib.hid s1; have S2 := Lib.hid s2; have HX := Lib.hid hX
          clear hd s1 hX
          go_enter Tryd.func10, Tryd.ntmps10
          go_wp2_with fail
          refine (newReader_any w.heap.size _ l w HH.out (by omega) HB.out (Nat.le_refl _)).mono ?_
          rintro e w1 ⟨q, vr, rfl, hq0, hr, hvr, k1⟩
          have R1 := Lib.hid hr; have K1 := Lib.hid k1; have HQ0 := Lib.hid hq0
          clear hr hvr k1 hq0
          go_wp2_with fail
          refine (get6_any w.heap.size q vr l 0 N w1 R1.out (by omega) (by omega) (by omega) (HT.out.keeps K1.out (fun h => h)) HT.out.pos).mono ?_
          rw [List.drop_zero, HD.out]
          rintro e w2 ⟨v2, rfl, r2, ⟨i2, hi2, hR2, hrest⟩, k2⟩
          obtain ⟨ad2, cap2, rfl⟩ := row_slice r2
          simp only at r2 hrest
          rw [s2] at r2
          have kk2 : Keeps (fun _ => False) w w2 := K1.out.trans k2 (fun k hk e => by have := HQ0.out; omega)
          have hel : (enc6 vs).length = i2 := by
            have h1 := congrArg List.length S1.out
            rw [unpackB_length, List.length_append, hrest, rest_length] at h1
            omega
          have htk : (unpackB l).take i2 = enc6 vs := by rw [S1.out, ← hel, List.take_left]
          have hh2 : Holds w2 (.slice ad2 N cap2) (u64s vs) := holds_row r2
          have R2 := Lib.hid hR2; have K2 := Lib.hid kk2; have HV2 := Lib.hid hh2; have HEL := Lib.hid hel; have HTK := Lib.hid htk; have S2 := Lib.hid s2
          clear r2 hR2 hrest k2 kk2 hel htk hh2 s2
          have hvn : vs.length ≤ 1000000000 := by have := S2.out; omega
          simp only [S2.out]
          go_wp2_with fail
          refine (rput6_any w2.heap.size (.slice none 0 0) _ [] vs w2 (World.ownsRow_nil _ _ _ _) (by simp) (Nat.le_refl _) hvn HX.out HV2.out (fun g _ e => by simp [own, Value.ownBlock] at e)).mono ?_
          rw [List.nil_append]
          rintro e w3 ⟨v3, rfl, h3⟩
          have hu := h3.row
          have k3 : Keeps (fun _ => False) w2 w3 := h3.keeps.mono (fun k hk e => by simp [own, Value.ownBlock] at e)
          rw [bools_length, HEL.out] at hu
          obtain ⟨ad3, cap3, rfl⟩ := row_slice hu
          have hb3 : Holds w3 (.slice ad3 i2 cap3) (bools (enc6 vs)) := holds_row hu
          have R3 := Lib.hid (R2.out.keeps k3 (fun h => h) (fun _ _ h => h)); have K3 := Lib.hid (K2.out.trans k3 (fun _ _ h => h)); have HB3 := Lib.hid hb3
          clear h3 hu k3 hb3
          go_wp2_with fail
          refine (left_any _ q vr l i2 w3 R3.out (by omega) hi2).mono ?_
          rintro e w4 ⟨rfl, n4, hw4⟩
          have k4 : Keeps (fun _ => False) w3 w4 := by rw [hw4]; exact (Keeps.refl _ w3).drewN n4
          have K4 := Lib.hid (K3.out.trans k4 (fun _ _ h => h)); have HB4 := Lib.hid (HB3.out.keeps k4 (fun _ _ h => h))
          clear k4 hw4
          obtain ⟨M, hM⟩ : ∃ M, M = 8 * l.length - i2 := ⟨_, rfl⟩
          rw [← hM]
          have hM1 : IntKind.i64.wrap (8 * (l.length : Int)) = 8 * l.length := IntWalk.i64_in _ (by omega)
          have hM2 : 8 * (l.length : Int) - M = i2 := by omega
          have hM3 : IntKind.i64.wrap (i2 : Int) = i2 := wrap_nat i2 (by omega)
          have HM := Lib.hid hM
          clear hM
          go_wp2_with fail
          refine (alive06_any w4 (HT.out.keeps K4.out (fun h => h))).mono ?_
          rintro e w5 ⟨rfl, k5⟩
          have K5 := Lib.hid (K4.out.trans k5 (fun _ _ h => h)); have HB5 := Lib.hid (HB4.out.keeps k5 (fun _ _ h => h))
          have H5 := Lib.hid (HH.out.keeps K5.out (fun _ _ h => h))
          clear k5
          go_wp2_with fail
          refine (refUnpack_any _ l w5 H5.out HB.out (by omega)).mono ?_
          rintro e w6 ⟨v6, rfl, h6⟩
          have hu6 := h6.row
          have k6 : Keeps (fun _ => False) w5 w6 := h6.keeps.mono (fun k hk e => by simp [own, Value.ownBlock] at e)
          obtain ⟨ad6, cap6, rfl⟩ := row_slice hu6
          rw [bools_length, unpackB_length] at hu6 ⊢
          have hh6 : Holds w6 (.slice ad6 (8 * l.length) cap6) (bools (unpackB l)) := holds_row hu6
          have hc6 : 8 * l.length ≤ cap6 := row_cap hu6
          obtain ⟨a7, c7, hsl, hh7⟩ := run_to_all (P := Tryd.prog) w6 32 4 Tryd.underlying32 hi hz1 hh6 .i64 i2 (by rw [bools_length, unpackB_length]; exact hi2)
          have e7 : (bools (unpackB l)).take i2 = bools (enc6 vs) := by rw [← HTK.out]; simp [bools]
          rw [e7] at hh7
          have K6 := Lib.hid (K5.out.trans k6 (fun _ _ h => h)); have HB6 := Lib.hid (HB5.out.keeps k6 (fun _ _ h => h)); have HH7 := Lib.hid hh7
          have o1 : max (i2 : Int) 0 = i2 := by omega
          have o2 : min (i2 : Int) (8 * (l.length : Int)) = i2 := by omega
          have o3 : (i2 : Int) ≤ cap6 := by omega
          have hil : (enc6 vs).length ≤ 9223372036854775807 := by rw [HEL.out]; omega
          clear h6 hu6 k6 hh6 hh7 e7
          go_wp2_with fail
          refine (equalBool_any _ _ (enc6 vs) (enc6 vs) w6 HB6.out HH7.out hil).mono ?_
          have dl : decide (enc6 vs = enc6 vs) = true := by simp
          rw [dl]
          clear dl
          rintro e w7 ⟨rfl, n7, hw7⟩
          have K7 : Hid (Keeps (fun _ => False) w w7) := Lib.hid (by rw [hw7]; exact K6.out.drewN n7)
          clear hw7
          go_wp2
          go_ret
          exact ⟨by simp, K7.out⟩
        · have hvs : vs = [] := by have := dec6_bad (n := N) (b := unpackB l) (by rw [hd]; exact her); rw [hd] at this; exact this
          subst hvs
          have HD := Lib.hid hd
          have her1 : ((er : Int) == 0) = false := by simp; omega
          have her2 : ¬ (er : Int) = 0 := by omega
          clear hd her
          go_enter Tryd.func10, Tryd.ntmps10
          go_wp2_with fail
          refine (newReader_any w.heap.size _ l w HH.out (by omega) HB.out (Nat.le_refl _)).mono ?_
          rintro e w1 ⟨q, vr, rfl, hq0, hr, hvr, k1⟩
          have R1 := Lib.hid hr; have K1 := Lib.hid k1; have HQ0 := Lib.hid hq0
          clear hr hvr k1 hq0
          go_wp2_with fail
          refine (get6_any w.heap.size q vr l 0 N w1 R1.out (by omega) (by omega) (by omega) (HT.out.keeps K1.out (fun h => h)) HT.out.pos).mono ?_
          rw [List.drop_zero, HD.out]
          rintro e w2 ⟨v2, rfl, r2, ⟨i2, hi2, hR2, hrest⟩, k2⟩
          simp only [List.length_nil] at r2
          obtain ⟨ad2, cap2, rfl⟩ := row_slice r2
          have kk2 : Keeps (fun _ => False) w w2 := K1.out.trans k2 (fun k hk e => by have := HQ0.out; omega)
          have K2 := Lib.hid kk2
          clear r2 hR2 hrest k2 kk2 hi2
          go_wp2_with fail
          refine (alive06_any w2 (HT.out.keeps K2.out (fun h => h))).mono ?_
          rintro e w3 ⟨rfl, k3⟩
          have K3 := Lib.hid (K2.out.trans k3 (fun _ _ h => h))
          clear k3
          go_wp2
          go_ret
          exact ⟨by simp, K3.out⟩
    · have hn' : 2400 < n := by omega
      go_enter Tryd.func10, Tryd.ntmps10
      go_wp2_with fail
      refine (alive06_any w HT.out).mono ?_
      rintro e w1 ⟨rfl, k1⟩
      go_wp2
      go_ret
      exact ⟨rfl, k1⟩
  · have hl' : 300 < (l.length : Int) := by omega
    go_enter Tryd.func10, Tryd.ntmps10
    go_wp2_with fail
    refine (alive06_any w HT.out).mono ?_
    rintro e w1 ⟨rfl, k1⟩
    go_wp2
    go_ret
    exact ⟨rfl, k1⟩
end Go.Proofs.YtdniaingipoggaaDoor
