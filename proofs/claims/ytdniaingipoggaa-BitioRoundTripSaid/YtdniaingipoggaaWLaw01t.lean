/-
  WALKS: BitioRoundTrip.
-/
import Derived.Test.YtdniaingipoggaaWLaw01r
import Derived.Test.YtdniaingipoggaaPRound
import Derived.WalkKit
import Derived.WalkSpells
import Derived.WalkLawsBesides
import Derived.Lib.Hide
namespace Go.Proofs.Ytdniaingipoggaa
open Go.RowKit

set_option maxRecDepth 100000 in
set_option maxHeartbeats 4000000 in
theorem bitioRoundTrip_any (vl : Value) (fs : List (Nat × Int)) (w : World) (hf : HoldsF w w.heap.size vl fs) (hfs : ∀ f ∈ fs, f.1 ≤ 18446744073709551615) :
    Calls Try.prog 7 #[vl] w fun e w' => e = .returned (.bool true) ∧ Keeps (fun _ => False) w w' := by
  obtain ⟨ad, cap, rfl, hcells⟩ := hf
  have HF : Hid (HoldsF w w.heap.size (.slice ad fs.length cap) fs) := Lib.hid ⟨ad, cap, rfl, hcells⟩
  have HC := Lib.hid hcells; have HFS := Lib.hid hfs
  clear hcells hfs
  by_cases hl : fs.length ≤ 300
  · have hl' : ¬ 300 < (fs.length : Int) := by omega
    go_enter Try.func7, Try.ntmps7
    go_wp2_with fail
    refine (newWriter_any w).mono ?_
    rintro e w1 ⟨rfl, hw1⟩
    have h1 := newWriter_is w w.heap.size (Nat.le_refl _)
    have k1 : Keeps (fun _ => False) w w1 := by rw [hw1]; exact (Keeps.refl _ _).alloc _
    rw [← hw1] at h1
    have hf1 := HF.out.keeps k1
    obtain ⟨B, hB⟩ : ∃ B, B = w.heap.size := ⟨_, rfl⟩
    rw [← hB] at h1 hf1 ⊢
    have HB := Lib.hid hB; have H1 := Lib.hid h1; have K1 := Lib.hid k1; have HF1 := Lib.hid hf1
    clear hB h1 k1 hw1 hf1
    go_wp2_with fail
    refine (lawWrite_any B B _ fs w1 H1.out HF1.out HFS.out hl (by have := H1.out.lt; omega)).mono ?_
    rintro e w2 ⟨vb, rfl, hrow, v2, h2, k2, n2⟩
    obtain ⟨adb, capb, rfl⟩ := row_slice hrow
    have hL := bitsOfFields_le fs
    have hL2 : (bitsOfFields fs).length ≤ 19200 := by omega
    obtain ⟨L, hLe⟩ : ∃ L, L = bitsOfFields fs := ⟨_, rfl⟩
    have HLE := Lib.hid hLe
    rw [← hLe] at hrow h2 hL2 ⊢
    rw [bools_length]
    have H2 := Lib.hid h2
    have K2 : Hid (Keeps (fun _ => False) w w2) := Lib.hid (K1.out.trans k2 (fun k hk e => foot_nil (by rw [HB.out]; exact Nat.le_refl _) hk e))
    clear hrow h2 k2 n2 hL hLe
    have hpl := packed_length L
    obtain ⟨M, hM⟩ : ∃ M, M = L.length := ⟨_, rfl⟩
    rw [← hM] at hL2 hpl ⊢
    have HM := Lib.hid hM
    clear hM
    obtain ⟨T, hT⟩ : ∃ T, T = M + 7 := ⟨_, rfl⟩
    obtain ⟨D, hD⟩ : ∃ D, D = T / 8 := ⟨_, rfl⟩
    obtain ⟨R, hR⟩ : ∃ R, R = D * 8 := ⟨_, rfl⟩
    have e1 : IntKind.i64.wrap ((M : Int) + 7) = (T : Int) := by rw [IntWalk.i64_in] <;> omega
    have e2 : IntKind.i64.wrap ((T : Int).tdiv 8) = (D : Int) := by rw [Int.tdiv_eq_ediv_of_nonneg (by omega), IntWalk.i64_in] <;> omega
    have e3 : IntKind.i64.wrap ((D : Int) * 8) = (R : Int) := by rw [IntWalk.i64_in] <;> omega
    have e4 : (T : Int) / 8 = (D : Int) := by omega
    have e5 : (T : Int).tdiv 8 = (D : Int) := by rw [Int.tdiv_eq_ediv_of_nonneg (by omega)]; omega
    have e6 : (M : Int) + 7 = (T : Int) := by omega
    have e7 : (D : Int) * 8 = (R : Int) := by omega
    have hR8 : 8 * (packed L).length - 0 = R := by rw [hpl, hR, hD, hT]; omega
    have hRl : 8 * (packed L).length = R := by omega
    have HR8 := Lib.hid hR8; have HRL := Lib.hid hRl; have HPL := Lib.hid hpl; have HT := Lib.hid hT; have HD := Lib.hid hD; have HRR := Lib.hid hR
    have hpb : (packed L).length ≤ 140737488351232 := by omega
    have HPB := Lib.hid hpb
    clear hR8 hRl hpl hT hD hR hpb
    go_wp2_with fail
    refine (wbytes_any B B _ L _ H2.out (by have := HM.out; omega)).mono ?_
    rintro e w3 ⟨v3, rfl, r3, k3⟩
    have R3 := Lib.hid (holds_row r3)
    have K3 := Lib.hid (K2.out.fseq k3)
    clear r3 k3
    go_wp2_with fail
    refine (newReader_any w3.heap.size v3 (packed L) w3 R3.out HPB.out (packed_lt L) (Nat.le_refl _)).mono ?_
    rintro e w4 ⟨q, vr, rfl, hq0, hr, hvr, k4⟩
    have HR := Lib.hid hr; have HVR := Lib.hid hvr; have K4 := Lib.hid (K3.out.fseq k4)
    have HQ0 : Hid (w.heap.size ≤ q) := Lib.hid (by have := K3.out.size; omega)
    clear hr hvr k4 hq0
    obtain ⟨Z, hZ⟩ : ∃ Z, Z = w3.heap.size := ⟨_, rfl⟩
    rw [← hZ] at HR
    clear hZ
    go_wp2_with fail
    refine (left_any Z q vr (packed L) 0 w4 HR.out HPB.out (by omega)).mono ?_
    rw [HR8.out]
    rintro e w5 ⟨rfl, nq, rfl⟩
    obtain ⟨w5, hw5⟩ : ∃ w5, w5 = w4.drewN nq := ⟨_, rfl⟩
    have HR5 : Hid (IsR w5 Z q vr (packed L) 0) := Lib.hid (by rw [hw5]; exact HR.out.drewN nq)
    have K5 : Hid (Keeps (fun _ => False) w w5) := Lib.hid (by rw [hw5]; exact K4.out.drewN nq)
    rw [← hw5]
    clear hw5
    go_wp2_with fail
    go_loopw [46] (fun c wr => ∃ k : Nat, k ≤ fs.length ∧ c = .int .i64 (k : Nat) ∧ IsR wr Z q vr (packed L) (bitsOfFields (fs.take k)).length ∧ Keeps (fun _ => False) w wr) (fun c _ => fs.length - (intOf c).toNat)
    case atStart => exact ⟨0, by omega, rfl, HR5.out, K5.out⟩
    case round =>
      obtain ⟨k, hk, rfl, hr, hkw⟩ := hrel
      by_cases hlt : k < fs.length
      · obtain ⟨⟨X, N⟩, hfk⟩ : ∃ f, fs[k]? = some f := ⟨fs[k], by simp [hlt]⟩
        obtain ⟨b, off, rfl, hc1, hc2⟩ : ∃ b off, ad = some ⟨b, off, none⟩ ∧ wr.cell? ⟨b, off + k * 2, none⟩ = some (.int .u64 (X : Nat)) ∧ wr.cell? ⟨b, off + k * 2 + 1, none⟩ = some (.int .i64 N) := by
          rcases HC.out with h0 | ⟨b, off, h1, h2, h3⟩
          · simp [h0] at hlt
          · obtain ⟨c1, c2⟩ := h3 k X N hfk
            exact ⟨b, off, h1, hkw.cell c1 (fun h => h), hkw.cell c2 (fun h => h)⟩
        have hX := u64_of_field HFS.out hfk
        have RR := Lib.hid hr; have KR := Lib.hid hkw; have HFK := Lib.hid hfk
        clear hr hkw hfk
        by_cases hN : 0 ≤ N ∧ N ≤ 64
        · obtain ⟨f1, f2, f3⟩ := field_at HFK.out hN
          obtain ⟨n, rfl⟩ := Int.eq_ofNat_of_zero_le hN.1
          have hn64 : n ≤ 64 := by omega
          have hnn : ¬ (n : Int) < 0 := by omega
          have hnn2 : ¬ 64 < (n : Int) := by omega
          rw [Int.toNat_natCast, ← HLE.out] at f1 f2
          rw [Int.toNat_natCast] at f3
          have rr := RR.out
          obtain ⟨i, hi⟩ : ∃ i, i = (bitsOfFields (fs.take k)).length := ⟨_, rfl⟩
          rw [← hi] at f1 f2 f3 rr
          obtain ⟨V, hV⟩ : ∃ V, V = X % 2 ^ n := ⟨_, rfl⟩
          have hval : bitsNat (bitsFrom (packed L) i n) = V := by rw [f2, hV]; exact bitsNat_field X n
          have hin : i + n ≤ 8 * (packed L).length := by rw [HRL.out]; have := HM.out; have := HT.out; have := HD.out; have := HRR.out; omega
          have ra := rr.keeps ((Keeps.refl (fun _ => False) wr).alloc (.cells #[.int .u64 X, .int .i64 n] 56)) (fun h => h) (fun _ _ h => h)
          have hql : q < wr.heap.size := rr.lt
          have RA := Lib.hid ra; have HVAL := Lib.hid hval; have HI := Lib.hid hi; have F3 := Lib.hid f3; have HIN := Lib.hid hin; have HVV := Lib.hid hV; have HQL := Lib.hid hql
          clear RR hi ra hval f1 f2 f3 rr hin hV hN hql
          go_wp2_with fail
          refine (rbits_any Z q vr (packed L) i n _ RA.out HPB.out hn64 HIN.out).mono ?_
          rw [HVAL.out]
          rintro e w6 ⟨rfl, r6, k6⟩
          have d0 : w6.cell? ⟨wr.heap.size, 0, none⟩ = some (.int .u64 (X : Nat)) := k6.cell (World.cell?_alloc_at _ _ _ _ rfl) (fun e => by have := HQL.out; simp only at e; omega)
          have d1 : w6.cell? ⟨wr.heap.size, 1, none⟩ = some (.int .i64 (n : Nat)) := k6.cell (World.cell?_alloc_at _ _ _ _ rfl) (fun e => by have := HQL.out; simp only at e; omega)
          have R6 := Lib.hid r6
          have K6 := Lib.hid ((KR.out.alloc (.cells #[.int .u64 X, .int .i64 n] 56)).trans k6 (fun k hk e => by have := HQ0.out; omega))
          clear r6 k6
          by_cases h64 : n < 64
          · have h64' : (n : Int) < 64 := by omega
            have hpp : 2 ^ n ≤ 2 ^ 63 := Nat.pow_le_pow_right (by decide) (by omega)
            have hp0 : 0 < 2 ^ n := Nat.pow_pos (by decide)
            have hand : X &&& (2 ^ n - 1) = X % 2 ^ n := Nat.and_two_pow_sub_one_eq_mod X n
            have hint : ((2 : Int) ^ n) = ((2 ^ n : Nat) : Int) := by simp
            obtain ⟨P, hP⟩ : ∃ P, P = 2 ^ n := ⟨_, rfl⟩
            obtain ⟨Pm, hPm⟩ : ∃ Pm, Pm = P - 1 := ⟨_, rfl⟩
            rw [← hP] at hpp hp0 hand hint
            have p1 : IntKind.u64.wrap ((2 : Int) ^ n) = (P : Int) := by rw [hint, IntWalk.u64_in] <;> omega
            have p1' : IntKind.u64.wrap (1 * (2 : Int) ^ n) = (P : Int) := by rw [Int.one_mul]; exact p1
            have p2 : IntKind.u64.wrap ((P : Int) - 1) = (Pm : Int) := by rw [IntWalk.u64_in] <;> omega
            have p3 : bits .and .u64 (X : Int) (Pm : Int) = (V : Int) := by
              rw [u64_and_nat _ _ (by omega) (by omega), hPm, hand, HVV.out, hP]
            have HP := Lib.hid hP; have HPM := Lib.hid hPm
            clear hpp hp0 hand hint hP hPm h64
            go_wp2_with fail
            go_quiet (fail)
            go_wp2
            exact ⟨⟨k + 1, by omega, by go_num, by rw [F3.out]; exact R6.out.drewN nq, K6.out.drewN nq⟩, by simp [intOf]; omega⟩
          · have h64' : ¬ (n : Int) < 64 := by omega
            have hVX : V = X := by
              rw [HVV.out, show n = 64 by omega]
              exact Nat.mod_eq_of_lt (by omega)
            rw [hVX]
            clear hVX h64
            go_wp2
            exact ⟨⟨k + 1, by omega, by go_num, by rw [F3.out]; exact R6.out, K6.out⟩, by simp [intOf]; omega⟩
        · have hskip := field_skip HFK.out hN
          have HS := Lib.hid hskip
          clear hskip
          have hbad : N < 0 ∨ 64 < N := by omega
          clear hN
          rcases hbad with hbad | hbad
          · go_wp2
            exact ⟨⟨k + 1, by omega, by go_num, by rw [HS.out]; exact RR.out.keeps ((Keeps.refl (fun _ => False) wr).alloc _) (fun h => h) (fun _ _ h => h), KR.out.alloc _⟩, by simp [intOf]; omega⟩
          · have hbad' : ¬ N < 0 := by omega
            go_wp2
            exact ⟨⟨k + 1, by omega, by go_num, by rw [HS.out]; exact RR.out.keeps ((Keeps.refl (fun _ => False) wr).alloc _) (fun h => h) (fun _ _ h => h), KR.out.alloc _⟩, by simp [intOf]; omega⟩
      · obtain rfl : k = fs.length := by omega
        rw [List.take_length] at hr
        have hend := endOf_packed L
        have RR := Lib.hid hr; have KR := Lib.hid hkw
        have HE := Lib.hid hend
        clear hr hkw hend
        go_wp2_with fail
        refine (alive01_any wr).mono ?_
        rintro e w6 ⟨rfl, k6⟩
        have R6 := Lib.hid (RR.out.keeps k6 (fun h => h) (fun _ _ h => h))
        have K6 := Lib.hid (KR.out.fseq k6)
        clear k6
        go_wp2_with fail
        refine (rend_any Z q vr (packed L) _ w6 R6.out HPB.out (by rw [← HLE.out, HRL.out]; have := HM.out; have := HT.out; have := HD.out; have := HRR.out; omega)).mono ?_
        rw [← HLE.out, HE.out]
        rintro e w7 ⟨rfl, nz, rfl⟩
        go_wp2
        go_ret
        exact ⟨by simp, K6.out.drewN nz⟩
  · have hl' : 300 < (fs.length : Int) := by omega
    go_enter Try.func7, Try.ntmps7
    go_wp2_with fail
    refine (alive01_any w).mono ?_
    rintro e w1 ⟨rfl, k1⟩
    go_wp2
    go_ret
    exact ⟨rfl, k1⟩
end Go.Proofs.Ytdniaingipoggaa
