/-
  WALKS: xorval's RoundTrip (made by lawgen.py).
-/
import Derived.Test.YtdniaingipoggaaDoorWAlive06
import Derived.Test.YtdniaingipoggaaDoorWRef01
import Derived.Test.YtdniaingipoggaaDoorWPack
import Derived.Test.YtdniaingipoggaaDoorWSlices
namespace Go.Proofs.YtdniaingipoggaaDoor
open Go.RowKit

set_option maxRecDepth 100000 in
set_option maxHeartbeats 4000000 in
theorem xorvalRoundTrip_any (v : Value) (l : List Nat) (w : World) (h : Holds w v (u64s l)) (hX : ∀ x ∈ l, x ≤ 18446744073709551615) (hT : TabZ w) :
    Calls Tryd.prog 13 #[v] w fun e w' => e = .returned (.bool true) ∧ Keeps (fun _ => False) w w' := by
  have HH := Lib.hid h; have HX := Lib.hid hX; have HT := Lib.hid hT
  obtain ⟨ad, cap, rfl, hc, _⟩ := h
  rw [u64s_length] at hc HH ⊢
  clear hX hT
  by_cases hl : l.length ≤ 300
  · have hl' : ¬ 300 < (l.length : Int) := by omega
    go_enter Tryd.func13, Tryd.ntmps13
    go_wp2_with fail
    refine (newWriter_any w).mono ?_
    rintro e w1 ⟨rfl, hw1⟩
    have h1 := newWriter_is w w.heap.size (Nat.le_refl _)
    have k1 : Keeps (fun _ => False) w w1 := by rw [hw1]; exact (Keeps.refl _ _).alloc _
    rw [← hw1] at h1
    obtain ⟨B, hB⟩ : ∃ B, B = w.heap.size := ⟨_, rfl⟩
    rw [← hB] at h1 ⊢
    have HB := Lib.hid hB; have H1 := Lib.hid h1; have K1 := Lib.hid k1; have HH1 := Lib.hid (HH.out.keeps k1 (fun _ _ h => h))
    clear hB h1 k1 hw1
    go_wp2_with fail
    refine (put6_any B B _ _ [] l w1 H1.out (by have := H1.out.lt; omega) (by simp) (by omega) HX.out HH1.out (fun k hk e => e.elim (fun e => by have := ownH_lt HH.out hk; have := HB.out; omega) (fun e => by simp [Value.ownBlock] at e)) (HT.out.keeps K1.out (fun h => h)) (by have := HT.out.pos; have := HB.out; omega)).mono ?_
    rintro e w2 ⟨rfl, v2, h2, k2, n2⟩
    have hpk := dec6_packed l HX.out
    have hel := enc6_length l
    rw [List.nil_append] at h2
    obtain ⟨L, hL⟩ : ∃ L, L = enc6 l := ⟨_, rfl⟩
    rw [← hL] at h2 hpk hel
    have kk2 : Keeps (fun _ => False) w w2 := K1.out.trans k2 (fun k hk e => foot_nil (by rw [HB.out]; exact Nat.le_refl _) hk e)
    have H2 := Lib.hid h2; have K2 := Lib.hid kk2; have HPK := Lib.hid hpk
    have hLl : L.length ≤ 100000 := by omega
    clear hL h2 k2 n2 kk2 hpk hel
    go_wp2_with fail
    refine (wbytes_any B B _ L _ H2.out (by omega)).mono ?_
    rintro e w3 ⟨v3, rfl, r3, k3⟩
    have hpl := packed_length L
    have h3 := H2.out.keeps k3 (fun h => h) (fun _ _ h => h)
    have hh3 := holds_row r3
    have kk3 := K2.out.trans k3 (fun _ _ h => h)
    have H3 := Lib.hid h3; have HH3 := Lib.hid hh3; have K3 := Lib.hid kk3
    have hpl2 : (packed L).length ≤ 100000 := by omega
    clear r3 k3 h3 hh3 kk3 hpl
    go_wp2_with fail
    refine (newReader_any w3.heap.size v3 (packed L) w3 HH3.out (by omega) (packed_lt L) (Nat.le_refl _)).mono ?_
    rintro e w4 ⟨q, vr, rfl, hq, r4, own4, k4⟩
    have kk4 := K3.out.trans k4 (fun _ _ h => h)
    have hqw : w.heap.size ≤ q := by have := K3.out.size; omega
    have K4 := Lib.hid kk4; have R4 := Lib.hid r4; have HQW := Lib.hid hqw
    clear kk4 r4 own4 k4 hq hqw
    go_wp2_with fail
    refine (get6_any _ q vr (packed L) 0 l.length w4 R4.out (by omega) (by omega) (by omega) (HT.out.keeps K4.out (fun h => h)) (by have := HT.out.pos; have := K3.out.size; omega)).mono ?_
    rw [HPK.out]
    rintro e w5 ⟨v5, rfl, r5, ⟨i5, hi5, hR5, hrest⟩, k5⟩
    have he5 : endOf ((unpackB (packed L)).drop i5) = 0 := by rw [← hrest]; exact endOf_packed L
    have kk5 := K4.out.trans k5 (fun k hk e => by have := HQW.out; omega)
    have hh5 := HH.out.keeps kk5 (fun _ _ h => h)
    obtain ⟨ad5, cap5, rfl⟩ := row_slice r5
    have hh5b := holds_row r5
    have K5 := Lib.hid kk5; have HH5 := Lib.hid hh5; have HH5b := Lib.hid hh5b; have R5 := Lib.hid hR5; have HE5 := Lib.hid he5
    clear kk5 hh5 hh5b hR5 he5 r5 k5 hrest
    go_wp2_with fail
    refine (alive06_any w5 (HT.out.keeps K5.out (fun h => h))).mono ?_
    rintro e w6 ⟨rfl, k6⟩
    have kk6 := K5.out.trans k6 (fun _ _ h => h)
    have K6 := Lib.hid kk6; have HH6 := Lib.hid (HH5.out.keeps k6 (fun _ _ h => h)); have HH6b := Lib.hid (HH5b.out.keeps k6 (fun _ _ h => h)); have R6 := Lib.hid (R5.out.keeps k6 (fun h => h) (fun _ _ h => h))
    clear k6 kk6
    go_wp2_with fail
    refine (equalU64_any _ _ l l w6 HH6.out HH6b.out (by omega)).mono ?_
    rintro e w7 ⟨rfl, n7, hw7⟩
    have k7 : Keeps (fun _ => False) w6 w7 := by rw [hw7]; exact (Keeps.refl _ w6).drewN n7
    have K7 := Lib.hid (K6.out.trans k7 (fun _ _ h => h)); have R7 := Lib.hid (R6.out.keeps k7 (fun h => h) (fun _ _ h => h))
    have dl : decide (l = l) = true := by simp
    rw [dl]
    clear k7 hw7 dl
    go_wp2_with fail
    refine (rend_any _ q vr (packed L) i5 w7 R7.out (by omega) hi5).mono ?_
    rw [HE5.out]
    rintro e w8 ⟨rfl, n8, hw8⟩
    have k8 : Keeps (fun _ => False) w w8 := by rw [hw8]; exact K7.out.drewN n8
    have K8 := Lib.hid k8
    clear k8 hw8
    go_wp2
    go_ret
    exact ⟨rfl, K8.out⟩
  · have hl' : 300 < (l.length : Int) := by omega
    go_enter Tryd.func13, Tryd.ntmps13
    go_wp2_with fail
    refine (alive06_any w HT.out).mono ?_
    rintro e w1 ⟨rfl, k1⟩
    go_wp2
    go_ret
    exact ⟨rfl, k1⟩
end Go.Proofs.YtdniaingipoggaaDoor
