/-
  WALKS: tsblocklaw06.alive (made by lawgen.py).
-/
import Derived.Test.YtdniaingipoggaaDoorWCodec06
import Derived.Test.YtdniaingipoggaaDoorWEqual
namespace Go.Proofs.YtdniaingipoggaaDoor
open Go.RowKit

theorem enc6_lit : (enc6 [1, 1, 3]).length = 80 := by decide +kernel

set_option maxRecDepth 100000 in
set_option maxHeartbeats 4000000 in
theorem alive06_any (w : World) (hT : TabZ w) : Calls Tryd.prog 34 #[] w fun e w' => e = .returned (.bool true) ∧ Keeps (fun _ => False) w w' := by
  have HT := Lib.hid hT
  clear hT
  go_enter Tryd.func34, Tryd.ntmps34
  go_wp2_with fail
  refine (newWriter_any w).mono ?_
  rintro e w1 ⟨rfl, hw1⟩
  have h1 := newWriter_is w w.heap.size (Nat.le_refl _)
  have k1 : Keeps (fun _ => False) w w1 := by rw [hw1]; exact (Keeps.refl _ _).alloc _
  rw [← hw1] at h1
  obtain ⟨B, hB⟩ : ∃ B, B = w.heap.size := ⟨_, rfl⟩
  rw [← hB] at h1 ⊢
  have HB := Lib.hid hB; have H1 := Lib.hid h1; have K1 := Lib.hid k1
  clear hB h1 k1 hw1
  have hh2 := holds_words w1 [1, 1, 3]
  obtain ⟨w2, hw2⟩ : ∃ w2, w2 = w1.alloc (.cells (u64s [1, 1, 3]).toArray 48) := ⟨_, rfl⟩
  rw [← hw2] at hh2
  have h2 := H1.out.keeps (S := fun _ => False) (b := w2) (by rw [hw2]; exact (Keeps.refl _ w1).alloc _) (fun h => h) (fun _ _ h => h)
  have k2 : Keeps (fun _ => False) w w2 := by rw [hw2]; exact K1.out.alloc _
  have hb2 : B < w1.heap.size := H1.out.lt
  have HH2 := Lib.hid hh2; have H2 := Lib.hid h2; have K2 := Lib.hid k2; have HW2 := Lib.hid hw2; have HB2 := Lib.hid hb2
  clear hh2 h2 k2 hw2 hb2
  go_wp2_with fail
  rw [show w1.alloc (.cells #[.int .u64 1, .int .u64 1, .int .u64 3] 48) = w2 from HW2.out.symm]
  refine (put6_any B B _ _ [] [1, 1, 3] w2 H2.out (by have := H2.out.lt; omega) (by decide) (by decide) (by decide) HH2.out ?hap (HT.out.keeps K2.out (fun h => h)) (by have := HT.out.pos; have := HB.out; omega)).mono ?_
  case hap =>
    rintro k ⟨_, hk⟩ (e | e)
    · simp only [Value.ownBlock, Option.some.injEq] at hk; have := HB2.out; omega
    · simp [Value.ownBlock] at e
  rintro e w3 ⟨rfl, v3, h3, k3, n3⟩
  obtain ⟨L, hL⟩ : ∃ L, L = enc6 [1, 1, 3] := ⟨_, rfl⟩
  have hLl : L.length = 80 := by rw [hL]; exact enc6_lit
  have hg : dec6 3 ((unpackB (packed (enc6 [1, 1, 3]))).drop 0) = (0, [1, 1, 3], (unpackB (packed (enc6 [1, 1, 3]))).drop (enc6 [1, 1, 3]).length) := dec6_packed [1, 1, 3] (by decide)
  rw [List.nil_append, ← hL] at h3
  rw [← hL] at hg
  have kk3 : Keeps (fun _ => False) w w3 := K2.out.trans k3 (fun k hk e => foot_nil (by rw [HB.out]; exact Nat.le_refl _) hk e)
  have H3 := Lib.hid h3; have K3 := Lib.hid kk3; have HG := Lib.hid hg; have HLL := Lib.hid hLl
  clear hL h3 k3 n3 kk3 hg hLl
  go_wp2_with fail
  refine (wbytes_any B B _ L _ H3.out (by rw [HLL.out]; decide)).mono ?_
  rintro e w4 ⟨v4, rfl, r4, k4⟩
  have hpl : (packed L).length = 10 := by rw [packed_length, HLL.out]
  have h4 := H3.out.keeps k4 (fun h => h) (fun _ _ h => h)
  have hh4 := holds_row r4
  have kk4 := K3.out.trans k4 (fun _ _ h => h)
  have H4 := Lib.hid h4; have HH4 := Lib.hid hh4; have K4 := Lib.hid kk4; have HPL := Lib.hid hpl
  clear r4 k4 h4 hh4 kk4 hpl
  go_wp2_with fail
  refine (newReader_any w4.heap.size v4 (packed L) w4 HH4.out (by rw [HPL.out]; decide) (packed_lt L) (Nat.le_refl _)).mono ?_
  rintro e w5 ⟨q, vr, rfl, hq, r5, own5, k5⟩
  have h5 := H4.out.keeps k5 (fun h => h) (fun _ _ h => h)
  have kk5 := K4.out.trans k5 (fun _ _ h => h)
  have hBq : B < q := by have := H4.out.lt; omega
  have HQ4 := Lib.hid hq
  have H5 := Lib.hid h5; have K5 := Lib.hid kk5; have R5 := Lib.hid r5; have HBQ := Lib.hid hBq
  have hqw : w.heap.size ≤ q := by have := K4.out.size; omega
  have HQW := Lib.hid hqw
  clear h5 kk5 r5 own5 k5 hq hBq hqw
  go_wp2_with fail
  refine (get6_any _ q vr (packed L) 0 3 w5 R5.out (by rw [HPL.out]; decide) (by omega) (by decide) (HT.out.keeps K5.out (fun h => h)) (by have := HT.out.pos; have := K4.out.size; omega)).mono ?_
  rw [HG.out]
  rintro e w6 ⟨v6, rfl, r6, ⟨i6, hi6, hR6, _⟩, k6⟩
  have h6 := H5.out.keeps k6 (by have := HBQ.out; omega) (fun g hg e => by have := H4.out.own_lt hg; have := HQ4.out; omega)
  have kk6 := K5.out.trans k6 (fun k hk e => by have := HQW.out; omega)
  obtain ⟨ad6, cap6, rfl⟩ := row_slice r6
  have hh6 : Holds w6 (.slice ad6 3 cap6) (u64s [1, 1, 3]) := holds_row r6
  have H6 := Lib.hid h6; have K6 := Lib.hid kk6; have HH6 := Lib.hid hh6
  clear h6 kk6 r6 k6 hR6 hi6 hh6
  have hln := HLL.out
  go_wp2_with fail
  refine (wlen_any B B _ L w6 H6.out).mono ?_
  rw [hln]
  rintro e w7 ⟨rfl, rfl⟩
  clear hln
  go_wp2_with fail
  have hh7 := holds_words w6 [1, 1, 3]
  obtain ⟨w7, hw7⟩ : ∃ w7, w7 = w6.alloc (.cells (u64s [1, 1, 3]).toArray 48) := ⟨_, rfl⟩
  rw [← hw7] at hh7
  have hk7 : Keeps (fun _ => False) w6 w7 := by rw [hw7]; exact (Keeps.refl _ w6).alloc _
  rw [show w6.alloc (.cells #[.int .u64 1, .int .u64 1, .int .u64 3] 48) = w7 from hw7.symm]
  have HK7 := Lib.hid hk7; have HH7 := Lib.hid (HH6.out.keeps hk7 (fun _ _ h => h)); have HH7b := Lib.hid hh7
  clear hw7 hk7 hh7
  refine (equalU64_any _ _ [1, 1, 3] [1, 1, 3] w7 HH7.out HH7b.out (by decide)).mono ?_
  rintro e w8 ⟨rfl, n8, hw8⟩
  have hk8 : Keeps (fun _ => False) w w8 := by rw [hw8]; exact K6.out.trans (HK7.out.drewN n8) (fun _ _ h => h)
  have HH8 := Lib.hid (HH6.out.keeps (show Keeps (fun _ => False) w6 w8 by rw [hw8]; exact HK7.out.drewN n8) (fun _ _ h => h))
  have K8 := Lib.hid hk8
  clear hw8 hk8
  go_wp2_with fail
  refine (size6_any _ [1, 1, 3] w8 (by decide) HH8.out (by decide) (HT.out.keeps K8.out (fun h => h))).mono ?_
  have hs9 : (enc6 [1, 1, 3]).length = 80 := enc6_lit
  rw [hs9]
  clear hs9
  rintro e w9 ⟨rfl, hk9⟩
  have K9 := Lib.hid (K8.out.trans hk9 (fun _ _ h => h))
  clear hk9
  go_wp2_with fail
  refine (xput_nil _ _).mono ?_
  rintro e w10 ⟨rfl, hk10⟩
  have K10 := Lib.hid (K9.out.trans hk10 (fun _ _ h => h))
  clear hk10
  go_wp2
  go_ret
  exact ⟨rfl, K10.out⟩
end Go.Proofs.YtdniaingipoggaaDoor
