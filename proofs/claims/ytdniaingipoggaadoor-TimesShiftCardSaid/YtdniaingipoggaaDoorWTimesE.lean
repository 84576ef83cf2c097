/-
  WALKS: times.getForm, times.getChange.
-/
import Derived.Test.YtdniaingipoggaaDoorWTimesA
import Derived.Test.YtdniaingipoggaaDoorDHelp
namespace Go.Proofs.YtdniaingipoggaaDoor
open Go.RowKit

theorem stepB_one_nil : stepB ((1 : Nat) : Int) [] = (0, 3, 0) := rfl
theorem stepB_one_cons (x : Bool) (r : List Bool) : stepB ((1 : Nat) : Int) (x :: r) = (x.toNat, 0, 1) := by
  unfold stepB
  rw [if_neg (by omega), if_neg (by simp)]
  cases x <;> rfl
theorem stepB_in (n : Nat) (b : List Bool) (hn : n ≤ 64) (h : n ≤ b.length) : stepB (n : Int) b = (bitsNat (b.take n), 0, n) := by
  unfold stepB
  rw [if_neg (by omega), if_neg (by simpa using h)]
  rfl
theorem stepB_eof (n : Nat) (b : List Bool) (hn : n ≤ 64) (h : b.length < n) : stepB (n : Int) b = (0, 3, 0) := by
  unfold stepB
  rw [if_neg (by omega), if_pos (by simpa using h)]
theorem rest_length' (bs : List Nat) (i : Nat) : ((unpackB bs).drop i).length = 8 * bs.length - i := by rw [List.length_drop, unpackB_length]
theorem drop_next {bs : List Nat} {i : Nat} {x : Bool} {r : List Bool} (h : (unpackB bs).drop i = x :: r) : (unpackB bs).drop (i + 1) = r ∧ i + 1 ≤ 8 * bs.length := by
  have h1 := congrArg List.length h
  rw [rest_length'] at h1
  simp only [List.length_cons] at h1
  refine ⟨?_, by omega⟩
  rw [← List.drop_drop, h]; rfl
/-- one bit that is read: the number, the error -/
theorem rbit_any (base p : Nat) (v : Value) (bs : List Nat) (i : Nat) (w : World) (h : IsR w base p v bs i) (hl : bs.length ≤ 140737488351232) (hi : i ≤ 8 * bs.length) (x f m : Nat) (hs : stepB ((1 : Nat) : Int) ((unpackB bs).drop i) = (x, f, m)) :
    Calls Tryd.prog 44 #[.pointer (some ⟨p, 0, none⟩), .int .i64 1] w fun e w' => e = .returned (.tuple #[.int .u64 (x : Nat), .int .i64 (f : Nat)]) ∧ IsR w' base p v bs (i + m) ∧ Keeps (fun k => k = p) w w' := by
  have := rbits_all base p v bs i ((1 : Nat) : Int) w h hl hi
  rw [hs] at this
  exact this

set_option maxRecDepth 100000 in
set_option maxHeartbeats 2000000 in
theorem getForm_any (base p : Nat) (v : Value) (bs : List Nat) (i : Nat) (w : World) (h : IsR w base p v bs i) (hl : bs.length ≤ 1099511627776) (hi : i ≤ 8 * bs.length) :
    Calls Tryd.prog 62 #[.pointer (some ⟨p, 0, none⟩)] w fun e w' => e = .returned (.tuple #[.int .i64 (((formB ((unpackB bs).drop i)).1 : Nat) : Int), .int .i64 (((formB ((unpackB bs).drop i)).2.1 : Nat) : Int)]) ∧
      IsR w' base p v bs (i + (formB ((unpackB bs).drop i)).2.2) ∧ Keeps (fun k => k = p) w w' := by
  obtain ⟨b, hb⟩ : ∃ b, b = (unpackB bs).drop i := ⟨_, rfl⟩
  obtain ⟨⟨k, e0, m0⟩, hf⟩ : ∃ q, formB b = q := ⟨_, rfl⟩
  rw [← hb, hf]
  have HR := Lib.hid h; have HB := Lib.hid hb; have HF := Lib.hid hf
  clear h hb hf
  go_enter Tryd.func62, Tryd.ntmps62
  go_wp2
  go_loopw [7] (fun t7 wr => ∃ (c : Nat) (r : List Bool), c ≤ 4 ∧ t7 = .int .i64 (c : Nat) ∧ (unpackB bs).drop (i + c) = r ∧ b = List.replicate c true ++ r ∧ i + c ≤ 8 * bs.length ∧ IsR wr base p v bs (i + c) ∧ Keeps (fun k => k = p) w wr) (fun t7 _ => 4 - (intOf t7).toNat)
  case atStart => exact ⟨0, (unpackB bs).drop i, by omega, rfl, rfl, by rw [HB.out]; rfl, hi, HR.out, Keeps.refl _ _⟩
  case round =>
    obtain ⟨c, r, hc, rfl, hr, hbr, hic, hR, hk⟩ := hrel
    have HRr := Lib.hid hR; have HK := Lib.hid hk; have HBR := Lib.hid hbr; have HRR := Lib.hid hr
    clear hR hk hbr hr
    by_cases hc4 : c = 4
    · have hf4 : (k, e0, m0) = (4, 0, 4) := by
        rw [← HF.out, HBR.out, hc4]; rfl
      simp only [Prod.mk.injEq] at hf4
      obtain ⟨rfl, rfl, rfl⟩ := hf4
      have hcc : ¬ (c : Int) < 4 := by omega
      have hend := HRr.out
      rw [hc4] at hend
      have HE := Lib.hid hend
      clear hend hc4
      go_wp2
      go_ret2
      exact ⟨rfl, HE.out, HK.out⟩
    · have hcc : (c : Int) < 4 := by omega
      cases r with
      | nil =>
        have hfe : (k, e0, m0) = (c, 3, c) := by
          rw [← HF.out, HBR.out, List.append_nil]
          have h4 : c = 0 ∨ c = 1 ∨ c = 2 ∨ c = 3 := by omega
          rcases h4 with rfl | rfl | rfl | rfl <;> rfl
        simp only [Prod.mk.injEq] at hfe
        obtain ⟨rfl, rfl, rfl⟩ := hfe
        have hs := (by rw [HRR.out]; exact stepB_one_nil : stepB ((1 : Nat) : Int) ((unpackB bs).drop (i + m0)) = (0, 3, 0))
        have hcon := rbit_any base p v bs (i + m0) wr HRr.out (by omega) hic 0 3 0 hs
        have HCON := Lib.hid hcon
        clear hs hcon hc4
        go_wp2_with (go_at_call 44; refine HCON.out.mono ?_; rintro e w1 ⟨rfl, hR1, hk1⟩; have HR1 := Lib.hid hR1; have HK1 := Lib.hid (HK.out.trans hk1 (fun _ _ h => h)); clear hR1 hk1)
        go_ret2
        exact ⟨rfl, HR1.out, HK1.out⟩
      | cons x r =>
        obtain ⟨hd1, hd2⟩ := drop_next HRR.out
        have hs := (by rw [HRR.out]; exact stepB_one_cons x r : stepB ((1 : Nat) : Int) ((unpackB bs).drop (i + c)) = (x.toNat, 0, 1))
        have hcon := rbit_any base p v bs (i + c) wr HRr.out (by omega) hic x.toNat 0 1 hs
        have HCON := Lib.hid hcon
        cases x with
        | false =>
          have hfe : (k, e0, m0) = (c, 0, c + 1) := by
            rw [← HF.out, HBR.out]
            have h4 : c = 0 ∨ c = 1 ∨ c = 2 ∨ c = 3 := by omega
            rcases h4 with rfl | rfl | rfl | rfl <;> rfl
          simp only [Prod.mk.injEq] at hfe
          obtain ⟨rfl, rfl, rfl⟩ := hfe
          clear hs hcon hc4 hd1
          go_wp2_with (go_at_call 44; refine HCON.out.mono ?_; rintro e w1 ⟨rfl, hR1, hk1⟩; have HR1 := Lib.hid hR1; have HK1 := Lib.hid (HK.out.trans hk1 (fun _ _ h => h)); clear hR1 hk1)
          go_ret2
          exact ⟨rfl, HR1.out, HK1.out⟩
        | true =>
          have hbn : b = List.replicate (c + 1) true ++ r := by
            rw [HBR.out, List.replicate_succ', List.append_assoc]; rfl
          have HBN := Lib.hid hbn; have HD1 := Lib.hid hd1
          clear hs hcon hc4 hd1 hbn
          go_wp2_with (go_at_call 44; refine HCON.out.mono ?_; rintro e w1 ⟨rfl, hR1, hk1⟩; have HR1 := Lib.hid hR1; have HK1 := Lib.hid (HK.out.trans hk1 (fun _ _ h => h)); clear hR1 hk1)
          exact ⟨⟨c + 1, r, by omega, by go_num, HD1.out, HBN.out, hd2, HR1.out, HK1.out⟩, by simp [intOf]; omega⟩

theorem getChange_err (b : List Bool) {k e0 m0 : Nat} (hf : formB b = (k, e0, m0)) (he : e0 ≠ 0) : changeB b = (0, e0, m0) := by
  unfold changeB; rw [hf]; simp only; rw [if_pos he]
theorem getChange_eof (b : List Bool) {k m0 : Nat} (hf : formB b = (k, 0, m0)) (hl : b.length < m0 + fWidth k) : changeB b = (0, 3, m0) := by
  unfold changeB; rw [hf]; simp only; rw [if_neg (by simp), if_pos hl]
theorem getChange_ok (b : List Bool) {k m0 u : Nat} (hf : formB b = (k, 0, m0)) (hl : ¬ b.length < m0 + fWidth k) (hu : bitsNat ((b.drop m0).take (fWidth k)) = u) :
    changeB b = if formI (ext u (fWidth k)) ≠ k then (0, 8, m0 + fWidth k) else (ext u (fWidth k), 0, m0 + fWidth k) := by
  unfold changeB; rw [hf]; simp only; rw [if_neg (by simp), if_neg hl, hu]
set_option maxRecDepth 100000 in
set_option maxHeartbeats 2000000 in
theorem getChange_any (base p : Nat) (v : Value) (bs : List Nat) (i : Nat) (w : World) (h : IsR w base p v bs i) (hl : bs.length ≤ 1099511627776) (hi : i ≤ 8 * bs.length) (hT : TabF w) (hbase : 0 < base) :
    Calls Tryd.prog 45 #[.pointer (some ⟨p, 0, none⟩)] w fun e w' => ∃ y : Int, e = .returned (.tuple #[.int .i64 y, .int .i64 (((changeB ((unpackB bs).drop i)).2.1 : Nat) : Int)]) ∧ ((changeB ((unpackB bs).drop i)).2.1 = 0 → y = (changeB ((unpackB bs).drop i)).1) ∧
      IsR w' base p v bs (i + (changeB ((unpackB bs).drop i)).2.2) ∧ Keeps (fun k => k = p) w w' := by
  have hp0 : 0 < p := Nat.lt_of_lt_of_le hbase h.base
  obtain ⟨b, hb⟩ : ∃ b, b = (unpackB bs).drop i := ⟨_, rfl⟩
  have hbl : b.length = 8 * bs.length - i := by rw [hb, rest_length']
  obtain ⟨⟨k, e0, m0⟩, hf⟩ : ∃ q, formB b = q := ⟨_, rfl⟩
  obtain ⟨s1, s2, s3, s4, s5⟩ := formB_sound b
  rw [hf] at s1 s2 s3 s4
  simp only at s1 s2 s3 s4
  have hcon := getForm_any base p v bs i w h hl hi
  rw [← hb, hf] at hcon
  simp only at hcon
  rw [← hb]
  have HCON := Lib.hid hcon; have HT := Lib.hid hT; have HB := Lib.hid hb
  clear hcon hT h hb s5
  by_cases he : e0 = 0
  · subst he
    by_cases hlen : b.length < m0 + fWidth k
    · have hc := getChange_eof b hf hlen
      have HC := Lib.hid hc
      have hst := stepB_eof (fWidth k) ((unpackB bs).drop (i + m0)) (fWidth_le k s1) (by rw [rest_length']; omega)
      have HST := Lib.hid hst
      have hwd := fWidth_le k s1
      have hk5 : (k : Int) < 5 := by omega
      clear hc hst hf hlen
      go_enter Tryd.func45, Tryd.ntmps45
      go_wp2_with fail
      refine HCON.out.mono ?_
      rintro e w1 ⟨rfl, hR1, hk1⟩
      have hT1 := HT.out.keeps hk1 (by omega)
      obtain ⟨_, _, t2⟩ := hT1.cell k s1
      obtain ⟨wd, hwde⟩ : ∃ wd, wd = fWidth k := ⟨_, rfl⟩
      rw [← hwde] at t2
      have HR1 := Lib.hid hR1; have HK1 := Lib.hid hk1; have HT1 := Lib.hid hT1; have HWD := Lib.hid hwde
      have hcon2 := rbits_all base p v bs (i + m0) (fWidth k) w1 hR1 (by omega) (by omega)
      rw [HST.out, ← hwde] at hcon2
      have HCON2 := Lib.hid hcon2
      clear hcon2 hR1 hk1 hT1 hwde
      go_wp2_with fail
      refine HCON2.out.mono ?_
      rintro e w2 ⟨rfl, hR2, hk2⟩
      have hT2 := HT1.out.keeps hk2 (by omega)
      obtain ⟨_, _, t2'⟩ := hT2.cell k s1
      rw [← HWD.out] at t2'
      have HR2 := Lib.hid hR2; have HK2 := Lib.hid (HK1.out.trans hk2 (fun _ _ h => h)); have HT2 := Lib.hid hT2
      clear hR2 hk2 hT2 t2
      go_wp2_with fail
      refine (extend_lit 0 k wd w2 (by decide) s1 (by rw [HWD.out])).mono ?_
      rintro e w3 ⟨rfl, rfl⟩
      go_wp2
      go_ret2
      rw [HC.out]
      exact ⟨_, rfl, fun h => absurd h (by simp), HR2.out, HK2.out⟩
    · obtain ⟨u, hu⟩ : ∃ u, bitsNat ((b.drop m0).take (fWidth k)) = u := ⟨_, rfl⟩
      have hc := getChange_ok b hf hlen hu
      have hu2 : u < 18446744073709551616 := by
        have h1 := bitsNat_lt ((b.drop m0).take (fWidth k))
        have h2 : 2 ^ ((b.drop m0).take (fWidth k)).length ≤ 2 ^ 64 := Nat.pow_le_pow_right (by decide) (Nat.le_trans (List.length_take_le _ _) (fWidth_le k s1))
        omega
      have hst := stepB_in (fWidth k) ((unpackB bs).drop (i + m0)) (fWidth_le k s1) (by rw [rest_length']; omega)
      rw [← List.drop_drop, ← HB.out, hu] at hst
      have hxin := ext_in u k s1
      have hposs : i + m0 + fWidth k = i + (m0 + fWidth k) := by omega
      have HST : Hid (stepB ((fWidth k : Nat) : Int) ((unpackB bs).drop (i + m0)) = (u, 0, fWidth k)) := Lib.hid (by rw [← List.drop_drop, ← HB.out]; exact hst)
      have hwd := fWidth_le k s1
      have hk5 : (k : Int) < 5 := by omega
      obtain ⟨x, hx⟩ : ∃ x, x = ext u (fWidth k) := ⟨_, rfl⟩
      rw [← hx] at hc hxin
      have HX := Lib.hid hx; have HXIN := Lib.hid hxin; have HPOS := Lib.hid hposs
      by_cases hform : formI x = k
      · rw [if_neg (by simpa using hform)] at hc
        have HC := Lib.hid hc; have HFORM := Lib.hid hform
        clear hc hst hf hlen hu hx hxin hposs hform
        go_enter Tryd.func45, Tryd.ntmps45
        go_wp2_with fail
        refine HCON.out.mono ?_
        rintro e w1 ⟨rfl, hR1, hk1⟩
        have hT1 := HT.out.keeps hk1 (by omega)
        obtain ⟨_, _, t2⟩ := hT1.cell k s1
        obtain ⟨wd, hwde⟩ : ∃ wd, wd = fWidth k := ⟨_, rfl⟩
        rw [← hwde] at t2
        have HR1 := Lib.hid hR1; have HK1 := Lib.hid hk1; have HT1 := Lib.hid hT1; have HWD := Lib.hid hwde
        have hcon2 := rbits_all base p v bs (i + m0) (fWidth k) w1 hR1 (by omega) (by omega)
        rw [HST.out, ← hwde] at hcon2
        have HCON2 := Lib.hid hcon2
        clear hcon2 hR1 hk1 hT1 hwde
        go_wp2_with fail
        refine HCON2.out.mono ?_
        rintro e w2 ⟨rfl, hR2, hk2⟩
        have hT2 := HT1.out.keeps hk2 (by omega)
        obtain ⟨_, _, t2'⟩ := hT2.cell k s1
        rw [← HWD.out] at t2'
        have HR2 := Lib.hid hR2; have HK2 := Lib.hid (HK1.out.trans hk2 (fun _ _ h => h)); have HT2 := Lib.hid hT2
        clear hR2 hk2 hT2 t2
        go_wp2_with fail
        have HWDD : Hid (fWidth k = wd) := Lib.hid HWD.out.symm
        refine (extend_lit u k wd w2 hu2 s1 (by rw [HWD.out])).mono ?_
        rw [← HX.out]
        rintro e w3 ⟨rfl, rfl⟩
        go_wp2_with fail
        refine (formOf_any x w2 HXIN.out HT2.out).mono ?_
        rw [HFORM.out]
        rintro e w4 ⟨rfl, hk4⟩
        have HR4 := Lib.hid (HR2.out.keeps hk4 (fun h => h) (fun _ _ h => h)); have HK4 := Lib.hid (HK2.out.trans hk4 (fun _ _ h => h.elim))
        clear hk4
        go_wp2
        go_ret2
        rw [HC.out]
        exact ⟨_, rfl, fun _ => rfl, by rw [← HPOS.out, HWDD.out]; exact HR4.out, HK4.out⟩
      · rw [if_pos hform] at hc
        have hf4 := formI_le x
        obtain ⟨k2, hk2e⟩ : ∃ k2, k2 = formI x := ⟨_, rfl⟩
        rw [← hk2e] at hform hf4
        have hk2n : ((k2 : Int) != (k : Int)) = true := by simp; omega
        have hk2m : ((k2 : Int) == (k : Int)) = false := by simp; omega
        have HC := Lib.hid hc; have HK2E := Lib.hid hk2e
        clear hc hst hf hlen hu hx hxin hposs hform hk2e
        go_enter Tryd.func45, Tryd.ntmps45
        go_wp2_with fail
        refine HCON.out.mono ?_
        rintro e w1 ⟨rfl, hR1, hk1⟩
        have hT1 := HT.out.keeps hk1 (by omega)
        obtain ⟨_, _, t2⟩ := hT1.cell k s1
        obtain ⟨wd, hwde⟩ : ∃ wd, wd = fWidth k := ⟨_, rfl⟩
        rw [← hwde] at t2
        have HR1 := Lib.hid hR1; have HK1 := Lib.hid hk1; have HT1 := Lib.hid hT1; have HWD := Lib.hid hwde
        have hcon2 := rbits_all base p v bs (i + m0) (fWidth k) w1 hR1 (by omega) (by omega)
        rw [HST.out, ← hwde] at hcon2
        have HCON2 := Lib.hid hcon2
        clear hcon2 hR1 hk1 hT1 hwde
        go_wp2_with fail
        refine HCON2.out.mono ?_
        rintro e w2 ⟨rfl, hR2, hk2⟩
        have hT2 := HT1.out.keeps hk2 (by omega)
        obtain ⟨_, _, t2'⟩ := hT2.cell k s1
        rw [← HWD.out] at t2'
        have HR2 := Lib.hid hR2; have HK2 := Lib.hid (HK1.out.trans hk2 (fun _ _ h => h)); have HT2 := Lib.hid hT2
        clear hR2 hk2 hT2 t2
        go_wp2_with fail
        have HWDD : Hid (fWidth k = wd) := Lib.hid HWD.out.symm
        refine (extend_lit u k wd w2 hu2 s1 (by rw [HWD.out])).mono ?_
        rw [← HX.out]
        rintro e w3 ⟨rfl, rfl⟩
        go_wp2_with fail
        refine (formOf_any x w2 HXIN.out HT2.out).mono ?_
        rw [← HK2E.out]
        rintro e w4 ⟨rfl, hk4⟩
        have HR4 := Lib.hid (HR2.out.keeps hk4 (fun h => h) (fun _ _ h => h)); have HK4 := Lib.hid (HK2.out.trans hk4 (fun _ _ h => h.elim))
        clear hk4
        go_wp2
        go_ret2
        rw [HC.out]
        exact ⟨_, rfl, fun h => absurd h (by simp), by rw [← HPOS.out, HWDD.out]; exact HR4.out, HK4.out⟩
  · have hc := getChange_err b hf he
    have HC := Lib.hid hc
    have he' : ((e0 : Int) == 0) = false := by simp; omega
    have he2 : ¬ (e0 : Int) = 0 := by omega
    have HNE := Lib.hid he
    clear hc hf he
    go_enter Tryd.func45, Tryd.ntmps45
    go_wp2_with (go_at_call 62; refine HCON.out.mono ?_; rintro e w1 ⟨rfl, hR1, hk1⟩; have HR1 := Lib.hid hR1; have HK1 := Lib.hid hk1; clear hR1 hk1)
    go_ret2
    rw [HC.out]
    exact ⟨0, rfl, fun h => absurd h HNE.out, HR1.out, HK1.out⟩
end Go.Proofs.YtdniaingipoggaaDoor
