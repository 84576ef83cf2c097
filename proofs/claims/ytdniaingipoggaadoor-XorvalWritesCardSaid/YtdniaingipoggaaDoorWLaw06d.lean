/-
  WALKS: xorval's Writes (made by lawgen.py).
-/
import Derived.Test.YtdniaingipoggaaDoorWAlive06
import Derived.Test.YtdniaingipoggaaDoorWRef01
import Derived.Test.YtdniaingipoggaaDoorWPack
import Derived.Test.YtdniaingipoggaaDoorWSlices
import Derived.Test.YtdniaingipoggaaDoorDHelp
namespace Go.Proofs.YtdniaingipoggaaDoor
open Go.RowKit

set_option maxRecDepth 100000 in
set_option maxHeartbeats 4000000 in
theorem xorvalWrites_any (n0 : Nat) (v : Value) (l : List Nat) (w : World) (hn0 : n0 ≤ 255) (h : Holds w v (u64s l)) (hX : ∀ x ∈ l, x ≤ 18446744073709551615) (hT : TabZ w) :
    Calls Tryd.prog 11 #[.int .u8 n0, v] w fun e w' => e = .returned (.bool true) ∧ Keeps (fun _ => False) w w' := by
  obtain ⟨i0, hi, hz0, hz1, hz2⟩ := info_parts infoBool
  have HH := Lib.hid h; have HX := Lib.hid hX; have HT := Lib.hid hT
  obtain ⟨ad, cap, rfl, hc, _⟩ := h
  rw [u64s_length] at hc HH ⊢
  clear hX hT
  by_cases hl : l.length ≤ 300
  · have hl' : ¬ 300 < (l.length : Int) := by omega
    obtain ⟨n, hn⟩ : ∃ n, n = n0 % 9 := ⟨_, rfl⟩
    have hn8 : n ≤ 8 := by omega
    have m1 : (n0 : Int) % 9 = n := by omega
    have m2 : (n0 : Int).tmod 9 = n := by rw [Int.tmod_eq_emod_of_nonneg (by omega)]; omega
    have m3 : IntKind.i64.wrap (n : Int) = n := wrap_nat n (by omega)
    have m4 : IntKind.u8.wrap (n : Int) = n := IntWalk.u8_in _ (by omega)
    clear hn
    go_enter Tryd.func11, Tryd.ntmps11
    go_wp2_with fail
    refine (newWriter_any w).mono ?_
    rintro e w1 ⟨rfl, hw1⟩
    have h1 := newWriter_is w w.heap.size (Nat.le_refl _)
    have k1 : Keeps (fun _ => False) w w1 := by rw [hw1]; exact (Keeps.refl _ _).alloc _
    rw [← hw1] at h1
    obtain ⟨B, hB⟩ : ∃ B, B = w.heap.size := ⟨_, rfl⟩
    rw [← hB] at h1 ⊢
    have HB := Lib.hid hB; have H1 := Lib.hid h1; have K1 := Lib.hid k1; have HH1 := Lib.hid (HH.out.keeps k1 (fun _ _ h => h))
    clear hB h1 k1 hw1
    go_wp2_with fail
    refine (wbits_any B B _ [] 0 n w1 H1.out (by decide) (by omega) (by simp) (by have := H1.out.lt; omega)).mono ?_
    rintro e wz ⟨rfl, vz, hz, kz, nz⟩
    rw [List.nil_append, fieldBits_zero] at hz
    have HZ := Lib.hid hz; have KZ := Lib.hid kz; have NZ := Lib.hid nz
    have kwz : Keeps (fun _ => False) w wz := K1.out.trans kz (fun k hk e => foot_nil (by rw [HB.out]; exact Nat.le_refl _) hk e)
    have KWZ := Lib.hid kwz; have HHZ := Lib.hid (HH.out.keeps kwz (fun _ _ h => h))
    have hfz : ∀ k, foot B vz k → w.heap.size ≤ k := fun k e => by
      rcases e with e | e
      · have := HB.out; omega
      · rcases NZ.out k e with h | h
        · simp [Value.ownBlock] at h
        · have := K1.out.size; omega
    have HFZ := Lib.hid hfz
    clear hz kz nz kwz hfz
    go_wp2_with fail
    refine (put6_any B B _ _ (List.replicate n false) l wz HZ.out (by have := HZ.out.lt; omega) (by simp; omega) (by omega) HX.out HHZ.out (fun k hk e => by have := ownH_lt HH.out hk; have := HFZ.out k e; omega) (HT.out.keeps KWZ.out (fun h => h)) (by have := HT.out.pos; have := HB.out; omega)).mono ?_
    rintro e w2 ⟨rfl, v2, h2, k2, n2⟩
    have hel := enc6_length l
    obtain ⟨L, hL⟩ : ∃ L, L = List.replicate n false ++ enc6 l := ⟨_, rfl⟩
    have hLl : L.length = n + (enc6 l).length := by rw [hL, List.length_append, List.length_replicate]
    rw [← hL] at h2
    have kk2 : Keeps (fun _ => False) w w2 := KWZ.out.trans k2 (fun k hk e => by have := HFZ.out k e; omega)
    have H2 := Lib.hid h2; have K2 := Lib.hid kk2; have HL := Lib.hid hL; have HH2 := Lib.hid (HH.out.keeps kk2 (fun _ _ h => h))
    obtain ⟨E, hE⟩ : ∃ E, E = (enc6 l).length := ⟨_, rfl⟩
    rw [← hE] at hLl hel
    have HE := Lib.hid hE; have HLl := Lib.hid hLl
    have hLb : L.length ≤ 100000 := by omega
    clear hL h2 k2 n2 kk2 hE hLl
    go_wp2_with (at_make; refine wpList_make_full _ rfl _ _ 32 rfl w2.heap.size 4 i0 (.bool false) 1 Tryd.underlying32 hi hz0 hz1 .i64 .i64 _ _ n rfl rfl rfl rfl ?c1 ?c2 ?c3 ?_)
    case c1 => rw [hz2]; omega
    case c2 => unfold maxLen; omega
    case c3 => exact Nat.le_refl _
    intro w3 hr3 hg3
    have hmk : (madeCells #[Value.bool false] n).toList = bools (List.replicate n false) := by have := madeBools n; rwa [Nat.mul_one] at this
    rw [hmk] at hr3
    have k3 : Keeps (fun _ => False) w2 w3 := (Keeps.refl (fun _ => False) w2).grown hg3 (fun k hk e => by cases e)
    have h3 := H2.out.keeps k3 (fun h => h) (fun _ _ h => h)
    have H3 := Lib.hid h3; have K3 := Lib.hid (K2.out.trans k3 (fun _ _ h => h)); have HH3 := Lib.hid (HH2.out.keeps k3 (fun _ _ h => h)); have K23 := Lib.hid k3
    have hr3' : w3.ownsRow w2.heap.size 4 1 (.slice (some ⟨w2.heap.size, 0, none⟩) n n) (bools (List.replicate n false)).length (bools (List.replicate n false)) := by
      rw [bools_length, List.length_replicate]; exact hr3
    have HR3 := Lib.hid hr3'
    clear hr3 hr3' hg3 hmk k3 h3
    go_wp2_with fail
    refine (rput6_any w2.heap.size _ _ (List.replicate n false) l w3 HR3.out (by simp; omega) K23.out.size (by omega) HX.out HH3.out (fun g hg e => by have := ownH_lt HH2.out hg; have := (HR3.out.lt g e).1; omega)).mono ?_
    rw [← HL.out]
    rintro e w4 ⟨v4, rfl, hR4⟩
    have hrow4 := hR4.row
    have k4 : Keeps (fun _ => False) w w4 := K3.out.trans hR4.keeps (fun k hk e => by have := (HR3.out.lt k e).1; have := K2.out.size; omega)
    have k34 : Keeps (fun k => w2.heap.size ≤ k) w3 w4 := hR4.keeps.mono (fun k hk e => (HR3.out.lt k e).1)
    have h4 := H3.out.keeps k34 (fun e => by have := H2.out.lt; omega) (fun g hg e => by have := H2.out.own_lt hg; omega)
    obtain ⟨ad4, cap4, rfl⟩ := row_slice hrow4
    rw [bools_length] at hrow4 ⊢
    have H4 := Lib.hid h4; have K4 := Lib.hid k4; have HR4 := Lib.hid (holds_row hrow4)
    clear hR4 hrow4 k4 k34 h4
    go_wp2_with fail
    refine (alive06_any w4 (HT.out.keeps K4.out (fun h => h))).mono ?_
    rintro e w5 ⟨rfl, k5⟩
    have H5 := Lib.hid (H4.out.keeps k5 (fun h => h) (fun _ _ h => h)); have K5 := Lib.hid (K4.out.trans k5 (fun _ _ h => h)); have HR5 := Lib.hid (HR4.out.keeps k5 (fun _ _ h => h))
    clear k5
    go_wp2_with fail
    refine (wlen_any B B _ L w5 H5.out).mono ?_
    rintro e w6 ⟨rfl, rfl⟩
    go_wp2_with fail
    refine (wbytes_any B B _ L _ H5.out (by omega)).mono ?_
    rintro e w6 ⟨v6, rfl, r6, k6⟩
    have K6 := Lib.hid (K5.out.trans k6 (fun _ _ h => h)); have HB6 := Lib.hid (holds_row r6); have HR6 := Lib.hid (HR5.out.keeps k6 (fun _ _ h => h))
    clear k6 r6
    go_wp2_with fail
    refine (refPack_any _ L w6 HR6.out (by omega)).mono ?_
    rintro e w7 ⟨v7, rfl, hR7⟩
    have k7 : Keeps (fun _ => False) w6 w7 := hR7.keeps.mono (fun k hk e => by simp [own, Value.ownBlock] at e)
    have K7 := Lib.hid (K6.out.trans k7 (fun _ _ h => h)); have HB7 := Lib.hid (HB6.out.keeps k7 (fun _ _ h => h)); have HP7 := Lib.hid (holds_row hR7.row)
    clear k7 hR7
    go_wp2_with fail
    refine (bytesEqual_any _ _ (packed L) (packed L) w7 HB7.out HP7.out (packed_lt L) (packed_lt L)).mono ?_
    have dl : decide (packed L = packed L) = true := by simp
    rw [dl]
    clear dl
    rintro e w8 ⟨rfl, rfl⟩
    have HH7 := Lib.hid (HH.out.keeps K7.out (fun _ _ h => h))
    go_wp2_with fail
    refine (size6_any _ l w7 (by omega) HH7.out HX.out (HT.out.keeps K7.out (fun h => h))).mono ?_
    rw [← HE.out]
    rintro e w8 ⟨rfl, k8⟩
    have K8 := Lib.hid (K7.out.trans k8 (fun _ _ h => h))
    clear k8
    have hle1 : (L.length : Int) - n = E := by have := HLl.out; omega
    have hle2 : IntKind.i64.wrap (E : Int) = E := wrap_nat E (by omega)
    have hle3 : ((E : Int) == (E : Int)) = true := by simp
    go_wp2
    go_ret
    exact ⟨by simp, K8.out⟩
  · have hl' : 300 < (l.length : Int) := by omega
    go_enter Tryd.func11, Tryd.ntmps11
    go_wp2_with fail
    refine (alive06_any w HT.out).mono ?_
    rintro e w1 ⟨rfl, k1⟩
    go_wp2
    go_ret
    exact ⟨rfl, k1⟩
end Go.Proofs.YtdniaingipoggaaDoor
