/-
  WALKS: xorval's Reads (made by lawgen.py).
-/
import Derived.Test.YtdniaingipoggaaDoorWAlive06
import Derived.Test.YtdniaingipoggaaDoorWRef01
import Derived.Test.YtdniaingipoggaaDoorWPack
import Derived.Test.YtdniaingipoggaaDoorWSlices
import Derived.Test.YtdniaingipoggaaDoorDRef01b
import Derived.Test.YtdniaingipoggaaDoorPQuiet
namespace Go.Proofs.YtdniaingipoggaaDoor
open Go.RowKit

set_option maxRecDepth 100000 in
set_option maxHeartbeats 4000000 in
theorem xorvalReads_any (v : Value) (l : List Nat) (n : Int) (w : World) (h : Holds w v (u8s l)) (hb : ∀ c ∈ l, c < 256) (hT : TabZ w) :
    Calls Tryd.prog 9 #[v, .int .i64 n] w fun e w' => e = .returned (.bool true) ∧ Keeps (fun _ => False) w w' := by
  have HH := Lib.hid h; have HB := Lib.hid hb; have HT := Lib.hid hT
  obtain ⟨ad, cap, rfl, hc, _⟩ := h
  rw [u8s_length] at hc HH ⊢
  clear hb hT
  by_cases hl : l.length ≤ 300
  · have hl' : ¬ 300 < (l.length : Int) := by omega
    by_cases hn : n ≤ 2400
    · have hn' : ¬ 2400 < n := by omega
      by_cases hneg : n < 0
      · go_enter Tryd.func9, Tryd.ntmps9
        go_wp2_with fail
        refine (newReader_any w.heap.size _ l w HH.out (by omega) HB.out (Nat.le_refl _)).mono ?_
        rintro e w1 ⟨q, vr, rfl, hq0, hr, hvr, k1⟩
        have R1 := Lib.hid hr; have K1 := Lib.hid k1
        clear hr hvr k1 hq0
        go_wp2_with fail
        refine (xget_bad q n w1 hneg).mono ?_
        rintro e w2 ⟨rfl, rfl⟩
        go_wp2_with fail
        refine (alive06_any w1 (HT.out.keeps K1.out (fun h => h))).mono ?_
        rintro e w2 ⟨rfl, k2⟩
        have R2 := Lib.hid (R1.out.keeps k2 (fun h => h) (fun _ _ h => h)); have K2 := Lib.hid (K1.out.trans k2 (fun _ _ h => h))
        clear k2
        go_wp2_with fail
        refine (left_any _ q vr l 0 w2 R2.out (by omega) (by omega)).mono ?_
        rintro e w3 ⟨rfl, n3, hw3⟩
        have K3 : Hid (Keeps (fun _ => False) w w3) := Lib.hid (by rw [hw3]; exact K2.out.drewN n3)
        clear hw3
        go_wp2
        go_ret
        refine ⟨?_, K3.out⟩
        have e8 : (((8 * l.length - 0 : Nat) : Nat) : Int) = 8 * (l.length : Int) := by omega
        simp
      · obtain ⟨N, rfl⟩ : ∃ N : Nat, n = N := ⟨n.toNat, by omega⟩
        obtain ⟨⟨er, vs, rest⟩, hd⟩ : ∃ d, dec6 N (unpackB l) = d := ⟨_, rfl⟩
        have HD := Lib.hid hd
        clear hd
        go_enter Tryd.func9, Tryd.ntmps9
        go_wp2_with fail
        refine (newReader_any w.heap.size _ l w HH.out (by omega) HB.out (Nat.le_refl _)).mono ?_
        rintro e w1 ⟨q, vr, rfl, hq0, hr, hvr, k1⟩
        have R1 := Lib.hid hr; have K1 := Lib.hid k1; have HQ0 := Lib.hid hq0
        clear hr hvr k1 hq0
        go_wp2_with fail
        refine (get6_any w.heap.size q vr l 0 N w1 R1.out (by omega) (by omega) (by omega) (HT.out.keeps K1.out (fun h => h)) HT.out.pos).mono ?_
        rw [List.drop_zero, HD.out]
        rintro e w2 ⟨v2, rfl, r2, ⟨i2, hi2, hR2, hrest⟩, k2⟩
        obtain ⟨ad2, cap2, rfl⟩ := row_slice r2
        have hvl : vs.length ≤ 9223372036854775807 := by
          have hh : vs.length ≤ maxLen := row_shape_le r2
          unfold maxLen at hh; omega
        have kk2 : Keeps (fun _ => False) w w2 := K1.out.trans k2 (fun k hk e => by have := HQ0.out; omega)
        have R2 := Lib.hid hR2; have K2 := Lib.hid kk2; have HV2 := Lib.hid (holds_row r2); have HREST := Lib.hid hrest; have H2 := Lib.hid (HH.out.keeps kk2 (fun _ _ h => h))
        clear r2 hR2 hrest k2 kk2
        go_wp2_with fail
        refine (refUnpack_any _ l w2 H2.out HB.out (by omega)).mono ?_
        rintro e w3 ⟨vq, rfl, h3⟩
        have hu := h3.row
        obtain ⟨adq, capq, rfl⟩ := row_slice hu
        rw [bools_length] at hu ⊢
        have k3 : Keeps (fun _ => False) w2 w3 := h3.keeps.mono (fun k hk e => by simp [own, Value.ownBlock] at e)
        obtain ⟨w4, hw4⟩ : ∃ w4, w4 = w3.alloc (.cells #[.slice adq (unpackB l).length capq] 35) := ⟨_, rfl⟩
        have k4 : Keeps (fun _ => False) w3 w4 := by rw [hw4]; exact (Keeps.refl _ _).alloc _
        have k24 := k3.trans k4 (fun _ _ h => h)
        have q4 : IsQ w4 w3.heap.size (.slice adq (unpackB l).length capq) (unpackB l) := by
          refine ⟨by rw [hw4]; exact heap_alloc_new w3 _, (holds_row hu).keeps k4 (fun _ _ h => h), fun g hg => ?_⟩
          have := (hu.lt g hg).2
          omega
        have hqs : ∀ g, (Value.slice adq (unpackB l).length capq).ownBlock = some g → g < w4.heap.size := fun g hg => by have := (hu.lt g hg).2; have := k4.size; omega
        have hws : w.heap.size ≤ w3.heap.size := by have := K2.out.size; have := k3.size; omega
        have hqw : q < w3.heap.size := by have := R2.out.lt; have := k3.size; omega
        have hvw : ∀ g, vr.ownBlock = some g → g < w3.heap.size := fun g hg => by have := R2.out.own_lt hg; have := k3.size; omega
        have hw23 : w2.heap.size ≤ w3.heap.size := k3.size
        obtain ⟨P2, hP2⟩ : ∃ P2, P2 = w3.heap.size := ⟨_, rfl⟩
        rw [← hP2] at q4 hws hqw hvw hw23
        have Q4 := Lib.hid q4; have K4 := Lib.hid (K2.out.trans k24 (fun _ _ h => h)); have R4 := Lib.hid (R2.out.keeps k24 (fun h => h) (fun _ _ h => h)); have HV4 := Lib.hid (HV2.out.keeps k24 (fun _ _ h => h)); have HQS := Lib.hid hqs; have HVW := Lib.hid hvw; have HW4 := Lib.hid hw4; have HP2 := Lib.hid hP2
        have HV4L : Hid (∀ g, (Value.slice ad2 vs.length cap2).ownBlock = some g → True) := Lib.hid (fun _ _ => trivial)
        clear HV4L h3 hu k3 k4 k24 q4 hqs hvw hw4 hP2
        go_wp2_with fail
        rw [← HW4.out, ← HP2.out]
        refine (rget6_any P2 _ (unpackB l) N w4 Q4.out HQS.out (by omega)).mono ?_
        rw [HD.out]
        rintro e w5 ⟨v5, rfl, r5, ⟨vq5, hq5, hvq5⟩, k5⟩
        obtain ⟨ad5, cap5, rfl⟩ := row_slice r5
        have kk5 := K4.out.trans k5 (fun k hk e => by omega)
        have R5 := R4.out.keeps k5 (fun e => by omega) (fun g hg e => by have := HVW.out g hg; omega)
        have hv4b : Holds w5 (.slice ad2 vs.length cap2) (u64s vs) := HV4.out.keepsS k5 (fun hne => by obtain ⟨g, hg, hlt⟩ := HV2.out.lt hne; exact ⟨g, hg, by omega⟩)
        have hv5 := holds_row r5
        obtain ⟨c0, hc0⟩ : ∃ c0 : List Bool, c0 = rest := ⟨_, rfl⟩
        have hql : rest.length = 8 * l.length - i2 := by rw [HREST.out, rest_length]
        obtain ⟨ad6, cap6, rfl⟩ : ∃ a c, vq5 = .slice a rest.length c := by
          obtain ⟨a, c, hv, _⟩ := hq5.holds
          rw [bools_length] at hv
          exact ⟨a, c, hv⟩
        obtain ⟨C, hC⟩ : ∃ C : World → Prop, C = fun w' => Keeps (fun _ => False) w5 w' := ⟨_, rfl⟩
        have cw : C { w5 with drawn := w5.drawn + 1 } := by rw [hC]; exact (Keeps.refl (fun _ => False) w5).drew
        have ca : ∀ wq, C wq → Calls Tryd.prog 34 #[] wq fun e w' => e = .returned (.bool true) ∧ C w' := by
          rw [hC]; exact fun wq hk => (alive06_any wq (HT.out.keeps (kk5.trans hk (fun _ _ h => h)) (fun h => h))).mono fun e w' ⟨he, hk'⟩ => ⟨he, hk.trans hk' (fun _ _ h => h)⟩
        have ce : ∀ wq, C wq → Calls Tryd.prog 37 #[.slice ad2 vs.length cap2, .slice ad5 vs.length cap5] wq fun e w' => e = .returned (.bool true) ∧ C w' := by
          rw [hC]
          refine fun wq hk => (equalU64_any _ _ vs vs wq (hv4b.keeps hk (fun _ _ h => h)) (hv5.keeps hk (fun _ _ h => h)) hvl).mono fun e w' ⟨he, n, hw⟩ => ⟨by rw [he]; simp, by rw [hw]; exact hk.drewN n⟩
        have cl : ∀ wq, C wq → Calls Tryd.prog 18 #[.pointer (some ⟨q, 0, none⟩)] wq fun e w' => e = .returned (.int .i64 ((rest.length : Nat) : Int)) ∧ C w' := by
          rw [hC]
          refine fun wq hk => (left_any _ q vr l i2 wq (R5.keeps hk (fun h => h) (fun _ _ h => h)) (by omega) hi2).mono fun e w' ⟨he, n, hw⟩ => ⟨by rw [he, hql], by rw [hw]; exact hk.drewN n⟩
        have cc : ∀ wq, C wq → wq.cell? ⟨P2, 0, none⟩ = some (.slice ad6 rest.length cap6) := by
          rw [hC]; exact fun wq hk => hk.cell hq5.cell0 (fun h => h)
        have ck : ∀ wq, C wq → Keeps (fun _ => False) w wq := by rw [hC]; exact fun wq hk => kk5.trans hk (fun _ _ h => h)
        have CW := Lib.hid cw; have CA := Lib.hid ca; have CE := Lib.hid ce; have CL := Lib.hid cl; have CC := Lib.hid cc; have CK := Lib.hid ck
        clear cw ca ce cl cc ck hC hv4b hv5 hql hq5 r5 k5 kk5 R5 hc0
        have hne : ¬ ((N : Int) < 0) := by omega
        go_wp2_with fail
        refine wp_region_class C (by kernel_rfl) (by kernel_rfl) CW.out ?_
        repeat (
          refine wpQuiet_step (fun K hK => ?_)
          go_simp
          first
            | (refine hK _ ?_; clear hK K)
            | (refine ⟨_, fun _ _ => rfl, hK _ ?_⟩; clear hK K)
            | (apply Exists.intro
               refine ⟨fun wq hwq => ?_, hK _ ?_⟩
               (first
                | (go_at_call 34; exact CA.out _ hwq)
                | (go_at_call 37; exact CE.out _ hwq)
                | (go_at_call 18; exact CL.out _ hwq)
                | (have hc := CC.out _ hwq; go_simp; exact rfl))
               clear hK K))
        refine wpQuiet_nil ?_
        intro wq hwq
        go_wp2
        go_ret
        exact ⟨by simp, CK.out _ hwq⟩
    · have hn' : 2400 < n := by omega
      go_enter Tryd.func9, Tryd.ntmps9
      go_wp2_with fail
      refine (alive06_any w HT.out).mono ?_
      rintro e w1 ⟨rfl, k1⟩
      go_wp2
      go_ret
      exact ⟨rfl, k1⟩
  · have hl' : 300 < (l.length : Int) := by omega
    go_enter Tryd.func9, Tryd.ntmps9
    go_wp2_with fail
    refine (alive06_any w HT.out).mono ?_
    rintro e w1 ⟨rfl, k1⟩
    go_wp2
    go_ret
    exact ⟨rfl, k1⟩
end Go.Proofs.YtdniaingipoggaaDoor
