/-
  WALKS: math/bits.LeadingZeros64, TrailingZeros64 (after the guide's own proofs, at this program); window.trail, windowOf, state.fits.
-/
import Derived.Test.YtdniaingipoggaaDoorPXor
import Derived.Test.YtdniaingipoggaaDoorWLen64
import Derived.Test.YtdniaingipoggaaDoorDHelp
import Derived.Test.YtdniaingipoggaaDoorPQuiet
import Derived.Laws.Bits64b
namespace Go.Proofs.YtdniaingipoggaaDoor
open Go.RowKit

/-- the cells of the de Bruijn table -/
def TabZ (w : World) : Prop := ∀ j, j < 64 → w.cell? ⟨1, j, none⟩ = some (.int .u8 (Lib.deBruijn64tab.getD j 0 : Nat))
theorem TabZ.keeps {S : Nat → Prop} {a b : World} (h : TabZ a) (k : Keeps S a b) (hS : ¬ S 1) : TabZ b := fun j hj => k.cell (h j hj) hS
theorem TabZ.pos {a : World} (h : TabZ a) : 1 < a.heap.size := World.block_lt_of_cell? a _ (h 0 (by decide))
theorem lz64_any (x : Nat) (w : World) (hx : x < 18446744073709551616) : Calls Tryd.prog 73 #[.int .u64 (x : Nat)] w fun e w' => e = .returned (.int .i64 (lz x : Nat)) ∧ w = w' := by
  have hb := bitLen_le64 x
  have h1 : IntKind.i64.wrap (64 - ((Lib.bitLen x : Nat) : Int)) = ((lz x : Nat) : Int) := by unfold lz; rw [IntWalk.i64_in _ (by omega)]; omega
  have h2 : 64 - ((Lib.bitLen x : Nat) : Int) = ((lz x : Nat) : Int) := by unfold lz; omega
  have e : ((x : Int)).toNat = x := by omega
  have hc := len64_any (x : Int) w (by omega) (by omega)
  rw [e] at hc
  obtain ⟨B, hB⟩ : ∃ B, B = Lib.bitLen x := ⟨_, rfl⟩
  rw [← hB] at hc h1 h2 hb
  have HC := Lib.hid hc
  obtain ⟨L, hL⟩ : ∃ L, L = lz x := ⟨_, rfl⟩
  rw [← hL] at h1 h2 ⊢
  clear hc e hB hL
  go_enter Tryd.func73, Tryd.ntmps73
  go_wp2_with (go_at_call 75; refine HC.out.mono ?_; rintro e w' ⟨rfl, rfl⟩)
  go_ret
  exact ⟨rfl, rfl⟩
theorem tz64_key (x a : Nat) (hx : x < 18446744073709551616) (hlow : x &&& (18446744073709551616 - x) = a) (hx0 : x ≠ 0) :
    IntKind.u64.wrap (bits BinOp.and IntKind.u64 (x : Int) (IntKind.u64.wrap (-(x : Int))) * 285870213051353865) / 288230376151711744 = ((a * 285870213051353865 % 18446744073709551616 / 288230376151711744 : Nat) : Int) := by
  have e1 : IntKind.u64.wrap (-(x : Int)) = ((18446744073709551616 - x : Nat) : Int) := by rw [IntKind.wrap_u64]; omega
  rw [e1, bits_and_u64_nat x _ hx (by omega), hlow, IntKind.wrap_u64]
  omega
set_option maxHeartbeats 1000000 in
theorem tz64_core (x k idx : Nat) (w : World) (hx0 : ((x : Int) == 0) = false)
    (key : IntKind.u64.wrap (bits BinOp.and IntKind.u64 (x : Int) (IntKind.u64.wrap (-(x : Int))) * 285870213051353865) / 288230376151711744 = (idx : Int))
    (hi : idx < 64) (hk : k < 64) (hcell : w.cell? ⟨1, idx, none⟩ = some (.int .u8 k)) :
    Calls Tryd.prog 74 #[.int .u64 (x : Nat)] w fun e w' => e = .returned (.int .i64 k) ∧ w' = w := by
  go_enter Tryd.func74, Tryd.ntmps74
  go_wp2_with (simp only [key])
  go_ret
  exact ⟨rfl, rfl⟩
theorem tz64_any (x : Nat) (w : World) (hx : x < 18446744073709551616) (h0 : x ≠ 0) (hT : TabZ w) : Calls Tryd.prog 74 #[.int .u64 (x : Nat)] w fun e w' => e = .returned (.int .i64 (tz x : Nat)) ∧ w = w' := by
  obtain ⟨hlow, hk⟩ := Lib.lowest_bit 64 x h0 hx
  obtain ⟨hi, htab⟩ := Lib.deBruijn64_at _ hk
  have hcell := hT _ hi
  rw [htab] at hcell
  exact (tz64_core x _ _ w (by simp; omega) (tz64_key x _ hx hlow h0) hi hk hcell).mono fun e w' ⟨he, hw⟩ => ⟨he, hw.symm⟩
set_option maxHeartbeats 400000 in
theorem trail_any (a c : Nat) (w : World) (h : a + c ≤ 64) : Calls Tryd.prog 67 #[.agg #[.int .i64 (a : Nat), .int .i64 (c : Nat)]] w fun e w' => e = .returned (.int .i64 ((64 - a - c : Nat) : Int)) ∧ Keeps (fun _ => False) w w' := by
  have h1 : IntKind.i64.wrap (64 - (a : Int)) = 64 - a := IntWalk.i64_in _ (by omega)
  have h2 : IntKind.i64.wrap (64 - (a : Int) - c) = 64 - a - c := IntWalk.i64_in _ (by omega)
  have h3 : 64 - (a : Int) - c = ((64 - a - c : Nat) : Int) := by omega
  have H3 := Lib.hid h3
  clear h3
  go_enter Tryd.func67, Tryd.ntmps67
  go_wp2
  go_ret
  exact ⟨ret_int H3.out, (Keeps.refl _ w).alloc _⟩
set_option maxRecDepth 100000 in
set_option maxHeartbeats 1000000 in
theorem windowOf_any (x : Nat) (w : World) (hx : x < 18446744073709551616) (h0 : x ≠ 0) (hT : TabZ w) :
    Calls Tryd.prog 68 #[.int .u64 (x : Nat)] w fun e w' => e = .returned (.agg #[.int .i64 (lz x : Nat), .int .i64 ((64 - lz x - tz x : Nat) : Int)]) ∧ Keeps (fun _ => False) w w' := by
  have hlt := lz_tz hx h0
  have HC1 := fun w => lz64_any x w hx
  have HC2 := fun w (h : TabZ w) => tz64_any x w hx h0 h
  obtain ⟨a, ha⟩ : ∃ a, a = lz x := ⟨_, rfl⟩
  obtain ⟨t, ht⟩ : ∃ t, t = tz x := ⟨_, rfl⟩
  rw [← ha] at HC1 hlt ⊢
  rw [← ht] at HC2 hlt ⊢
  have H1 := Lib.hid HC1; have H2 := Lib.hid HC2; have HT := Lib.hid hT
  have h1 : IntKind.i64.wrap (64 - (a : Int)) = 64 - a := IntWalk.i64_in _ (by omega)
  have h2 : IntKind.i64.wrap (64 - (a : Int) - t) = 64 - a - t := IntWalk.i64_in _ (by omega)
  have h3 : 64 - (a : Int) - t = ((64 - a - t : Nat) : Int) := by omega
  have H3 := Lib.hid h3
  have hx0 : (x : Int) ≠ 0 := by omega
  clear h3 HC1 HC2 ha ht hT hx0 h0
  go_enter Tryd.func68, Tryd.ntmps68
  go_wp2_with fail
  refine (H1.out _).mono ?_
  rintro e w1 ⟨rfl, rfl⟩
  go_wp2_with fail
  refine (H2.out _ (HT.out.keeps ((Keeps.refl (fun _ => False) w).alloc _) (fun h => h))).mono ?_
  rintro e w2 ⟨rfl, rfl⟩
  go_wp2
  refine bodyPost_ret (v := .agg #[.int .i64 (a : Nat), .int .i64 (64 - (a : Int) - t)]) (by simp [results, Tryd.results68, go_sem]) rfl ⟨by rw [H3.out], ?_⟩
  exact (Keeps.refl _ w).alloc _
set_option maxRecDepth 100000 in
set_option maxHeartbeats 1000000 in
theorem fits_none (D x : Nat) (w : World) (c1 : w.cell? ⟨D, 1, none⟩ = some (.int .i64 0)) (c2 : w.cell? ⟨D, 2, none⟩ = some (.int .i64 0)) :
    Calls Tryd.prog 69 #[.pointer (some ⟨D, 0, none⟩), .int .u64 (x : Nat)] w fun e w' => e = .returned (.bool false) ∧ w = w' := by
  go_enter Tryd.func69, Tryd.ntmps69
  go_wp2
  go_ret
  exact ⟨rfl, rfl⟩
set_option maxRecDepth 100000 in
set_option maxHeartbeats 2000000 in
theorem fits_some (D x a b c : Nat) (f : Bool) (w : World) (hx : x < 18446744073709551616) (h0 : x ≠ 0) (hab : a + b ≤ 63) (hc : c = 64 - a - b) (c1 : w.cell? ⟨D, 1, none⟩ = some (.int .i64 (a : Nat))) (c2 : w.cell? ⟨D, 2, none⟩ = some (.int .i64 (c : Nat))) (hT : TabZ w)
    (hf : f = (decide (a ≤ lz x) && decide (b ≤ tz x))) :
    Calls Tryd.prog 69 #[.pointer (some ⟨D, 0, none⟩), .int .u64 (x : Nat)] w fun e w' => e = .returned (.bool f) ∧ Keeps (fun _ => False) w w' := by
  have hlt := lz_tz hx h0
  have HW := Lib.hid (windowOf_any x w hx h0 hT)
  obtain ⟨p, hp⟩ : ∃ p, p = lz x := ⟨_, rfl⟩
  obtain ⟨q, hq⟩ : ∃ q, q = tz x := ⟨_, rfl⟩
  rw [← hp, ← hq] at hlt hf HW
  have hc0 : ((c : Int) == 0) = false := beq_eq_false_iff_ne.2 (by omega)
  have hc1 : (c : Int) ≠ 0 := by omega
  have hD := World.block_lt_of_cell? w _ c1
  obtain ⟨wd, hwd⟩ : ∃ wd, wd = 64 - p - q := ⟨_, rfl⟩
  rw [← hwd] at HW
  have C1 := Lib.hid c1; have C2 := Lib.hid c2; have HC := Lib.hid hc; have HWD := Lib.hid hwd; have HF := Lib.hid hf
  clear hT h0 hp hq hc hwd hf
  go_enter Tryd.func69, Tryd.ntmps69
  go_wp2_with fail
  refine HW.out.mono ?_
  rintro e w1 ⟨rfl, k1⟩
  have d1 := k1.cell C1.out (fun h => h)
  have d2 := k1.cell C2.out (fun h => h)
  obtain ⟨w2, hw2⟩ : ∃ w2, w2 = w1.alloc (.cells #[.int .i64 (p : Nat), .int .i64 (wd : Nat)] 99) := ⟨_, rfl⟩
  have k2 : Keeps (fun _ => False) w w2 := by rw [hw2]; exact k1.alloc _
  have hb2 : w2.heap[w1.heap.size]? = some (.cells #[.int .i64 (p : Nat), .int .i64 (wd : Nat)] 99 (0, 0)) := by rw [hw2]; exact heap_alloc_new w1 _
  obtain ⟨B, hB⟩ : ∃ B, B = w1.heap.size := ⟨_, rfl⟩
  rw [← hB] at hb2
  have HW2 := Lib.hid hw2; have K2 := Lib.hid k2; have HB2 := Lib.hid hb2; have HBB := Lib.hid hB
  clear k1 d1 d2 c1 c2 hw2 k2 hb2 hB
  go_wp2_with fail
  rw [← HW2.out, ← HBB.out]
  obtain ⟨C, hC⟩ : ∃ C : World → Prop, C = fun w' => Keeps (fun _ => False) w2 w' := ⟨_, rfl⟩
  have cw : C { w2 with drawn := w2.drawn + 1 } := by rw [hC]; exact (Keeps.refl (fun _ => False) w2).drew
  have t1 : ∀ wq, C wq → Calls Tryd.prog 67 #[.agg #[.int .i64 (p : Nat), .int .i64 (wd : Nat)]] wq fun e w' => e = .returned (.int .i64 (q : Nat)) ∧ C w' := by
    rw [hC]
    exact fun wq hk => (trail_any p wd wq (by have := HWD.out; omega)).mono fun e w' ⟨he, hk'⟩ => ⟨by rw [he, show 64 - p - wd = q by have := HWD.out; omega], hk.trans hk' (fun _ _ h => h)⟩
  have t2 : ∀ wq, C wq → Calls Tryd.prog 67 #[.agg #[.int .i64 (a : Nat), .int .i64 (c : Nat)]] wq fun e w' => e = .returned (.int .i64 (b : Nat)) ∧ C w' := by
    rw [hC]
    exact fun wq hk => (trail_any a c wq (by have := HC.out; omega)).mono fun e w' ⟨he, hk'⟩ => ⟨by rw [he, show 64 - a - c = b by have := HC.out; omega], hk.trans hk' (fun _ _ h => h)⟩
  have e1 : ∀ wq, C wq → wq.cell? ⟨B, 0, none⟩ = some (.int .i64 (p : Nat)) := by rw [hC]; exact fun wq hk => by rw [cell_of_row _ _ _ _ _ _ (hk.heap HB2.out (fun h => h))]; rfl
  have e2 : ∀ wq, C wq → wq.cell? ⟨B, 1, none⟩ = some (.int .i64 (wd : Nat)) := by rw [hC]; exact fun wq hk => by rw [cell_of_row _ _ _ _ _ _ (hk.heap HB2.out (fun h => h))]; rfl
  have e3 : ∀ wq, C wq → wq.cell? ⟨D, 1, none⟩ = some (.int .i64 (a : Nat)) := by rw [hC]; exact fun wq hk => (K2.out.trans hk (fun _ _ h => h)).cell C1.out (fun h => h)
  have e4 : ∀ wq, C wq → wq.cell? ⟨D, 2, none⟩ = some (.int .i64 (c : Nat)) := by rw [hC]; exact fun wq hk => (K2.out.trans hk (fun _ _ h => h)).cell C2.out (fun h => h)
  have ck : ∀ wq, C wq → Keeps (fun _ => False) w wq := by rw [hC]; exact fun wq hk => K2.out.trans hk (fun _ _ h => h)
  have CW := Lib.hid cw; have T1 := Lib.hid t1; have T2 := Lib.hid t2; have E1 := Lib.hid e1; have E2 := Lib.hid e2; have E3 := Lib.hid e3; have E4 := Lib.hid e4; have CK := Lib.hid ck
  clear cw t1 t2 e1 e2 e3 e4 ck hC hc0 hc1
  have hcase : (a ≤ p ∧ b ≤ q) ∨ (a ≤ p ∧ ¬ b ≤ q) ∨ ¬ a ≤ p := by omega
  rcases hcase with ⟨ha, hb⟩ | ⟨ha, hb⟩ | ha
  · have ha' : decide ((a : Int) ≤ (p : Int)) = true := by simp; omega
    have hb' : decide ((b : Int) ≤ (q : Int)) = true := by simp; omega
    have hf' : f = true := by rw [HF.out]; simp [ha, hb]
    subst hf'
    clear HF
    refine wp_region_class C (by kernel_rfl) (by kernel_rfl) CW.out ?_
    repeat (
      refine wpQuiet_step (fun K hK => ?_)
      go_simp
      first
        | (refine hK _ ?_; clear hK K)
        | (refine ⟨_, fun _ _ => rfl, hK _ ?_⟩; clear hK K)
        | (apply Exists.intro
           refine ⟨fun wq hwq => ?_, hK _ ?_⟩
           (first
            | (go_at_call 67; first | (with_reducible exact T1.out _ hwq) | (with_reducible exact T2.out _ hwq))
            | (have g1 := E1.out _ hwq; have g2 := E2.out _ hwq; have g3 := E3.out _ hwq; have g4 := E4.out _ hwq; go_simp; exact rfl))
           clear hK K))
    refine wpQuiet_nil ?_
    intro wz hwz
    have KZ := Lib.hid (CK.out _ hwz)
    clear hwz T1 T2 E1 E2 E3 E4 CW CK
    go_wp2
    go_ret
    exact ⟨rfl, KZ.out⟩
  · have ha' : decide ((a : Int) ≤ (p : Int)) = true := by simp; omega
    have hb' : decide ((b : Int) ≤ (q : Int)) = false := by simp; omega
    have hf' : f = false := by rw [HF.out]; simp [hb]
    subst hf'
    clear HF
    refine wp_region_class C (by kernel_rfl) (by kernel_rfl) CW.out ?_
    repeat (
      refine wpQuiet_step (fun K hK => ?_)
      go_simp
      first
        | (refine hK _ ?_; clear hK K)
        | (refine ⟨_, fun _ _ => rfl, hK _ ?_⟩; clear hK K)
        | (apply Exists.intro
           refine ⟨fun wq hwq => ?_, hK _ ?_⟩
           (first
            | (go_at_call 67; first | (with_reducible exact T1.out _ hwq) | (with_reducible exact T2.out _ hwq))
            | (have g1 := E1.out _ hwq; have g2 := E2.out _ hwq; have g3 := E3.out _ hwq; have g4 := E4.out _ hwq; go_simp; exact rfl))
           clear hK K))
    refine wpQuiet_nil ?_
    intro wz hwz
    have KZ := Lib.hid (CK.out _ hwz)
    clear hwz T1 T2 E1 E2 E3 E4 CW CK
    go_wp2
    go_ret
    exact ⟨rfl, KZ.out⟩
  · have ha' : decide ((a : Int) ≤ (p : Int)) = false := by simp; omega
    have hf' : f = false := by rw [HF.out]; simp [ha]
    subst hf'
    have g1 : w2.cell? ⟨B, 0, none⟩ = some (.int .i64 (p : Nat)) := by rw [cell_of_row _ _ _ _ _ _ HB2.out]; rfl
    have g2 : w2.cell? ⟨D, 1, none⟩ = some (.int .i64 (a : Nat)) := K2.out.cell C1.out (fun h => h)
    clear HF T1 T2 E1 E2 E3 E4 CW CK
    have hna : ¬ (a : Int) ≤ p := by omega
    go_quiet (fail)
    obtain ⟨wz, hwz⟩ : ∃ wz, wz = w2.drewN nq := ⟨_, rfl⟩
    rw [← hwz]
    have KZ : Hid (Keeps (fun _ => False) w wz) := Lib.hid (by rw [hwz]; exact K2.out.drewN nq)
    clear hwz g1 g2
    go_wp2
    go_ret
    exact ⟨rfl, KZ.out⟩
theorem fits_any (D x : Nat) (s : Nat × Nat) (w : World) (hx : x < 18446744073709551616) (h0 : x ≠ 0) (hs : okWin s) (c1 : w.cell? ⟨D, 1, none⟩ = some (.int .i64 (s.1 : Nat))) (c2 : w.cell? ⟨D, 2, none⟩ = some (.int .i64 ((64 - s.1 - s.2 : Nat) : Int))) (hT : TabZ w) :
    Calls Tryd.prog 69 #[.pointer (some ⟨D, 0, none⟩), .int .u64 (x : Nat)] w fun e w' => e = .returned (.bool (fitsX s x)) ∧ Keeps (fun _ => False) w w' := by
  rcases hs with rfl | hs
  · rw [fitsX_none hx h0]
    exact (fits_none D x w c1 c2).mono fun e w' ⟨he, hw⟩ => ⟨he, by rw [← hw]; exact Keeps.refl _ _⟩
  · exact fits_some D x s.1 s.2 _ _ w hx h0 hs rfl c1 c2 hT rfl
end Go.Proofs.YtdniaingipoggaaDoor
