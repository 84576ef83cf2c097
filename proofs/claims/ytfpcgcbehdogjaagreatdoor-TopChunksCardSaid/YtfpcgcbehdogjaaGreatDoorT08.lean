/-
  Lemmas on which LTopChunks rests, packed out of the texts WXorA WXorD WXorB WRef06 WCrcB WDoor6; each for all arguments under the hypotheses it names.
-/
import Derived.Test.YtfpcgcbehdogjaaGreatDoorT05
import Derived.Test.YtfpcgcbehdogjaaGreatDoorT04
import Derived.Laws.Bits64b
import Derived.Deep.RegionHeld3
import Derived.Deep.DrawnRows
import Derived.Test.YtfpcgcbehdogjaaGreatDoorT07
namespace Go.Proofs.YtfpcgcbehdogjaaGreatDoor
section
set_option maxHeartbeats 2000000
set_option maxRecDepth 100000
open Go.RowKit
def TabZ (w : World) : Prop := ∀ j, j < 64 → w.cell? ⟨2, j, none⟩ = some (.int .u8 (Lib.deBruijn64tab.getD j 0 : Nat))
theorem TabZ.keeps {S : Nat → Prop} {a b : World} (h : TabZ a) (k : Keeps S a b) (hS : ¬ S 2) : TabZ b := fun j hj => k.cell (h j hj) hS
theorem TabZ.pos {a : World} (h : TabZ a) : 2 < a.heap.size := World.block_lt_of_cell? a _ (h 0 (by decide))
theorem lz64_any (x : Nat) (w : World) (hx : x < 18446744073709551616) : Calls Tryz.prog 189 #[.int .u64 (x : Nat)] w fun e w' => e = .returned (.int .i64 (lz x : Nat)) ∧ w = w' := by
 have hb := bitLen_le64 x
 have h1 : IntKind.i64.wrap (64 - ((Lib.bitLen x : Nat) : Int)) = ((lz x : Nat) : Int) := by unfold lz; rw [IntWalk.i64_in _ (by omega)]; omega
 have h2 : 64 - ((Lib.bitLen x : Nat) : Int) = ((lz x : Nat) : Int) := by unfold lz; omega
 have e : ((x : Int)).toNat = x := by omega
 have hc := len64_any (x : Int) w (by omega) (by omega)
 rw [e] at hc
 obtain ⟨B, hB⟩ : ∃ B, B = Lib.bitLen x := ⟨_, rfl⟩
 rw [← hB] at hc h1 h2 hb
 have HC := Hj hc
 obtain ⟨L, hL⟩ : ∃ L, L = lz x := ⟨_, rfl⟩
 rw [← hL] at h1 h2 ⊢
 clear hc e hB hL
 go_enter Tryz.func189, Tryz.ntmps189
 go_wp2_with (go_at_call 193; refine HC.out.mono ?_; rintro e w' ⟨rfl, rfl⟩)
 go_ret
 exact ⟨rfl, rfl⟩
theorem tz64_key (x a : Nat) (hx : x < 18446744073709551616) (hlow : x &&& (18446744073709551616 - x) = a) (hx0 : x ≠ 0) :
 IntKind.u64.wrap (bits BinOp.and IntKind.u64 (x : Int) (IntKind.u64.wrap (-(x : Int))) * 285870213051353865) / 288230376151711744 = ((a * 285870213051353865 % 18446744073709551616 / 288230376151711744 : Nat) : Int) := by
 have e1 : IntKind.u64.wrap (-(x : Int)) = ((18446744073709551616 - x : Nat) : Int) := by rw [IntKind.wrap_u64]; omega
 rw [e1, bits_and_u64_nat x _ hx (by omega), hlow, IntKind.wrap_u64]
 omega
theorem tz64_core (x k idx : Nat) (w : World) (hx0 : ((x : Int) == 0) = false)
 (key : IntKind.u64.wrap (bits BinOp.and IntKind.u64 (x : Int) (IntKind.u64.wrap (-(x : Int))) * 285870213051353865) / 288230376151711744 = (idx : Int))
 (hi : idx < 64) (hk : k < 64) (hcell : w.cell? ⟨2, idx, none⟩ = some (.int .u8 k)) :
 Calls Tryz.prog 190 #[.int .u64 (x : Nat)] w fun e w' => e = .returned (.int .i64 k) ∧ w' = w := by
 go_enter Tryz.func190, Tryz.ntmps190
 go_wp2_with (simp only [key])
 go_ret
 exact ⟨rfl, rfl⟩
theorem tz64_any (x : Nat) (w : World) (hx : x < 18446744073709551616) (h0 : x ≠ 0) (hT : TabZ w) : Calls Tryz.prog 190 #[.int .u64 (x : Nat)] w fun e w' => e = .returned (.int .i64 (tz x : Nat)) ∧ w = w' := by
 obtain ⟨hlow, hk⟩ := Lib.lowest_bit 64 x h0 hx
 obtain ⟨hi, htab⟩ := Lib.deBruijn64_at _ hk
 have hcell := hT _ hi
 rw [htab] at hcell
 exact (tz64_core x _ _ w (by simp; omega) (tz64_key x _ hx hlow h0) hi hk hcell).mono fun e w' ⟨he, hw⟩ => ⟨he, hw.symm⟩
theorem qdb (a c : Nat) (w : World) (h : a + c ≤ 64) : Calls Tryz.prog 152 #[.agg #[.int .i64 (a : Nat), .int .i64 (c : Nat)]] w fun e w' => e = .returned (.int .i64 ((64 - a - c : Nat) : Int)) ∧ Keeps (fun _ => False) w w' := by
 have h1 : IntKind.i64.wrap (64 - (a : Int)) = 64 - a := IntWalk.i64_in _ (by omega)
 have h2 : IntKind.i64.wrap (64 - (a : Int) - c) = 64 - a - c := IntWalk.i64_in _ (by omega)
 have h3 : 64 - (a : Int) - c = ((64 - a - c : Nat) : Int) := by omega
 have H3 := Hj h3
 clear h3
 go_enter Tryz.func152, Tryz.ntmps152
 go_wp2
 go_ret
 exact ⟨ret_int H3.out, (Keeps.refl _ w).alloc _⟩
theorem qdi (x : Nat) (w : World) (hx : x < 18446744073709551616) (h0 : x ≠ 0) (hT : TabZ w) :
 Calls Tryz.prog 153 #[.int .u64 (x : Nat)] w fun e w' => e = .returned (.agg #[.int .i64 (lz x : Nat), .int .i64 ((64 - lz x - tz x : Nat) : Int)]) ∧ Keeps (fun _ => False) w w' := by
 have hlt := lz_tz hx h0
 have HC1 := fun w => lz64_any x w hx
 have HC2 := fun w (h : TabZ w) => tz64_any x w hx h0 h
 obtain ⟨a, ha⟩ : ∃ a, a = lz x := ⟨_, rfl⟩
 obtain ⟨t, ht⟩ : ∃ t, t = tz x := ⟨_, rfl⟩
 rw [← ha] at HC1 hlt ⊢
 rw [← ht] at HC2 hlt ⊢
 have H1 := Hj HC1; have H2 := Hj HC2; have HT := Hj hT
 have h1 : IntKind.i64.wrap (64 - (a : Int)) = 64 - a := IntWalk.i64_in _ (by omega)
 have h2 : IntKind.i64.wrap (64 - (a : Int) - t) = 64 - a - t := IntWalk.i64_in _ (by omega)
 have h3 : 64 - (a : Int) - t = ((64 - a - t : Nat) : Int) := by omega
 have H3 := Hj h3
 have hx0 : (x : Int) ≠ 0 := by omega
 clear h3 HC1 HC2 ha ht hT hx0 h0
 go_enter Tryz.func153, Tryz.ntmps153
 go_wp2_with fail
 refine (H1.out _).mono ?_
 rintro e w1 ⟨rfl, rfl⟩
 go_wp2_with fail
 refine (H2.out _ (HT.out.keeps ((Keeps.refl (fun _ => False) w).alloc _) (fun h => h))).mono ?_
 rintro e w2 ⟨rfl, rfl⟩
 go_wp2
 refine bodyPost_ret (v := .agg #[.int .i64 (a : Nat), .int .i64 (64 - (a : Int) - t)]) (by simp [results, Tryz.results153, go_sem]) rfl ⟨by rw [H3.out], ?_⟩
 exact (Keeps.refl _ w).alloc _
theorem fits_none (D x : Nat) (w : World) (c1 : w.cell? ⟨D, 1, none⟩ = some (.int .i64 0)) (c2 : w.cell? ⟨D, 2, none⟩ = some (.int .i64 0)) :
 Calls Tryz.prog 154 #[.pointer (some ⟨D, 0, none⟩), .int .u64 (x : Nat)] w fun e w' => e = .returned (.bool false) ∧ w = w' := by
 go_enter Tryz.func154, Tryz.ntmps154
 go_wp2
 go_ret
 exact ⟨rfl, rfl⟩
theorem fits_some (D x a b c : Nat) (f : Bool) (w : World) (hx : x < 18446744073709551616) (h0 : x ≠ 0) (hab : a + b ≤ 63) (hc : c = 64 - a - b) (c1 : w.cell? ⟨D, 1, none⟩ = some (.int .i64 (a : Nat))) (c2 : w.cell? ⟨D, 2, none⟩ = some (.int .i64 (c : Nat))) (hT : TabZ w)
 (hf : f = (decide (a ≤ lz x) && decide (b ≤ tz x))) :
 Calls Tryz.prog 154 #[.pointer (some ⟨D, 0, none⟩), .int .u64 (x : Nat)] w fun e w' => e = .returned (.bool f) ∧ Keeps (fun _ => False) w w' := by
 have hlt := lz_tz hx h0
 have HW := Hj (qdi x w hx h0 hT)
 obtain ⟨p, hp⟩ : ∃ p, p = lz x := ⟨_, rfl⟩
 obtain ⟨q, hq⟩ : ∃ q, q = tz x := ⟨_, rfl⟩
 rw [← hp, ← hq] at hlt hf HW
 have hc0 : ((c : Int) == 0) = false := beq_eq_false_iff_ne.2 (by omega)
 have hc1 : (c : Int) ≠ 0 := by omega
 have hD := World.block_lt_of_cell? w _ c1
 obtain ⟨wd, hwd⟩ : ∃ wd, wd = 64 - p - q := ⟨_, rfl⟩
 rw [← hwd] at HW
 have C1 := Hj c1; have C2 := Hj c2; have HC := Hj hc; have HWD := Hj hwd; have HF := Hj hf
 clear hT h0 hp hq hc hwd hf
 go_enter Tryz.func154, Tryz.ntmps154
 go_wp2_with fail
 refine HW.out.mono ?_
 rintro e w1 ⟨rfl, k1⟩
 have d1 := k1.cell C1.out (fun h => h)
 have d2 := k1.cell C2.out (fun h => h)
 obtain ⟨w2, hw2⟩ : ∃ w2, w2 = w1.alloc (.cells #[.int .i64 (p : Nat), .int .i64 (wd : Nat)] 187) := ⟨_, rfl⟩
 have k2 : Keeps (fun _ => False) w w2 := by rw [hw2]; exact k1.alloc _
 have hb2 : w2.heap[w1.heap.size]? = some (.cells #[.int .i64 (p : Nat), .int .i64 (wd : Nat)] 187 (0, 0)) := by rw [hw2]; exact heap_alloc_new w1 _
 obtain ⟨B, hB⟩ : ∃ B, B = w1.heap.size := ⟨_, rfl⟩
 rw [← hB] at hb2
 have HW2 := Hj hw2; have K2 := Hj k2; have HB2 := Hj hb2; have HBB := Hj hB
 clear k1 d1 d2 c1 c2 hw2 k2 hb2 hB
 go_wp2_with fail
 rw [← HW2.out, ← HBB.out]
 obtain ⟨C, hC⟩ : ∃ C : World → Prop, C = fun w' => Keeps (fun _ => False) w2 w' := ⟨_, rfl⟩
 have cw : C { w2 with drawn := w2.drawn + 1 } := by rw [hC]; exact (Keeps.refl (fun _ => False) w2).drew
 have t1 : ∀ wq, C wq → Calls Tryz.prog 152 #[.agg #[.int .i64 (p : Nat), .int .i64 (wd : Nat)]] wq fun e w' => e = .returned (.int .i64 (q : Nat)) ∧ C w' := by
  rw [hC]
  exact fun wq hk => (qdb p wd wq (by have := HWD.out; omega)).mono fun e w' ⟨he, hk'⟩ => ⟨by rw [he, show 64 - p - wd = q by have := HWD.out; omega], hk.trans hk' (fun _ _ h => h)⟩
 have t2 : ∀ wq, C wq → Calls Tryz.prog 152 #[.agg #[.int .i64 (a : Nat), .int .i64 (c : Nat)]] wq fun e w' => e = .returned (.int .i64 (b : Nat)) ∧ C w' := by
  rw [hC]
  exact fun wq hk => (qdb a c wq (by have := HC.out; omega)).mono fun e w' ⟨he, hk'⟩ => ⟨by rw [he, show 64 - a - c = b by have := HC.out; omega], hk.trans hk' (fun _ _ h => h)⟩
 have e1 : ∀ wq, C wq → wq.cell? ⟨B, 0, none⟩ = some (.int .i64 (p : Nat)) := by rw [hC]; exact fun wq hk => by rw [cell_of_row _ _ _ _ _ _ (hk.heap HB2.out (fun h => h))]; rfl
 have e2 : ∀ wq, C wq → wq.cell? ⟨B, 1, none⟩ = some (.int .i64 (wd : Nat)) := by rw [hC]; exact fun wq hk => by rw [cell_of_row _ _ _ _ _ _ (hk.heap HB2.out (fun h => h))]; rfl
 have e3 : ∀ wq, C wq → wq.cell? ⟨D, 1, none⟩ = some (.int .i64 (a : Nat)) := by rw [hC]; exact fun wq hk => (K2.out.trans hk (fun _ _ h => h)).cell C1.out (fun h => h)
 have e4 : ∀ wq, C wq → wq.cell? ⟨D, 2, none⟩ = some (.int .i64 (c : Nat)) := by rw [hC]; exact fun wq hk => (K2.out.trans hk (fun _ _ h => h)).cell C2.out (fun h => h)
 have ck : ∀ wq, C wq → Keeps (fun _ => False) w wq := by rw [hC]; exact fun wq hk => K2.out.trans hk (fun _ _ h => h)
 have CW := Hj cw; have T1 := Hj t1; have T2 := Hj t2; have E1 := Hj e1; have E2 := Hj e2; have E3 := Hj e3; have E4 := Hj e4; have CK := Hj ck
 clear cw t1 t2 e1 e2 e3 e4 ck hC hc0 hc1
 have hcase : (a ≤ p ∧ b ≤ q) ∨ (a ≤ p ∧ ¬ b ≤ q) ∨ ¬ a ≤ p := by omega
 rcases hcase with ⟨ha, hb⟩ | ⟨ha, hb⟩ | ha
 · have ha' : decide ((a : Int) ≤ (p : Int)) = true := by simp; omega
   have hb' : decide ((b : Int) ≤ (q : Int)) = true := by simp; omega
   have hf' : f = true := by rw [HF.out]; simp [ha, hb]
   subst hf'
   clear HF
   refine qau C (by kernel_rfl) (by kernel_rfl) CW.out ?_
   repeat (
    refine wpQuiet_step (fun K hK => ?_)
    go_simp
    first
     | (refine hK _ ?_; clear hK K)
     | (refine ⟨_, fun _ _ => rfl, hK _ ?_⟩; clear hK K)
     | (apply Exists.intro
        refine ⟨fun wq hwq => ?_, hK _ ?_⟩
        (first
         | (go_at_call 152; first | (with_reducible exact T1.out _ hwq) | (with_reducible exact T2.out _ hwq))
         | (have g1 := E1.out _ hwq; have g2 := E2.out _ hwq; have g3 := E3.out _ hwq; have g4 := E4.out _ hwq; go_simp; exact rfl))
        clear hK K))
   refine wpQuiet_nil ?_
   intro wz hwz
   have KZ := Hj (CK.out _ hwz)
   clear hwz T1 T2 E1 E2 E3 E4 CW CK
   go_wp2
   go_ret
   exact ⟨rfl, KZ.out⟩
 · have ha' : decide ((a : Int) ≤ (p : Int)) = true := by simp; omega
   have hb' : decide ((b : Int) ≤ (q : Int)) = false := by simp; omega
   have hf' : f = false := by rw [HF.out]; simp [hb]
   subst hf'
   clear HF
   refine qau C (by kernel_rfl) (by kernel_rfl) CW.out ?_
   repeat (
    refine wpQuiet_step (fun K hK => ?_)
    go_simp
    first
     | (refine hK _ ?_; clear hK K)
     | (refine ⟨_, fun _ _ => rfl, hK _ ?_⟩; clear hK K)
     | (apply Exists.intro
        refine ⟨fun wq hwq => ?_, hK _ ?_⟩
        (first
         | (go_at_call 152; first | (with_reducible exact T1.out _ hwq) | (with_reducible exact T2.out _ hwq))
         | (have g1 := E1.out _ hwq; have g2 := E2.out _ hwq; have g3 := E3.out _ hwq; have g4 := E4.out _ hwq; go_simp; exact rfl))
        clear hK K))
   refine wpQuiet_nil ?_
   intro wz hwz
   have KZ := Hj (CK.out _ hwz)
   clear hwz T1 T2 E1 E2 E3 E4 CW CK
   go_wp2
   go_ret
   exact ⟨rfl, KZ.out⟩
 · have ha' : decide ((a : Int) ≤ (p : Int)) = false := by simp; omega
   have hf' : f = false := by rw [HF.out]; simp [ha]
   subst hf'
   have g1 : w2.cell? ⟨B, 0, none⟩ = some (.int .i64 (p : Nat)) := by rw [cell_of_row _ _ _ _ _ _ HB2.out]; rfl
   have g2 : w2.cell? ⟨D, 1, none⟩ = some (.int .i64 (a : Nat)) := K2.out.cell C1.out (fun h => h)
   clear HF T1 T2 E1 E2 E3 E4 CW CK
   have hna : ¬ (a : Int) ≤ p := by omega
   go_quiet (fail)
   obtain ⟨wz, hwz⟩ : ∃ wz, wz = w2.drewN nq := ⟨_, rfl⟩
   rw [← hwz]
   have KZ : Hid (Keeps (fun _ => False) w wz) := Hj (by rw [hwz]; exact K2.out.drewN nq)
   clear hwz g1 g2
   go_wp2
   go_ret
   exact ⟨rfl, KZ.out⟩
theorem fits_any (D x : Nat) (s : Nat × Nat) (w : World) (hx : x < 18446744073709551616) (h0 : x ≠ 0) (hs : okWin s) (c1 : w.cell? ⟨D, 1, none⟩ = some (.int .i64 (s.1 : Nat))) (c2 : w.cell? ⟨D, 2, none⟩ = some (.int .i64 ((64 - s.1 - s.2 : Nat) : Int))) (hT : TabZ w) :
 Calls Tryz.prog 154 #[.pointer (some ⟨D, 0, none⟩), .int .u64 (x : Nat)] w fun e w' => e = .returned (.bool (fitsX s x)) ∧ Keeps (fun _ => False) w w' := by
 rcases hs with rfl | hs
 · rw [fitsX_none hx h0]
   exact (fits_none D x w c1 c2).mono fun e w' ⟨he, hw⟩ => ⟨he, by rw [← hw]; exact Keeps.refl _ _⟩
 · exact fits_some D x s.1 s.2 _ _ w hx h0 hs rfl c1 c2 hT rfl
end
section
set_option maxHeartbeats 2000000
set_option maxRecDepth 100000
open Go.RowKit
def decCells (last : Nat) (s : Nat × Nat) (p : Nat) (err : Nat) : Array Value := #[.int .u64 (last : Nat), .int .i64 (s.1 : Nat), .int .i64 ((64 - s.1 - s.2 : Nat) : Int), .pointer (some ⟨p, 0, none⟩), .int .i64 (err : Nat)]
structure DS (w : World) (base p : Nat) (v : Value) (bs : List Nat) (i D last : Nat) (s : Nat × Nat) (err : Nat) : Prop where
 rd : IsR w base p v bs i
 dec : w.heap[D]? = some (.cells (decCells last s p err) 191 (0, 0))
theorem DS.ne {w : World} {base p : Nat} {v : Value} {bs : List Nat} {i D last : Nat} {s : Nat × Nat} {err : Nat} (h : DS w base p v bs i D last s err) : p ≠ D ∧ ∀ g, v.ownBlock = some g → g ≠ D := by
 refine ⟨qag h.rd.blk h.dec (by decide), fun g hg => ?_⟩
 obtain ⟨c', hc'⟩ := qaj h.rd.row hg
 exact qag hc' h.dec (by decide)
theorem DS.keeps {w w' : World} {base p : Nat} {v : Value} {bs : List Nat} {i D last : Nat} {s : Nat × Nat} {err : Nat} (h : DS w base p v bs i D last s err) (k : Keeps (fun _ => False) w w') : DS w' base p v bs i D last s err :=
 ⟨h.rd.keeps k (fun h => h) (fun _ _ h => h), k.heap h.dec (fun h => h)⟩
theorem DS.cells {w : World} {base p : Nat} {v : Value} {bs : List Nat} {i D last : Nat} {s : Nat × Nat} {err : Nat} (h : DS w base p v bs i D last s err) :
 w.cell? ⟨D, 0, none⟩ = some (.int .u64 (last : Nat)) ∧ w.cell? ⟨D, 1, none⟩ = some (.int .i64 (s.1 : Nat)) ∧ w.cell? ⟨D, 2, none⟩ = some (.int .i64 ((64 - s.1 - s.2 : Nat) : Int)) ∧ w.cell? ⟨D, 3, none⟩ = some (.pointer (some ⟨p, 0, none⟩)) ∧ w.cell? ⟨D, 4, none⟩ = some (.int .i64 (err : Nat)) ∧ ∀ j, w.frozen? ⟨D, j, none⟩ = false := by
 have hd := h.dec
 refine ⟨?_, ?_, ?_, ?_, ?_, fun j => frozen_of_row _ _ _ _ _ hd⟩ <;> (rw [cell_of_row _ _ _ _ _ _ hd]; rfl)
theorem DS.set {w w' : World} {base p : Nat} {v : Value} {bs : List Nat} {i D last last' : Nat} {s s' : Nat × Nat} {err err' : Nat} (h : DS w base p v bs i D last s err) (k : Keeps (fun k => k = D) w w')
 (hd : w'.heap[D]? = some (.cells (decCells last' s' p err') 191 (0, 0))) : DS w' base p v bs i D last' s' err' :=
 ⟨h.rd.keeps k h.ne.1 h.ne.2, hd⟩
theorem DS.setErr {w : World} {base p : Nat} {v : Value} {bs : List Nat} {i D last : Nat} {s : Nat × Nat} {err e : Nat} (h : DS w base p v bs i D last s err) :
 DS (w.setCell ⟨D, 4, none⟩ (.int .i64 (e : Nat))) base p v bs i D last s e ∧ Keeps (fun k => k = D) w (w.setCell ⟨D, 4, none⟩ (.int .i64 (e : Nat))) := by
 have k : Keeps (fun k => k = D) w (w.setCell ⟨D, 4, none⟩ (.int .i64 (e : Nat))) := (Keeps.refl (fun k => k = D) w).setCell (p := ⟨D, 4, none⟩) (fun _ => rfl) _
 refine ⟨h.set k ?_, k⟩
 have := heap_setCell_same w D 4 _ _ (.int .i64 (e : Nat)) h.dec
 simpa [decCells] using this
theorem DS.setLast {w : World} {base p : Nat} {v : Value} {bs : List Nat} {i D last : Nat} {s : Nat × Nat} {err e : Nat} (h : DS w base p v bs i D last s err) :
 DS (w.setCell ⟨D, 0, none⟩ (.int .u64 (e : Nat))) base p v bs i D e s err ∧ Keeps (fun k => k = D) w (w.setCell ⟨D, 0, none⟩ (.int .u64 (e : Nat))) := by
 have k : Keeps (fun k => k = D) w (w.setCell ⟨D, 0, none⟩ (.int .u64 (e : Nat))) := (Keeps.refl (fun k => k = D) w).setCell (p := ⟨D, 0, none⟩) (fun _ => rfl) _
 refine ⟨h.set k ?_, k⟩
 have := heap_setCell_same w D 0 _ _ (.int .u64 (e : Nat)) h.dec
 simpa [decCells] using this
theorem DS.setWin {w : World} {base p : Nat} {v : Value} {bs : List Nat} {i D last : Nat} {s : Nat × Nat} {err a c : Nat} {t : Nat} (h : DS w base p v bs i D last s err) (hc : c = 64 - a - t) :
 DS ((w.setCell ⟨D, 1, none⟩ (.int .i64 (a : Nat))).setCell ⟨D, 2, none⟩ (.int .i64 (c : Nat))) base p v bs i D last (a, t) err ∧ Keeps (fun k => k = D) w ((w.setCell ⟨D, 1, none⟩ (.int .i64 (a : Nat))).setCell ⟨D, 2, none⟩ (.int .i64 (c : Nat))) := by
 subst hc
 have k : Keeps (fun k => k = D) w ((w.setCell ⟨D, 1, none⟩ (.int .i64 (a : Nat))).setCell ⟨D, 2, none⟩ (.int .i64 ((64 - a - t : Nat) : Int))) := ((Keeps.refl (fun k => k = D) w).setCell (p := ⟨D, 1, none⟩) (fun _ => rfl) _).setCell (p := ⟨D, 2, none⟩) (fun _ => rfl) _
 refine ⟨h.set k ?_, k⟩
 have h1 := heap_setCell_same w D 1 _ _ (.int .i64 (a : Nat)) h.dec
 have h2 := heap_setCell_same _ D 2 _ _ (.int .i64 ((64 - a - t : Nat) : Int)) h1
 simpa [decCells] using h2
section
variable (base p : Nat) (v : Value) (bs : List Nat) (i D last : Nat) (s : Nat × Nat) (w : World)
theorem dbits_err (err : Nat) (n : Int) (h : DS w base p v bs i D last s err) (he : err ≠ 0) : Calls Tryz.prog 100 #[.pointer (some ⟨D, 0, none⟩), .int .i64 n] w fun e w' => e = .returned (.int .u64 0) ∧ w = w' := by
 obtain ⟨-, -, -, -, c4, -⟩ := h.cells
 have h1 : ((err : Int) == 0) = false := by simp; omega
 have h2 : (err : Int) ≠ 0 := by omega
 clear h
 go_enter Tryz.func100, Tryz.ntmps100
 go_wp2
 go_ret
 exact ⟨rfl, rfl⟩
theorem dbits_any (n x e m : Nat) (h : DS w base p v bs i D last s 0) (hl : bs.length ≤ 1099511627776) (hi : i ≤ 8 * bs.length) (hs : stepB (n : Int) ((qad bs).drop i) = (x, e, m)) :
 Calls Tryz.prog 100 #[.pointer (some ⟨D, 0, none⟩), .int .i64 (n : Nat)] w fun e' w' => e' = .returned (.int .u64 (x : Nat)) ∧ DS w' base p v bs (i + m) D last s e ∧ Keeps (fun k => k = p ∨ k = D) w w' := by
 obtain ⟨c0, c1, c2, c3, c4, cf⟩ := h.cells
 have hr := qdn base p v bs i (n : Int) w h.rd (by omega) hi
 rw [hs] at hr
 have HR := Hj hr; have H := Hj h
 have hne := h.ne
 have HNE := Hj hne
 clear hr h hs hne cf c0 c1 c2
 go_enter Tryz.func100, Tryz.ntmps100
 go_wp2_with fail
 refine HR.out.mono ?_
 rintro e1 w1 ⟨rfl, r1, k1⟩
 have hd1 := k1.heap H.out.dec (fun e => HNE.out.1 e.symm)
 have d1 : DS w1 base p v bs (i + m) D last s 0 := ⟨r1, hd1⟩
 have cf1 := d1.cells.2.2.2.2.2 4
 have g1 := d1.cells.2.2.2.2.1
 obtain ⟨s1, s2⟩ := d1.setErr (e := e)
 have S1 := Hj s1
 have K := Hj ((k1.mono (S' := fun k => k = p ∨ k = D) (fun _ _ h => .inl h)).trans s2 (fun _ _ h => .inr h))
 clear r1 k1 hd1 d1 s1 s2 c3 c4
 go_wp2
 go_ret
 exact ⟨rfl, S1.out, K.out⟩
theorem dcheck_err (err : Nat) (ok : Bool) (h : DS w base p v bs i D last s err) (he : err ≠ 0 ∨ ok = true) : Calls Tryz.prog 151 #[.pointer (some ⟨D, 0, none⟩), .bool ok] w fun e w' => e = .returned (.tuple #[]) ∧ w = w' := by
 obtain ⟨-, -, -, -, c4, -⟩ := h.cells
 clear h
 by_cases h0 : err = 0
 · obtain rfl : ok = true := he.resolve_left (fun h => h h0)
   subst h0
   clear he
   go_enter Tryz.func151, Tryz.ntmps151
   go_wp2
   go_end0
   exact ⟨rfl, rfl⟩
 · have h1 : ((err : Int) == 0) = false := by simp; omega
   have h2 : (err : Int) ≠ 0 := by omega
   clear he h0
   go_enter Tryz.func151, Tryz.ntmps151
   go_wp2
   go_end0
   exact ⟨rfl, rfl⟩
theorem dcheck_bad (h : DS w base p v bs i D last s 0) : Calls Tryz.prog 151 #[.pointer (some ⟨D, 0, none⟩), .bool false] w fun e w' => e = .returned (.tuple #[]) ∧ DS w' base p v bs i D last s 8 ∧ Keeps (fun k => k = p ∨ k = D) w w' := by
 obtain ⟨-, -, -, -, c4, cf⟩ := h.cells
 have cf4 := cf 4
 obtain ⟨s1, s2⟩ := h.setErr (e := 8)
 have S1 := Hj s1; have S2 := Hj s2
 clear h cf s1 s2
 go_enter Tryz.func151, Tryz.ntmps151
 go_wp2
 go_end0
 exact ⟨rfl, S1.out, S2.out.mono (fun _ _ h => .inr h)⟩
def readD (err : Nat) (n : Int) (r : List Bool) : Nat × Nat × Nat := if err = 0 then stepB n r else (0, err, 0)
def checkE (err : Nat) (ok : Bool) : Nat := if err = 0 ∧ ok = false then 8 else err
theorem qar (err n x e m : Nat) (h : DS w base p v bs i D last s err) (hl : bs.length ≤ 1099511627776) (hi : i ≤ 8 * bs.length) (hs : readD err (n : Int) ((qad bs).drop i) = (x, e, m)) :
 Calls Tryz.prog 100 #[.pointer (some ⟨D, 0, none⟩), .int .i64 (n : Nat)] w fun e' w' => e' = .returned (.int .u64 (x : Nat)) ∧ DS w' base p v bs (i + m) D last s e ∧ Keeps (fun k => k = p ∨ k = D) w w' := by
 unfold readD at hs
 split at hs
 · rename_i h0
   subst h0
   exact dbits_any base p v bs i D last s w n x e m h hl hi hs
 · rename_i h0
   simp only [Prod.mk.injEq] at hs
   obtain ⟨rfl, rfl, rfl⟩ := hs
   exact (dbits_err base p v bs i D last s w err n h h0).mono fun e' w' ⟨he, hw⟩ => ⟨he, by rw [← hw]; exact h, by rw [← hw]; exact Keeps.refl _ _⟩
theorem qbt (err e : Nat) (ok : Bool) (h : DS w base p v bs i D last s err) (he : checkE err ok = e) : Calls Tryz.prog 151 #[.pointer (some ⟨D, 0, none⟩), .bool ok] w fun e' w' => e' = .returned (.tuple #[]) ∧ DS w' base p v bs i D last s e ∧ Keeps (fun k => k = p ∨ k = D) w w' := by
 unfold checkE at he
 split at he
 · rename_i h0
   obtain ⟨rfl, rfl⟩ := h0
   subst he
   exact dcheck_bad base p v bs i D last s w h
 · rename_i h0
   subst he
   exact (dcheck_err base p v bs i D last s w err ok h (by by_cases h1 : err = 0 <;> cases ok <;> simp_all)).mono fun e' w' ⟨he, hw⟩ => ⟨he, by rw [← hw]; exact h, by rw [← hw]; exact Keeps.refl _ _⟩
theorem DS.other {w w' : World} {base p : Nat} {v : Value} {bs : List Nat} {i D last : Nat} {s : Nat × Nat} {err : Nat} (h : DS w base p v bs i D last s err) (k : Keeps (fun k => k = p ∨ k = D) w w') {B : Nat} {cs : Array Value} {fr : Nat × Nat} (hB : w.heap[B]? = some (.cells cs 187 fr)) : w'.heap[B]? = some (.cells cs 187 fr) :=
 k.heap hB (fun e => e.elim (qag hB h.rd.blk (by decide)) (qag hB h.dec (by decide)))
theorem fresh_gen (err x1 e1 m1 x2 e2 m2 e3 : Nat) (h : DS w base p v bs i D last s err) (hl : bs.length ≤ 1099511627776) (hi : i ≤ 8 * bs.length) (h1 : readD err ((6 : Nat) : Int) ((qad bs).drop i) = (x1, e1, m1)) (hx1 : x1 ≤ 63) (hm1 : i + m1 ≤ 8 * bs.length)
 (h2 : readD e1 ((6 : Nat) : Int) ((qad bs).drop (i + m1)) = (x2, e2, m2)) (hx2 : x2 ≤ 63) (h3 : checkE e2 (decide (x1 + (x2 + 1) ≤ 64)) = e3) :
 Calls Tryz.prog 150 #[.pointer (some ⟨D, 0, none⟩)] w fun e' w' => e' = .returned (.agg #[.int .i64 (x1 : Nat), .int .i64 ((x2 + 1 : Nat) : Int)]) ∧ DS w' base p v bs (i + m1 + m2) D last s e3 ∧ Keeps (fun k => k = p ∨ k = D) w w' := by
 obtain ⟨B, hB⟩ : ∃ B, B = w.heap.size := ⟨_, rfl⟩
 obtain ⟨w1, hw1⟩ : ∃ w1, w1 = w.alloc (.cells #[.int .i64 0, .int .i64 0] 187) := ⟨_, rfl⟩
 have k1 : Keeps (fun _ => False) w w1 := by rw [hw1]; exact (Keeps.refl _ w).alloc _
 have d1 := h.keeps k1
 have hb1 : w1.heap[B]? = some (.cells #[.int .i64 0, .int .i64 0] 187 (0, 0)) := by rw [hw1, hB]; exact heap_alloc_new w _
 have hc1 := qar base p v bs i D last s w1 err 6 x1 e1 m1 d1 hl hi h1
 have HC1 := Hj hc1
 have HB1 := Hj hb1; have K1 := Hj k1; have HBB := Hj hB; have D1 := Hj d1; have HW1 := Hj hw1; have H2 := Hj h2; have H3 := Hj h3
 obtain ⟨z, hz⟩ : ∃ z, z = x2 + 1 := ⟨_, rfl⟩
 have hzb : z ≤ 64 := by omega
 have y3 : (x2 : Int) + 1 = (z : Int) := by omega
 have y6 : decide ((x1 : Int) + z ≤ 64) = decide (x1 + z ≤ 64) := by simp only [decide_eq_decide]; omega
 have y5 : IntKind.i64.wrap ((x1 : Int) + z) = x1 + z := IntWalk.i64_in _ (by omega)
 rw [← hz]
 rw [← hz] at H3
 have y1 : IntKind.i64.wrap (x1 : Int) = x1 := qbk x1 (Nat.le_trans hx1 (by decide))
 have y2 : IntKind.i64.wrap (x2 : Int) = x2 := qbk x2 (Nat.le_trans hx2 (by decide))
 have y4 : IntKind.i64.wrap (z : Int) = z := qbk z (Nat.le_trans hzb (by decide))
 have Y6 := Hj y6
 clear hc1 hb1 k1 hB d1 hw1 h h1 h2 h3 hz y6
 go_enter Tryz.func150, Tryz.ntmps150
 go_wp2_with fail
 rw [← HW1.out]
 refine HC1.out.mono ?_
 rintro e w2 ⟨rfl, d2, k2⟩
 have hb2 := D1.out.other k2 HB1.out
 have HS2 := Hj (Nat.le_trans K1.out.size k2.size)
 obtain ⟨B2, hB2⟩ : ∃ B2, B2 = w2.heap.size := ⟨_, rfl⟩
 obtain ⟨w3, hw3⟩ : ∃ w3, w3 = w2.alloc (.cells #[.int .i64 (x1 : Nat), .int .i64 0] 187) := ⟨_, rfl⟩
 have k3 : Keeps (fun _ => False) w2 w3 := by rw [hw3]; exact (Keeps.refl _ w2).alloc _
 have hb3 : w3.heap[B2]? = some (.cells #[.int .i64 (x1 : Nat), .int .i64 0] 187 (0, 0)) := by rw [hw3, hB2]; exact heap_alloc_new w2 _
 have d3 := d2.keeps k3
 have hc2 := qar base p v bs (i + m1) D last s w3 e1 6 x2 e2 m2 d3 hl hm1 H2.out
 have K3 := Hj (((K1.out.mono (S' := fun k => k = p ∨ k = D) (fun _ _ h => h.elim)).trans k2 (fun _ _ h => h)).trans k3 (fun _ _ h => h.elim))
 have HB3 := Hj hb3; have HC2 := Hj hc2; have D3 := Hj d3; have HW3 := Hj hw3; have HBB2 := Hj hB2; have HBR := Hj (k3.heap hb2 (fun h => h))
 have hBB : B ≠ B2 := by
  have := (Array.getElem?_eq_some_iff.1 hb2).1
  omega
 have HNE := Hj hBB
 clear hb2 hw3 k3 hb3 d3 hc2 d2 k2 hB2 hBB
 go_wp2_with fail
 rw [← HW3.out, ← HBB2.out]
 refine HC2.out.mono ?_
 rintro e w4 ⟨rfl, d4, k4⟩
 have hb4 := D3.out.other k4 HB3.out
 have hbr4 := D3.out.other k4 HBR.out
 have fz := frozen_of_row w4 B2 1 _ _ hb4
 have K4 := Hj (K3.out.trans k4 (fun _ _ h => h)); have D4 := Hj d4; have HB4 := Hj hb4; have HBR4 := Hj hbr4
 have g1 : w4.cell? ⟨B2, 1, none⟩ = some (.int .i64 0) := by rw [cell_of_row _ _ _ _ _ _ hb4]; rfl
 have g0 : w4.cell? ⟨B2, 0, none⟩ = some (.int .i64 (x1 : Nat)) := by rw [cell_of_row _ _ _ _ _ _ hb4]; rfl
 obtain ⟨w5, hw5⟩ : ∃ w5, w5 = w4.setCell ⟨B2, 1, none⟩ (.int .i64 (z : Nat)) := ⟨_, rfl⟩
 have k5 : Keeps (fun k => k = B2) w4 w5 := by rw [hw5]; exact (Keeps.refl (fun k => k = B2) w4).setCell (p := ⟨B2, 1, none⟩) (fun _ => rfl) _
 have hnp : ∀ {B cs fr}, w4.heap[(B : Nat)]? = some (Obj.cells cs 187 fr) → B ≠ p ∧ B ≠ D ∧ ∀ g, v.ownBlock = some g → B ≠ g := fun hB => by
  refine ⟨qag hB d4.rd.blk (by decide), qag hB d4.dec (by decide), fun g hg => ?_⟩
  obtain ⟨c', hc'⟩ := qaj d4.rd.row hg
  exact qag hB hc' (by decide)
 have np2 := hnp hb4
 have d5 : DS w5 base p v bs (i + m1 + m2) D last s e2 := ⟨d4.rd.keeps k5 (fun e => np2.1 e.symm) (fun g hg e => np2.2.2 g hg e.symm), k5.heap d4.dec (fun e => np2.2.1 e.symm)⟩
 have hb5 : w5.heap[B2]? = some (.cells #[.int .i64 (x1 : Nat), .int .i64 (z : Nat)] 187 (0, 0)) := by
  rw [hw5]
  have := heap_setCell_same w4 B2 1 _ _ (.int .i64 (z : Nat)) hb4
  simpa using this
 have hbr5 := k5.heap hbr4 HNE.out
 have hc3 := qbt base p v bs (i + m1 + m2) D last s w5 e2 e3 _ d5 H3.out
 rw [← Y6.out] at hc3
 have K5 := Hj ((K4.out.mono (S' := fun k => k = p ∨ k = D ∨ w.heap.size ≤ k) (fun k _ h => h.elim .inl (fun h => .inr (.inl h)))).trans k5 (fun k hk e => .inr (.inr (by have := HBB2.out; have := HS2.out; omega))))
 have HC3 := Hj hc3; have HB5 := Hj hb5; have HBR5 := Hj hbr5; have D5 := Hj d5; have HW5 := Hj hw5
 clear hb4 hbr4 k4 d4 hw5 k5 hnp np2 d5 hb5 hbr5 hc3
 go_wp2_with fail
 rw [← HW5.out]
 refine HC3.out.mono ?_
 rintro e w6 ⟨rfl, d6, k6⟩
 have hb6 := D5.out.other k6 HB5.out
 have hbr6 := D5.out.other k6 HBR5.out
 have q0 : w6.cell? ⟨B2, 0, none⟩ = some (.int .i64 (x1 : Nat)) := by rw [cell_of_row _ _ _ _ _ _ hb6]; rfl
 have q1 : w6.cell? ⟨B2, 1, none⟩ = some (.int .i64 (z : Nat)) := by rw [cell_of_row _ _ _ _ _ _ hb6]; rfl
 have r0 : w6.cell? ⟨B, 0, none⟩ = some (.int .i64 0) := by rw [cell_of_row _ _ _ _ _ _ hbr6]; rfl
 have r1 : w6.cell? ⟨B, 1, none⟩ = some (.int .i64 0) := by rw [cell_of_row _ _ _ _ _ _ hbr6]; rfl
 have z0 := frozen_of_row w6 B 0 _ _ hbr6
 have z1 := frozen_of_row w6 B 1 _ _ hbr6
 have k7 : Keeps (fun k => k = B) w6 ((w6.setCell ⟨B, 0, none⟩ (.int .i64 (x1 : Nat))).setCell ⟨B, 1, none⟩ (.int .i64 (z : Nat))) := ((Keeps.refl (fun k => k = B) w6).setCell (p := ⟨B, 0, none⟩) (fun _ => rfl) _).setCell (p := ⟨B, 1, none⟩) (fun _ => rfl) _
 have hnp : B ≠ p ∧ B ≠ D ∧ ∀ g, v.ownBlock = some g → B ≠ g := by
  refine ⟨qag hbr6 d6.rd.blk (by decide), qag hbr6 d6.dec (by decide), fun g hg => ?_⟩
  obtain ⟨c', hc'⟩ := qaj d6.rd.row hg
  exact qag hbr6 hc' (by decide)
 have d7 : DS _ base p v bs (i + m1 + m2) D last s e3 := ⟨d6.rd.keeps k7 (fun e => hnp.1 e.symm) (fun g hg e => hnp.2.2 g hg e.symm), k7.heap d6.dec (fun e => hnp.2.1 e.symm)⟩
 have k57 := (K5.out.trans k6 (fun k _ h => h.elim .inl (fun h => .inr (.inl h)))).trans k7 (fun k hk e => .inr (.inr (by have := HBB.out; omega)))
 have hk : Keeps (fun k => k = p ∨ k = D) w ((w6.setCell ⟨B, 0, none⟩ (.int .i64 (x1 : Nat))).setCell ⟨B, 1, none⟩ (.int .i64 (z : Nat))) := k57.mono (fun k hk e => by
  rcases e with e | e | e
  · exact .inl e
  · exact .inr e
  · omega)
 rw [HBB.out] at r0 r1 z0 z1 hk d7
 have HK := Hj hk; have D7 := Hj d7
 clear hk d7 k57 k7 hnp hb6 hbr6 d6 k6 y1 y2 y3 y4 y5
 go_wp2_with fail
 exact bodyPost_ret (v := .agg #[.int .i64 (x1 : Nat), .int .i64 (z : Nat)]) (by simp [results, Tryz.results150, go_sem, r0, r1]) rfl ⟨rfl, D7.out, HK.out⟩
end
end
section
set_option maxHeartbeats 4000000
set_option maxRecDepth 100000
open Go.RowKit
theorem wrap_u64' (n : Nat) (h : n < 18446744073709551616) : IntKind.u64.wrap (n : Int) = n := IntWalk.u64_in _ (by omega)
structure OutC (F : Nat) (cap : Value) (S : Nat → Prop) (n0 : Nat) (R : List Bool → World → Prop) : Prop where
 enter : ∀ args w, (callFunc F args).run Tryz.prog w = .ok (.enter F args) w
 call : ∀ cur (x n : Nat) (w : World), R cur w → n0 ≤ w.heap.size → x < 18446744073709551616 → n ≤ 64 → cur.length ≤ 1000000000100 → Calls Tryz.prog F #[.int .u64 (x : Nat), .int .i64 (n : Nat), cap] w fun e w' => e = .returned (.tuple #[]) ∧ R (cur ++ qaa x n) w' ∧ Keeps (fun k => S k ∨ n0 ≤ k) w w' ∧ ∀ (E : Nat) cs, w.heap[E]? = some (Obj.cells cs 266 (0, 0)) → w'.heap[E]? = some (Obj.cells cs 266 (0, 0))
 keep : ∀ cur (a b : World) (E : Nat) cs, R cur a → a.heap[E]? = some (Obj.cells cs 266 (0, 0)) → Keeps (fun k => k = E) a b → n0 ≤ E → R cur b
 tab : 2 < n0 ∧ ¬ S 2
def encCells (last : Nat) (s : Nat × Nat) (fv : Value) : Array Value := #[.int .u64 (last : Nat), .int .i64 (s.1 : Nat), .int .i64 ((64 - s.1 - s.2 : Nat) : Int), fv]
def IsE (w : World) (E last : Nat) (s : Nat × Nat) (fv : Value) : Prop := w.heap[E]? = some (.cells (encCells last s fv) 266 (0, 0))
theorem IsE.cells {w : World} {E last : Nat} {s : Nat × Nat} {fv : Value} (h : IsE w E last s fv) : w.cell? ⟨E, 0, none⟩ = some (.int .u64 (last : Nat)) ∧ w.cell? ⟨E, 1, none⟩ = some (.int .i64 (s.1 : Nat)) ∧ w.cell? ⟨E, 2, none⟩ = some (.int .i64 ((64 - s.1 - s.2 : Nat) : Int)) ∧ w.cell? ⟨E, 3, none⟩ = some fv ∧
 ∀ j, w.frozen? ⟨E, j, none⟩ = false := by
 refine ⟨?_, ?_, ?_, ?_, fun j => frozen_of_row _ _ _ _ _ h⟩ <;> (rw [cell_of_row _ _ _ _ _ _ h]; rfl)
theorem IsE.set0 {w : World} {E last v : Nat} {s : Nat × Nat} {fv : Value} (h : IsE w E last s fv) : IsE (w.setCell ⟨E, 0, none⟩ (.int .u64 (v : Nat))) E v s fv := by
 have := heap_setCell_same w E 0 _ _ (.int .u64 (v : Nat)) h
 simpa [IsE, encCells] using this
theorem IsE.setW {w : World} {E last : Nat} {s s' : Nat × Nat} {fv : Value} (h : IsE w E last s fv) : IsE ((w.setCell ⟨E, 1, none⟩ (.int .i64 (s'.1 : Nat))).setCell ⟨E, 2, none⟩ (.int .i64 ((64 - s'.1 - s'.2 : Nat) : Int))) E last s' fv := by
 have h1 := heap_setCell_same w E 1 _ _ (.int .i64 (s'.1 : Nat)) h
 have h2 := heap_setCell_same _ E 2 _ _ (.int .i64 ((64 - s'.1 - s'.2 : Nat) : Int)) h1
 simpa [IsE, encCells] using h2
def PutX (S : Nat → Prop) (n0 : Nat) (R : List Bool → World → Prop) (E v : Nat) (s : Nat × Nat) (x : Nat) (cur : List Bool) (fv : Value) (w : World) (e : Ending) (w' : World) : Prop :=
 e = .returned (.tuple #[]) ∧ R (cur ++ bitsX s x) w' ∧ IsE w' E v (newX s x) fv ∧ Keeps (fun k => S k ∨ n0 ≤ k) w w'
section
variable (F : Nat) (cap : Value) (S : Nat → Prop) (n0 : Nat) (R : List Bool → World → Prop) (hO : OutC F cap S n0 R) (E v last : Nat) (s : Nat × Nat) (cur : List Bool) (w : World)
include hO
theorem eput_zero (hE : IsE w E v s (.func (.func F) #[] #[cap])) (hv : v < 18446744073709551616) (hR : R cur w) (hn0 : n0 ≤ E) (hcl : cur.length ≤ 1000000000000) :
 Calls Tryz.prog 149 #[.pointer (some ⟨E, 0, none⟩), .int .u64 (v : Nat)] w (PutX S n0 R E v s 0 cur (.func (.func F) #[] #[cap]) w) := by
 obtain ⟨c0, c1, c2, c3, cf⟩ := hE.cells
 have cf0 := cf 0
 have hx : bits BinOp.xor IntKind.u64 (v : Int) (v : Int) = 0 := by rw [bits_xor_u64_nat v v hv hv, Nat.xor_self]; rfl
 have he := fun args w => hO.enter args w
 obtain ⟨w1, hw1⟩ : ∃ w1, w1 = w.setCell ⟨E, 0, none⟩ (.int .u64 (v : Nat)) := ⟨_, rfl⟩
 have i1 : IsE w1 E v s (.func (.func F) #[] #[cap]) := by rw [hw1]; exact hE.set0
 have kE : Keeps (fun k => k = E) w w1 := by rw [hw1]; exact (Keeps.refl (fun k => k = E) w).setCell (p := ⟨E, 0, none⟩) (fun _ => rfl) _
 have r1 := hO.keep _ _ _ E _ hR hE kE hn0
 have hs1 : n0 ≤ w1.heap.size := Nat.le_trans hn0 (Nat.le_of_lt (Array.getElem?_eq_some_iff.1 i1).1)
 have hc := hO.call cur 0 1 w1 r1 hs1 (by decide) (by decide) (by omega)
 have e1 : cur ++ qaa 0 1 = cur ++ bitsX s 0 := by simp [bitsX, qaa]
 have e2 : newX s 0 = s := by simp [newX]
 rw [e1] at hc
 have HC := Hj hc; have I1 := Hj i1; have KE := Hj kE; have HW1 := Hj hw1; have E2 := Hj e2
 clear cf hc i1 kE r1 hw1 e1 e2 hR hE
 go_enter Tryz.func149, Tryz.ntmps149
 go_wp2
 rw [← HW1.out]
 refine HC.out.mono ?_
 rintro e w2 ⟨rfl, r2, k2, e2⟩
 have HE2 := Hj (e2 E _ I1.out); have R2 := Hj r2
 have K2 := Hj ((KE.out.mono (fun k _ e => .inr (by rw [e]; exact hn0))).trans k2 (fun _ _ h => h))
 clear r2 k2 e2 c0 c1 c2 c3 cf0
 go_wp2
 go_end0
 exact ⟨rfl, R2.out, by rw [E2.out]; exact HE2.out, K2.out⟩
theorem eput_fits (x : Nat) (hE : IsE w E last s (.func (.func F) #[] #[cap])) (hv : v < 18446744073709551616) (hl : last < 18446744073709551616) (hxx : x = v ^^^ last) (h0 : x ≠ 0) (hf : fitsX s x = true) (hs : s.1 + s.2 ≤ 63) (hR : R cur w) (hn0 : n0 ≤ E) (hcl : cur.length ≤ 1000000000000) (hT : TabZ w) :
 Calls Tryz.prog 149 #[.pointer (some ⟨E, 0, none⟩), .int .u64 (v : Nat)] w (PutX S n0 R E v s x cur (.func (.func F) #[] #[cap]) w) := by
 obtain ⟨c0, c1, c2, c3, cf⟩ := hE.cells
 have cf0 := cf 0
 have hx64 : x < 18446744073709551616 := by rw [hxx]; exact xor_lt64 hv hl
 have hx : bits BinOp.xor IntKind.u64 (v : Int) (last : Int) = (x : Int) := by rw [bits_xor_u64_nat v last hv hl, hxx]
 have hx0 : ((x : Int) == 0) = false := beq_eq_false_iff_ne.2 (by omega)
 have he := fun args w => hO.enter args w
 obtain ⟨w1, hw1⟩ : ∃ w1, w1 = w.setCell ⟨E, 0, none⟩ (.int .u64 (v : Nat)) := ⟨_, rfl⟩
 have i1 : IsE w1 E v s (.func (.func F) #[] #[cap]) := by rw [hw1]; exact hE.set0
 have kE : Keeps (fun k => k = E) w w1 := by rw [hw1]; exact (Keeps.refl (fun k => k = E) w).setCell (p := ⟨E, 0, none⟩) (fun _ => rfl) _
 have r1 := hO.keep _ _ _ E _ hR hE kE hn0
 have hs1 : n0 ≤ w1.heap.size := Nat.le_trans hn0 (Nat.le_of_lt (Array.getElem?_eq_some_iff.1 i1).1)
 have hbE : 2 < E := Nat.lt_of_lt_of_le hO.tab.1 hn0
 have t1 := hT.keeps kE (by omega)
 obtain ⟨d0, d1, d2, d3, df⟩ := i1.cells
 have hfit := fits_any E x s w1 hx64 h0 (.inr hs) d1 d2 t1
 rw [hf] at hfit
 have hnew : newX s x = s := by unfold newX; rw [if_neg h0, if_pos hf]
 have hbits : bitsX s x = [true, false] ++ qaa (x / 2 ^ s.2) (64 - s.1 - s.2) := by unfold bitsX headX; rw [if_neg h0, if_pos hf, hnew]
 obtain ⟨a, ha⟩ : ∃ a, a = s.1 := ⟨_, rfl⟩
 obtain ⟨b, hb⟩ : ∃ b, b = s.2 := ⟨_, rfl⟩
 obtain ⟨c, hc⟩ : ∃ c, c = 64 - a - b := ⟨_, rfl⟩
 rw [← ha, ← hb, ← hc] at hbits
 rw [← ha, ← hb] at hs
 have hcells : encCells v s (.func (.func F) #[] #[cap]) = #[.int .u64 (v : Nat), .int .i64 (a : Nat), .int .i64 (c : Nat), .func (.func F) #[] #[cap]] := by rw [hc, ha, hb]; rfl
 have hxs : x / 2 ^ b < 18446744073709551616 := Nat.lt_of_le_of_lt (Nat.div_le_self _ _) hx64
 have I1 := Hj i1; have KE := Hj kE; have HW1 := Hj hw1; have HNEW := Hj hnew; have HB := Hj hbits; have HFIT := Hj hfit; have R1 := Hj r1; have HC := Hj hc; have HCE := Hj hcells; have HF := Hj hf; have H0 := Hj h0; have HA := Hj ha; have HBB := Hj hb; have D3 := Hj d3
 clear cf i1 kE r1 hw1 hR hE hxx hnew hbits hfit d0 d1 d2 d3 df t1 hT hc hcells hf h0 ha hb
 go_enter Tryz.func149, Tryz.ntmps149
 go_wp2_with fail
 rw [← HW1.out]
 refine HFIT.out.mono ?_
 rintro e w2 ⟨rfl, k2⟩
 have i2 := k2.heap I1.out (fun h => h)
 have r2 := hO.keep _ _ _ E _ R1.out I1.out (k2.mono (fun _ _ h => h.elim)) hn0
 have c3' : w2.cell? ⟨E, 3, none⟩ = some (.func (.func F) #[] #[cap]) := k2.cell D3.out (fun h => h)
 have hs2 : n0 ≤ w2.heap.size := Nat.le_trans hs1 k2.size
 have hcall := hO.call cur 2 2 w2 r2 hs2 (by decide) (by decide) (by omega)
 have HCALL := Hj hcall; have I2 := Hj i2
 have K2 := Hj ((KE.out.mono (S' := fun k => S k ∨ n0 ≤ k) (fun k _ e => .inr (by rw [e]; exact hn0))).trans k2 (fun _ _ h => h.elim))
 clear hcall i2 r2 k2 c0 c1 c2 c3 cf0 hx
 go_wp2
 refine HCALL.out.mono ?_
 rintro e w3 ⟨rfl, r3, k3, e3⟩
 have i3 := e3 E _ I2.out
 rw [HCE.out] at i3
 have f1 : w3.cell? ⟨E, 1, none⟩ = some (.int .i64 (a : Nat)) := by rw [cell_of_row _ _ _ _ _ _ i3]; rfl
 have f2 : w3.cell? ⟨E, 2, none⟩ = some (.int .i64 (c : Nat)) := by rw [cell_of_row _ _ _ _ _ _ i3]; rfl
 have f3 : w3.cell? ⟨E, 3, none⟩ = some (.func (.func F) #[] #[cap]) := by rw [cell_of_row _ _ _ _ _ _ i3]; rfl
 have I3 := Hj i3; have R3 := Hj r3; have K3 := Hj (K2.out.trans k3 (fun _ _ h => h))
 have hs3 : n0 ≤ w3.heap.size := Nat.le_trans hs2 k3.size
 clear i3 r3 k3 e3 c3'
 have htr : 64 - a - c = b := by have := HC.out; omega
 have HTR := Hj htr
 have hshr : ((x / 2 ^ b : Nat) : Int) = (x : Int) / 2 ^ b := by rw [Int.natCast_ediv]; simp
 have hcl3 : (cur ++ qaa 2 2).length ≤ 1000000000100 := by rw [List.length_append, qab]; omega
 have hc64 : c ≤ 64 := by have := HC.out; omega
 clear htr
 go_wp2
 go_region_held3 (fun w' => w'.cell? ⟨E, 1, none⟩ = some (.int .i64 (a : Nat)) ∧ w'.cell? ⟨E, 2, none⟩ = some (.int .i64 (c : Nat)) ∧ w'.cell? ⟨E, 3, none⟩ = some (.func (.func F) #[] #[cap])) (go_keep)
  (first
    | (go_at_call 152
       go_must (
        refine (qdb a c _ (by have := HC.out; omega)).mono ?_
        rw [HTR.out]
        rintro e wb ⟨rfl, kb⟩
        have kb3 : Keeps (fun _ => False) w3 wb := ((Keeps.refl (fun _ => False) w3).drew).trans kb (fun _ _ h => h)
        have sB1 := kb3.cell (p := ⟨E, 1, none⟩) f1 (fun h => h)
        have sB2 := kb3.cell (p := ⟨E, 2, none⟩) f2 (fun h => h)
        have sB3 := kb3.cell (p := ⟨E, 3, none⟩) f3 (fun h => h)
        have iB := Hj (kb3.heap I3.out (fun h => h))
        have HOUT := Hj (hO.call (cur ++ qaa 2 2) (x / 2 ^ b) c wb (hO.keep _ _ _ E _ R3.out I3.out (kb3.mono (fun _ _ h => h.elim)) hn0) (Nat.le_trans hs3 kb3.size) hxs hc64 hcl3)
        have KB3 := Hj kb3
        clear kb kb3))
    | ((
        refine HOUT.out.mono ?_
        rintro e wc ⟨rfl, rc, kc, ec⟩
        have iC := ec E _ iB.out
        have sC1 : wc.cell? ⟨E, 1, none⟩ = some (.int .i64 (a : Nat)) := by rw [cell_of_row _ _ _ _ _ _ iC]; rfl
        have sC2 : wc.cell? ⟨E, 2, none⟩ = some (.int .i64 (c : Nat)) := by rw [cell_of_row _ _ _ _ _ _ iC]; rfl
        have sC3 : wc.cell? ⟨E, 3, none⟩ = some (.func (.func F) #[] #[cap]) := by rw [cell_of_row _ _ _ _ _ _ iC]; rfl
        have IC := Hj iC
        have RC := Hj rc
        have KC := Hj kc
        clear iC rc kc ec)))
 clear hcl3 hshr
 go_end0
 have hb22 : qaa 2 2 = [true, false] := by decide
 refine ⟨rfl, ?_, ?_, (K3.out.trans KB3.out (fun _ _ h => h.elim)).trans KC.out (fun _ _ h => h)⟩
 · have := RC.out
   rw [List.append_assoc, hb22, ← HB.out] at this
   exact this
 · rw [HNEW.out]
   unfold IsE
   rw [HCE.out]
   exact IC.out
theorem eput_new (x : Nat) (hE : IsE w E last s (.func (.func F) #[] #[cap])) (hv : v < 18446744073709551616) (hl : last < 18446744073709551616) (hxx : x = v ^^^ last) (h0 : x ≠ 0) (hf : fitsX s x = false) (hs : okWin s) (hR : R cur w) (hn0 : n0 ≤ E) (hcl : cur.length ≤ 1000000000000) (hT : TabZ w) :
 Calls Tryz.prog 149 #[.pointer (some ⟨E, 0, none⟩), .int .u64 (v : Nat)] w (PutX S n0 R E v s x cur (.func (.func F) #[] #[cap]) w) := by
 obtain ⟨c0, c1, c2, c3, cf⟩ := hE.cells
 have cf0 := cf 0
 have hx64 : x < 18446744073709551616 := by rw [hxx]; exact xor_lt64 hv hl
 have hx : bits BinOp.xor IntKind.u64 (v : Int) (last : Int) = (x : Int) := by rw [bits_xor_u64_nat v last hv hl, hxx]
 have hx0 : ((x : Int) == 0) = false := beq_eq_false_iff_ne.2 (by omega)
 have he := fun args w => hO.enter args w
 obtain ⟨w1, hw1⟩ : ∃ w1, w1 = w.setCell ⟨E, 0, none⟩ (.int .u64 (v : Nat)) := ⟨_, rfl⟩
 have i1 : IsE w1 E v s (.func (.func F) #[] #[cap]) := by rw [hw1]; exact hE.set0
 have kE : Keeps (fun k => k = E) w w1 := by rw [hw1]; exact (Keeps.refl (fun k => k = E) w).setCell (p := ⟨E, 0, none⟩) (fun _ => rfl) _
 have r1 := hO.keep _ _ _ E _ hR hE kE hn0
 have hs1 : n0 ≤ w1.heap.size := Nat.le_trans hn0 (Nat.le_of_lt (Array.getElem?_eq_some_iff.1 i1).1)
 have hbE : 2 < E := Nat.lt_of_lt_of_le hO.tab.1 hn0
 have t1 := hT.keeps kE (by omega)
 obtain ⟨d0, d1, d2, d3, df⟩ := i1.cells
 have hfit := fits_any E x s w1 hx64 h0 hs d1 d2 t1
 rw [hf] at hfit
 have hlt := lz_tz hx64 h0
 have hwin := qdi x
 have hnew : newX s x = (lz x, tz x) := by unfold newX; rw [if_neg h0, if_neg (by simp [hf])]
 have hbits : bitsX s x = [true, true] ++ qaa (lz x) 6 ++ qaa (63 - lz x - tz x) 6 ++ qaa (x / 2 ^ tz x) (64 - lz x - tz x) := by
  unfold bitsX headX; rw [if_neg h0, if_neg (by simp [hf]), hnew]
 have hwin := fun w' (h : TabZ w') => qdi x w' hx64 h0 h
 obtain ⟨a, ha⟩ : ∃ a, a = lz x := ⟨_, rfl⟩
 obtain ⟨b, hb⟩ : ∃ b, b = tz x := ⟨_, rfl⟩
 obtain ⟨c, hc⟩ : ∃ c, c = 64 - a - b := ⟨_, rfl⟩
 obtain ⟨m, hm⟩ : ∃ m, m = 63 - a - b := ⟨_, rfl⟩
 rw [← ha, ← hb] at hbits hwin hlt hnew
 rw [← hc, ← hm] at hbits
 rw [← hc] at hwin
 have hcells : encCells v (a, b) (.func (.func F) #[] #[cap]) = #[.int .u64 (v : Nat), .int .i64 (a : Nat), .int .i64 (c : Nat), .func (.func F) #[] #[cap]] := by rw [hc]; rfl
 have HWIN := Hj hwin; have HM := Hj hm
 have hxs : x / 2 ^ b < 18446744073709551616 := Nat.lt_of_le_of_lt (Nat.div_le_self _ _) hx64
 have I1 := Hj i1; have KE := Hj kE; have HW1 := Hj hw1; have HNEW := Hj hnew; have HB := Hj hbits; have HFIT := Hj hfit; have R1 := Hj r1; have HC := Hj hc; have HCE := Hj hcells; have HF := Hj hf; have H0 := Hj h0; have HA := Hj ha; have HBB := Hj hb; have D3 := Hj d3; have T1 := Hj t1
 clear cf i1 kE r1 hw1 hR hE hxx hnew hbits hfit d0 d1 d2 d3 df t1 hT hc hcells hf h0 ha hb hwin hm hs
 go_enter Tryz.func149, Tryz.ntmps149
 go_wp2_with fail
 rw [← HW1.out]
 refine HFIT.out.mono ?_
 rintro e w2 ⟨rfl, k2⟩
 have i2 := k2.heap I1.out (fun h => h)
 have r2 := hO.keep _ _ _ E _ R1.out I1.out (k2.mono (fun _ _ h => h.elim)) hn0
 have t2 := T1.out.keeps k2 (fun h => h)
 have K2 := Hj ((KE.out.mono (S' := fun k => S k ∨ n0 ≤ k) (fun k _ e => .inr (by rw [e]; exact hn0))).trans k2 (fun _ _ h => h.elim))
 have hs2 : n0 ≤ w2.heap.size := Nat.le_trans hs1 k2.size
 have I2 := Hj i2; have R2 := Hj r2; have T2 := Hj t2
 clear i2 r2 k2 t2 c0 c1 c2 c3 cf0 hx
 go_wp2_with fail
 refine (HWIN.out _ T2.out).mono ?_
 rintro e w3 ⟨rfl, k3⟩
 have i3 := k3.heap I2.out (fun h => h)
 have r3 := hO.keep _ _ _ E _ R2.out I2.out (k3.mono (fun _ _ h => h.elim)) hn0
 have hs3 : n0 ≤ w3.heap.size := Nat.le_trans hs2 k3.size
 obtain ⟨c0, c1, c2, c3, cf⟩ := IsE.cells i3
 have cf1 := cf 1
 have cf2 := cf 2
 have K3 := Hj (K2.out.trans k3 (fun _ _ h => h.elim))
 have I3 := Hj i3; have R3 := Hj r3
 clear cf i3 r3 k3
 go_wp2
 obtain ⟨w4, hw4⟩ : ∃ w4, w4 = (w3.setCell ⟨E, 1, none⟩ (.int .i64 (a : Nat))).setCell ⟨E, 2, none⟩ (.int .i64 (c : Nat)) := ⟨_, rfl⟩
 rw [← hw4]
 have i4 : IsE w4 E v (a, b) (.func (.func F) #[] #[cap]) := by rw [hw4, HC.out]; exact IsE.setW (s' := (a, b)) I3.out
 have k4 : Keeps (fun k => k = E) w3 w4 := by rw [hw4]; exact ((Keeps.refl (fun k => k = E) w3).setCell (p := ⟨E, 1, none⟩) (fun _ => rfl) _).setCell (p := ⟨E, 2, none⟩) (fun _ => rfl) _
 have r4 := hO.keep _ _ _ E _ R3.out I3.out k4 hn0
 have hs4 : n0 ≤ w4.heap.size := Nat.le_trans hs3 k4.size
 unfold IsE at i4
 rw [HCE.out] at i4
 have K4 := Hj (K3.out.trans k4 (fun k _ e => .inr (by rw [e]; exact hn0)))
 have I4 := Hj i4; have R4 := Hj r4
 clear i4 k4 r4 hw4 c0 c1 c2 c3 cf1 cf2
 refine (hO.call cur 3 2 w4 R4.out hs4 (by decide) (by decide) (by omega)).mono ?_
 rintro e w5 ⟨rfl, r5, k5, e5⟩
 have i5 := e5 E _ I4.out
 have f1 : w5.cell? ⟨E, 1, none⟩ = some (.int .i64 (a : Nat)) := by rw [cell_of_row _ _ _ _ _ _ i5]; rfl
 have f2 : w5.cell? ⟨E, 2, none⟩ = some (.int .i64 (c : Nat)) := by rw [cell_of_row _ _ _ _ _ _ i5]; rfl
 have f3 : w5.cell? ⟨E, 3, none⟩ = some (.func (.func F) #[] #[cap]) := by rw [cell_of_row _ _ _ _ _ _ i5]; rfl
 have I5 := Hj i5; have R5 := Hj r5; have K5 := Hj (K4.out.trans k5 (fun _ _ h => h))
 have hs5 : n0 ≤ w5.heap.size := Nat.le_trans hs4 k5.size
 clear i5 r5 k5 e5
 have ew1 : IntKind.u64.wrap (a : Int) = a := wrap_u64' a (by omega)
 go_wp2
 have HOUT6 := Hj (hO.call (cur ++ qaa 3 2) a 6 w5.drew (hO.keep _ _ _ E _ R5.out I5.out ((Keeps.refl (fun k => k = E) w5).drew) hn0) hs5 (by omega) (by decide) (by simp only [List.length_append, qab]; omega))
 have J5 : Hid (w5.drew.heap[E]? = some (.cells #[.int .u64 (v : Nat), .int .i64 (a : Nat), .int .i64 (c : Nat), .func (.func F) #[] #[cap]] 266 (0, 0))) := Hj I5.out
 go_region_held3 (fun w' => w'.cell? ⟨E, 1, none⟩ = some (.int .i64 (a : Nat)) ∧ w'.cell? ⟨E, 2, none⟩ = some (.int .i64 (c : Nat)) ∧ w'.cell? ⟨E, 3, none⟩ = some (.func (.func F) #[] #[cap])) (go_keep)
  ((refine HOUT6.out.mono ?_
    rintro e w6 ⟨rfl, rc, kc, ec⟩
    have iC := ec E _ J5.out
    have g1 : w6.cell? ⟨E, 1, none⟩ = some (.int .i64 (a : Nat)) := by rw [cell_of_row _ _ _ _ _ _ iC]; rfl
    have g2 : w6.cell? ⟨E, 2, none⟩ = some (.int .i64 (c : Nat)) := by rw [cell_of_row _ _ _ _ _ _ iC]; rfl
    have g3 : w6.cell? ⟨E, 3, none⟩ = some (.func (.func F) #[] #[cap]) := by rw [cell_of_row _ _ _ _ _ _ iC]; rfl
    have I6 := Hj iC
    have R6 := Hj rc
    have KC6 := Hj kc
    clear iC rc kc ec))
 have K6 := Hj (((K5.out.drew)).trans KC6.out (fun _ _ h => h))
 have hs6 : n0 ≤ w6.heap.size := Nat.le_trans hs5 KC6.out.size
 clear f1 f2 f3 HOUT6 KC6
 have f1 := g1
 have f2 := g2
 have f3 := g3
 clear g1 g2 g3
 clear ew1
 have ew1 : (c : Int) - 1 = (m : Int) := by have := HC.out; have := HM.out; omega
 have ew2 : IntKind.i64.wrap (m : Int) = m := qbk m (by have := HM.out; omega)
 have ew3 : IntKind.u64.wrap (m : Int) = m := wrap_u64' m (by have := HM.out; omega)
 have ew4 : IntKind.i64.wrap ((c : Int) - 1) = m := by rw [ew1, ew2]
 have hm63 : m ≤ 63 := by have := HM.out; omega
 go_wp2
 have HOUT7 := Hj (hO.call (cur ++ qaa 3 2 ++ qaa a 6) m 6 w6.drew (hO.keep _ _ _ E _ R6.out I6.out ((Keeps.refl (fun k => k = E) w6).drew) hn0) hs6 (by omega) (by decide) (by simp only [List.length_append, qab]; omega))
 have J6 : Hid (w6.drew.heap[E]? = some (.cells #[.int .u64 (v : Nat), .int .i64 (a : Nat), .int .i64 (c : Nat), .func (.func F) #[] #[cap]] 266 (0, 0))) := Hj I6.out
 go_region_held3 (fun w' => w'.cell? ⟨E, 1, none⟩ = some (.int .i64 (a : Nat)) ∧ w'.cell? ⟨E, 2, none⟩ = some (.int .i64 (c : Nat)) ∧ w'.cell? ⟨E, 3, none⟩ = some (.func (.func F) #[] #[cap])) (go_keep)
  ((refine HOUT7.out.mono ?_
    rintro e w7 ⟨rfl, rc, kc, ec⟩
    have iC := ec E _ J6.out
    have g1 : w7.cell? ⟨E, 1, none⟩ = some (.int .i64 (a : Nat)) := by rw [cell_of_row _ _ _ _ _ _ iC]; rfl
    have g2 : w7.cell? ⟨E, 2, none⟩ = some (.int .i64 (c : Nat)) := by rw [cell_of_row _ _ _ _ _ _ iC]; rfl
    have g3 : w7.cell? ⟨E, 3, none⟩ = some (.func (.func F) #[] #[cap]) := by rw [cell_of_row _ _ _ _ _ _ iC]; rfl
    have I7 := Hj iC
    have R7 := Hj rc
    have KC7 := Hj kc
    clear iC rc kc ec))
 have K7 := Hj (((K6.out.drew)).trans KC7.out (fun _ _ h => h))
 have hs7 : n0 ≤ w7.heap.size := Nat.le_trans hs6 KC7.out.size
 clear f1 f2 f3 HOUT7 KC7
 have f1 := g1
 have f2 := g2
 have f3 := g3
 clear g1 g2 g3
 clear ew1 ew2 ew3 ew4
 have htr : 64 - a - c = b := by have := HC.out; omega
 have HTR := Hj htr
 have hshr : ((x / 2 ^ b : Nat) : Int) = (x : Int) / 2 ^ b := by rw [Int.natCast_ediv]; simp
 have hcl3 : (cur ++ qaa 3 2 ++ qaa a 6 ++ qaa m 6).length ≤ 1000000000100 := by simp only [List.length_append, qab]; omega
 have hc64 : c ≤ 64 := by have := HC.out; omega
 clear htr
 go_wp2
 go_region_held3 (fun w' => w'.cell? ⟨E, 1, none⟩ = some (.int .i64 (a : Nat)) ∧ w'.cell? ⟨E, 2, none⟩ = some (.int .i64 (c : Nat)) ∧ w'.cell? ⟨E, 3, none⟩ = some (.func (.func F) #[] #[cap])) (go_keep)
  (first
    | (go_at_call 152
       go_must (
        refine (qdb a c _ (by have := HC.out; omega)).mono ?_
        rw [HTR.out]
        rintro e wb ⟨rfl, kb⟩
        have kb3 : Keeps (fun _ => False) w7 wb := ((Keeps.refl (fun _ => False) w7).drew).trans kb (fun _ _ h => h)
        have sB1 := kb3.cell (p := ⟨E, 1, none⟩) f1 (fun h => h)
        have sB2 := kb3.cell (p := ⟨E, 2, none⟩) f2 (fun h => h)
        have sB3 := kb3.cell (p := ⟨E, 3, none⟩) f3 (fun h => h)
        have iB := Hj (kb3.heap I7.out (fun h => h))
        have HOUT := Hj (hO.call (cur ++ qaa 3 2 ++ qaa a 6 ++ qaa m 6) (x / 2 ^ b) c wb (hO.keep _ _ _ E _ R7.out I7.out (kb3.mono (fun _ _ h => h.elim)) hn0) (Nat.le_trans hs7 kb3.size) hxs hc64 hcl3)
        have KB3 := Hj kb3
        clear kb kb3))
    | ((
        refine HOUT.out.mono ?_
        rintro e wc ⟨rfl, rc, kc, ec⟩
        have iC := ec E _ iB.out
        have sC1 : wc.cell? ⟨E, 1, none⟩ = some (.int .i64 (a : Nat)) := by rw [cell_of_row _ _ _ _ _ _ iC]; rfl
        have sC2 : wc.cell? ⟨E, 2, none⟩ = some (.int .i64 (c : Nat)) := by rw [cell_of_row _ _ _ _ _ _ iC]; rfl
        have sC3 : wc.cell? ⟨E, 3, none⟩ = some (.func (.func F) #[] #[cap]) := by rw [cell_of_row _ _ _ _ _ _ iC]; rfl
        have IC := Hj iC
        have RC := Hj rc
        have KC := Hj kc
        clear iC rc kc ec)))
 clear hcl3 hshr
 go_end0
 have hb22 : qaa 3 2 = [true, true] := by decide
 refine ⟨rfl, ?_, ?_, (K7.out.trans KB3.out (fun _ _ h => h.elim)).trans KC.out (fun _ _ h => h)⟩
 · have := RC.out
   have e : cur ++ qaa 3 2 ++ qaa a 6 ++ qaa m 6 ++ qaa (x / 2 ^ b) c = cur ++ bitsX s x := by rw [HB.out, hb22]; simp only [List.append_assoc]
   rwa [e] at this
 · rw [HNEW.out]
   unfold IsE
   rw [HCE.out]
   exact IC.out
end
end
section
open Go.RowKit
end
section
set_option maxHeartbeats 2000000
set_option maxRecDepth 100000
open Go.RowKit
def leB (s k : Nat) : Nat := s / 2 ^ (8 * k) % 256
def le4 (s : Nat) : List Nat := [leB s 0, leB s 1, leB s 2, leB s 3]
theorem le4_lt (s : Nat) : ∀ c ∈ le4 s, c < 256 := by
 intro c hc
 simp only [le4, List.mem_cons, List.not_mem_nil, or_false] at hc
 rcases hc with rfl | rfl | rfl | rfl <;> (unfold leB; omega)
def crcApp (l : List Nat) : List Nat := l ++ le4 (crcO l)
theorem crcApp_length (l : List Nat) : (crcApp l).length = l.length + 4 := by simp [crcApp, le4]
theorem crca_any (v : Value) (l : List Nat) (w : World) (h : Holds w v (u8s l)) (hb : ∀ c ∈ l, c < 256) (hl : l.length ≤ 1000000000000) (hT : TabC w) :
 Calls Tryz.prog 71 #[v] w fun e w' => ∃ v', e = .returned v' ∧ w'.ownsRow w.heap.size 5 1 v' (crcApp l).length (u8s (crcApp l)) ∧ Keeps (fun _ => False) w w' := by
 obtain ⟨i0, hi, hz0, hz1, hz2⟩ := info_parts infoU8
 obtain ⟨ad, cp, hv, _, _⟩ := id h
 rw [qac] at hv
 subst hv
 have HS : Hid (∀ wq, Keeps (fun _ => False) w wq → Calls Tryz.prog 131 #[.slice ad l.length cp] wq fun e w' => e = .returned (.int .u32 ((crcO l : Nat) : Int)) ∧ w' = wq) := Hj (fun wq hk => crcs_any _ l wq (h.keeps hk (fun _ _ e => e)) hb (by omega) (hT.keeps hk (fun e => e)))
 have HH := Hj (h.keeps ((Keeps.refl (fun _ => False) w).alloc (.cells #[] 5)) (fun _ _ e => e))
 have HB := Hj hb
 clear h hb hT
 have hs32 := crcO_lt l HB.out
 have HC : Hid (crcApp l = l ++ le4 (crcO l)) := Hj rfl
 generalize crcO l = s at *
 obtain ⟨b0, hb0⟩ : ∃ b, b = leB s 0 := ⟨_, rfl⟩
 obtain ⟨b1, hb1⟩ : ∃ b, b = leB s 1 := ⟨_, rfl⟩
 obtain ⟨b2, hb2⟩ : ∃ b, b = leB s 2 := ⟨_, rfl⟩
 obtain ⟨b3, hb3⟩ : ∃ b, b = leB s 3 := ⟨_, rfl⟩
 have HB4 : Hid (le4 s = [b0, b1, b2, b3]) := Hj (by unfold le4; rw [hb0, hb1, hb2, hb3])
 have e0 : IntKind.u8.wrap (s : Int) = (b0 : Int) := by rw [IntKind.wrap_u8, hb0]; unfold leB; simp
 have e1 : IntKind.u8.wrap ((s : Int) / 256) = (b1 : Int) := by rw [IntKind.wrap_u8, hb1]; unfold leB; simp
 have e2 : IntKind.u8.wrap ((s : Int) / 65536) = (b2 : Int) := by rw [IntKind.wrap_u8, hb2]; unfold leB; simp
 have e3 : IntKind.u8.wrap ((s : Int) / 16777216) = (b3 : Int) := by rw [IntKind.wrap_u8, hb3]; unfold leB; simp
 clear hb0 hb1 hb2 hb3
 go_enter Tryz.func71, Tryz.ntmps71
 go_wp2_with (first
  | (at_builtin; refine qax _ rfl _ _ 29 rfl w.heap.size 5 i0 (.int .u8 0) 1 Tryz.underlying29 hi hz0 hz1 hz2 rfl _ _ [] (u8s l) rfl rfl (World.ownsRow_lit w #[] 0 (Nat.le_refl _) (by decide) rfl) HH.out (u8s_one _) (by rw [qac]; simp; unfold maxLen; omega) (by rw [qac]; simp; omega) (by simp) ?_; intro v1 w1 hr1; have HK1 : Hid (Keeps (fun _ => False) w w1) := Hj (((Keeps.refl (fun _ => False) w).alloc _).trans hr1.keeps (fun k hk e => by have e' : some w.heap.size = some k := e; simp only [Option.some.injEq] at e'; omega)); have HR1 := Hj hr1.row; clear hr1)
  | (go_at_call 131; refine (HS.out _ HK1.out).mono ?_; rintro e w' ⟨rfl, rfl⟩))
 go_loopw [3, 11] (fun c3 c wr => ∃ (i : Nat), c = .int .i64 (i : Int) ∧ i ≤ 4 ∧ Hid (wr.ownsRow w.heap.size 5 1 c3 (l.length + i) (u8s (l ++ [b0, b1, b2, b3].take i))) ∧ Hid (Keeps (fun _ => False) w wr)) (fun _ c _ => 4 - (intOf c).toNat)
 case atStart => exact ⟨0, rfl, by omega, Hj (by have := HR1.out; simpa [u8s] using this), HK1⟩
 case round =>
  clear HK1 HR1
  obtain ⟨i, rfl, hi4, HROW, HK⟩ := hrel
  rcases (by omega : i = 0 ∨ i = 1 ∨ i = 2 ∨ i = 3 ∨ i = 4) with rfl | rfl | rfl | rfl | rfl
  · go_wp2_with (at_builtin; refine qax _ rfl _ _ 29 rfl w.heap.size 5 i0 (.int .u8 0) 1 Tryz.underlying29 hi hz0 hz1 hz2 rfl _ _ (u8s (l ++ [])) (u8s [b0]) rfl rfl (by rw [qac, List.length_append]; exact HROW.out.alloc _) (holds_lit wr [b0]) (u8s_one _) (by rw [qac, qac, List.length_append]; simp; unfold maxLen; omega) (by rw [qac, qac, List.length_append]; simp; omega) (by have := HK.out.size; simp; omega) ?_; intro v2 w2 hr2)
    exact ⟨⟨1, rfl, by omega, Hj (by have := hr2.row; simpa [u8s, HB4.out] using this), Hj ((HK.out.alloc _).trans hr2.keeps (fun k hk e => by have := (HROW.out.lt k e).1; omega))⟩, by simp [intOf]⟩
  · go_wp2_with (at_builtin; refine qax _ rfl _ _ 29 rfl w.heap.size 5 i0 (.int .u8 0) 1 Tryz.underlying29 hi hz0 hz1 hz2 rfl _ _ (u8s (l ++ [b0])) (u8s [b1]) rfl rfl (by rw [qac, List.length_append]; exact HROW.out.alloc _) (holds_lit wr [b1]) (u8s_one _) (by rw [qac, qac, List.length_append]; simp; unfold maxLen; omega) (by rw [qac, qac, List.length_append]; simp; omega) (by have := HK.out.size; simp; omega) ?_; intro v2 w2 hr2)
    exact ⟨⟨2, rfl, by omega, Hj (by have := hr2.row; simpa [u8s, HB4.out] using this), Hj ((HK.out.alloc _).trans hr2.keeps (fun k hk e => by have := (HROW.out.lt k e).1; omega))⟩, by simp [intOf]⟩
  · go_wp2_with (at_builtin; refine qax _ rfl _ _ 29 rfl w.heap.size 5 i0 (.int .u8 0) 1 Tryz.underlying29 hi hz0 hz1 hz2 rfl _ _ (u8s (l ++ [b0, b1])) (u8s [b2]) rfl rfl (by rw [qac, List.length_append]; exact HROW.out.alloc _) (holds_lit wr [b2]) (u8s_one _) (by rw [qac, qac, List.length_append]; simp; unfold maxLen; omega) (by rw [qac, qac, List.length_append]; simp; omega) (by have := HK.out.size; simp; omega) ?_; intro v2 w2 hr2)
    exact ⟨⟨3, rfl, by omega, Hj (by have := hr2.row; simpa [u8s, HB4.out] using this), Hj ((HK.out.alloc _).trans hr2.keeps (fun k hk e => by have := (HROW.out.lt k e).1; omega))⟩, by simp [intOf]⟩
  · go_wp2_with (at_builtin; refine qax _ rfl _ _ 29 rfl w.heap.size 5 i0 (.int .u8 0) 1 Tryz.underlying29 hi hz0 hz1 hz2 rfl _ _ (u8s (l ++ [b0, b1, b2])) (u8s [b3]) rfl rfl (by rw [qac, List.length_append]; exact HROW.out.alloc _) (holds_lit wr [b3]) (u8s_one _) (by rw [qac, qac, List.length_append]; simp; unfold maxLen; omega) (by rw [qac, qac, List.length_append]; simp; omega) (by have := HK.out.size; simp; omega) ?_; intro v2 w2 hr2)
    exact ⟨⟨4, rfl, by omega, Hj (by have := hr2.row; simpa [u8s, HB4.out] using this), Hj ((HK.out.alloc _).trans hr2.keeps (fun k hk e => by have := (HROW.out.lt k e).1; omega))⟩, by simp [intOf]⟩
  · go_wp2
    go_ret
    exact ⟨_, rfl, by rw [HC.out, HB4.out, List.length_append]; exact HROW.out, HK.out⟩
end
section
open Go.RowKit
theorem cells_deb : Tryz.prog.cellsOf 330 = 64 := by kernel_rfl
theorem cells_u8z : Tryz.prog.cellsOf 5 = 1 := by kernel_rfl
theorem gDeb : Tryz.prog.globalNamed "math/bits.deBruijn64tab" = some 2 := by kernel_rfl
theorem gDebType : (Tryz.prog.globals[(2 : Nat)]?).map (·.type) = some 330 := by kernel_rfl
end
end Go.Proofs.YtfpcgcbehdogjaaGreatDoor
