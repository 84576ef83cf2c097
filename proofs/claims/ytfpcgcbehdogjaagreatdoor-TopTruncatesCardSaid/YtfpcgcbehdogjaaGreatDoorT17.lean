/-
  Lemmas on which LTopTruncates rests, packed out of the texts WLayA WChunkC; each for all arguments under the hypotheses it names.
-/
import Derived.Test.YtfpcgcbehdogjaaGreatDoorT15
import Derived.Lib.SlBytesConst
import Derived.Laws.MakeOwn
namespace Go.Proofs.YtfpcgcbehdogjaaGreatDoor
section
set_option maxHeartbeats 4000000
set_option maxRecDepth 100000
open Go.RowKit
def contO (at_ : List Nat) : List Nat := at_.flatMap venc
theorem qcv (l : List Nat) : (contO l).length ≤ 10 * l.length := by
 induction l with
 | nil => simp [contO]
 | cons x r ih =>
   have hx : (venc x).length ≤ 10 := qcs 9 x
   unfold contO at *
   rw [List.flatMap_cons, List.length_append, List.length_cons]; omega
theorem cont_any (a0 a1 a2 a3 : Nat) (a4 : Int) (w : World) (h0 : a0 ≤ 10000000000) (h1 : a1 ≤ 10000000000) (h2 : a2 ≤ 10000000000) (h3 : a3 ≤ 10000000000) :
 Calls Tryz.prog 70 #[.agg #[.int .i64 (a0 : Int), .int .i64 (a1 : Int), .int .i64 (a2 : Int), .int .i64 (a3 : Int), .int .i64 a4]] w fun e w' => ∃ v', e = .returned v' ∧ w'.ownsRow w.heap.size 5 1 v' (contO [a0, a1, a2, a3]).length (u8s (contO [a0, a1, a2, a3])) ∧ Keeps (fun _ => False) w w' := by
 obtain ⟨W1, hW1⟩ : ∃ W1, W1 = w.alloc (.cells #[.int .i64 (a0 : Int), .int .i64 (a1 : Int), .int .i64 (a2 : Int), .int .i64 (a3 : Int), .int .i64 a4] 90) := ⟨_, rfl⟩
 have hk1 : Keeps (fun _ => False) w W1 := by rw [hW1]; exact (Keeps.refl _ w).alloc _
 have hc1 : W1.heap[w.heap.size]? = some (.cells #[.int .i64 (a0 : Int), .int .i64 (a1 : Int), .int .i64 (a2 : Int), .int .i64 (a3 : Int), .int .i64 a4] 90 (0, 0)) := by rw [hW1]; exact heap_alloc_new w _
 have hs1 : W1.heap.size = w.heap.size + 1 := by rw [hW1]; simp
 have HK1 := Hj hk1; have HC1 := Hj hc1; have HS1 := Hj hs1
 go_enter Tryz.func70, Tryz.ntmps70
 go_wp2
 rw [← hW1]
 clear hW1 hk1 hc1 hs1
 go_loopw [3, 8] (fun c3 c wr => ∃ i : Nat, c = .int .i64 (i : Int) ∧ i ≤ 4 ∧ Hid (wr.ownsRow (w.heap.size + 1) 5 1 c3 (u8s (contO ([a0, a1, a2, a3].take i))).length (u8s (contO ([a0, a1, a2, a3].take i)))) ∧ Hid (Keeps (fun k => w.heap.size + 1 ≤ k) W1 wr)) (fun _ c _ => 4 - (intOf c).toNat)
 case atStart => exact ⟨0, rfl, by omega, Hj (World.ownsRow_nil _ _ _ _), Hj (Keeps.refl _ _)⟩
 case round =>
  obtain ⟨i, rfl, hi4, HROW, HK⟩ := hrel
  have HCR := Hj (HK.out.heap HC1.out (by omega))
  have HL : Hid (∀ i, (contO ([a0, a1, a2, a3].take i)).length ≤ 40) := Hj (fun i => by
   have h : ∀ l : List Nat, (contO l).length ≤ 10 * l.length := fun l => by
    induction l with
    | nil => simp [contO]
    | cons x r ih =>
      have hx : (venc x).length ≤ 10 := qcs 9 x
      unfold contO at *
      rw [List.flatMap_cons, List.length_append, List.length_cons]; omega
   have := h ([a0, a1, a2, a3].take i)
   rw [List.length_take] at this
   simp only [List.length_cons, List.length_nil] at this
   omega)
  rcases (by omega : i = 0 ∨ i = 1 ∨ i = 2 ∨ i = 3 ∨ i = 4) with rfl | rfl | rfl | rfl | rfl
  · have hc : wr.cell? ⟨w.heap.size, 0, none⟩ = some (.int .i64 (a0 : Int)) := by rw [cell_of_row _ _ _ _ _ _ HCR.out]; rfl
    have HV := Hj (qby (w.heap.size + 1) _ (contO []) a0 wr HROW.out (by omega) (by have := HL.out 0; simp only [List.take] at this; omega) (by have := HS1.out; have := HK.out.size; omega))
    go_wp2_with (go_at_call 125; refine HV.out.mono ?_; rintro e w2 ⟨v2, rfl, hr⟩)
    exact ⟨⟨1, rfl, by omega, Hj (by have := hr.row; simpa [contO] using this), Hj (HK.out.trans hr.keeps (fun k hk e => (HROW.out.lt k e).1))⟩, by simp [intOf]⟩
  · have hc : wr.cell? ⟨w.heap.size, 1, none⟩ = some (.int .i64 (a1 : Int)) := by rw [cell_of_row _ _ _ _ _ _ HCR.out]; rfl
    have HV := Hj (qby (w.heap.size + 1) _ (contO [a0]) a1 wr HROW.out (by omega) (by have := HL.out 1; simp only [List.take] at this; omega) (by have := HS1.out; have := HK.out.size; omega))
    go_wp2_with (go_at_call 125; refine HV.out.mono ?_; rintro e w2 ⟨v2, rfl, hr⟩)
    exact ⟨⟨2, rfl, by omega, Hj (by have := hr.row; simpa [contO] using this), Hj (HK.out.trans hr.keeps (fun k hk e => (HROW.out.lt k e).1))⟩, by simp [intOf]⟩
  · have hc : wr.cell? ⟨w.heap.size, 2, none⟩ = some (.int .i64 (a2 : Int)) := by rw [cell_of_row _ _ _ _ _ _ HCR.out]; rfl
    have HV := Hj (qby (w.heap.size + 1) _ (contO [a0, a1]) a2 wr HROW.out (by omega) (by have := HL.out 2; simp only [List.take] at this; omega) (by have := HS1.out; have := HK.out.size; omega))
    go_wp2_with (go_at_call 125; refine HV.out.mono ?_; rintro e w2 ⟨v2, rfl, hr⟩)
    exact ⟨⟨3, rfl, by omega, Hj (by have := hr.row; simpa [contO] using this), Hj (HK.out.trans hr.keeps (fun k hk e => (HROW.out.lt k e).1))⟩, by simp [intOf]⟩
  · have hc : wr.cell? ⟨w.heap.size, 3, none⟩ = some (.int .i64 (a3 : Int)) := by rw [cell_of_row _ _ _ _ _ _ HCR.out]; rfl
    have HV := Hj (qby (w.heap.size + 1) _ (contO [a0, a1, a2]) a3 wr HROW.out (by omega) (by have := HL.out 3; simp only [List.take] at this; omega) (by have := HS1.out; have := HK.out.size; omega))
    go_wp2_with (go_at_call 125; refine HV.out.mono ?_; rintro e w2 ⟨v2, rfl, hr⟩)
    exact ⟨⟨4, rfl, by omega, Hj (by have := hr.row; simpa [contO] using this), Hj (HK.out.trans hr.keeps (fun k hk e => (HROW.out.lt k e).1))⟩, by simp [intOf]⟩
  · go_wp2
    go_ret
    refine ⟨_, rfl, by have := HROW.out; rw [qaa] at this; exact qao this (fun g hg => by have := (this.lt g hg).1; omega), HK1.out.trans HK.out (fun k hk e => by omega)⟩
def headO : List Nat := [84, 83, 66, 75, 1]
def tailO : List Nat := [75, 66, 83, 84]
def bO (s0 s1 s2 s3 : List Nat) : Nat → List Nat
 | 0 => headO
 | 1 => headO ++ secO 1 s0
 | 2 => headO ++ secO 1 s0 ++ secO 2 s1
 | 3 => headO ++ secO 1 s0 ++ secO 2 s1 ++ secO 3 s2
 | _ => headO ++ secO 1 s0 ++ secO 2 s1 ++ secO 3 s2 ++ secO 4 s3
def atO (s0 s1 s2 s3 : List Nat) : List Nat := [(bO s0 s1 s2 s3 0).length, (bO s0 s1 s2 s3 1).length, (bO s0 s1 s2 s3 2).length, (bO s0 s1 s2 s3 3).length]
def bodyO (s0 s1 s2 s3 : List Nat) : List Nat := bO s0 s1 s2 s3 4 ++ secO 5 (contO (atO s0 s1 s2 s3))
def fileO (s0 s1 s2 s3 : List Nat) : List Nat := crcApp (bodyO s0 s1 s2 s3) ++ tailO
theorem qdf (s0 s1 s2 s3 : List Nat) (k : Nat) (hk : k ≤ 4) (h0 : s0.length ≤ 100000000) (h1 : s1.length ≤ 100000000) (h2 : s2.length ≤ 100000000) (h3 : s3.length ≤ 100000000) : (bO s0 s1 s2 s3 k).length ≤ 400000100 := by
 have a := qbt 1 s0; have b := qbt 2 s1; have c := qbt 3 s2; have d := qbt 4 s3
 have hh : headO.length = 5 := rfl
 rcases (by omega : k = 0 ∨ k = 1 ∨ k = 2 ∨ k = 3 ∨ k = 4) with rfl | rfl | rfl | rfl | rfl <;> simp only [bO, List.length_append, hh] <;> omega
theorem bO_lt (s0 s1 s2 s3 : List Nat) (k : Nat) (h0 : s0.length ≤ 100000000) (h1 : s1.length ≤ 100000000) (h2 : s2.length ≤ 100000000) (h3 : s3.length ≤ 100000000)
 (b0 : ∀ c ∈ s0, c < 256) (b1 : ∀ c ∈ s1, c < 256) (b2 : ∀ c ∈ s2, c < 256) (b3 : ∀ c ∈ s3, c < 256) : ∀ c ∈ bO s0 s1 s2 s3 k, c < 256 := by
 have a := qgz 1 s0 (by decide) b0 (by omega); have b := qgz 2 s1 (by decide) b1 (by omega); have c := qgz 3 s2 (by decide) b2 (by omega); have d := qgz 4 s3 (by decide) b3 (by omega)
 have hh : ∀ c ∈ headO, c < 256 := by decide
 have e0 : ∀ c ∈ headO ++ secO 1 s0, c < 256 := fun x hx => (List.mem_append.1 hx).elim (hh x) (a x)
 have e1 : ∀ c ∈ headO ++ secO 1 s0 ++ secO 2 s1, c < 256 := fun x hx => (List.mem_append.1 hx).elim (e0 x) (b x)
 have e2 : ∀ c ∈ headO ++ secO 1 s0 ++ secO 2 s1 ++ secO 3 s2, c < 256 := fun x hx => (List.mem_append.1 hx).elim (e1 x) (c x)
 have e3 : ∀ c ∈ headO ++ secO 1 s0 ++ secO 2 s1 ++ secO 3 s2 ++ secO 4 s3, c < 256 := fun x hx => (List.mem_append.1 hx).elim (e2 x) (d x)
 match k with
 | 0 => exact hh
 | 1 => exact e0
 | 2 => exact e1
 | 3 => exact e2
 | k + 4 => exact e3
theorem asm_any (v0 v1 v2 v3 : Value) (s0 s1 s2 s3 : List Nat) (w : World) (h0 : Holds w v0 (u8s s0)) (h1 : Holds w v1 (u8s s1)) (h2 : Holds w v2 (u8s s2)) (h3 : Holds w v3 (u8s s3))
 (l0 : s0.length ≤ 100000000) (l1 : s1.length ≤ 100000000) (l2 : s2.length ≤ 100000000) (l3 : s3.length ≤ 100000000) (b0 : ∀ c ∈ s0, c < 256) (b1 : ∀ c ∈ s1, c < 256) (b2 : ∀ c ∈ s2, c < 256) (b3 : ∀ c ∈ s3, c < 256) (hT : TabC w) :
 Calls Tryz.prog 32 #[.agg #[v0, v1, v2, v3]] w fun e w' => ∃ v', e = .returned v' ∧ w'.ownsRow w.heap.size 5 1 v' (fileO s0 s1 s2 s3).length (u8s (fileO s0 s1 s2 s3)) ∧ Keeps (fun _ => False) w w' := by
 obtain ⟨i0, hi, hz0, hz1, hz2⟩ := info_parts infoU8
 obtain ⟨d0, n0, p0, rfl⟩ : ∃ d n p, v0 = .slice d n p := by obtain ⟨d, p, h, _⟩ := h0; exact ⟨d, _, p, h⟩
 obtain ⟨d1, n1, p1, rfl⟩ : ∃ d n p, v1 = .slice d n p := by obtain ⟨d, p, h, _⟩ := h1; exact ⟨d, _, p, h⟩
 obtain ⟨d2, n2, p2, rfl⟩ : ∃ d n p, v2 = .slice d n p := by obtain ⟨d, p, h, _⟩ := h2; exact ⟨d, _, p, h⟩
 obtain ⟨d3, n3, p3, rfl⟩ : ∃ d n p, v3 = .slice d n p := by obtain ⟨d, p, h, _⟩ := h3; exact ⟨d, _, p, h⟩
 have H0 := Hj h0; have H1 := Hj h1; have H2 := Hj h2; have H3 := Hj h3
 have HTC := Hj hT; have B0 := Hj b0; have B1 := Hj b1; have B2 := Hj b2; have B3 := Hj b3
 have hcv := Lib.run_convert_bytes_const (P := Tryz.prog) (w.alloc (.cells #[(.slice d0 n0 p0), (.slice d1 n1 p1), (.slice d2 n2 p2), (.slice d3 n3 p3)] 75)) 29 5 #[.int .u8 84, .int .u8 83, .int .u8 66, .int .u8 75, .int .u8 1] 5 5 Tryz.underlying29 Tryz.underlying5
 simp only [World.size_alloc] at hcv
 clear h0 h1 h2 h3 hT b0 b1 b2 b3
 go_enter Tryz.func32, Tryz.ntmps32
 go_wp2
 clear hcv
 obtain ⟨W0, hW0⟩ : ∃ W0, W0 = ((w.alloc (.cells #[(.slice d0 n0 p0), (.slice d1 n1 p1), (.slice d2 n2 p2), (.slice d3 n3 p3)] 75)).alloc (.cells #[.int .u8 84, .int .u8 83, .int .u8 66, .int .u8 75, .int .u8 1] 5 (5, 6))).alloc (.cells #[.int .i64 0, .int .i64 0, .int .i64 0, .int .i64 0, .int .i64 0] 90) := ⟨_, rfl⟩
 have hk0 : Keeps (fun _ => False) w W0 := by rw [hW0]; exact (((Keeps.refl _ w).alloc _).alloc _).alloc _
 have hA0 : W0.heap[w.heap.size + 2]? = some (.cells #[.int .i64 0, .int .i64 0, .int .i64 0, .int .i64 0, .int .i64 0] 90 (0, 0)) := by
  rw [hW0]
  have := heap_alloc_new ((w.alloc (.cells #[(.slice d0 n0 p0), (.slice d1 n1 p1), (.slice d2 n2 p2), (.slice d3 n3 p3)] 75)).alloc (.cells #[.int .u8 84, .int .u8 83, .int .u8 66, .int .u8 75, .int .u8 1] 5 (5, 6))) (.cells #[.int .i64 0, .int .i64 0, .int .i64 0, .int .i64 0, .int .i64 0] 90)
  simpa only [World.size_alloc] using this
 have hL0 : W0.heap[w.heap.size + 1]? = some (.cells #[.int .u8 84, .int .u8 83, .int .u8 66, .int .u8 75, .int .u8 1] 5 (5, 6)) := by
  rw [hW0, Below.heap_alloc _ _ _ (by simp)]
  have := heap_alloc_new (w.alloc (.cells #[(.slice d0 n0 p0), (.slice d1 n1 p1), (.slice d2 n2 p2), (.slice d3 n3 p3)] 75)) (.cells #[.int .u8 84, .int .u8 83, .int .u8 66, .int .u8 75, .int .u8 1] 5 (5, 6))
  simpa only [World.size_alloc] using this
 have hh0 : Holds W0 (.slice (some ⟨w.heap.size + 1, 0, none⟩) 5 5) (u8s headO) := ⟨_, 5, rfl, Nat.le_refl _, .inr ⟨_, 0, rfl, fun j u hj => by
  rw [cell_of_row _ _ _ _ _ _ hL0, Nat.zero_add]
  simpa [u8s, headO] using hj⟩⟩
 have HK0 := Hj hk0; have HA0 := Hj hA0; have HH0 := Hj hh0
 rw [← hW0]
 clear hW0 hk0 hA0 hL0 hh0
 go_loopw [3, 10] (fun c3 c wr => ∃ i : Nat, c = .int .i64 (i : Int) ∧ i ≤ 4 ∧ (i = 0 → c3 = .slice (some ⟨w.heap.size + 1, 0, none⟩) 5 5 ∧ Holds wr (.slice (some ⟨w.heap.size + 1, 0, none⟩) 5 5) (u8s headO)) ∧
  (1 ≤ i → Hid (wr.ownsRow (w.heap.size + 1) 5 1 c3 (u8s (bO s0 s1 s2 s3 i)).length (u8s (bO s0 s1 s2 s3 i))) ∧ Hid (∀ g, c3.ownBlock = some g → w.heap.size + 2 < g)) ∧
  Hid (wr.heap[w.heap.size + 2]? = some (.cells #[(if 0 < i then .int .i64 ((bO s0 s1 s2 s3 0).length : Int) else .int .i64 0), (if 1 < i then .int .i64 ((bO s0 s1 s2 s3 1).length : Int) else .int .i64 0), (if 2 < i then .int .i64 ((bO s0 s1 s2 s3 2).length : Int) else .int .i64 0), (if 3 < i then .int .i64 ((bO s0 s1 s2 s3 3).length : Int) else .int .i64 0), .int .i64 0] 90 (0, 0))) ∧ Hid (Keeps (fun _ => False) w wr)) (fun _ c _ => 4 - (intOf c).toNat)
 case atStart => exact ⟨0, rfl, by omega, fun _ => ⟨rfl, HH0.out⟩, by omega, HA0, HK0⟩
 case round =>
  clear HA0 HK0 HH0
  obtain ⟨i, rfl, hi4, hr0, hr1, HA, HK⟩ := hrel
  have hal : w.heap.size + 3 ≤ wr.heap.size := by have := (Array.getElem?_eq_some_iff.1 HA.out).1; omega
  have HAL := Hj hal
  clear hal
  rcases (by omega : i = 0 ∨ i = 1 ∨ i = 2 ∨ i = 3 ∨ i = 4) with rfl | rfl | rfl | rfl | rfl
  · have hA := HA.out
    simp only [show (0 < 0) = False by simp, show (1 < 0) = False by simp, show (2 < 0) = False by simp, show (3 < 0) = False by simp, if_false] at hA
    have c0 : wr.cell? ⟨w.heap.size + 1 + 1, 0, none⟩ = some (.int .i64 0) := by rw [cell_of_row _ _ _ _ _ _ hA]; rfl
    have f0 : wr.frozen? ⟨w.heap.size + 1 + 1, 0, none⟩ = false := frozen_of_row _ _ _ _ _ hA
    obtain ⟨rfl, hh0⟩ := hr0 rfl
    have hw2 : ∃ w2, w2 = wr.setCell ⟨w.heap.size + 1 + 1, 0, none⟩ (.int .i64 5) := ⟨_, rfl⟩
    obtain ⟨w2, hw2⟩ := hw2
    have hks : Keeps (fun k => k = w.heap.size + 2) wr w2 := by rw [hw2]; exact (Keeps.refl (fun k => k = w.heap.size + 2) wr).setCell (p := ⟨w.heap.size + 1 + 1, 0, none⟩) (fun _ => rfl) _
    have hA2 := heap_setCell_same _ _ 0 _ _ (.int .i64 5) hA
    rw [← hw2] at hA2
    have hh2 := hh0.keeps hks (fun g hg e => by simp only [Value.ownBlock, Option.some.injEq] at hg; omega)
    have HAP := Hj (appsec_full (w.heap.size + 1) (w.heap.size + 1) (.slice d0 n0 p0) headO s0 1 w2 hh2 (by decide) (H0.out.fresh ((HK.out.mono (S' := fun k => w.heap.size ≤ k) (fun _ _ e => e.elim)).trans hks (fun k hk e => by omega))) B0.out (by omega) (by decide) (by have := hks.size; have := HAL.out; omega) ((HTC.out.keeps HK.out (fun e => e)).keeps hks (fun e => by have := HTC.out.pos; omega)) (by have := HTC.out.pos; omega))
    have HA2 := Hj hA2; have HKS := Hj hks; have HW2 := Hj hw2
    clear hA hA2 hks hw2 hh2 hh0 hr0 hr1
    go_wp2_with (first
     | (refine qae _ rfl 75 _ _ rfl _ _ (.slice d0 n0 p0) rfl rfl rfl ?_)
     | (go_at_call 69; rw [← HW2.out]; refine HAP.out.mono ?_; rintro e w3 ⟨v', rfl, h3, hk3, hn3⟩))
    refine ⟨⟨1, rfl, by omega, by omega, fun _ => ⟨Hj (by simpa [bO] using h3), Hj (fun g hg => by have := hn3 g hg; have := HKS.out.size; have := HAL.out; omega)⟩, Hj ?_, Hj ?_⟩, by simp [intOf]⟩
    · exact hk3.heap HA2.out (fun e => e)
    · exact (HK.out.trans HKS.out (fun k hk e => by omega)).trans hk3 (fun _ _ e => e)
  · have hA := HA.out
    simp only [show (0 < 1) = True by simp, show (1 < 1) = False by simp, show (2 < 1) = False by simp, show (3 < 1) = False by simp, if_true, if_false] at hA
    have c0 : wr.cell? ⟨w.heap.size + 1 + 1, 1, none⟩ = some (.int .i64 0) := by rw [cell_of_row _ _ _ _ _ _ hA]; rfl
    have f0 : wr.frozen? ⟨w.heap.size + 1 + 1, 1, none⟩ = false := frozen_of_row _ _ _ _ _ hA
    obtain ⟨HROW, HNE⟩ := hr1 (by omega)
    obtain ⟨ad, cp, rfl⟩ := qac HROW.out
    have HROW := HROW
    obtain ⟨N, hN⟩ : ∃ N, (u8s (bO s0 s1 s2 s3 1)).length = N := ⟨_, rfl⟩
    have hNN : (bO s0 s1 s2 s3 1).length = N := by rw [← hN, qaa]
    rw [hN] at HROW HNE ⊢
    have hNb := qdf s0 s1 s2 s3 1 (by omega) l0 l1 l2 l3
    obtain ⟨w2, hw2⟩ : ∃ w2, w2 = wr.setCell ⟨w.heap.size + 1 + 1, 1, none⟩ (.int .i64 ((N : Nat) : Int)) := ⟨_, rfl⟩
    have hks : Keeps (fun k => k = w.heap.size + 2) wr w2 := by rw [hw2]; exact (Keeps.refl (fun k => k = w.heap.size + 2) wr).setCell (p := ⟨w.heap.size + 1 + 1, 1, none⟩) (fun _ => rfl) _
    have hA2 := heap_setCell_same _ _ 1 _ _ (.int .i64 ((N : Nat) : Int)) hA
    rw [← hw2] at hA2
    have hrow := hks.row HROW.out (fun g hg e => by have := HNE.out g hg; omega)
    rw [← hN] at hrow
    have HAP := Hj (qfi (w.heap.size + 1) _ (.slice d1 n1 p1) (bO s0 s1 s2 s3 1) s1 2 w2 hrow (by omega) (H1.out.fresh ((HK.out.mono (S' := fun k => w.heap.size ≤ k) (fun _ _ e => e.elim)).trans hks (fun k hk e => by omega))) B1.out (by omega) (by decide) (by have := hks.size; have := HAL.out; omega) ((HTC.out.keeps HK.out (fun e => e)).keeps hks (fun e => by have := HTC.out.pos; omega)) (by have := HTC.out.pos; omega))
    rw [hN] at HAP
    have HA2 := Hj hA2; have HKS := Hj hks; have HW2 := Hj hw2; have HNN := Hj hNN
    clear hA hA2 hks hw2 hrow hr0 hr1 hN hNN
    go_wp2_with (first
     | (refine qae _ rfl 75 _ _ rfl _ _ (.slice d1 n1 p1) rfl rfl rfl ?_)
     | (go_at_call 69; rw [← HW2.out]; refine HAP.out.mono ?_; rintro e w3 ⟨v', rfl, hr3⟩))
    refine ⟨⟨2, rfl, by omega, by omega, fun _ => ⟨Hj (by have := hr3.row; simpa [bO] using this), Hj (fun g hg => by rcases hr3.new g hg with h | h; exact HNE.out g h; have := HKS.out.size; have := HAL.out; omega)⟩, Hj ?_, Hj ?_⟩, by simp [intOf]⟩
    · have := hr3.keeps.heap HA2.out (fun e => by have := HNE.out _ e; omega)
      rw [← HNN.out] at this
      exact this
    · exact (HK.out.trans HKS.out (fun k hk e => by omega)).trans hr3.keeps (fun k hk e => by have := HNE.out k e; omega)
  · have hA := HA.out
    simp only [show (0 < 2) = True by simp, show (1 < 2) = True by simp, show (2 < 2) = False by simp, show (3 < 2) = False by simp, if_true, if_false] at hA
    have c0 : wr.cell? ⟨w.heap.size + 1 + 1, 2, none⟩ = some (.int .i64 0) := by rw [cell_of_row _ _ _ _ _ _ hA]; rfl
    have f0 : wr.frozen? ⟨w.heap.size + 1 + 1, 2, none⟩ = false := frozen_of_row _ _ _ _ _ hA
    obtain ⟨HROW, HNE⟩ := hr1 (by omega)
    obtain ⟨ad, cp, rfl⟩ := qac HROW.out
    have HROW := HROW
    obtain ⟨N, hN⟩ : ∃ N, (u8s (bO s0 s1 s2 s3 2)).length = N := ⟨_, rfl⟩
    have hNN : (bO s0 s1 s2 s3 2).length = N := by rw [← hN, qaa]
    rw [hN] at HROW HNE ⊢
    have hNb := qdf s0 s1 s2 s3 2 (by omega) l0 l1 l2 l3
    obtain ⟨w2, hw2⟩ : ∃ w2, w2 = wr.setCell ⟨w.heap.size + 1 + 1, 2, none⟩ (.int .i64 ((N : Nat) : Int)) := ⟨_, rfl⟩
    have hks : Keeps (fun k => k = w.heap.size + 2) wr w2 := by rw [hw2]; exact (Keeps.refl (fun k => k = w.heap.size + 2) wr).setCell (p := ⟨w.heap.size + 1 + 1, 2, none⟩) (fun _ => rfl) _
    have hA2 := heap_setCell_same _ _ 2 _ _ (.int .i64 ((N : Nat) : Int)) hA
    rw [← hw2] at hA2
    have hrow := hks.row HROW.out (fun g hg e => by have := HNE.out g hg; omega)
    rw [← hN] at hrow
    have HAP := Hj (qfi (w.heap.size + 1) _ (.slice d2 n2 p2) (bO s0 s1 s2 s3 2) s2 3 w2 hrow (by omega) (H2.out.fresh ((HK.out.mono (S' := fun k => w.heap.size ≤ k) (fun _ _ e => e.elim)).trans hks (fun k hk e => by omega))) B2.out (by omega) (by decide) (by have := hks.size; have := HAL.out; omega) ((HTC.out.keeps HK.out (fun e => e)).keeps hks (fun e => by have := HTC.out.pos; omega)) (by have := HTC.out.pos; omega))
    rw [hN] at HAP
    have HA2 := Hj hA2; have HKS := Hj hks; have HW2 := Hj hw2; have HNN := Hj hNN
    clear hA hA2 hks hw2 hrow hr0 hr1 hN hNN
    go_wp2_with (first
     | (refine qae _ rfl 75 _ _ rfl _ _ (.slice d2 n2 p2) rfl rfl rfl ?_)
     | (go_at_call 69; rw [← HW2.out]; refine HAP.out.mono ?_; rintro e w3 ⟨v', rfl, hr3⟩))
    refine ⟨⟨3, rfl, by omega, by omega, fun _ => ⟨Hj (by have := hr3.row; simpa [bO] using this), Hj (fun g hg => by rcases hr3.new g hg with h | h; exact HNE.out g h; have := HKS.out.size; have := HAL.out; omega)⟩, Hj ?_, Hj ?_⟩, by simp [intOf]⟩
    · have := hr3.keeps.heap HA2.out (fun e => by have := HNE.out _ e; omega)
      rw [← HNN.out] at this
      exact this
    · exact (HK.out.trans HKS.out (fun k hk e => by omega)).trans hr3.keeps (fun k hk e => by have := HNE.out k e; omega)
  · have hA := HA.out
    simp only [show (0 < 3) = True by simp, show (1 < 3) = True by simp, show (2 < 3) = True by simp, show (3 < 3) = False by simp, if_true, if_false] at hA
    have c0 : wr.cell? ⟨w.heap.size + 1 + 1, 3, none⟩ = some (.int .i64 0) := by rw [cell_of_row _ _ _ _ _ _ hA]; rfl
    have f0 : wr.frozen? ⟨w.heap.size + 1 + 1, 3, none⟩ = false := frozen_of_row _ _ _ _ _ hA
    obtain ⟨HROW, HNE⟩ := hr1 (by omega)
    obtain ⟨ad, cp, rfl⟩ := qac HROW.out
    have HROW := HROW
    obtain ⟨N, hN⟩ : ∃ N, (u8s (bO s0 s1 s2 s3 3)).length = N := ⟨_, rfl⟩
    have hNN : (bO s0 s1 s2 s3 3).length = N := by rw [← hN, qaa]
    rw [hN] at HROW HNE ⊢
    have hNb := qdf s0 s1 s2 s3 3 (by omega) l0 l1 l2 l3
    obtain ⟨w2, hw2⟩ : ∃ w2, w2 = wr.setCell ⟨w.heap.size + 1 + 1, 3, none⟩ (.int .i64 ((N : Nat) : Int)) := ⟨_, rfl⟩
    have hks : Keeps (fun k => k = w.heap.size + 2) wr w2 := by rw [hw2]; exact (Keeps.refl (fun k => k = w.heap.size + 2) wr).setCell (p := ⟨w.heap.size + 1 + 1, 3, none⟩) (fun _ => rfl) _
    have hA2 := heap_setCell_same _ _ 3 _ _ (.int .i64 ((N : Nat) : Int)) hA
    rw [← hw2] at hA2
    have hrow := hks.row HROW.out (fun g hg e => by have := HNE.out g hg; omega)
    rw [← hN] at hrow
    have HAP := Hj (qfi (w.heap.size + 1) _ (.slice d3 n3 p3) (bO s0 s1 s2 s3 3) s3 4 w2 hrow (by omega) (H3.out.fresh ((HK.out.mono (S' := fun k => w.heap.size ≤ k) (fun _ _ e => e.elim)).trans hks (fun k hk e => by omega))) B3.out (by omega) (by decide) (by have := hks.size; have := HAL.out; omega) ((HTC.out.keeps HK.out (fun e => e)).keeps hks (fun e => by have := HTC.out.pos; omega)) (by have := HTC.out.pos; omega))
    rw [hN] at HAP
    have HA2 := Hj hA2; have HKS := Hj hks; have HW2 := Hj hw2; have HNN := Hj hNN
    clear hA hA2 hks hw2 hrow hr0 hr1 hN hNN
    go_wp2_with (first
     | (refine qae _ rfl 75 _ _ rfl _ _ (.slice d3 n3 p3) rfl rfl rfl ?_)
     | (go_at_call 69; rw [← HW2.out]; refine HAP.out.mono ?_; rintro e w3 ⟨v', rfl, hr3⟩))
    refine ⟨⟨4, rfl, by omega, by omega, fun _ => ⟨Hj (by have := hr3.row; simpa [bO] using this), Hj (fun g hg => by rcases hr3.new g hg with h | h; exact HNE.out g h; have := HKS.out.size; have := HAL.out; omega)⟩, Hj ?_, Hj ?_⟩, by simp [intOf]⟩
    · have := hr3.keeps.heap HA2.out (fun e => by have := HNE.out _ e; omega)
      rw [← HNN.out] at this
      exact this
    · exact (HK.out.trans HKS.out (fun k hk e => by omega)).trans hr3.keeps (fun k hk e => by have := HNE.out k e; omega)
  · have hA := HA.out
    simp only [show (0 < 4) = True by simp, show (1 < 4) = True by simp, show (2 < 4) = True by simp, show (3 < 4) = True by simp, if_true] at hA
    obtain ⟨HROW, HNE⟩ := hr1 (by omega)
    have hNb := qdf s0 s1 s2 s3 4 (by omega) l0 l1 l2 l3
    have h63 : ∀ k, k ≤ 3 → (bO s0 s1 s2 s3 k).length ≤ 10000000000 := fun k hk => Nat.le_trans (qdf s0 s1 s2 s3 k (by omega) l0 l1 l2 l3) (by omega)
    have HCO := Hj (cont_any (bO s0 s1 s2 s3 0).length (bO s0 s1 s2 s3 1).length (bO s0 s1 s2 s3 2).length (bO s0 s1 s2 s3 3).length 0 wr (h63 0 (by omega)) (h63 1 (by omega)) (h63 2 (by omega)) (h63 3 (by omega)))
    have hcl : (contO (atO s0 s1 s2 s3)).length ≤ 40 := qcv _
    have hclt : ∀ c ∈ contO (atO s0 s1 s2 s3), c < 256 := by
     intro c hc
     obtain ⟨x, hx, hc⟩ := List.mem_flatMap.1 hc
     have hx1 : x ≤ 18446744073709551615 := by
      simp only [atO, List.mem_cons, List.not_mem_nil, or_false] at hx
      rcases hx with rfl | rfl | rfl | rfl
      · have := h63 0 (by omega); omega
      · have := h63 1 (by omega); omega
      · have := h63 2 (by omega); omega
      · have := h63 3 (by omega); omega
     exact qcp _ hx1 _ hc
    have hblt : ∀ c ∈ bodyO s0 s1 s2 s3, c < 256 := fun c hc => (List.mem_append.1 hc).elim (bO_lt s0 s1 s2 s3 4 l0 l1 l2 l3 B0.out B1.out B2.out B3.out c) (qgz 5 _ (by decide) hclt (by omega) c)
    have hbl : (bodyO s0 s1 s2 s3).length ≤ 400000200 := by
     unfold bodyO; rw [List.length_append]; have := qbt 5 (contO (atO s0 s1 s2 s3)); omega
    have hkk := HK.out
    have hrr := HROW.out
    have HAP : Hid (∀ (wq : World) (vq : Value), Keeps (fun _ => False) wr wq → wq.ownsRow wr.heap.size 5 1 vq (contO (atO s0 s1 s2 s3)).length (u8s (contO (atO s0 s1 s2 s3))) → Calls Tryz.prog 69 #[u3, .agg #[.int .u8 5, vq]] wq fun e w' => ∃ v', e = .returned v' ∧ RowTo 5 (w.heap.size + 1) u3 wq v' (u8s (bodyO s0 s1 s2 s3)) w') := Hj (fun wq vq hkq hrq =>
     qfi (w.heap.size + 1) u3 vq (bO s0 s1 s2 s3 4) (contO (atO s0 s1 s2 s3)) 5 wq (hkq.row hrr (fun _ _ e => e)) (by omega) (qaq (show wq.ownsRow wr.heap.size 5 1 vq (u8s (contO (atO s0 s1 s2 s3))).length (u8s (contO (atO s0 s1 s2 s3))) by rw [qaa]; exact hrq)) hclt (by omega) (by decide) (by have := hkq.size; have := HAL.out; omega) ((HTC.out.keeps hkk (fun e => e)).keeps hkq (fun e => e)) (by have := HTC.out.pos; omega))
    have HCR : Hid (∀ (wq : World) (vq : Value), Keeps (fun k => w.heap.size ≤ k) w wq → Holds wq vq (u8s (bodyO s0 s1 s2 s3)) → Calls Tryz.prog 71 #[vq] wq fun e w' => ∃ v', e = .returned v' ∧ w'.ownsRow wq.heap.size 5 1 v' (crcApp (bodyO s0 s1 s2 s3)).length (u8s (crcApp (bodyO s0 s1 s2 s3))) ∧ Keeps (fun _ => False) wq w') := Hj (fun wq vq hkq hhq =>
     crca_any vq (bodyO s0 s1 s2 s3) wq hhq hblt (by omega) (HTC.out.keeps hkq (fun e => by have := HTC.out.pos; omega)))
    have HBL := Hj (show (crcApp (bodyO s0 s1 s2 s3)).length ≤ 400000204 by rw [qau]; omega)
    have HHA := Hj hA
    clear hr0 hr1 hclt hblt hcl hbl hkk hrr hA h63 hNb
    go_wp2_with (first
     | (refine wpList_load_row rfl 90 _ rfl _ rfl _ _ _ _ HHA.out Tryz.underlying90 rfl (by kernel_rfl) ?_)
     | (go_at_call 70; refine HCO.out.mono ?_; rintro e w2 ⟨v2, rfl, h2, hk2⟩; have H2r := Hj h2; have HK2 := Hj hk2; obtain ⟨ad2, cp2, rfl⟩ := qac h2; clear h2 hk2)
     | (go_at_call 69; refine (HAP.out _ _ HK2.out H2r.out).mono ?_; rintro e w3 ⟨v3, rfl, hr3⟩; have HR3 := Hj hr3; clear hr3)
     | (go_at_call 71
        have hk3 : Keeps (fun k => w.heap.size ≤ k) w w3 := ((HK.out.trans HK2.out (fun _ _ e => e)).mono (S' := fun k => w.heap.size ≤ k) (fun _ _ e => e.elim)).trans HR3.out.keeps (fun k hk e => (Nat.le_trans (Nat.le_succ _) (HROW.out.lt k e).1))
        have HK3 := Hj hk3
        refine (HCR.out _ _ hk3 (qaq HR3.out.row)).mono ?_; rintro e w4 ⟨v4, rfl, h4, hk4⟩; have H4 := Hj h4; have HK4 := Hj hk4; clear h4 hk4 hk3)
     | (at_builtin; have hz4 : ({ data := #[75, 66, 83, 84] } : ByteArray).size = 4 := rfl; refine Lib.wpList_append_own_string _ rfl _ _ 29 9 rfl w3.heap.size 5 i0 Tryz.underlying29 Tryz.underlying9 hi hz0 hz1 hz2 _ _ (u8s (crcApp (bodyO s0 s1 s2 s3))) rfl H4.out _ rfl (by have := HBL.out; unfold maxLen; omega) (by have := HBL.out; omega) HK4.out.size ?_; intro v5 w5 h5 hg5 hn5))
    go_ret
    have hcr : Keeps (fun k => w.heap.size ≤ k) w w3 := ((HK.out.trans HK2.out (fun _ _ e => e)).mono (S' := fun k => w.heap.size ≤ k) (fun _ _ e => e.elim)).trans HR3.out.keeps (fun k hk e => (Nat.le_trans (Nat.le_succ _) (HROW.out.lt k e).1))
    have h34 : Keeps (fun k => w3.heap.size ≤ k) w3 w4 := HK4.out.mono (fun _ _ e => e.elim)
    have h45 : Keeps (fun k => w3.heap.size ≤ k) w3 w5 := h34.grown hg5 (fun k _ e => (H4.out.lt k e).1)
    have hall : Keeps (fun _ => False) w w5 := (hcr.trans h45 (fun k hk e => by have := hcr.size; omega)).mono (fun k hk e => absurd hk (by omega))
    refine ⟨v5, rfl, ?_, hall⟩
    have e1 : u8s (fileO s0 s1 s2 s3) = u8s (crcApp (bodyO s0 s1 s2 s3)) ++ Lib.strCells ⟨#[75, 66, 83, 84]⟩ := by
     unfold fileO u8s; rw [List.map_append]; rfl
    rw [e1, show (fileO s0 s1 s2 s3).length = (crcApp (bodyO s0 s1 s2 s3)).length + 4 by unfold fileO; rw [List.length_append]; rfl]
    exact qao h5 (fun g hg => by have := (h5.lt g hg).1; have := hcr.size; omega)
end
section
set_option maxHeartbeats 4000000
set_option maxRecDepth 100000
open Go.RowKit
theorem qbz {P : Program} (w : World) {ops : Array Oper} {rest : List Oper} {o : Oper} {a : Act} {Q : Exit → Act → World → Prop} (hgd : o.guard = none) (t : TypeId) (x : Operand) (n : Nat) (ho : o.op = .field t x n)
 (u v : Value) (hx : a.eval x = u) (hrun : (Instr.field t u n).run P w = .ok v w) (h : wpList P ops Q rest (a.put o.dst v) w) : wpList P ops Q (o :: rest) a w :=
 wpList_plain hgd fun K hK => by
  unfold Oper.wp
  simp [execOp, ho, hx, hrun, Result.andThen]
  exact hK _ _ h
structure RowsAt (w0 w : World) (gt gv : Nat) (l : List Smp) (j : Nat) : Prop where
 keep : Keeps (fun _ => False) w0 w
 gt0 : w0.heap.size ≤ gt
 gv0 : w0.heap.size ≤ gv
 ne : gt ≠ gv
 ct : ∀ i, i < l.length → w.cell? ⟨gt, i, none⟩ = some (.int .i64 (if i < j then (l.getD i (0, 0)).1 else 0)) ∧ w.frozen? ⟨gt, i, none⟩ = false
 cv : ∀ i, i < l.length → w.cell? ⟨gv, i, none⟩ = some (.int .u64 (if i < j then (l.getD i (0, 0)).2 else 0)) ∧ w.frozen? ⟨gv, i, none⟩ = false
theorem qgj (w : World) (z : Value) (n : Nat) (t : TypeId) (i : Nat) (h : i < n) : (w.alloc (.cells (madeCells #[z] n) t)).cell? ⟨w.heap.size, i, none⟩ = some z ∧ (w.alloc (.cells (madeCells #[z] n) t)).frozen? ⟨w.heap.size, i, none⟩ = false := by
 refine ⟨?_, frozen_of_row _ _ _ _ _ (heap_alloc_new w _)⟩
 rw [cell_of_row _ _ _ _ _ _ (heap_alloc_new w _)]
 simp [madeCells, h, Nat.mod_one]
theorem qck {w : World} {a : Addr} {u : Value} (o : Obj) (h : w.cell? a = some u) : (w.alloc o).cell? a = some u := ((Keeps.refl (fun _ => False) w).alloc o).cell h (fun e => e)
theorem qca (w : World) (o : Obj) (a : Addr) (h : a.block < w.heap.size) : (w.alloc o).frozen? a = w.frozen? a := by
 simp only [World.frozen?, Below.heap_alloc w o a.block h]
theorem makeT (n : Nat) (hn : n ≤ 1000000) (w : World) : (Instr.makeSlice 54 (.int .i64 (n : Int)) (.int .i64 (n : Int))).run Tryz.prog w = .ok (.slice (some ⟨w.heap.size, 0, none⟩) n n) (w.alloc (.cells (madeCells #[.int .i64 0] n) 2)) := by
 obtain ⟨i0, hi, hz0, hz1, hz2⟩ := info_parts infoI64
 have := run_makeSlice (P := Tryz.prog) (w := w) 54 2 i0 (.int .i64 0) Tryz.underlying54 hi hz0 .i64 .i64 n n (by omega) (by omega) (by rw [hz1]; simp; omega) (by rw [hz2]; omega) (by omega)
 simpa [hz1, Value.cells] using this
theorem makeV (n : Nat) (hn : n ≤ 1000000) (w : World) : (Instr.makeSlice 55 (.int .i64 (n : Int)) (.int .i64 (n : Int))).run Tryz.prog w = .ok (.slice (some ⟨w.heap.size, 0, none⟩) n n) (w.alloc (.cells (madeCells #[.int .u64 0] n) 23)) := by
 obtain ⟨i0, hi, hz0, hz1, hz2⟩ := info_parts infoU64
 have := run_makeSlice (P := Tryz.prog) (w := w) 55 23 i0 (.int .u64 0) Tryz.underlying55 hi hz0 .i64 .i64 n n (by omega) (by omega) (by rw [hz1]; simp; omega) (by rw [hz2]; omega) (by omega)
 simpa [hz1, Value.cells] using this
theorem RowsAt.startTV (w0 w : World) (l : List Smp) (hk : Keeps (fun _ => False) w0 w) :
 RowsAt w0 ((w.alloc (.cells (madeCells #[.int .i64 0] l.length) 2)).alloc (.cells (madeCells #[.int .u64 0] l.length) 23)) w.heap.size (w.heap.size + 1) l 0 := by
 refine ⟨(hk.alloc _).alloc _, hk.size, by have := hk.size; omega, by omega, fun i hi => ?_, fun i hi => ?_⟩
 · obtain ⟨h1, h2⟩ := qgj w (.int .i64 0) l.length 2 i hi
   exact ⟨qck _ (by simpa using h1), by rw [qca _ _ _ (by simp)]; exact h2⟩
 · obtain ⟨h1, h2⟩ := qgj (w.alloc (.cells (madeCells #[.int .i64 0] l.length) 2)) (.int .u64 0) l.length 23 i hi
   rw [show (w.alloc (.cells (madeCells #[.int .i64 0] l.length) 2)).heap.size = w.heap.size + 1 by simp] at h1 h2
   exact ⟨by simpa using h1, h2⟩
theorem RowsAt.startVT (w0 w : World) (l : List Smp) (hk : Keeps (fun _ => False) w0 w) :
 RowsAt w0 ((w.alloc (.cells (madeCells #[.int .u64 0] l.length) 23)).alloc (.cells (madeCells #[.int .i64 0] l.length) 2)) (w.heap.size + 1) w.heap.size l 0 := by
 refine ⟨(hk.alloc _).alloc _, by have := hk.size; omega, hk.size, by omega, fun i hi => ?_, fun i hi => ?_⟩
 · obtain ⟨h1, h2⟩ := qgj (w.alloc (.cells (madeCells #[.int .u64 0] l.length) 23)) (.int .i64 0) l.length 2 i hi
   rw [show (w.alloc (.cells (madeCells #[.int .u64 0] l.length) 23)).heap.size = w.heap.size + 1 by simp] at h1 h2
   exact ⟨by simpa using h1, h2⟩
 · obtain ⟨h1, h2⟩ := qgj w (.int .u64 0) l.length 23 i hi
   exact ⟨qck _ (by simpa using h1), by rw [qca _ _ _ (by simp)]; exact h2⟩
theorem RowsAt.drewN {w0 w : World} {gt gv : Nat} {l : List Smp} {j : Nat} (h : RowsAt w0 w gt gv l j) (n : Nat) : RowsAt w0 (w.drewN n) gt gv l j := ⟨h.keep.drewN n, h.gt0, h.gv0, h.ne, h.ct, h.cv⟩
theorem RowsAt.alloc {w0 w : World} {gt gv : Nat} {l : List Smp} {j : Nat} (h : RowsAt w0 w gt gv l j) (hp : 0 < l.length) (o : Obj) : RowsAt w0 (w.alloc o) gt gv l j := by
 have b1 : gt < w.heap.size := World.block_lt_of_cell? w _ (h.ct 0 hp).1
 have b2 : gv < w.heap.size := World.block_lt_of_cell? w _ (h.cv 0 hp).1
 exact ⟨h.keep.alloc _, h.gt0, h.gv0, h.ne, fun i hi => ⟨qck _ (h.ct i hi).1, by rw [qca _ _ _ b1]; exact (h.ct i hi).2⟩, fun i hi => ⟨qck _ (h.cv i hi).1, by rw [qca _ _ _ b2]; exact (h.cv i hi).2⟩⟩
theorem qek (w : World) (p q : Addr) (v : Value) (h : p ≠ q) : (w.setCell p v).cell? q = w.cell? q := World.cell?_setCell_other _ _ _ _ h
theorem getD_at {l : List Smp} {j : Nat} {x : Smp} (h : l[j]? = some x) : l.getD j (0, 0) = x := by simp [List.getD, h]
theorem RowsAt.step {w0 w w2 : World} {gt gv : Nat} {l : List Smp} {j : Nat} {x : Smp} (h : RowsAt w0 w gt gv l j) (hx : l[j]? = some x)
 (h2 : w2 = (w.setCell ⟨gt, j, none⟩ (.int .i64 x.1)).setCell ⟨gv, j, none⟩ (.int .u64 x.2) ∨ w2 = (w.setCell ⟨gv, j, none⟩ (.int .u64 x.2)).setCell ⟨gt, j, none⟩ (.int .i64 x.1)) : RowsAt w0 w2 gt gv l (j + 1) := by
 have hj : j < l.length := (List.getElem?_eq_some_iff.1 hx).1
 have hne := h.ne
 have hk : Keeps (fun _ => False) w0 w2 := by
  rcases h2 with rfl | rfl
  · exact (h.keep.setCell (p := ⟨gt, j, none⟩) (fun e => absurd (show gt < w0.heap.size from e) (by have := h.gt0; omega)) _).setCell (p := ⟨gv, j, none⟩) (fun e => absurd (show gv < w0.heap.size from e) (by have := h.gv0; omega)) _
  · exact (h.keep.setCell (p := ⟨gv, j, none⟩) (fun e => absurd (show gv < w0.heap.size from e) (by have := h.gv0; omega)) _).setCell (p := ⟨gt, j, none⟩) (fun e => absurd (show gt < w0.heap.size from e) (by have := h.gt0; omega)) _
 have hfr : ∀ a, w2.frozen? a = w.frozen? a := fun a => by rcases h2 with rfl | rfl <;> rw [qbg, qbg]
 refine ⟨hk, h.gt0, h.gv0, h.ne, fun i hi => ⟨?_, by rw [hfr]; exact (h.ct i hi).2⟩, fun i hi => ⟨?_, by rw [hfr]; exact (h.cv i hi).2⟩⟩
 · by_cases e : i = j
   · subst e
     rw [if_pos (by omega), getD_at hx]
     rcases h2 with rfl | rfl
     · rw [qal _ _ _ _ (by simpa using hne)]
       exact World.cell?_setCell_same _ _ _ (h.ct i hj).1
     · exact World.cell?_setCell_same _ _ _ (by rw [qal _ _ _ _ (by simpa using hne)]; exact (h.ct i hj).1)
   · have hs : w2.cell? ⟨gt, i, none⟩ = w.cell? ⟨gt, i, none⟩ := by
      rcases h2 with rfl | rfl
      · rw [qal _ _ _ _ (by simpa using hne), qek _ _ _ _ (fun h => e (by injection h with _ h2; exact h2.symm))]
      · rw [qek _ _ _ _ (fun h => e (by injection h with _ h2; exact h2.symm)), qal _ _ _ _ (by simpa using hne)]
     rw [hs, (h.ct i hi).1]
     by_cases e2 : i < j
     · rw [if_pos e2, if_pos (by omega)]
     · rw [if_neg e2, if_neg (by omega)]
 · by_cases e : i = j
   · subst e
     rw [if_pos (by omega), getD_at hx]
     rcases h2 with rfl | rfl
     · exact World.cell?_setCell_same _ _ _ (by rw [qal _ _ _ _ (by simpa using Ne.symm hne)]; exact (h.cv i hj).1)
     · rw [qal _ _ _ _ (by simpa using Ne.symm hne)]
       exact World.cell?_setCell_same _ _ _ (h.cv i hj).1
   · have hs : w2.cell? ⟨gv, i, none⟩ = w.cell? ⟨gv, i, none⟩ := by
      rcases h2 with rfl | rfl
      · rw [qek _ _ _ _ (fun h => e (by injection h with _ h2; exact h2.symm)), qal _ _ _ _ (by simpa using Ne.symm hne)]
      · rw [qal _ _ _ _ (by simpa using Ne.symm hne), qek _ _ _ _ (fun h => e (by injection h with _ h2; exact h2.symm))]
     rw [hs, (h.cv i hi).1]
     by_cases e2 : i < j
     · rw [if_pos e2, if_pos (by omega)]
     · rw [if_neg e2, if_neg (by omega)]
theorem RowsAt.whole {w0 w : World} {gt gv : Nat} {l : List Smp} (h : RowsAt w0 w gt gv l l.length) (hf : FitS l) :
 Holds w (.slice (some ⟨gt, 0, none⟩) l.length l.length) (i64s (timesS l)) ∧ Holds w (.slice (some ⟨gv, 0, none⟩) l.length l.length) (u64s (valsS l)) := by
 constructor
 · refine ⟨some ⟨gt, 0, none⟩, l.length, by simp [i64s, timesS], by simp [i64s, timesS], .inr ⟨gt, 0, rfl, fun i u hi => ?_⟩⟩
   simp only [i64s, timesS, List.getElem?_map, Option.map_eq_some_iff] at hi
   obtain ⟨a, ⟨x, hx, rfl⟩, rfl⟩ := hi
   have hl := (List.getElem?_eq_some_iff.1 hx).1
   rw [Nat.zero_add, (h.ct i hl).1, if_pos hl, getD_at hx]
 · refine ⟨some ⟨gv, 0, none⟩, l.length, by simp [u64s, valsS], by simp [u64s, valsS], .inr ⟨gv, 0, rfl, fun i u hi => ?_⟩⟩
   simp only [u64s, valsS, List.getElem?_map, Option.map_eq_some_iff] at hi
   obtain ⟨a, ⟨x, hx, rfl⟩, rfl⟩ := hi
   have hl := (List.getElem?_eq_some_iff.1 hx).1
   have hx2 := (hf x (List.mem_of_getElem? hx)).2.1
   rw [Nat.zero_add, (h.cv i hl).1, if_pos hl, getD_at hx]
   congr 2
   omega
theorem cencode_any (v : Value) (l : List Smp) (w : World) (h : RdS w v l) (h1 : 1 ≤ l.length) (h2 : l.length ≤ 120) (hf : FitS l) (hT : TabZ w) (hF : TabF w) :
 Calls Tryz.prog 7 #[v] w fun e w' => ∃ v', e = .returned (.tuple #[v', .int .i64 0]) ∧ w'.ownsRow w.heap.size 5 1 v' (chunkC l).length (u8s (chunkC l)) ∧ Keeps (fun _ => False) w w' := by
 obtain ⟨ad, cp, rfl, _⟩ := Rd.slice h
 have HH := Hj h; have HFI := Hj hf; have HTZ := Hj hT; have HTF := Hj hF
 have hmt := makeT l.length (by omega)
 have hmv := makeV l.length (by omega)
 have hz1 : ¬ (l.length : Int) = 0 := by omega
 have hz2 : ¬ (120 : Int) < (l.length : Int) := by omega
 have hzb : ((l.length : Int) == 0) = false := beq_eq_false_iff_ne.2 (by omega)
 clear h hf hT hF
 go_enter Tryz.func7, Tryz.ntmps7
 go_upto_region 6 with fail
 go_cut [5, 6] (fun s5 s6 wx => ∃ gt gv, s5 = .slice (some ⟨gt, 0, none⟩) l.length l.length ∧ s6 = .slice (some ⟨gv, 0, none⟩) l.length l.length ∧ RowsAt w wx gt gv l 0)
 case first =>
  go_region
  all_goals go_wp2_with fail
  all_goals go_meet
  all_goals first
   | exact ⟨_, _, rfl, rfl, (RowsAt.startTV w w l (Keeps.refl _ _)).drewN 1⟩
   | exact ⟨_, _, rfl, rfl, (RowsAt.startVT w w l (Keeps.refl _ _)).drewN 1⟩
 case rest =>
  clear hmt hmv
  obtain ⟨gt, gv, rfl, rfl, hrows⟩ := hcut
  have HRW := Hj hrows
  clear hrows
  go_wp2
  go_loopw [27] (fun c wr => ∃ j : Nat, c = .int .i64 (j : Int) ∧ j ≤ l.length ∧ Hid (RowsAt w wr gt gv l j)) (fun c _ => l.length - (intOf c).toNat)
  case atStart => exact ⟨0, rfl, Nat.zero_le _, HRW⟩
  case round =>
   clear HRW
   obtain ⟨j, rfl, hjl, HRW⟩ := hrel
   by_cases hlt : j < l.length
   · have hlti : (j : Int) < (l.length : Int) := by omega
     obtain ⟨x, hx⟩ : ∃ x, l[j]? = some x := ⟨l[j], by simp⟩
     obtain ⟨b, off, rfl, hc1, hc2⟩ := RdS.at (Rd.keeps HH.out HRW.out.keep (fun _ _ e => e)) hx
     have HXX := Hj hx
     clear hx
     go_upto_region 10 with fail
     obtain ⟨w9, hw9⟩ : ∃ w9, w9 = wr.alloc (.cells #[.int .i64 x.1, .int .u64 x.2] 28) := ⟨_, rfl⟩
     rw [← hw9]
     have hr9 : RowsAt w w9 gt gv l j := by rw [hw9]; exact HRW.out.alloc (by omega) _
     have x0 : w9.cell? ⟨wr.heap.size, 0, none⟩ = some (.int .i64 x.1) := by rw [hw9, cell_of_row _ _ _ _ _ _ (heap_alloc_new wr _)]; rfl
     have x1 : w9.cell? ⟨wr.heap.size, 1, none⟩ = some (.int .u64 x.2) := by rw [hw9, cell_of_row _ _ _ _ _ _ (heap_alloc_new wr _)]; rfl
     obtain ⟨c0, f0⟩ := hr9.ct j hlt
     obtain ⟨c1, f1⟩ := hr9.cv j hlt
     have d0 : (w9.setCell ⟨gv, j, none⟩ (.int .u64 x.2)).cell? ⟨gt, j, none⟩ = some (.int .i64 (if j < j then (l.getD j (0, 0)).1 else 0)) := by rw [qal _ _ _ _ (by simpa using hr9.ne)]; exact c0
     have d1 : (w9.setCell ⟨gt, j, none⟩ (.int .i64 x.1)).cell? ⟨gv, j, none⟩ = some (.int .u64 (if j < j then (l.getD j (0, 0)).2 else 0)) := by rw [qal _ _ _ _ (by simpa using Ne.symm hr9.ne)]; exact c1
     simp only [Nat.lt_irrefl, if_false] at c0 c1 d0 d1
     have hgt : gt ≠ wr.heap.size := by have h3 := World.block_lt_of_cell? _ _ (HRW.out.ct j hlt).1; exact Nat.ne_of_lt h3
     have hgv : gv ≠ wr.heap.size := by have h3 := World.block_lt_of_cell? _ _ (HRW.out.cv j hlt).1; exact Nat.ne_of_lt h3
     have y0 : (w9.setCell ⟨gv, j, none⟩ (.int .u64 x.2)).cell? ⟨wr.heap.size, 0, none⟩ = some (.int .i64 x.1) := by rw [qal _ _ _ _ (by simpa using Ne.symm hgv)]; exact x0
     have y1 : (w9.setCell ⟨gt, j, none⟩ (.int .i64 x.1)).cell? ⟨wr.heap.size, 1, none⟩ = some (.int .u64 x.2) := by rw [qal _ _ _ _ (by simpa using Ne.symm hgt)]; exact x1
     have e0 : (w9.setCell ⟨gv, j, none⟩ (.int .u64 x.2)).frozen? ⟨gt, j, none⟩ = false := by rw [qbg]; exact f0
     have e1 : (w9.setCell ⟨gt, j, none⟩ (.int .i64 x.1)).frozen? ⟨gv, j, none⟩ = false := by rw [qbg]; exact f1
     clear hgt hgv
     have HR9 := Hj hr9
     clear hw9 hr9 HRW hc1 hc2
     go_region
     all_goals go_wp2
     all_goals refine ⟨⟨j + 1, by simp, by omega, Hj ?_⟩, by simp [intOf]; omega⟩
     all_goals first
      | exact ((HR9.out.drewN _).step HXX.out (.inl rfl))
      | exact ((HR9.out.drewN _).step HXX.out (.inr rfl))
      | exact (HR9.out.step HXX.out (.inl rfl)).drewN _
      | exact (HR9.out.step HXX.out (.inr rfl)).drewN _
   · obtain rfl : j = l.length := by omega
     obtain ⟨hht, hhv⟩ := HRW.out.whole HFI.out
     have hk0 := HRW.out.keep
     have HHT := Hj hht; have HHV := Hj hhv; have HK0 := Hj hk0
     have hgt := HRW.out.gt0; have hgv := HRW.out.gv0
     have hgt1 : gt < wr.heap.size := World.block_lt_of_cell? _ _ (HRW.out.ct 0 (by omega)).1
     have hgv1 : gv < wr.heap.size := World.block_lt_of_cell? _ _ (HRW.out.cv 0 (by omega)).1
     have HGT := Hj hgt1; have HGV := Hj hgv1; have HG0 := Hj hgt; have HG1 := Hj hgv
     obtain ⟨vs, hvs⟩ : ∃ vs, vs = valsS l := ⟨_, rfl⟩
     obtain ⟨ts, hts⟩ : ∃ ts, ts = timesS l := ⟨_, rfl⟩
     have hvl : vs.length = l.length := by rw [hvs, qey]
     have htl : ts.length = l.length := by rw [hts, qej]
     have hvX : ∀ x ∈ vs, x ≤ 18446744073709551615 := by rw [hvs]; exact HFI.out.vals
     have htX : ∀ x ∈ ts, inI x := by rw [hts]; exact HFI.out.times
     rw [← hvs] at HHV
     rw [← hts] at HHT
     have HBC : Hid (bitsC l = qab (tagO vs) 8 ++ qab (l.length - 1) 8 ++ enc5 ts ++ encV (tagO vs) vs) := Hj (by unfold bitsC; rw [← hvs, ← hts])
     have HVX := Hj hvX; have HTX := Hj htX; have HVL := Hj hvl; have HTL := Hj htl
     have HCH := Hj (qkt _ vs wr (by omega) HHV.out hvX (HTZ.out.keeps hk0 (fun e => e)))
     have htg := qha vs
     have HDK : Hid (tagO vs = 3 → (dictO vs).length ≤ 128) := Hj (fun e => qhb (qjf e))
     obtain ⟨tag, htag⟩ : ∃ tag, tag = tagO vs := ⟨_, rfl⟩
     rw [← htag] at HCH htg HDK HBC
     have htb : (tag : Int) ≤ 3 := by omega
     obtain ⟨q, hq⟩ : ∃ q, l.length = q + 1 := ⟨l.length - 1, by omega⟩
     have eq1 : (l.length : Int) - 1 = (q : Int) := by omega
     have HQ := Hj hq
     have hqb : (q : Int) ≤ 119 := by omega
     have HBC2 : Hid (bitsC l = qab tag 8 ++ qab q 8 ++ enc5 ts ++ encV tag vs) := Hj (by rw [HBC.out, show l.length - 1 = q by omega])
     have HEL : Hid ((encV tag vs).length ≤ 78 * vs.length + 8200) := Hj (qfw tag vs HDK.out htg)
     have HTG := Hj htg
     clear hvs hts hvl htl hvX htX hht hhv hk0 htag hgt hgv hgt1 hgv1 hq HRW HBC
     go_wp2_with fail
     refine HCH.out.mono ?_
     rintro e w2 ⟨rfl, hk2⟩
     have HK2 := Hj (HK0.out.trans hk2 (fun _ _ e => e)); have HKr := Hj hk2
     clear hk2 HCH
     go_wp2_with fail
     refine (newWriter_any _).mono ?_
     rintro e w3 ⟨rfl, rfl⟩
     have hw3 := newWriter_is w2 w.heap.size HK2.out.size
     obtain ⟨w3, hw3e⟩ : ∃ w3, w3 = w2.alloc (.cells #[.slice none 0 0, .int .i64 0] 104) := ⟨_, rfl⟩
     rw [← hw3e] at hw3 ⊢
     have hk3 : Keeps (fun _ => False) w w3 := by rw [hw3e]; exact HK2.out.alloc _
     have hk3r : Keeps (fun _ => False) wr w3 := by rw [hw3e]; exact HKr.out.alloc _
     obtain ⟨P, hP⟩ : ∃ P, P = w2.heap.size := ⟨_, rfl⟩
     have hPs : w3.heap.size = P + 1 := by rw [hw3e, hP]; simp
     have hrP : wr.heap.size ≤ P := by rw [hP]; exact HKr.out.size
     rw [← hP] at hw3 ⊢
     have HK3 := Hj hk3; have HK3R := Hj hk3r; have HW3 := Hj hw3; have HPS := Hj hPs; have HRP := Hj hrP
     clear hw3e hP hk3 hk3r hw3 hPs hrP HKr HK2
     have HFOOT : Hid (∀ (L : List Bool) (wq : World) (v' : Value), (∀ g, v'.ownBlock = some g → (Value.slice none 0 0).ownBlock = some g ∨ w3.heap.size ≤ g) → ∀ k, k < wr.heap.size → ¬ foot P v' k) := Hj (fun L wq v' hv k hk e => by
      rcases e with e | e
      · have := HRP.out; omega
      · rcases hv k e with h | h
        · cases h
        · have := HPS.out; have := HRP.out; omega)
     have HW0 : Hid (Wrote w.heap.size P (.slice none 0 0) [] w3 w3) := Hj (Wrote.refl HW3.out)
     have HSTEP : Hid (∀ (L : List Bool) (x n : Nat) (wq : World), Wrote w.heap.size P (.slice none 0 0) L w3 wq → x ≤ 18446744073709551615 → n ≤ 64 → L.length ≤ 1099511627776 →
      Calls Tryz.prog 22 #[.pointer (some ⟨P, 0, none⟩), .int .u64 (x : Int), .int .i64 (n : Int)] wq fun e w' => e = .returned (.int .i64 0) ∧ Wrote w.heap.size P (.slice none 0 0) (L ++ qab x n) w3 w') := Hj (fun L x n wq hwr hx hn hL => by
      obtain ⟨v', h1, h2, h3⟩ := hwr
      refine (qbp w.heap.size P v' L x n wq h1 hx hn hL (Nat.le_trans HK3.out.size h2.size)).mono ?_
      rintro e w' ⟨rfl, h4⟩
      exact ⟨rfl, Wrote.trans h2 h3 h4⟩)
     go_wp2_with fail
     refine (HSTEP.out _ tag 8 _ HW0.out (by omega) (by decide) (by decide)).mono ?_
     rintro e w4 ⟨rfl, hw4⟩
     have HW4 := Hj hw4; clear hw4 HW0
     go_wp2_with fail
     refine (HSTEP.out _ q 8 _ HW4.out (by omega) (by decide) (by rw [List.length_append, qad]; decide)).mono ?_
     rintro e w5 ⟨rfl, hw5⟩
     have HW5 := Hj hw5; clear hw5 HW4 HSTEP
     go_wp2_with fail
     obtain ⟨v5, i5, k5, n5⟩ := id HW5.out
     refine (put5_any w.heap.size P v5 _ _ ts w5 i5 (Nat.le_trans HK3.out.size k5.size) (by simp [qad]) (by have := HTL.out; omega) HTX.out ?_ ?_ ?_ ?_).mono ?_
     · exact (HHT.out.keeps HK3R.out (fun _ _ e => e)).keeps k5 (fun g hg e => by
        simp only [Value.ownBlock, Option.some.injEq] at hg
        exact HFOOT.out [] w5 (.slice none 0 0) (fun g h => .inl h) g (by have := HGT.out; omega) e)
     · rintro k ⟨_, hg⟩
       simp only [Value.ownBlock, Option.some.injEq] at hg
       exact HFOOT.out [] w5 v5 n5 k (by have := HGT.out; omega)
     · exact (HTF.out.keeps HK3.out (fun e => e)).keeps k5 (fun e => HFOOT.out [] w5 (.slice none 0 0) (fun g h => .inl h) 0 (by have := HGT.out; omega) e)
     · exact HTF.out.pos
     rintro e w6 ⟨rfl, h6⟩
     have HW6 := Hj (Wrote.trans k5 n5 h6)
     clear h6 i5 k5 n5 HW5
     obtain ⟨v6, i6, k6, n6⟩ := id HW6.out
     have HI6 := Hj i6; have HK6 := Hj k6; have HN6 := Hj n6
     have HCE := Hj (qef w6)
     clear i6 k6 n6
     have hL6 : Hid (([] ++ qab tag 8 ++ qab q 8 ++ enc5 ts).length ≤ 1000000) := Hj (by
      simp only [List.nil_append, List.length_append, qad]
      have := qfs ts; have := HTL.out; omega)
     have HPUT : Hid (∀ w7, Keeps (fun _ => False) w6 w7 → ∀ F, (tag = 1 ∧ F = 44) ∨ (tag = 2 ∧ F = 47) ∨ (tag = 3 ∧ F = 50) →
      Calls Tryz.prog F #[.pointer (some ⟨P, 0, none⟩), .slice (some ⟨gv, 0, none⟩) l.length l.length] w7 fun e w' => e = .returned (.int .i64 0) ∧ Wrote w.heap.size P (.slice none 0 0) ([] ++ qab tag 8 ++ qab q 8 ++ enc5 ts ++ encV tag vs) w3 w') := Hj (fun w7 hk7 F hF => by
      have i7 := HI6.out.keeps hk7 (fun h => h) (fun _ _ h => h)
      have hb7 : w.heap.size ≤ w7.heap.size := Nat.le_trans HK3.out.size (Nat.le_trans HK6.out.size hk7.size)
      have hh7 : Holds w7 (.slice (some ⟨gv, 0, none⟩) l.length l.length) (u64s vs) := ((HHV.out.keeps HK3R.out (fun _ _ e => e)).keeps HK6.out (fun g hg e => by
       simp only [Value.ownBlock, Option.some.injEq] at hg
       exact HFOOT.out [] w5 (.slice none 0 0) (fun g h => .inl h) g (by have := HGV.out; omega) e)).keeps hk7 (fun _ _ e => e)
      have hap : ∀ k, ownH (.slice (some ⟨gv, 0, none⟩) l.length l.length) vs k → ¬ foot P v6 k := by
       rintro k ⟨_, hg⟩
       simp only [Value.ownBlock, Option.some.injEq] at hg
       exact HFOOT.out [] w5 v6 HN6.out k (by have := HGV.out; omega)
      have hv0 := HVL.out
      have hlb := hL6.out
      have hT7 : TabZ w7 := ((HTZ.out.keeps HK3.out (fun e => e)).keeps HK6.out (fun e => HFOOT.out [] w5 (.slice none 0 0) (fun g h => .inl h) _ (by have := HTZ.out.pos; have := HG1.out; have := HGV.out; omega) e)).keeps hk7 (fun e => e)
      have k67 : Keeps (foot P (.slice none 0 0)) w3 w7 := HK6.out.trans hk7 (fun _ _ e => e.elim)
      have fin : ∀ {L' : List Bool} {w' : World}, Wrote w.heap.size P v6 L' w7 w' → Wrote w.heap.size P (.slice none 0 0) L' w3 w' := fun h => Wrote.trans k67 HN6.out h
      rcases hF with ⟨h, rfl⟩ | ⟨h, rfl⟩ | ⟨h, rfl⟩
      · refine (put6_any w.heap.size P v6 _ _ vs w7 i7 hb7 (by omega) (by omega) HVX.out hh7 hap hT7 HTZ.out.pos).mono ?_
        rintro e w8 ⟨rfl, h8⟩
        refine ⟨rfl, ?_⟩
        rw [show encV tag vs = enc6 vs by unfold encV; rw [if_pos h]]
        exact fin h8
      · refine (put7_any w.heap.size P v6 _ _ vs w7 i7 hb7 (by omega) (by omega) HVX.out hh7 hap).mono ?_
        rintro e w8 ⟨rfl, h8⟩
        refine ⟨rfl, ?_⟩
        rw [show encV tag vs = enc7 vs by unfold encV; rw [if_neg (by omega), if_pos h]]
        exact fin h8
      · refine (put8_any w.heap.size P v6 _ _ vs w7 i7 hb7 (by omega) (by omega) HVX.out hh7 hap (by intro e; rw [e] at hv0; simp at hv0; omega) (HDK.out h)).mono ?_
        rintro e w8 ⟨rfl, h8⟩
        refine ⟨rfl, ?_⟩
        rw [show encV tag vs = enc8 vs by unfold encV; rw [if_neg (by omega), if_neg (by omega)]]
        exact fin h8)
     have HFIN : Hid (∀ w8, Wrote w.heap.size P (.slice none 0 0) ([] ++ qab tag 8 ++ qab q 8 ++ enc5 ts ++ encV tag vs) w3 w8 →
      Calls Tryz.prog 25 #[.pointer (some ⟨P, 0, none⟩)] w8 fun e w' => ∃ v', e = .returned v' ∧ w'.ownsRow w.heap.size 5 1 v' (chunkC l).length (u8s (chunkC l)) ∧ Keeps (fun _ => False) w w') := Hj (fun w8 h8 => by
      obtain ⟨v8, i8, k8, n8⟩ := h8
      refine (wbytes_any w.heap.size P v8 _ w8 i8 (by
       have h1 := hL6.out; have h2 := HEL.out; have := HVL.out
       rw [List.length_append]; omega)).mono ?_
      rintro e w9 ⟨v', rfl, h9, hk9⟩
      refine ⟨v', rfl, ?_, ?_⟩
      · unfold chunkC
        rw [HBC2.out]
        simp only [List.nil_append] at h9
        exact qao h9 (fun g hg => Nat.le_trans HK3.out.size (Nat.le_trans k8.size (h9.lt g hg).1))
      · refine (HK3.out.trans k8 (fun k hk e => ?_)).trans hk9 (fun _ _ e => e)
        exact HFOOT.out [] w8 (.slice none 0 0) (fun g h => .inl h) k (by have := HG0.out; have := HGT.out; omega) e)
     clear HFOOT HW6 HK6 HN6 HI6
     rcases HTG.out with h | h | h
     · obtain rfl := h
       go_wp2_with (first
        | (go_at_call 24; refine HCE.out.mono ?_; rintro e w7 ⟨rfl, hk7⟩; have HK7 := Hj hk7; clear hk7)
        | (refine qae _ rfl 65 _ _ rfl _ _ (.agg #[.func (.func 43) #[] #[], .func (.func 44) #[] #[], .func (.func 45) #[] #[]]) rfl rfl rfl ?_)
        | (refine qbz _ rfl 64 _ _ rfl _ (.func (.func 44) #[] #[]) rfl rfl ?_)
        | (go_at_call 44; refine (HPUT.out _ HK7.out 44 (by simp)).mono ?_; rintro e w8 ⟨rfl, h8⟩; have H8 := Hj h8; clear h8)
        | (go_at_call 25; refine (HFIN.out _ H8.out).mono ?_; rintro e w9 ⟨v', rfl, h9⟩))
       go_ret2
       exact ⟨v', rfl, h9⟩
     · obtain rfl := h
       go_wp2_with (first
        | (go_at_call 24; refine HCE.out.mono ?_; rintro e w7 ⟨rfl, hk7⟩; have HK7 := Hj hk7; clear hk7)
        | (refine qae _ rfl 65 _ _ rfl _ _ (.agg #[.func (.func 46) #[] #[], .func (.func 47) #[] #[], .func (.func 48) #[] #[]]) rfl rfl rfl ?_)
        | (refine qbz _ rfl 64 _ _ rfl _ (.func (.func 47) #[] #[]) rfl rfl ?_)
        | (go_at_call 47; refine (HPUT.out _ HK7.out 47 (by simp)).mono ?_; rintro e w8 ⟨rfl, h8⟩; have H8 := Hj h8; clear h8)
        | (go_at_call 25; refine (HFIN.out _ H8.out).mono ?_; rintro e w9 ⟨v', rfl, h9⟩))
       go_ret2
       exact ⟨v', rfl, h9⟩
     · obtain rfl := h
       go_wp2_with (first
        | (go_at_call 24; refine HCE.out.mono ?_; rintro e w7 ⟨rfl, hk7⟩; have HK7 := Hj hk7; clear hk7)
        | (refine qae _ rfl 65 _ _ rfl _ _ (.agg #[.func (.func 49) #[] #[], .func (.func 50) #[] #[], .func (.func 51) #[] #[]]) rfl rfl rfl ?_)
        | (refine qbz _ rfl 64 _ _ rfl _ (.func (.func 50) #[] #[]) rfl rfl ?_)
        | (go_at_call 50; refine (HPUT.out _ HK7.out 50 (by simp)).mono ?_; rintro e w8 ⟨rfl, h8⟩; have H8 := Hj h8; clear h8)
        | (go_at_call 25; refine (HFIN.out _ H8.out).mono ?_; rintro e w9 ⟨v', rfl, h9⟩))
       go_ret2
       exact ⟨v', rfl, h9⟩
end
end Go.Proofs.YtfpcgcbehdogjaaGreatDoor
