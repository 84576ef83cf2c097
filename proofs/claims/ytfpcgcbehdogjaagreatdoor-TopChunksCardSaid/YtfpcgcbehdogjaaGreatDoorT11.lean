/-
  Lemmas on which LTopChunks rests, packed out of the texts WXorE; each for all arguments under the hypotheses it names.
-/
import Derived.Test.YtfpcgcbehdogjaaGreatDoorT08
import Derived.Deep.DeepCutAuto
namespace Go.Proofs.YtfpcgcbehdogjaaGreatDoor
section
set_option maxHeartbeats 8000000
set_option maxRecDepth 100000
open Go.RowKit
def GetD (base p : Nat) (v : Value) (bs : List Nat) (D last : Nat) (w : World) (x e i' : Nat) (s' : Nat × Nat) (e' : Ending) (w' : World) : Prop :=
 ∃ (y last2 : Nat) (s2 : Nat × Nat), e' = .returned (.int .u64 (y : Nat)) ∧ (e = 0 → y = last ^^^ x ∧ last2 = y ∧ s2 = s') ∧ DS w' base p v bs i' D last2 s2 e ∧ Keeps (fun k => k = p ∨ k = D) w w'
theorem setTwo {w : World} {base p : Nat} {v : Value} {bs : List Nat} {i D last : Nat} {s : Nat × Nat} {err B : Nat} {cs : Array Value} {a c : Nat} (h : DS w base p v bs i D last s err) (hB : w.heap[B]? = some (.cells cs 187 (0, 0))) (hs : cs.size = 2 := by rfl) :
 ((w.setCell ⟨B, 0, none⟩ (.int .i64 (a : Nat))).setCell ⟨B, 1, none⟩ (.int .i64 (c : Nat))).heap[B]? = some (.cells #[.int .i64 (a : Nat), .int .i64 (c : Nat)] 187 (0, 0)) ∧
   DS ((w.setCell ⟨B, 0, none⟩ (.int .i64 (a : Nat))).setCell ⟨B, 1, none⟩ (.int .i64 (c : Nat))) base p v bs i D last s err ∧ Keeps (fun k => k = B) w ((w.setCell ⟨B, 0, none⟩ (.int .i64 (a : Nat))).setCell ⟨B, 1, none⟩ (.int .i64 (c : Nat))) := by
 have k : Keeps (fun k => k = B) w ((w.setCell ⟨B, 0, none⟩ (.int .i64 (a : Nat))).setCell ⟨B, 1, none⟩ (.int .i64 (c : Nat))) := ((Keeps.refl (fun k => k = B) w).setCell (p := ⟨B, 0, none⟩) (fun _ => rfl) _).setCell (p := ⟨B, 1, none⟩) (fun _ => rfl) _
 have hnp : B ≠ p ∧ B ≠ D ∧ ∀ g, v.ownBlock = some g → B ≠ g := by
  refine ⟨qag hB h.rd.blk (by decide), qag hB h.dec (by decide), fun g hg => ?_⟩
  obtain ⟨c', hc'⟩ := qaj h.rd.row hg
  exact qag hB hc' (by decide)
 refine ⟨?_, ⟨h.rd.keeps k (fun e => hnp.1 e.symm) (fun g hg e => hnp.2.2 g hg e.symm), k.heap h.dec (fun e => hnp.2.1 e.symm)⟩, k⟩
 have h1 := heap_setCell_same w B 0 _ _ (.int .i64 (a : Nat)) hB
 have h2 := heap_setCell_same _ B 1 _ _ (.int .i64 (c : Nat)) h1
 obtain ⟨l⟩ := cs
 match l, hs with
 | [u, v], _ => simpa using h2
section
variable (base p : Nat) (v : Value) (bs : List Nat) (i D last : Nat) (s : Nat × Nat) (w : World)
theorem dget_same (e m : Nat) (h : DS w base p v bs i D last s 0) (hl : bs.length ≤ 1099511627776) (hi : i ≤ 8 * bs.length) (hr : readD 0 ((1 : Nat) : Int) ((qad bs).drop i) = (0, e, m)) :
 Calls Tryz.prog 101 #[.pointer (some ⟨D, 0, none⟩)] w (GetD base p v bs D last w 0 e (i + m) s) := by
 have hc := qar base p v bs i D last s w 0 1 0 e m h hl hi hr
 have HC := Hj hc
 clear hc h hr
 go_enter Tryz.func101, Tryz.ntmps101
 go_wp2_with fail
 refine HC.out.mono ?_
 rintro e1 w1 ⟨rfl, d1, k1⟩
 have c0 := d1.cells.1
 have D1 := Hj d1; have K1 := Hj k1
 clear d1 k1
 go_wp2_with fail
 go_ret
 exact ⟨last, last, s, rfl, fun _ => ⟨by simp, rfl, rfl⟩, D1.out, K1.out⟩
theorem dget_stop0 (e2 m2 e3 : Nat) (h : DS w base p v bs i D last s 0) (hl : bs.length ≤ 1099511627776) (hi : i + 1 ≤ 8 * bs.length) (hr : readD 0 ((1 : Nat) : Int) ((qad bs).drop i) = (1, 0, 1)) (hr2 : readD 0 ((1 : Nat) : Int) ((qad bs).drop (i + 1)) = (0, e2, m2))
 (hs : s.1 + s.2 ≤ 63) (he3 : checkE e2 true = e3) (hne : e3 ≠ 0) :
 Calls Tryz.prog 101 #[.pointer (some ⟨D, 0, none⟩)] w (GetD base p v bs D last w 0 e3 (i + 1 + m2) s) := by
 have hc := qar base p v bs i D last s w 0 1 1 0 1 h hl (by omega) hr
 have HC := Hj hc; have HR2 := Hj hr2
 obtain ⟨a, ha⟩ : ∃ a, a = s.1 := ⟨_, rfl⟩
 obtain ⟨c, hcc⟩ : ∃ c, c = 64 - s.1 - s.2 := ⟨_, rfl⟩
 have HA := Hj ha; have HCC := Hj hcc
 clear hc h hr hr2 ha hcc
 go_enter Tryz.func101, Tryz.ntmps101
 go_wp2_with fail
 refine HC.out.mono ?_
 rintro e1 w1 ⟨rfl, d1, k1⟩
 obtain ⟨c0, c1, c2, c3, c4, cf⟩ := d1.cells
 rw [← HA.out] at c1
 rw [← HCC.out] at c2
 obtain ⟨B, hB⟩ : ∃ B, B = w1.heap.size := ⟨_, rfl⟩
 obtain ⟨wA, hwA⟩ : ∃ wA, wA = w1.alloc (.cells #[.int .i64 0, .int .i64 0] 187) := ⟨_, rfl⟩
 have kA : Keeps (fun _ => False) w1 wA := by rw [hwA]; exact (Keeps.refl _ w1).alloc _
 have hbA : wA.heap[B]? = some (.cells #[.int .i64 0, .int .i64 0] 187 (0, 0)) := by rw [hwA, hB]; exact heap_alloc_new w1 _
 have dA : DS wA.drew base p v bs (i + 1) D last s 0 := d1.keeps (kA.trans ((Keeps.refl (fun _ => False) wA).drew) (fun _ _ h => h))
 have hBw : w.heap.size ≤ B := by rw [hB]; exact k1.size
 have a1 := kA.cell c1 (fun h => h)
 have a2 := kA.cell c2 (fun h => h)
 have a4 := kA.cell c4 (fun h => h)
 have hc2 := Hj (qar base p v bs (i + 1) D last s wA.drew 0 1 0 e2 m2 dA hl hi HR2.out)
 have d1d : DS w1.drew base p v bs (i + 1) D last s 0 := d1.keeps ((Keeps.refl (fun _ => False) w1).drew)
 have hc3 := Hj (qar base p v bs (i + 1) D last s w1.drew 0 1 0 e2 m2 d1d hl hi HR2.out)
 have K1D := Hj (k1.drew)
 have hDl : D < w1.heap.size := (Array.getElem?_eq_some_iff.1 d1.dec).1
 have hn1 : ¬ w1.heap.size = D := by omega
 have hn2 : ¬ D = w1.heap.size := by omega
 have KA := Hj ((k1.trans kA (fun _ _ h => h.elim)).drew)
 have HBA : Hid (wA.drew.heap[B]? = some (.cells #[.int .i64 0, .int .i64 0] 187 (0, 0))) := Hj hbA
 have DA := Hj dA; have HWA := Hj hwA; have HB := Hj hB; have HBW := Hj hBw
 clear d1 d1d k1 cf c0 c3 kA hbA dA hwA hB hBw
 go_upto_region 3 with fail
 go_cut [3, 4] (fun t3 t4 wx => ∃ B, t3 = .pointer (some ⟨B, 0, none⟩) ∧ t4 = .bool false ∧ wx.heap[B]? = some (Obj.cells #[.int .i64 (a : Nat), .int .i64 (c : Nat)] 187 (0, 0)) ∧ w.heap.size ≤ B ∧ DS wx base p v bs (i + 1 + m2) D last s e2 ∧ Keeps (fun k => k = p ∨ k = D) w wx)
 case first =>
  go_region_held3 (fun w' => w'.cell? ⟨D, 1, none⟩ = some (.int .i64 (a : Nat)) ∧ w'.cell? ⟨D, 2, none⟩ = some (.int .i64 (c : Nat))) (go_keep)
   ((go_at_call 100
     first
      | (rw [← HWA.out]
         refine hc2.out.mono ?_
         rintro e2 w2 ⟨rfl, d2, k2⟩
         obtain ⟨-, s1, s2, -, -, -⟩ := d2.cells
         rw [← HA.out] at s1
         rw [← HCC.out] at s2
         have hb2 := DA.out.other k2 HBA.out
         have t0 : w2.cell? ⟨w1.heap.size, 0, none⟩ = some (.int .i64 0) := by (rw [← HB.out, cell_of_row _ _ _ _ _ _ hb2]; rfl)
         have t1 : w2.cell? ⟨w1.heap.size, 1, none⟩ = some (.int .i64 0) := by (rw [← HB.out, cell_of_row _ _ _ _ _ _ hb2]; rfl)
         have f0 : w2.frozen? ⟨w1.heap.size, 0, none⟩ = false := by (rw [← HB.out]; exact frozen_of_row _ _ _ _ _ hb2)
         have f1 : w2.frozen? ⟨w1.heap.size, 1, none⟩ = false := by (rw [← HB.out]; exact frozen_of_row _ _ _ _ _ hb2)
         have HB2 := Hj hb2
         have D2 := Hj d2
         have K2 := Hj (KA.out.trans k2 (fun _ _ h => h))
         clear hb2 d2 k2)
      | (refine hc3.out.mono ?_
         rintro e2 w2 ⟨rfl, d2, k2⟩
         obtain ⟨-, s1, s2, -, -, -⟩ := d2.cells
         have hDl2 : D < w2.heap.size := (Array.getElem?_eq_some_iff.1 d2.dec).1
         have hn3 : ¬ w2.heap.size = D := by omega
         have hn4 : ¬ D = w2.heap.size := by omega
         rw [← HA.out] at s1
         rw [← HCC.out] at s2
         have D2 := Hj d2
         have K2 := Hj (K1D.out.trans k2 (fun _ _ h => h))
         clear d2 k2)))
  · go_wp2_with fail
    go_meet
    exact ⟨_, rfl, rfl, heap_alloc_new w2 _, K2.out.size, D2.out.keeps ((Keeps.refl _ w2).alloc _), K2.out.alloc _⟩
  · go_wp2_with fail
    go_meet
    obtain ⟨q1, q2, q3⟩ := setTwo D2.out HB2.out (a := a) (c := c)
    rw [← HB.out]
    exact ⟨_, rfl, rfl, q1, HBW.out, q2, K2.out.trans q3 (fun k hk e => by have := HBW.out; omega)⟩
 case rest =>
  obtain ⟨B, rfl, rfl, hB, hBw, dW, kW⟩ := hcut
  obtain ⟨wB, hwB⟩ : ∃ wB, wc = wB := ⟨_, rfl⟩
  subst hwB
  have HB := Hj hB; have DW := Hj dW; have KW := Hj kW
  have g0 : wc.cell? ⟨B, 0, none⟩ = some (.int .i64 (a : Nat)) := by rw [cell_of_row _ _ _ _ _ _ hB]; rfl
  have g1 : wc.cell? ⟨B, 1, none⟩ = some (.int .i64 (c : Nat)) := by rw [cell_of_row _ _ _ _ _ _ hB]; rfl
  have z0 := frozen_of_row wc B 0 _ _ hB
  have z1 := frozen_of_row wc B 1 _ _ hB
  clear hB dW kW
  have hc0 : ((c : Int) == 0) = false := beq_eq_false_iff_ne.2 (by have := HCC.out; omega)
  have hc1 : (c : Int) ≠ 0 := by have := HCC.out; omega
  go_wp2_with fail
  refine (qbt base p v bs (i + 1 + m2) D last s wc e2 e3 _ DW.out he3).mono ?_
  rintro e w3 ⟨rfl, d3, k3⟩
  have hb3 := DW.out.other k3 HB.out
  have d3c := d3.cells.2.2.2.2.1
  have D3 := Hj d3; have K3 := Hj (KW.out.trans k3 (fun _ _ h => h)); have HB3 := Hj hb3
  clear d3 k3 hb3 g0 g1 z0 z1
  have he' : ((e3 : Int) == 0) = false := by simp; omega
  have he'' : (e3 : Int) ≠ 0 := by omega
  go_wp2_with fail
  go_ret
  exact ⟨0, last, s, rfl, fun h => absurd h hne, D3.out, K3.out⟩
theorem dget_none (e2 m2 e3 : Nat) (h : DS w base p v bs i D last s 0) (hl : bs.length ≤ 1099511627776) (hi : i + 1 ≤ 8 * bs.length) (hr : readD 0 ((1 : Nat) : Int) ((qad bs).drop i) = (1, 0, 1)) (hr2 : readD 0 ((1 : Nat) : Int) ((qad bs).drop (i + 1)) = (0, e2, m2))
 (hs : s = win0) (he3 : checkE e2 false = e3) (hne : e3 ≠ 0) :
 Calls Tryz.prog 101 #[.pointer (some ⟨D, 0, none⟩)] w (GetD base p v bs D last w 0 e3 (i + 1 + m2) s) := by
 have hc := qar base p v bs i D last s w 0 1 1 0 1 h hl (by omega) hr
 have HC := Hj hc; have HR2 := Hj hr2
 obtain ⟨a, ha⟩ : ∃ a, a = s.1 := ⟨_, rfl⟩
 obtain ⟨c, hcc⟩ : ∃ c, c = 64 - s.1 - s.2 := ⟨_, rfl⟩
 have HA := Hj ha; have HCC := Hj hcc
 clear hc h hr hr2 ha hcc
 go_enter Tryz.func101, Tryz.ntmps101
 go_wp2_with fail
 refine HC.out.mono ?_
 rintro e1 w1 ⟨rfl, d1, k1⟩
 obtain ⟨c0, c1, c2, c3, c4, cf⟩ := d1.cells
 rw [← HA.out] at c1
 rw [← HCC.out] at c2
 obtain ⟨B, hB⟩ : ∃ B, B = w1.heap.size := ⟨_, rfl⟩
 obtain ⟨wA, hwA⟩ : ∃ wA, wA = w1.alloc (.cells #[.int .i64 0, .int .i64 0] 187) := ⟨_, rfl⟩
 have kA : Keeps (fun _ => False) w1 wA := by rw [hwA]; exact (Keeps.refl _ w1).alloc _
 have hbA : wA.heap[B]? = some (.cells #[.int .i64 0, .int .i64 0] 187 (0, 0)) := by rw [hwA, hB]; exact heap_alloc_new w1 _
 have dA : DS wA.drew base p v bs (i + 1) D last s 0 := d1.keeps (kA.trans ((Keeps.refl (fun _ => False) wA).drew) (fun _ _ h => h))
 have hBw : w.heap.size ≤ B := by rw [hB]; exact k1.size
 have a1 := kA.cell c1 (fun h => h)
 have a2 := kA.cell c2 (fun h => h)
 have a4 := kA.cell c4 (fun h => h)
 have hc2 := Hj (qar base p v bs (i + 1) D last s wA.drew 0 1 0 e2 m2 dA hl hi HR2.out)
 have d1d : DS w1.drew base p v bs (i + 1) D last s 0 := d1.keeps ((Keeps.refl (fun _ => False) w1).drew)
 have hc3 := Hj (qar base p v bs (i + 1) D last s w1.drew 0 1 0 e2 m2 d1d hl hi HR2.out)
 have K1D := Hj (k1.drew)
 have hDl : D < w1.heap.size := (Array.getElem?_eq_some_iff.1 d1.dec).1
 have hn1 : ¬ w1.heap.size = D := by omega
 have hn2 : ¬ D = w1.heap.size := by omega
 have KA := Hj ((k1.trans kA (fun _ _ h => h.elim)).drew)
 have HBA : Hid (wA.drew.heap[B]? = some (.cells #[.int .i64 0, .int .i64 0] 187 (0, 0))) := Hj hbA
 have DA := Hj dA; have HWA := Hj hwA; have HB := Hj hB; have HBW := Hj hBw
 clear d1 d1d k1 cf c0 c3 kA hbA dA hwA hB hBw
 go_upto_region 3 with fail
 go_cut [3, 4] (fun t3 t4 wx => ∃ B, t3 = .pointer (some ⟨B, 0, none⟩) ∧ t4 = .bool false ∧ wx.heap[B]? = some (Obj.cells #[.int .i64 (a : Nat), .int .i64 (c : Nat)] 187 (0, 0)) ∧ w.heap.size ≤ B ∧ DS wx base p v bs (i + 1 + m2) D last s e2 ∧ Keeps (fun k => k = p ∨ k = D) w wx)
 case first =>
  go_region_held3 (fun w' => w'.cell? ⟨D, 1, none⟩ = some (.int .i64 (a : Nat)) ∧ w'.cell? ⟨D, 2, none⟩ = some (.int .i64 (c : Nat))) (go_keep)
   ((go_at_call 100
     first
      | (rw [← HWA.out]
         refine hc2.out.mono ?_
         rintro e2 w2 ⟨rfl, d2, k2⟩
         obtain ⟨-, s1, s2, -, -, -⟩ := d2.cells
         rw [← HA.out] at s1
         rw [← HCC.out] at s2
         have hb2 := DA.out.other k2 HBA.out
         have t0 : w2.cell? ⟨w1.heap.size, 0, none⟩ = some (.int .i64 0) := by (rw [← HB.out, cell_of_row _ _ _ _ _ _ hb2]; rfl)
         have t1 : w2.cell? ⟨w1.heap.size, 1, none⟩ = some (.int .i64 0) := by (rw [← HB.out, cell_of_row _ _ _ _ _ _ hb2]; rfl)
         have f0 : w2.frozen? ⟨w1.heap.size, 0, none⟩ = false := by (rw [← HB.out]; exact frozen_of_row _ _ _ _ _ hb2)
         have f1 : w2.frozen? ⟨w1.heap.size, 1, none⟩ = false := by (rw [← HB.out]; exact frozen_of_row _ _ _ _ _ hb2)
         have HB2 := Hj hb2
         have D2 := Hj d2
         have K2 := Hj (KA.out.trans k2 (fun _ _ h => h))
         clear hb2 d2 k2)
      | (refine hc3.out.mono ?_
         rintro e2 w2 ⟨rfl, d2, k2⟩
         obtain ⟨-, s1, s2, -, -, -⟩ := d2.cells
         have hDl2 : D < w2.heap.size := (Array.getElem?_eq_some_iff.1 d2.dec).1
         have hn3 : ¬ w2.heap.size = D := by omega
         have hn4 : ¬ D = w2.heap.size := by omega
         rw [← HA.out] at s1
         rw [← HCC.out] at s2
         have D2 := Hj d2
         have K2 := Hj (K1D.out.trans k2 (fun _ _ h => h))
         clear d2 k2)))
  · go_wp2_with fail
    go_meet
    exact ⟨_, rfl, rfl, heap_alloc_new w2 _, K2.out.size, D2.out.keeps ((Keeps.refl _ w2).alloc _), K2.out.alloc _⟩
  · go_wp2_with fail
    go_meet
    obtain ⟨q1, q2, q3⟩ := setTwo D2.out HB2.out (a := a) (c := c)
    rw [← HB.out]
    exact ⟨_, rfl, rfl, q1, HBW.out, q2, K2.out.trans q3 (fun k hk e => by have := HBW.out; omega)⟩
 case rest =>
  obtain ⟨B, rfl, rfl, hB, hBw, dW, kW⟩ := hcut
  obtain ⟨wB, hwB⟩ : ∃ wB, wc = wB := ⟨_, rfl⟩
  subst hwB
  have HB := Hj hB; have DW := Hj dW; have KW := Hj kW
  have g0 : wc.cell? ⟨B, 0, none⟩ = some (.int .i64 (a : Nat)) := by rw [cell_of_row _ _ _ _ _ _ hB]; rfl
  have g1 : wc.cell? ⟨B, 1, none⟩ = some (.int .i64 (c : Nat)) := by rw [cell_of_row _ _ _ _ _ _ hB]; rfl
  have z0 := frozen_of_row wc B 0 _ _ hB
  have z1 := frozen_of_row wc B 1 _ _ hB
  clear hB dW kW
  have a0 : a = 0 := by rw [HA.out, hs]; rfl
  have cc0 : c = 0 := by rw [HCC.out, hs]; rfl
  clear HA HCC
  subst a0
  subst cc0
  go_wp2_with fail
  refine (qbt base p v bs (i + 1 + m2) D last s wc e2 e3 _ DW.out he3).mono ?_
  rintro e w3 ⟨rfl, d3, k3⟩
  have hb3 := DW.out.other k3 HB.out
  have d3c := d3.cells.2.2.2.2.1
  have D3 := Hj d3; have K3 := Hj (KW.out.trans k3 (fun _ _ h => h)); have HB3 := Hj hb3
  clear d3 k3 hb3 g0 g1 z0 z1
  have he' : ((e3 : Int) == 0) = false := by simp; omega
  have he'' : (e3 : Int) ≠ 0 := by omega
  go_wp2_with fail
  go_ret
  exact ⟨0, last, s, rfl, fun h => absurd h hne, D3.out, K3.out⟩
theorem dget_stop1 (m2 y1 f1 n1 y2 f2 n2 Z e3 : Nat) (h : DS w base p v bs i D last s 0) (hl : bs.length ≤ 1099511627776) (hi : i + 1 ≤ 8 * bs.length) (hr : readD 0 ((1 : Nat) : Int) ((qad bs).drop i) = (1, 0, 1)) (hr2 : readD 0 ((1 : Nat) : Int) ((qad bs).drop (i + 1)) = (1, 0, m2))
 (hi2 : i + 1 + m2 ≤ 8 * bs.length) (hr3 : readD 0 ((6 : Nat) : Int) ((qad bs).drop (i + 1 + m2)) = (y1, f1, n1)) (hy1 : y1 ≤ 63) (hi3 : i + 1 + m2 + n1 ≤ 8 * bs.length) (hr4 : readD f1 ((6 : Nat) : Int) ((qad bs).drop (i + 1 + m2 + n1)) = (y2, f2, n2)) (hy2 : y2 ≤ 63) (hZ : Z = y2 + 1)
 (he3 : checkE f2 (decide (y1 + (y2 + 1) ≤ 64)) = e3) (hne : e3 ≠ 0) :
 Calls Tryz.prog 101 #[.pointer (some ⟨D, 0, none⟩)] w (GetD base p v bs D last w 0 e3 (i + 1 + m2 + n1 + n2) s) := by
 have HR3 := Hj hr3; have HR4 := Hj hr4; have HZ := Hj hZ; have HE3 := Hj he3
 clear hr3 hr4 hZ he3
 have hc := qar base p v bs i D last s w 0 1 1 0 1 h hl (by omega) hr
 have HC := Hj hc; have HR2 := Hj hr2
 obtain ⟨a, ha⟩ : ∃ a, a = s.1 := ⟨_, rfl⟩
 obtain ⟨c, hcc⟩ : ∃ c, c = 64 - s.1 - s.2 := ⟨_, rfl⟩
 have HA := Hj ha; have HCC := Hj hcc
 clear hc h hr hr2 ha hcc
 go_enter Tryz.func101, Tryz.ntmps101
 go_wp2_with fail
 refine HC.out.mono ?_
 rintro e1 w1 ⟨rfl, d1, k1⟩
 obtain ⟨c0, c1, c2, c3, c4, cf⟩ := d1.cells
 rw [← HA.out] at c1
 rw [← HCC.out] at c2
 obtain ⟨B, hB⟩ : ∃ B, B = w1.heap.size := ⟨_, rfl⟩
 obtain ⟨wA, hwA⟩ : ∃ wA, wA = w1.alloc (.cells #[.int .i64 0, .int .i64 0] 187) := ⟨_, rfl⟩
 have kA : Keeps (fun _ => False) w1 wA := by rw [hwA]; exact (Keeps.refl _ w1).alloc _
 have hbA : wA.heap[B]? = some (.cells #[.int .i64 0, .int .i64 0] 187 (0, 0)) := by rw [hwA, hB]; exact heap_alloc_new w1 _
 have dA : DS wA.drew base p v bs (i + 1) D last s 0 := d1.keeps (kA.trans ((Keeps.refl (fun _ => False) wA).drew) (fun _ _ h => h))
 have hBw : w.heap.size ≤ B := by rw [hB]; exact k1.size
 have a1 := kA.cell c1 (fun h => h)
 have a2 := kA.cell c2 (fun h => h)
 have a4 := kA.cell c4 (fun h => h)
 have hc2 := Hj (qar base p v bs (i + 1) D last s wA.drew 0 1 1 0 m2 dA hl hi HR2.out)
 have d1d : DS w1.drew base p v bs (i + 1) D last s 0 := d1.keeps ((Keeps.refl (fun _ => False) w1).drew)
 have hc3 := Hj (qar base p v bs (i + 1) D last s w1.drew 0 1 1 0 m2 d1d hl hi HR2.out)
 have K1D := Hj (k1.drew)
 have hDl : D < w1.heap.size := (Array.getElem?_eq_some_iff.1 d1.dec).1
 have hn1 : ¬ w1.heap.size = D := by omega
 have hn2 : ¬ D = w1.heap.size := by omega
 have KA := Hj ((k1.trans kA (fun _ _ h => h.elim)).drew)
 have HBA : Hid (wA.drew.heap[B]? = some (.cells #[.int .i64 0, .int .i64 0] 187 (0, 0))) := Hj hbA
 have DA := Hj dA; have HWA := Hj hwA; have HB := Hj hB; have HBW := Hj hBw
 clear d1 d1d k1 cf c0 c3 kA hbA dA hwA hB hBw
 go_upto_region 3 with fail
 go_cut [3, 4] (fun t3 t4 wx => ∃ B, t3 = .pointer (some ⟨B, 0, none⟩) ∧ t4 = .bool true ∧ wx.heap[B]? = some (Obj.cells #[.int .i64 (a : Nat), .int .i64 (c : Nat)] 187 (0, 0)) ∧ w.heap.size ≤ B ∧ DS wx base p v bs (i + 1 + m2) D last s 0 ∧ Keeps (fun k => k = p ∨ k = D) w wx)
 case first =>
  go_region_held3 (fun w' => w'.cell? ⟨D, 1, none⟩ = some (.int .i64 (a : Nat)) ∧ w'.cell? ⟨D, 2, none⟩ = some (.int .i64 (c : Nat))) (go_keep)
   ((go_at_call 100
     first
      | (rw [← HWA.out]
         refine hc2.out.mono ?_
         rintro e2 w2 ⟨rfl, d2, k2⟩
         obtain ⟨-, s1, s2, -, -, -⟩ := d2.cells
         rw [← HA.out] at s1
         rw [← HCC.out] at s2
         have hb2 := DA.out.other k2 HBA.out
         have t0 : w2.cell? ⟨w1.heap.size, 0, none⟩ = some (.int .i64 0) := by (rw [← HB.out, cell_of_row _ _ _ _ _ _ hb2]; rfl)
         have t1 : w2.cell? ⟨w1.heap.size, 1, none⟩ = some (.int .i64 0) := by (rw [← HB.out, cell_of_row _ _ _ _ _ _ hb2]; rfl)
         have f0 : w2.frozen? ⟨w1.heap.size, 0, none⟩ = false := by (rw [← HB.out]; exact frozen_of_row _ _ _ _ _ hb2)
         have f1 : w2.frozen? ⟨w1.heap.size, 1, none⟩ = false := by (rw [← HB.out]; exact frozen_of_row _ _ _ _ _ hb2)
         have HB2 := Hj hb2
         have D2 := Hj d2
         have K2 := Hj (KA.out.trans k2 (fun _ _ h => h))
         clear hb2 d2 k2)
      | (refine hc3.out.mono ?_
         rintro e2 w2 ⟨rfl, d2, k2⟩
         obtain ⟨-, s1, s2, -, -, -⟩ := d2.cells
         have hDl2 : D < w2.heap.size := (Array.getElem?_eq_some_iff.1 d2.dec).1
         have hn3 : ¬ w2.heap.size = D := by omega
         have hn4 : ¬ D = w2.heap.size := by omega
         rw [← HA.out] at s1
         rw [← HCC.out] at s2
         have D2 := Hj d2
         have K2 := Hj (K1D.out.trans k2 (fun _ _ h => h))
         clear d2 k2)))
  · go_wp2_with fail
    go_meet
    exact ⟨_, rfl, rfl, heap_alloc_new w2 _, K2.out.size, D2.out.keeps ((Keeps.refl _ w2).alloc _), K2.out.alloc _⟩
  · go_wp2_with fail
    go_meet
    obtain ⟨q1, q2, q3⟩ := setTwo D2.out HB2.out (a := a) (c := c)
    rw [← HB.out]
    exact ⟨_, rfl, rfl, q1, HBW.out, q2, K2.out.trans q3 (fun k hk e => by have := HBW.out; omega)⟩
 case rest =>
  obtain ⟨B, rfl, rfl, hB, hBw, dW, kW⟩ := hcut
  obtain ⟨wB, hwB⟩ : ∃ wB, wc = wB := ⟨_, rfl⟩
  subst hwB
  have HB := Hj hB; have DW := Hj dW; have KW := Hj kW
  have g0 : wc.cell? ⟨B, 0, none⟩ = some (.int .i64 (a : Nat)) := by rw [cell_of_row _ _ _ _ _ _ hB]; rfl
  have g1 : wc.cell? ⟨B, 1, none⟩ = some (.int .i64 (c : Nat)) := by rw [cell_of_row _ _ _ _ _ _ hB]; rfl
  have z0 := frozen_of_row wc B 0 _ _ hB
  have z1 := frozen_of_row wc B 1 _ _ hB
  clear hB dW kW
  go_wp2_with fail
  refine (fresh_gen base p v bs (i + 1 + m2) D last s wc 0 y1 f1 n1 y2 f2 n2 e3 DW.out hl hi2 HR3.out hy1 hi3 HR4.out hy2 HE3.out).mono ?_
  rw [← HZ.out]
  rintro e w2 ⟨rfl, d2, k2⟩
  have hb2 := DW.out.other k2 HB.out
  have K2 := Hj (KW.out.trans k2 (fun _ _ h => h))
  have q0 : w2.cell? ⟨B, 0, none⟩ = some (.int .i64 (a : Nat)) := by rw [cell_of_row _ _ _ _ _ _ hb2]; rfl
  have q1 : w2.cell? ⟨B, 1, none⟩ = some (.int .i64 (c : Nat)) := by rw [cell_of_row _ _ _ _ _ _ hb2]; rfl
  have y0' := frozen_of_row w2 B 0 _ _ hb2
  have y1' := frozen_of_row w2 B 1 _ _ hb2
  obtain ⟨hb3, d3, k3⟩ := setTwo d2 hb2 (a := y1) (c := Z)
  obtain ⟨w3, hw3⟩ : ∃ w3, w3 = (w2.setCell ⟨B, 0, none⟩ (.int .i64 (y1 : Nat))).setCell ⟨B, 1, none⟩ (.int .i64 (Z : Nat)) := ⟨_, rfl⟩
  rw [← hw3] at hb3 d3 k3
  have d3c := d3.cells.2.2.2.2.1
  have D3 := Hj d3; have HB3 := Hj hb3
  have K3 := Hj (K2.out.trans k3 (fun k hk e => by omega))
  have HW3 := Hj hw3
  clear d2 k2 hb2 d3 k3 hb3 hw3 g0 g1 z0 z1
  go_upto_region 7 with fail
  rw [← HW3.out]
  clear q0 q1 y0' y1'
  have he' : ((e3 : Int) == 0) = false := by simp; omega
  have he'' : (e3 : Int) ≠ 0 := by omega
  go_wp2_with fail
  go_ret
  exact ⟨0, last, s, rfl, fun h => absurd h hne, D3.out, K3.out⟩
theorem dget_go0 (m2 u e4 m4 X e5 T : Nat) (okX : Bool) (h : DS w base p v bs i D last s 0) (hl : bs.length ≤ 1099511627776) (hi : i + 1 ≤ 8 * bs.length) (hr : readD 0 ((1 : Nat) : Int) ((qad bs).drop i) = (1, 0, 1)) (hr2 : readD 0 ((1 : Nat) : Int) ((qad bs).drop (i + 1)) = (0, 0, m2))
 (hs : s.1 + s.2 ≤ 63) (hT : T = s.2) (hiP : i + 1 + m2 ≤ 8 * bs.length) (hr5 : readD 0 ((64 - s.1 - s.2 : Nat) : Int) ((qad bs).drop (i + 1 + m2)) = (u, e4, m4)) (hla : last < 18446744073709551616) (hX : X < 18446744073709551616)
 (hshl : IntKind.u64.wrap ((u : Int) * 2 ^ T) = (X : Int)) (hok : ((X : Int) != 0) = okX) (he5 : checkE e4 okX = e5) :
 Calls Tryz.prog 101 #[.pointer (some ⟨D, 0, none⟩)] w (GetD base p v bs D last w X e5 (i + 1 + m2 + m4) s) := by
 have HSHL := Hj hshl; have HOK := Hj hok; have HE5 := Hj he5
 have he3 : checkE 0 true = 0 := rfl
 obtain ⟨e2, he2⟩ : ∃ e2 : Nat, e2 = 0 := ⟨_, rfl⟩
 obtain ⟨e3, he3'⟩ : ∃ e3 : Nat, e3 = 0 := ⟨_, rfl⟩
 clear hshl hok he5
 have hc := qar base p v bs i D last s w 0 1 1 0 1 h hl (by omega) hr
 have HC := Hj hc; have HR2 := Hj hr2
 obtain ⟨a, ha⟩ : ∃ a, a = s.1 := ⟨_, rfl⟩
 obtain ⟨c, hcc⟩ : ∃ c, c = 64 - s.1 - s.2 := ⟨_, rfl⟩
 have HA := Hj ha; have HCC := Hj hcc
 clear hc h hr hr2 ha hcc
 rw [← HCC.out] at hr5
 have HR5 := Hj hr5
 have htt : 64 - a - c = T := by have := HA.out; have := HCC.out; omega
 have HTT := Hj htt
 have hAZ : a + c ≤ 64 := by have := HA.out; have := HCC.out; omega
 clear hr5 htt hT
 go_enter Tryz.func101, Tryz.ntmps101
 go_wp2_with fail
 refine HC.out.mono ?_
 rintro e1 w1 ⟨rfl, d1, k1⟩
 obtain ⟨c0, c1, c2, c3, c4, cf⟩ := d1.cells
 rw [← HA.out] at c1
 rw [← HCC.out] at c2
 obtain ⟨B, hB⟩ : ∃ B, B = w1.heap.size := ⟨_, rfl⟩
 obtain ⟨wA, hwA⟩ : ∃ wA, wA = w1.alloc (.cells #[.int .i64 0, .int .i64 0] 187) := ⟨_, rfl⟩
 have kA : Keeps (fun _ => False) w1 wA := by rw [hwA]; exact (Keeps.refl _ w1).alloc _
 have hbA : wA.heap[B]? = some (.cells #[.int .i64 0, .int .i64 0] 187 (0, 0)) := by rw [hwA, hB]; exact heap_alloc_new w1 _
 have dA : DS wA.drew base p v bs (i + 1) D last s 0 := d1.keeps (kA.trans ((Keeps.refl (fun _ => False) wA).drew) (fun _ _ h => h))
 have hBw : w.heap.size ≤ B := by rw [hB]; exact k1.size
 have a1 := kA.cell c1 (fun h => h)
 have a2 := kA.cell c2 (fun h => h)
 have a4 := kA.cell c4 (fun h => h)
 have hc2 := Hj (qar base p v bs (i + 1) D last s wA.drew 0 1 0 0 m2 dA hl hi HR2.out)
 have d1d : DS w1.drew base p v bs (i + 1) D last s 0 := d1.keeps ((Keeps.refl (fun _ => False) w1).drew)
 have hc3 := Hj (qar base p v bs (i + 1) D last s w1.drew 0 1 0 0 m2 d1d hl hi HR2.out)
 have K1D := Hj (k1.drew)
 have hDl : D < w1.heap.size := (Array.getElem?_eq_some_iff.1 d1.dec).1
 have hn1 : ¬ w1.heap.size = D := by omega
 have hn2 : ¬ D = w1.heap.size := by omega
 have KA := Hj ((k1.trans kA (fun _ _ h => h.elim)).drew)
 have HBA : Hid (wA.drew.heap[B]? = some (.cells #[.int .i64 0, .int .i64 0] 187 (0, 0))) := Hj hbA
 have DA := Hj dA; have HWA := Hj hwA; have HB := Hj hB; have HBW := Hj hBw
 clear d1 d1d k1 cf c0 c3 kA hbA dA hwA hB hBw
 go_upto_region 3 with fail
 go_cut [3, 4] (fun t3 t4 wx => ∃ B, t3 = .pointer (some ⟨B, 0, none⟩) ∧ t4 = .bool false ∧ wx.heap[B]? = some (Obj.cells #[.int .i64 (a : Nat), .int .i64 (c : Nat)] 187 (0, 0)) ∧ w.heap.size ≤ B ∧ DS wx base p v bs (i + 1 + m2) D last s 0 ∧ Keeps (fun k => k = p ∨ k = D) w wx)
 case first =>
  go_region_held3 (fun w' => w'.cell? ⟨D, 1, none⟩ = some (.int .i64 (a : Nat)) ∧ w'.cell? ⟨D, 2, none⟩ = some (.int .i64 (c : Nat))) (go_keep)
   ((go_at_call 100
     first
      | (rw [← HWA.out]
         refine hc2.out.mono ?_
         rintro e2 w2 ⟨rfl, d2, k2⟩
         obtain ⟨-, s1, s2, -, -, -⟩ := d2.cells
         rw [← HA.out] at s1
         rw [← HCC.out] at s2
         have hb2 := DA.out.other k2 HBA.out
         have t0 : w2.cell? ⟨w1.heap.size, 0, none⟩ = some (.int .i64 0) := by (rw [← HB.out, cell_of_row _ _ _ _ _ _ hb2]; rfl)
         have t1 : w2.cell? ⟨w1.heap.size, 1, none⟩ = some (.int .i64 0) := by (rw [← HB.out, cell_of_row _ _ _ _ _ _ hb2]; rfl)
         have f0 : w2.frozen? ⟨w1.heap.size, 0, none⟩ = false := by (rw [← HB.out]; exact frozen_of_row _ _ _ _ _ hb2)
         have f1 : w2.frozen? ⟨w1.heap.size, 1, none⟩ = false := by (rw [← HB.out]; exact frozen_of_row _ _ _ _ _ hb2)
         have HB2 := Hj hb2
         have D2 := Hj d2
         have K2 := Hj (KA.out.trans k2 (fun _ _ h => h))
         clear hb2 d2 k2)
      | (refine hc3.out.mono ?_
         rintro e2 w2 ⟨rfl, d2, k2⟩
         obtain ⟨-, s1, s2, -, -, -⟩ := d2.cells
         have hDl2 : D < w2.heap.size := (Array.getElem?_eq_some_iff.1 d2.dec).1
         have hn3 : ¬ w2.heap.size = D := by omega
         have hn4 : ¬ D = w2.heap.size := by omega
         rw [← HA.out] at s1
         rw [← HCC.out] at s2
         have D2 := Hj d2
         have K2 := Hj (K1D.out.trans k2 (fun _ _ h => h))
         clear d2 k2)))
  · go_wp2_with fail
    go_meet
    exact ⟨_, rfl, rfl, heap_alloc_new w2 _, K2.out.size, D2.out.keeps ((Keeps.refl _ w2).alloc _), K2.out.alloc _⟩
  · go_wp2_with fail
    go_meet
    obtain ⟨q1, q2, q3⟩ := setTwo D2.out HB2.out (a := a) (c := c)
    rw [← HB.out]
    exact ⟨_, rfl, rfl, q1, HBW.out, q2, K2.out.trans q3 (fun k hk e => by have := HBW.out; omega)⟩
 case rest =>
  obtain ⟨B, rfl, rfl, hB, hBw, dW, kW⟩ := hcut
  obtain ⟨wB, hwB⟩ : ∃ wB, wc = wB := ⟨_, rfl⟩
  subst hwB
  have HB := Hj hB; have DW := Hj dW; have KW := Hj kW
  have g0 : wc.cell? ⟨B, 0, none⟩ = some (.int .i64 (a : Nat)) := by rw [cell_of_row _ _ _ _ _ _ hB]; rfl
  have g1 : wc.cell? ⟨B, 1, none⟩ = some (.int .i64 (c : Nat)) := by rw [cell_of_row _ _ _ _ _ _ hB]; rfl
  have z0 := frozen_of_row wc B 0 _ _ hB
  have z1 := frozen_of_row wc B 1 _ _ hB
  clear hB dW kW
  have hc0 : ((c : Int) == 0) = false := beq_eq_false_iff_ne.2 (by have := HCC.out; omega)
  have hc1 : (c : Int) ≠ 0 := by have := HCC.out; omega
  clear he2 he3'
  go_wp2_with fail
  refine (qbt base p v bs (i + 1 + m2) D last s wc 0 0 _ DW.out he3).mono ?_
  rintro e w3 ⟨rfl, d3, k3⟩
  have hb3 := DW.out.other k3 HB.out
  have d3c := d3.cells.2.2.2.2.1
  have D3 := Hj d3; have K3 := Hj (KW.out.trans k3 (fun _ _ h => h)); have HB3 := Hj hb3
  clear d3 k3 hb3 g0 g1 z0 z1
  have g0 : w3.cell? ⟨B, 0, none⟩ = some (.int .i64 (a : Nat)) := by rw [cell_of_row _ _ _ _ _ _ HB3.out]; rfl
  have g1 : w3.cell? ⟨B, 1, none⟩ = some (.int .i64 (c : Nat)) := by rw [cell_of_row _ _ _ _ _ _ HB3.out]; rfl
  have D3d : Hid (DS w3.drew base p v bs (i + 1 + m2) D last s 0) := Hj (D3.out.keeps ((Keeps.refl (fun _ => False) w3).drew))
  have HB3d : Hid (w3.drew.heap[B]? = some (.cells #[.int .i64 (a : Nat), .int .i64 (c : Nat)] 187 (0, 0))) := Hj HB3.out
  have hr5d := Hj (qar base p v bs (i + 1 + m2) D last s w3.drew 0 c u e4 m4 D3d.out hl hiP HR5.out)
  go_upto_region 9 with fail
  go_cut [5] (fun t5 wx => t5 = .int .u64 (X : Nat) ∧ wx.heap[B]? = some (Obj.cells #[.int .i64 (a : Nat), .int .i64 (c : Nat)] 187 (0, 0)) ∧ DS wx base p v bs ((i + 1 + m2) + m4) D last s e4 ∧ Keeps (fun k => k = p ∨ k = D) w wx)
  case first =>
   have hshl : IntKind.u64.wrap ((u : Int) * 2 ^ (min T 64)) = (X : Int) := by rw [Nat.min_eq_left (by have := HTT.out; omega)]; exact HSHL.out
   go_region_held3 (fun w' => w'.cell? ⟨B, 0, none⟩ = some (.int .i64 (a : Nat)) ∧ w'.cell? ⟨B, 1, none⟩ = some (.int .i64 (c : Nat))) (go_keep)
    (first
      | (go_at_call 100
         go_must (
          refine hr5d.out.mono ?_
          rintro e w4 ⟨rfl, d4, k4⟩
          have hb4 := D3d.out.other k4 HB3d.out
          have s0 : w4.cell? ⟨B, 0, none⟩ = some (.int .i64 (a : Nat)) := by (rw [cell_of_row _ _ _ _ _ _ hb4]; rfl)
          have s1 : w4.cell? ⟨B, 1, none⟩ = some (.int .i64 (c : Nat)) := by (rw [cell_of_row _ _ _ _ _ _ hb4]; rfl)
          have D4 := Hj d4
          have HB4 := Hj hb4
          have K4 := Hj (K3.out.drew.trans k4 (fun _ _ h => h))
          clear d4 hb4 k4))
      | (go_at_call 152
         go_must (
          refine (qdb a c _ hAZ).mono ?_
          rw [HTT.out]
          rintro e w5 ⟨rfl, k5⟩
          have u0 := k5.cell (p := ⟨B, 0, none⟩) s0 (fun h => h)
          have u1 := k5.cell (p := ⟨B, 1, none⟩) s1 (fun h => h)
          have D5 := Hj (D4.out.keeps k5)
          have HB5 := Hj (k5.heap HB4.out (fun h => h))
          have K5 := Hj (K4.out.trans k5 (fun _ _ h => h.elim))
          clear k5)))
   go_wp2_with fail
   go_meet
   exact ⟨rfl, HB5.out, D5.out, K5.out⟩
  case rest =>
   obtain ⟨rfl, hb5, d5, k5⟩ := hcut
   obtain ⟨w5, hw5⟩ : ∃ w5, wc = w5 := ⟨_, rfl⟩
   subst hw5
   have D5 := Hj d5; have HB5 := Hj hb5; have K5 := Hj k5
   clear d5 hb5 k5 g0 g1 d3c
   have hx0 : ((X : Int) != 0) = okX := HOK.out
   go_wp2_with fail
   refine (qbt base p v bs ((i + 1 + m2) + m4) D last s wc e4 e5 okX D5.out HE5.out).mono ?_
   rintro e w6 ⟨rfl, d6, k6⟩
   have hb6 := D5.out.other k6 HB5.out
   have HB6 := Hj hb6; have D6 := Hj d6; have K6 := Hj (K5.out.trans k6 (fun _ _ h => h))
   obtain ⟨c0, c1, c2, c3, c4, cf⟩ := d6.cells
   have cf0 := cf 0
   have hxor : bits BinOp.xor IntKind.u64 (last : Int) (X : Int) = ((last ^^^ X : Nat) : Int) := bits_xor_u64_nat last X hla hX
   clear hb6 d6 k6 cf hx0 c1 c2 c3
   obtain ⟨f1, f2⟩ := D6.out.setLast (e := last ^^^ X)
   have F1 := Hj f1; have F2 := Hj (K6.out.trans f2 (fun _ _ h => .inr h))
   obtain ⟨Y, hY⟩ : ∃ Y, Y = last ^^^ X := ⟨_, rfl⟩
   rw [← hY] at F1 F2 hxor
   have HY := Hj hY
   clear f1 f2 hY
   go_wp2_with fail
   go_ret
   exact ⟨Y, Y, s, rfl, fun h => ⟨HY.out, rfl, rfl⟩, F1.out, F2.out⟩
theorem dget_go1a (m2 y1 f1 n1 y2 f2 n2 Z T u e4 m4 X e5 : Nat) (okX : Bool) (h : DS w base p v bs i D last s 0) (hl : bs.length ≤ 1099511627776) (hi : i + 1 ≤ 8 * bs.length) (hr : readD 0 ((1 : Nat) : Int) ((qad bs).drop i) = (1, 0, 1)) (hr2 : readD 0 ((1 : Nat) : Int) ((qad bs).drop (i + 1)) = (1, 0, m2))
 (hi2 : i + 1 + m2 ≤ 8 * bs.length) (hr3 : readD 0 ((6 : Nat) : Int) ((qad bs).drop (i + 1 + m2)) = (y1, f1, n1)) (hy1 : y1 ≤ 63) (hi3 : i + 1 + m2 + n1 ≤ 8 * bs.length) (hr4 : readD f1 ((6 : Nat) : Int) ((qad bs).drop (i + 1 + m2 + n1)) = (y2, f2, n2)) (hy2 : y2 ≤ 63) (hZ : Z = y2 + 1)
 (he3 : checkE f2 (decide (y1 + (y2 + 1) ≤ 64)) = 0) (hyy : y1 + y2 ≤ 63) (hT : T = 63 - y1 - y2) (hiP : i + 1 + m2 + n1 + n2 ≤ 8 * bs.length) (hr5 : readD 0 ((Z : Nat) : Int) ((qad bs).drop (i + 1 + m2 + n1 + n2)) = (u, e4, m4)) (hla : last < 18446744073709551616) (hX : X < 18446744073709551616)
 (hshl : IntKind.u64.wrap ((u : Int) * 2 ^ T) = (X : Int)) (hok : ((X : Int) != 0) = okX) (he5 : checkE e4 okX = e5) (hne5 : e5 ≠ 0) :
 Calls Tryz.prog 101 #[.pointer (some ⟨D, 0, none⟩)] w (GetD base p v bs D last w X e5 (i + 1 + m2 + n1 + n2 + m4) (y1, T)) := by
 have HSHL := Hj hshl; have HOK := Hj hok; have HE5 := Hj he5
 clear hshl hok he5
 have hc := qar base p v bs i D last s w 0 1 1 0 1 h hl (by omega) hr
 have HC := Hj hc; have HR2 := Hj hr2
 obtain ⟨a, ha⟩ : ∃ a, a = s.1 := ⟨_, rfl⟩
 obtain ⟨c, hcc⟩ : ∃ c, c = 64 - s.1 - s.2 := ⟨_, rfl⟩
 have HA := Hj ha; have HCC := Hj hcc
 clear hc h hr hr2 ha hcc
 have HR3 := Hj hr3; have HR4 := Hj hr4; have HZ := Hj hZ; have HE3 := Hj he3; have HR5 := Hj hr5
 have htt : 64 - y1 - Z = T := by omega
 have HTT := Hj htt
 have hAZ : y1 + Z ≤ 64 := by omega
 have hat : Z = 64 - y1 - T := by omega
 have HAT := Hj hat
 clear hr3 hr4 hZ he3 hr5 htt hT hat
 go_enter Tryz.func101, Tryz.ntmps101
 go_wp2_with fail
 refine HC.out.mono ?_
 rintro e1 w1 ⟨rfl, d1, k1⟩
 obtain ⟨c0, c1, c2, c3, c4, cf⟩ := d1.cells
 rw [← HA.out] at c1
 rw [← HCC.out] at c2
 obtain ⟨B, hB⟩ : ∃ B, B = w1.heap.size := ⟨_, rfl⟩
 obtain ⟨wA, hwA⟩ : ∃ wA, wA = w1.alloc (.cells #[.int .i64 0, .int .i64 0] 187) := ⟨_, rfl⟩
 have kA : Keeps (fun _ => False) w1 wA := by rw [hwA]; exact (Keeps.refl _ w1).alloc _
 have hbA : wA.heap[B]? = some (.cells #[.int .i64 0, .int .i64 0] 187 (0, 0)) := by rw [hwA, hB]; exact heap_alloc_new w1 _
 have dA : DS wA.drew base p v bs (i + 1) D last s 0 := d1.keeps (kA.trans ((Keeps.refl (fun _ => False) wA).drew) (fun _ _ h => h))
 have hBw : w.heap.size ≤ B := by rw [hB]; exact k1.size
 have a1 := kA.cell c1 (fun h => h)
 have a2 := kA.cell c2 (fun h => h)
 have a4 := kA.cell c4 (fun h => h)
 have hc2 := Hj (qar base p v bs (i + 1) D last s wA.drew 0 1 1 0 m2 dA hl hi HR2.out)
 have d1d : DS w1.drew base p v bs (i + 1) D last s 0 := d1.keeps ((Keeps.refl (fun _ => False) w1).drew)
 have hc3 := Hj (qar base p v bs (i + 1) D last s w1.drew 0 1 1 0 m2 d1d hl hi HR2.out)
 have K1D := Hj (k1.drew)
 have hDl : D < w1.heap.size := (Array.getElem?_eq_some_iff.1 d1.dec).1
 have hn1 : ¬ w1.heap.size = D := by omega
 have hn2 : ¬ D = w1.heap.size := by omega
 have KA := Hj ((k1.trans kA (fun _ _ h => h.elim)).drew)
 have HBA : Hid (wA.drew.heap[B]? = some (.cells #[.int .i64 0, .int .i64 0] 187 (0, 0))) := Hj hbA
 have DA := Hj dA; have HWA := Hj hwA; have HB := Hj hB; have HBW := Hj hBw
 clear d1 d1d k1 cf c0 c3 kA hbA dA hwA hB hBw
 go_upto_region 3 with fail
 go_cut [3, 4] (fun t3 t4 wx => ∃ B, t3 = .pointer (some ⟨B, 0, none⟩) ∧ t4 = .bool true ∧ wx.heap[B]? = some (Obj.cells #[.int .i64 (a : Nat), .int .i64 (c : Nat)] 187 (0, 0)) ∧ w.heap.size ≤ B ∧ DS wx base p v bs (i + 1 + m2) D last s 0 ∧ Keeps (fun k => k = p ∨ k = D) w wx)
 case first =>
  go_region_held3 (fun w' => w'.cell? ⟨D, 1, none⟩ = some (.int .i64 (a : Nat)) ∧ w'.cell? ⟨D, 2, none⟩ = some (.int .i64 (c : Nat))) (go_keep)
   ((go_at_call 100
     first
      | (rw [← HWA.out]
         refine hc2.out.mono ?_
         rintro e2 w2 ⟨rfl, d2, k2⟩
         obtain ⟨-, s1, s2, -, -, -⟩ := d2.cells
         rw [← HA.out] at s1
         rw [← HCC.out] at s2
         have hb2 := DA.out.other k2 HBA.out
         have t0 : w2.cell? ⟨w1.heap.size, 0, none⟩ = some (.int .i64 0) := by (rw [← HB.out, cell_of_row _ _ _ _ _ _ hb2]; rfl)
         have t1 : w2.cell? ⟨w1.heap.size, 1, none⟩ = some (.int .i64 0) := by (rw [← HB.out, cell_of_row _ _ _ _ _ _ hb2]; rfl)
         have f0 : w2.frozen? ⟨w1.heap.size, 0, none⟩ = false := by (rw [← HB.out]; exact frozen_of_row _ _ _ _ _ hb2)
         have f1 : w2.frozen? ⟨w1.heap.size, 1, none⟩ = false := by (rw [← HB.out]; exact frozen_of_row _ _ _ _ _ hb2)
         have HB2 := Hj hb2
         have D2 := Hj d2
         have K2 := Hj (KA.out.trans k2 (fun _ _ h => h))
         clear hb2 d2 k2)
      | (refine hc3.out.mono ?_
         rintro e2 w2 ⟨rfl, d2, k2⟩
         obtain ⟨-, s1, s2, -, -, -⟩ := d2.cells
         have hDl2 : D < w2.heap.size := (Array.getElem?_eq_some_iff.1 d2.dec).1
         have hn3 : ¬ w2.heap.size = D := by omega
         have hn4 : ¬ D = w2.heap.size := by omega
         rw [← HA.out] at s1
         rw [← HCC.out] at s2
         have D2 := Hj d2
         have K2 := Hj (K1D.out.trans k2 (fun _ _ h => h))
         clear d2 k2)))
  · go_wp2_with fail
    go_meet
    exact ⟨_, rfl, rfl, heap_alloc_new w2 _, K2.out.size, D2.out.keeps ((Keeps.refl _ w2).alloc _), K2.out.alloc _⟩
  · go_wp2_with fail
    go_meet
    obtain ⟨q1, q2, q3⟩ := setTwo D2.out HB2.out (a := a) (c := c)
    rw [← HB.out]
    exact ⟨_, rfl, rfl, q1, HBW.out, q2, K2.out.trans q3 (fun k hk e => by have := HBW.out; omega)⟩
 case rest =>
  obtain ⟨B, rfl, rfl, hB, hBw, dW, kW⟩ := hcut
  obtain ⟨wB, hwB⟩ : ∃ wB, wc = wB := ⟨_, rfl⟩
  subst hwB
  have HB := Hj hB; have DW := Hj dW; have KW := Hj kW
  have g0 : wc.cell? ⟨B, 0, none⟩ = some (.int .i64 (a : Nat)) := by rw [cell_of_row _ _ _ _ _ _ hB]; rfl
  have g1 : wc.cell? ⟨B, 1, none⟩ = some (.int .i64 (c : Nat)) := by rw [cell_of_row _ _ _ _ _ _ hB]; rfl
  have z0 := frozen_of_row wc B 0 _ _ hB
  have z1 := frozen_of_row wc B 1 _ _ hB
  clear hB dW kW
  go_wp2_with fail
  refine (fresh_gen base p v bs (i + 1 + m2) D last s wc 0 y1 f1 n1 y2 f2 n2 0 DW.out hl hi2 HR3.out hy1 hi3 HR4.out hy2 HE3.out).mono ?_
  rw [← HZ.out]
  rintro e w2 ⟨rfl, d2, k2⟩
  have hb2 := DW.out.other k2 HB.out
  have K2 := Hj (KW.out.trans k2 (fun _ _ h => h))
  have q0 : w2.cell? ⟨B, 0, none⟩ = some (.int .i64 (a : Nat)) := by rw [cell_of_row _ _ _ _ _ _ hb2]; rfl
  have q1 : w2.cell? ⟨B, 1, none⟩ = some (.int .i64 (c : Nat)) := by rw [cell_of_row _ _ _ _ _ _ hb2]; rfl
  have y0' := frozen_of_row w2 B 0 _ _ hb2
  have y1' := frozen_of_row w2 B 1 _ _ hb2
  obtain ⟨hb3, d3, k3⟩ := setTwo d2 hb2 (a := y1) (c := Z)
  obtain ⟨w3, hw3⟩ : ∃ w3, w3 = (w2.setCell ⟨B, 0, none⟩ (.int .i64 (y1 : Nat))).setCell ⟨B, 1, none⟩ (.int .i64 (Z : Nat)) := ⟨_, rfl⟩
  rw [← hw3] at hb3 d3 k3
  have d3c := d3.cells.2.2.2.2.1
  have D3 := Hj d3; have HB3 := Hj hb3
  have K3 := Hj (K2.out.trans k3 (fun k hk e => by omega))
  have HW3 := Hj hw3
  clear d2 k2 hb2 d3 k3 hb3 hw3 g0 g1 z0 z1
  go_upto_region 7 with fail
  rw [← HW3.out]
  clear q0 q1 y0' y1'
  have g0 : w3.cell? ⟨B, 0, none⟩ = some (.int .i64 (y1 : Nat)) := by rw [cell_of_row _ _ _ _ _ _ HB3.out]; rfl
  have g1 : w3.cell? ⟨B, 1, none⟩ = some (.int .i64 (Z : Nat)) := by rw [cell_of_row _ _ _ _ _ _ HB3.out]; rfl
  have D3d : Hid (DS w3.drew base p v bs (i + 1 + m2 + n1 + n2) D last s 0) := Hj (D3.out.keeps ((Keeps.refl (fun _ => False) w3).drew))
  have HB3d : Hid (w3.drew.heap[B]? = some (.cells #[.int .i64 (y1 : Nat), .int .i64 (Z : Nat)] 187 (0, 0))) := Hj HB3.out
  have hr5d := Hj (qar base p v bs (i + 1 + m2 + n1 + n2) D last s w3.drew 0 Z u e4 m4 D3d.out hl hiP HR5.out)
  go_upto_region 9 with fail
  go_cut [5] (fun t5 wx => t5 = .int .u64 (X : Nat) ∧ wx.heap[B]? = some (Obj.cells #[.int .i64 (y1 : Nat), .int .i64 (Z : Nat)] 187 (0, 0)) ∧ DS wx base p v bs ((i + 1 + m2 + n1 + n2) + m4) D last s e4 ∧ Keeps (fun k => k = p ∨ k = D) w wx)
  case first =>
   have hshl : IntKind.u64.wrap ((u : Int) * 2 ^ (min T 64)) = (X : Int) := by rw [Nat.min_eq_left (by have := HTT.out; omega)]; exact HSHL.out
   go_region_held3 (fun w' => w'.cell? ⟨B, 0, none⟩ = some (.int .i64 (y1 : Nat)) ∧ w'.cell? ⟨B, 1, none⟩ = some (.int .i64 (Z : Nat))) (go_keep)
    (first
      | (go_at_call 100
         go_must (
          refine hr5d.out.mono ?_
          rintro e w4 ⟨rfl, d4, k4⟩
          have hb4 := D3d.out.other k4 HB3d.out
          have s0 : w4.cell? ⟨B, 0, none⟩ = some (.int .i64 (y1 : Nat)) := by (rw [cell_of_row _ _ _ _ _ _ hb4]; rfl)
          have s1 : w4.cell? ⟨B, 1, none⟩ = some (.int .i64 (Z : Nat)) := by (rw [cell_of_row _ _ _ _ _ _ hb4]; rfl)
          have D4 := Hj d4
          have HB4 := Hj hb4
          have K4 := Hj (K3.out.drew.trans k4 (fun _ _ h => h))
          clear d4 hb4 k4))
      | (go_at_call 152
         go_must (
          refine (qdb y1 Z _ hAZ).mono ?_
          rw [HTT.out]
          rintro e w5 ⟨rfl, k5⟩
          have u0 := k5.cell (p := ⟨B, 0, none⟩) s0 (fun h => h)
          have u1 := k5.cell (p := ⟨B, 1, none⟩) s1 (fun h => h)
          have D5 := Hj (D4.out.keeps k5)
          have HB5 := Hj (k5.heap HB4.out (fun h => h))
          have K5 := Hj (K4.out.trans k5 (fun _ _ h => h.elim))
          clear k5)))
   go_wp2_with fail
   go_meet
   exact ⟨rfl, HB5.out, D5.out, K5.out⟩
  case rest =>
   obtain ⟨rfl, hb5, d5, k5⟩ := hcut
   obtain ⟨w5, hw5⟩ : ∃ w5, wc = w5 := ⟨_, rfl⟩
   subst hw5
   have D5 := Hj d5; have HB5 := Hj hb5; have K5 := Hj k5
   clear d5 hb5 k5 g0 g1 d3c
   have hx0 : ((X : Int) != 0) = okX := HOK.out
   go_wp2_with fail
   refine (qbt base p v bs ((i + 1 + m2 + n1 + n2) + m4) D last s wc e4 e5 okX D5.out HE5.out).mono ?_
   rintro e w6 ⟨rfl, d6, k6⟩
   have hb6 := D5.out.other k6 HB5.out
   have HB6 := Hj hb6; have D6 := Hj d6; have K6 := Hj (K5.out.trans k6 (fun _ _ h => h))
   obtain ⟨c0, c1, c2, c3, c4, cf⟩ := d6.cells
   have cf0 := cf 0
   have hxor : bits BinOp.xor IntKind.u64 (last : Int) (X : Int) = ((last ^^^ X : Nat) : Int) := bits_xor_u64_nat last X hla hX
   clear hb6 d6 k6 cf hx0 c1 c2 c3
   have ee1 : ((e5 : Int) == 0) = false := by simp; omega
   have ee2 : (e5 : Int) ≠ 0 := by omega
   obtain ⟨f1, f2⟩ := D6.out.setLast (e := last ^^^ X)
   have F1 := Hj f1; have F2 := Hj (K6.out.trans f2 (fun _ _ h => .inr h))
   obtain ⟨Y, hY⟩ : ∃ Y, Y = last ^^^ X := ⟨_, rfl⟩
   rw [← hY] at F1 F2 hxor
   have HY := Hj hY
   clear f1 f2 hY
   go_wp2_with fail
   go_ret
   exact ⟨Y, Y, s, rfl, fun h => ⟨HY.out, rfl, absurd h hne5⟩, F1.out, F2.out⟩
theorem dget_go1b (m2 y1 f1 n1 y2 f2 n2 Z T u e4 m4 X e6 : Nat) (okX : Bool) (h : DS w base p v bs i D last s 0) (hl : bs.length ≤ 1099511627776) (hi : i + 1 ≤ 8 * bs.length) (hr : readD 0 ((1 : Nat) : Int) ((qad bs).drop i) = (1, 0, 1)) (hr2 : readD 0 ((1 : Nat) : Int) ((qad bs).drop (i + 1)) = (1, 0, m2))
 (hi2 : i + 1 + m2 ≤ 8 * bs.length) (hr3 : readD 0 ((6 : Nat) : Int) ((qad bs).drop (i + 1 + m2)) = (y1, f1, n1)) (hy1 : y1 ≤ 63) (hi3 : i + 1 + m2 + n1 ≤ 8 * bs.length) (hr4 : readD f1 ((6 : Nat) : Int) ((qad bs).drop (i + 1 + m2 + n1)) = (y2, f2, n2)) (hy2 : y2 ≤ 63) (hZ : Z = y2 + 1)
 (he3 : checkE f2 (decide (y1 + (y2 + 1) ≤ 64)) = 0) (hyy : y1 + y2 ≤ 63) (hT : T = 63 - y1 - y2) (hiP : i + 1 + m2 + n1 + n2 ≤ 8 * bs.length) (hr5 : readD 0 ((Z : Nat) : Int) ((qad bs).drop (i + 1 + m2 + n1 + n2)) = (u, e4, m4)) (hla : last < 18446744073709551616) (hX : X < 18446744073709551616)
 (hshl : IntKind.u64.wrap ((u : Int) * 2 ^ T) = (X : Int)) (hok : ((X : Int) != 0) = okX) (he5 : checkE e4 okX = 0) (hX0 : X ≠ 0) (hTZ : TabZ w) (hbp : 2 < base) (hbD : 2 < D) (how : okWin s)
 (hcase : (y1 = lz X ∧ T = tz X ∧ fitsX s X = false ∧ checkE 0 true = e6) ∨ (y1 = lz X ∧ T = tz X ∧ fitsX s X = true ∧ checkE 0 false = e6) ∨ (¬ (y1 = lz X ∧ Z = 64 - lz X - tz X) ∧ checkE 0 false = e6)) :
 Calls Tryz.prog 101 #[.pointer (some ⟨D, 0, none⟩)] w (GetD base p v bs D last w X e6 (i + 1 + m2 + n1 + n2 + m4) (y1, T)) := by
 have HSHL := Hj hshl; have HOK := Hj hok; have HE5 := Hj he5; have HX0 := Hj hX0; have HTZ := Hj hTZ; have HCASE := Hj hcase; have HOW := Hj how
 have hbp' : 2 < p := Nat.lt_of_lt_of_le hbp h.rd.base
 obtain ⟨e5, hee5⟩ : ∃ e5 : Nat, e5 = 0 := ⟨_, rfl⟩
 clear hshl hok he5 hX0 hTZ hcase how hee5
 have hc := qar base p v bs i D last s w 0 1 1 0 1 h hl (by omega) hr
 have HC := Hj hc; have HR2 := Hj hr2
 obtain ⟨a, ha⟩ : ∃ a, a = s.1 := ⟨_, rfl⟩
 obtain ⟨c, hcc⟩ : ∃ c, c = 64 - s.1 - s.2 := ⟨_, rfl⟩
 have HA := Hj ha; have HCC := Hj hcc
 clear hc h hr hr2 ha hcc
 have HR3 := Hj hr3; have HR4 := Hj hr4; have HZ := Hj hZ; have HE3 := Hj he3; have HR5 := Hj hr5
 have htt : 64 - y1 - Z = T := by omega
 have HTT := Hj htt
 have hAZ : y1 + Z ≤ 64 := by omega
 have hat : Z = 64 - y1 - T := by omega
 have HAT := Hj hat
 clear hr3 hr4 hZ he3 hr5 htt hT hat
 go_enter Tryz.func101, Tryz.ntmps101
 go_wp2_with fail
 refine HC.out.mono ?_
 rintro e1 w1 ⟨rfl, d1, k1⟩
 obtain ⟨c0, c1, c2, c3, c4, cf⟩ := d1.cells
 rw [← HA.out] at c1
 rw [← HCC.out] at c2
 obtain ⟨B, hB⟩ : ∃ B, B = w1.heap.size := ⟨_, rfl⟩
 obtain ⟨wA, hwA⟩ : ∃ wA, wA = w1.alloc (.cells #[.int .i64 0, .int .i64 0] 187) := ⟨_, rfl⟩
 have kA : Keeps (fun _ => False) w1 wA := by rw [hwA]; exact (Keeps.refl _ w1).alloc _
 have hbA : wA.heap[B]? = some (.cells #[.int .i64 0, .int .i64 0] 187 (0, 0)) := by rw [hwA, hB]; exact heap_alloc_new w1 _
 have dA : DS wA.drew base p v bs (i + 1) D last s 0 := d1.keeps (kA.trans ((Keeps.refl (fun _ => False) wA).drew) (fun _ _ h => h))
 have hBw : w.heap.size ≤ B := by rw [hB]; exact k1.size
 have a1 := kA.cell c1 (fun h => h)
 have a2 := kA.cell c2 (fun h => h)
 have a4 := kA.cell c4 (fun h => h)
 have hc2 := Hj (qar base p v bs (i + 1) D last s wA.drew 0 1 1 0 m2 dA hl hi HR2.out)
 have d1d : DS w1.drew base p v bs (i + 1) D last s 0 := d1.keeps ((Keeps.refl (fun _ => False) w1).drew)
 have hc3 := Hj (qar base p v bs (i + 1) D last s w1.drew 0 1 1 0 m2 d1d hl hi HR2.out)
 have K1D := Hj (k1.drew)
 have hDl : D < w1.heap.size := (Array.getElem?_eq_some_iff.1 d1.dec).1
 have hn1 : ¬ w1.heap.size = D := by omega
 have hn2 : ¬ D = w1.heap.size := by omega
 have KA := Hj ((k1.trans kA (fun _ _ h => h.elim)).drew)
 have HBA : Hid (wA.drew.heap[B]? = some (.cells #[.int .i64 0, .int .i64 0] 187 (0, 0))) := Hj hbA
 have DA := Hj dA; have HWA := Hj hwA; have HB := Hj hB; have HBW := Hj hBw
 clear d1 d1d k1 cf c0 c3 kA hbA dA hwA hB hBw
 go_upto_region 3 with fail
 go_cut [3, 4] (fun t3 t4 wx => ∃ B, t3 = .pointer (some ⟨B, 0, none⟩) ∧ t4 = .bool true ∧ wx.heap[B]? = some (Obj.cells #[.int .i64 (a : Nat), .int .i64 (c : Nat)] 187 (0, 0)) ∧ w.heap.size ≤ B ∧ DS wx base p v bs (i + 1 + m2) D last s 0 ∧ Keeps (fun k => k = p ∨ k = D) w wx)
 case first =>
  go_region_held3 (fun w' => w'.cell? ⟨D, 1, none⟩ = some (.int .i64 (a : Nat)) ∧ w'.cell? ⟨D, 2, none⟩ = some (.int .i64 (c : Nat))) (go_keep)
   ((go_at_call 100
     first
      | (rw [← HWA.out]
         refine hc2.out.mono ?_
         rintro e2 w2 ⟨rfl, d2, k2⟩
         obtain ⟨-, s1, s2, -, -, -⟩ := d2.cells
         rw [← HA.out] at s1
         rw [← HCC.out] at s2
         have hb2 := DA.out.other k2 HBA.out
         have t0 : w2.cell? ⟨w1.heap.size, 0, none⟩ = some (.int .i64 0) := by (rw [← HB.out, cell_of_row _ _ _ _ _ _ hb2]; rfl)
         have t1 : w2.cell? ⟨w1.heap.size, 1, none⟩ = some (.int .i64 0) := by (rw [← HB.out, cell_of_row _ _ _ _ _ _ hb2]; rfl)
         have f0 : w2.frozen? ⟨w1.heap.size, 0, none⟩ = false := by (rw [← HB.out]; exact frozen_of_row _ _ _ _ _ hb2)
         have f1 : w2.frozen? ⟨w1.heap.size, 1, none⟩ = false := by (rw [← HB.out]; exact frozen_of_row _ _ _ _ _ hb2)
         have HB2 := Hj hb2
         have D2 := Hj d2
         have K2 := Hj (KA.out.trans k2 (fun _ _ h => h))
         clear hb2 d2 k2)
      | (refine hc3.out.mono ?_
         rintro e2 w2 ⟨rfl, d2, k2⟩
         obtain ⟨-, s1, s2, -, -, -⟩ := d2.cells
         have hDl2 : D < w2.heap.size := (Array.getElem?_eq_some_iff.1 d2.dec).1
         have hn3 : ¬ w2.heap.size = D := by omega
         have hn4 : ¬ D = w2.heap.size := by omega
         rw [← HA.out] at s1
         rw [← HCC.out] at s2
         have D2 := Hj d2
         have K2 := Hj (K1D.out.trans k2 (fun _ _ h => h))
         clear d2 k2)))
  · go_wp2_with fail
    go_meet
    exact ⟨_, rfl, rfl, heap_alloc_new w2 _, K2.out.size, D2.out.keeps ((Keeps.refl _ w2).alloc _), K2.out.alloc _⟩
  · go_wp2_with fail
    go_meet
    obtain ⟨q1, q2, q3⟩ := setTwo D2.out HB2.out (a := a) (c := c)
    rw [← HB.out]
    exact ⟨_, rfl, rfl, q1, HBW.out, q2, K2.out.trans q3 (fun k hk e => by have := HBW.out; omega)⟩
 case rest =>
  obtain ⟨B, rfl, rfl, hB, hBw, dW, kW⟩ := hcut
  obtain ⟨wB, hwB⟩ : ∃ wB, wc = wB := ⟨_, rfl⟩
  subst hwB
  have HB := Hj hB; have DW := Hj dW; have KW := Hj kW
  have g0 : wc.cell? ⟨B, 0, none⟩ = some (.int .i64 (a : Nat)) := by rw [cell_of_row _ _ _ _ _ _ hB]; rfl
  have g1 : wc.cell? ⟨B, 1, none⟩ = some (.int .i64 (c : Nat)) := by rw [cell_of_row _ _ _ _ _ _ hB]; rfl
  have z0 := frozen_of_row wc B 0 _ _ hB
  have z1 := frozen_of_row wc B 1 _ _ hB
  clear hB dW kW
  go_wp2_with fail
  refine (fresh_gen base p v bs (i + 1 + m2) D last s wc 0 y1 f1 n1 y2 f2 n2 0 DW.out hl hi2 HR3.out hy1 hi3 HR4.out hy2 HE3.out).mono ?_
  rw [← HZ.out]
  rintro e w2 ⟨rfl, d2, k2⟩
  have hb2 := DW.out.other k2 HB.out
  have K2 := Hj (KW.out.trans k2 (fun _ _ h => h))
  have q0 : w2.cell? ⟨B, 0, none⟩ = some (.int .i64 (a : Nat)) := by rw [cell_of_row _ _ _ _ _ _ hb2]; rfl
  have q1 : w2.cell? ⟨B, 1, none⟩ = some (.int .i64 (c : Nat)) := by rw [cell_of_row _ _ _ _ _ _ hb2]; rfl
  have y0' := frozen_of_row w2 B 0 _ _ hb2
  have y1' := frozen_of_row w2 B 1 _ _ hb2
  obtain ⟨hb3, d3, k3⟩ := setTwo d2 hb2 (a := y1) (c := Z)
  obtain ⟨w3, hw3⟩ : ∃ w3, w3 = (w2.setCell ⟨B, 0, none⟩ (.int .i64 (y1 : Nat))).setCell ⟨B, 1, none⟩ (.int .i64 (Z : Nat)) := ⟨_, rfl⟩
  rw [← hw3] at hb3 d3 k3
  have d3c := d3.cells.2.2.2.2.1
  have D3 := Hj d3; have HB3 := Hj hb3
  have K3 := Hj (K2.out.trans k3 (fun k hk e => by omega))
  have HW3 := Hj hw3
  clear d2 k2 hb2 d3 k3 hb3 hw3 g0 g1 z0 z1
  go_upto_region 7 with fail
  rw [← HW3.out]
  clear q0 q1 y0' y1'
  have g0 : w3.cell? ⟨B, 0, none⟩ = some (.int .i64 (y1 : Nat)) := by rw [cell_of_row _ _ _ _ _ _ HB3.out]; rfl
  have g1 : w3.cell? ⟨B, 1, none⟩ = some (.int .i64 (Z : Nat)) := by rw [cell_of_row _ _ _ _ _ _ HB3.out]; rfl
  have D3d : Hid (DS w3.drew base p v bs (i + 1 + m2 + n1 + n2) D last s 0) := Hj (D3.out.keeps ((Keeps.refl (fun _ => False) w3).drew))
  have HB3d : Hid (w3.drew.heap[B]? = some (.cells #[.int .i64 (y1 : Nat), .int .i64 (Z : Nat)] 187 (0, 0))) := Hj HB3.out
  have hr5d := Hj (qar base p v bs (i + 1 + m2 + n1 + n2) D last s w3.drew 0 Z u e4 m4 D3d.out hl hiP HR5.out)
  go_upto_region 9 with fail
  go_cut [5] (fun t5 wx => t5 = .int .u64 (X : Nat) ∧ wx.heap[B]? = some (Obj.cells #[.int .i64 (y1 : Nat), .int .i64 (Z : Nat)] 187 (0, 0)) ∧ DS wx base p v bs ((i + 1 + m2 + n1 + n2) + m4) D last s e4 ∧ Keeps (fun k => k = p ∨ k = D) w wx)
  case first =>
   have hshl : IntKind.u64.wrap ((u : Int) * 2 ^ (min T 64)) = (X : Int) := by rw [Nat.min_eq_left (by have := HTT.out; omega)]; exact HSHL.out
   go_region_held3 (fun w' => w'.cell? ⟨B, 0, none⟩ = some (.int .i64 (y1 : Nat)) ∧ w'.cell? ⟨B, 1, none⟩ = some (.int .i64 (Z : Nat))) (go_keep)
    (first
      | (go_at_call 100
         go_must (
          refine hr5d.out.mono ?_
          rintro e w4 ⟨rfl, d4, k4⟩
          have hb4 := D3d.out.other k4 HB3d.out
          have s0 : w4.cell? ⟨B, 0, none⟩ = some (.int .i64 (y1 : Nat)) := by (rw [cell_of_row _ _ _ _ _ _ hb4]; rfl)
          have s1 : w4.cell? ⟨B, 1, none⟩ = some (.int .i64 (Z : Nat)) := by (rw [cell_of_row _ _ _ _ _ _ hb4]; rfl)
          have D4 := Hj d4
          have HB4 := Hj hb4
          have K4 := Hj (K3.out.drew.trans k4 (fun _ _ h => h))
          clear d4 hb4 k4))
      | (go_at_call 152
         go_must (
          refine (qdb y1 Z _ hAZ).mono ?_
          rw [HTT.out]
          rintro e w5 ⟨rfl, k5⟩
          have u0 := k5.cell (p := ⟨B, 0, none⟩) s0 (fun h => h)
          have u1 := k5.cell (p := ⟨B, 1, none⟩) s1 (fun h => h)
          have D5 := Hj (D4.out.keeps k5)
          have HB5 := Hj (k5.heap HB4.out (fun h => h))
          have K5 := Hj (K4.out.trans k5 (fun _ _ h => h.elim))
          clear k5)))
   go_wp2_with fail
   go_meet
   exact ⟨rfl, HB5.out, D5.out, K5.out⟩
  case rest =>
   obtain ⟨rfl, hb5, d5, k5⟩ := hcut
   obtain ⟨w5, hw5⟩ : ∃ w5, wc = w5 := ⟨_, rfl⟩
   subst hw5
   have D5 := Hj d5; have HB5 := Hj hb5; have K5 := Hj k5
   clear d5 hb5 k5 g0 g1 d3c
   have hx0 : ((X : Int) != 0) = okX := HOK.out
   go_wp2_with fail
   refine (qbt base p v bs ((i + 1 + m2 + n1 + n2) + m4) D last s wc e4 0 okX D5.out HE5.out).mono ?_
   rintro e w6 ⟨rfl, d6, k6⟩
   have hb6 := D5.out.other k6 HB5.out
   have HB6 := Hj hb6; have D6 := Hj d6; have K6 := Hj (K5.out.trans k6 (fun _ _ h => h))
   obtain ⟨c0, c1, c2, c3, c4, cf⟩ := d6.cells
   have cf0 := cf 0
   have hxor : bits BinOp.xor IntKind.u64 (last : Int) (X : Int) = ((last ^^^ X : Nat) : Int) := bits_xor_u64_nat last X hla hX
   clear hb6 d6 k6 cf hx0 c1 c2 c3
   have hX0 : X ≠ 0 := HX0.out
   have hwin := fun w' (h : TabZ w') => qdi X w' hX hX0 h
   have HT6d := Hj ((HTZ.out.keeps K6.out (fun e => by omega)).keeps ((Keeps.refl (fun _ => False) w6).drew) (fun h => h))
   obtain ⟨L, hL⟩ : ∃ L, L = lz X := ⟨_, rfl⟩
   obtain ⟨N, hN⟩ : ∃ N, N = 64 - lz X - tz X := ⟨_, rfl⟩
   rw [← hN, ← hL] at hwin
   have HWIN := Hj hwin; have HL := Hj hL; have HN := Hj hN; have HX0' := Hj hX0
   have g0 : w6.cell? ⟨B, 0, none⟩ = some (.int .i64 (y1 : Nat)) := by rw [cell_of_row _ _ _ _ _ _ HB6.out]; rfl
   have g1 : w6.cell? ⟨B, 1, none⟩ = some (.int .i64 (Z : Nat)) := by rw [cell_of_row _ _ _ _ _ _ HB6.out]; rfl
   have HXOR := Hj hxor
   clear hwin hL hN hX0 c0 cf0 hxor
   have D6d : Hid (DS w6.drew base p v bs ((i + 1 + m2 + n1 + n2) + m4) D last s 0) := Hj (D6.out.keeps ((Keeps.refl (fun _ => False) w6).drew))
   obtain ⟨w6', hw6⟩ : ∃ w6', w6' = w6 := ⟨_, rfl⟩
   go_upto_region 12 with fail
   clear c4 hw6
   go_cut [] (fun wx => wx.heap[B]? = some (Obj.cells #[.int .i64 (y1 : Nat), .int .i64 (Z : Nat)] 187 (0, 0)) ∧ DS wx base p v bs ((i + 1 + m2 + n1 + n2) + m4) D last s e6 ∧ Keeps (fun k => k = p ∨ k = D) w wx)
   case first =>
    rcases HCASE.out with ⟨q1, q2, q3, q4⟩ | ⟨q1, q2, q3, q4⟩ | ⟨q1, q4⟩
    · have rA : y1 = L := by rw [HL.out, q1]
      have rN : Z = N := by rw [HN.out, ← q1, ← q2]; exact HAT.out
      have HQ3 := Hj q3; have HQ4 := Hj q4
      clear q1 q2 q3 q4 HL HN HCASE
      subst rA; subst rN
      go_region_held3 (fun w' => w'.cell? ⟨B, 0, none⟩ = some (.int .i64 (y1 : Nat)) ∧ w'.cell? ⟨B, 1, none⟩ = some (.int .i64 (Z : Nat))) (go_keep)
       (first
         | (go_at_call 153
            go_must (
             refine (HWIN.out _ HT6d.out).mono ?_
             rintro e w7 ⟨rfl, k7⟩
             have s0 := k7.cell (p := ⟨B, 0, none⟩) g0 (fun h => h)
             have s1 := k7.cell (p := ⟨B, 1, none⟩) g1 (fun h => h)
             have D7 := Hj (D6d.out.keeps k7)
             have HT7 := Hj (HT6d.out.keeps k7 (fun h => h))
             have K67 := Hj (((Keeps.refl (fun _ => False) w6).drew).trans k7 (fun _ _ h => h))
             clear k7))
         | (go_at_call 154
            go_must (
             refine (fits_any D X s _ hX HX0'.out HOW.out D7.out.cells.2.1 D7.out.cells.2.2.1 HT7.out).mono ?_
             rw [HQ3.out]
             rintro e w8 ⟨rfl, k8⟩
             have u0 := k8.cell (p := ⟨B, 0, none⟩) s0 (fun h => h)
             have u1 := k8.cell (p := ⟨B, 1, none⟩) s1 (fun h => h)
             have D8 := Hj (D7.out.keeps k8)
             have K68 := Hj (K67.out.trans k8 (fun _ _ h => h))
             clear k8))
         | (go_at_call 151
            go_must (
             refine (qbt base p v bs ((i + 1 + m2 + n1 + n2) + m4) D last s _ 0 e6 _ D8.out HQ4.out).mono ?_
             rintro e w9 ⟨rfl, d9, k9⟩
             have kk9 : Keeps (fun k => k = p ∨ k = D) w6 w9 := (K68.out.mono (fun _ _ h => h.elim)).trans k9 (fun _ _ h => h)
             have hb9 := D6.out.other kk9 HB6.out
             have v0 : w9.cell? ⟨B, 0, none⟩ = some (.int .i64 (y1 : Nat)) := by (rw [cell_of_row _ _ _ _ _ _ hb9]; rfl)
             have v1 : w9.cell? ⟨B, 1, none⟩ = some (.int .i64 (Z : Nat)) := by (rw [cell_of_row _ _ _ _ _ _ hb9]; rfl)
             have D9 := Hj d9
             have HB9 := Hj hb9
             have K9 := Hj (K6.out.trans kk9 (fun _ _ h => h))
             clear d9 hb9 k9 kk9)))
      go_wp2_with fail
      go_meet
      exact ⟨HB9.out, D9.out, K9.out⟩
    · have rA : y1 = L := by rw [HL.out, q1]
      have rN : Z = N := by rw [HN.out, ← q1, ← q2]; exact HAT.out
      have HQ3 := Hj q3; have HQ4 := Hj q4
      clear q1 q2 q3 q4 HL HN HCASE
      subst rA; subst rN
      go_region_held3 (fun w' => w'.cell? ⟨B, 0, none⟩ = some (.int .i64 (y1 : Nat)) ∧ w'.cell? ⟨B, 1, none⟩ = some (.int .i64 (Z : Nat))) (go_keep)
       (first
         | (go_at_call 153
            go_must (
             refine (HWIN.out _ HT6d.out).mono ?_
             rintro e w7 ⟨rfl, k7⟩
             have s0 := k7.cell (p := ⟨B, 0, none⟩) g0 (fun h => h)
             have s1 := k7.cell (p := ⟨B, 1, none⟩) g1 (fun h => h)
             have D7 := Hj (D6d.out.keeps k7)
             have HT7 := Hj (HT6d.out.keeps k7 (fun h => h))
             have K67 := Hj (((Keeps.refl (fun _ => False) w6).drew).trans k7 (fun _ _ h => h))
             clear k7))
         | (go_at_call 154
            go_must (
             refine (fits_any D X s _ hX HX0'.out HOW.out D7.out.cells.2.1 D7.out.cells.2.2.1 HT7.out).mono ?_
             rw [HQ3.out]
             rintro e w8 ⟨rfl, k8⟩
             have u0 := k8.cell (p := ⟨B, 0, none⟩) s0 (fun h => h)
             have u1 := k8.cell (p := ⟨B, 1, none⟩) s1 (fun h => h)
             have D8 := Hj (D7.out.keeps k8)
             have K68 := Hj (K67.out.trans k8 (fun _ _ h => h))
             clear k8))
         | (go_at_call 151
            go_must (
             refine (qbt base p v bs ((i + 1 + m2 + n1 + n2) + m4) D last s _ 0 e6 _ D8.out HQ4.out).mono ?_
             rintro e w9 ⟨rfl, d9, k9⟩
             have kk9 : Keeps (fun k => k = p ∨ k = D) w6 w9 := (K68.out.mono (fun _ _ h => h.elim)).trans k9 (fun _ _ h => h)
             have hb9 := D6.out.other kk9 HB6.out
             have v0 : w9.cell? ⟨B, 0, none⟩ = some (.int .i64 (y1 : Nat)) := by (rw [cell_of_row _ _ _ _ _ _ hb9]; rfl)
             have v1 : w9.cell? ⟨B, 1, none⟩ = some (.int .i64 (Z : Nat)) := by (rw [cell_of_row _ _ _ _ _ _ hb9]; rfl)
             have D9 := Hj d9
             have HB9 := Hj hb9
             have K9 := Hj (K6.out.trans kk9 (fun _ _ h => h))
             clear d9 hb9 k9 kk9)))
      go_wp2_with fail
      go_meet
      exact ⟨HB9.out, D9.out, K9.out⟩
    · have hne : (y1 = L ∧ Z = N) → False := fun h => q1 (by rw [← HN.out, ← HL.out]; exact h)
      have HQ4 := Hj q4
      clear q1 q4 HCASE
      by_cases hA : y1 = L
      · have h1 : ((Z : Int) == (N : Int)) = false := beq_eq_false_iff_ne.2 (fun e => hne ⟨hA, by omega⟩)
        have h2 : ¬ (Z : Int) = (N : Int) := fun e => hne ⟨hA, by omega⟩
        have h3 : ¬ Z = N := fun e => hne ⟨hA, e⟩
        have h4 : (Z == N) = false := beq_eq_false_iff_ne.2 h3
        have h5 : decide (Z = N) = false := decide_eq_false h3
        have h6 : decide ((Z : Int) = (N : Int)) = false := decide_eq_false h2
        clear hne HL HN
        subst hA
        refine wp_region_held_drew (S := fun w' => w'.cell? ⟨B, 0, none⟩ = some (.int .i64 (y1 : Nat)) ∧ w'.cell? ⟨B, 1, none⟩ = some (.int .i64 (Z : Nat))) (by kernel_rfl) ⟨g0, g1⟩ (fun hHeld => ?_)
        refine wpAnyH_take (i := 0) (oi := { dst := some 54, op := Op.move (Operand.tmp 0), type := 185, pos := "xorval.go:146", after := #[], guard := none }) (v := ?_) rfl (by kernel_rfl) (by kernel_rfl) (by kernel_rfl) (fun _ _ _ h => h) (Or.inl ⟨by rfl, ?_⟩) (by assumption) ?_
        rotate_left
        · intro w hSw
          try dsimp only at hSw
          obtain ⟨hSa, hSb⟩ := hSw
          go_simp
          first | done | (with_reducible rfl)
        try simp only [Act.put, List.setIfInBounds_toArray, List.set_cons_zero, List.set_cons_succ]
        refine wpAnyH_take (i := 1) (oi := { dst := some 55, op := Op.load 187 (Operand.tmp 3), type := 187, pos := "xorval.go:146", after := #[], guard := none }) (v := ?_) rfl (by kernel_rfl) (by kernel_rfl) (by kernel_rfl) (fun _ _ _ h => h) (Or.inl ⟨by rfl, ?_⟩) (by assumption) ?_
        rotate_left
        · intro w hSw
          try dsimp only at hSw
          obtain ⟨hSa, hSb⟩ := hSw
          go_simp
          first | done | (with_reducible rfl)
        try simp only [Act.put, List.setIfInBounds_toArray, List.set_cons_zero, List.set_cons_succ]
        refine wpAnyH_take (i := 2) (oi := { dst := some 56, op := Op.move (Operand.tmp 5), type := 23, pos := "xorval.go:146", after := #[], guard := none }) (v := ?_) rfl (by kernel_rfl) (by kernel_rfl) (by kernel_rfl) (fun _ _ _ h => h) (Or.inl ⟨by rfl, ?_⟩) (by assumption) ?_
        rotate_left
        · intro w hSw
          try dsimp only at hSw
          obtain ⟨hSa, hSb⟩ := hSw
          go_simp
          first | done | (with_reducible rfl)
        try simp only [Act.put, List.setIfInBounds_toArray, List.set_cons_zero, List.set_cons_succ]
        refine wpAnyH_ready (rs := [3]) (by kernel_rfl) (by simp) ?_
        refine AllReadyH.cons (o := { dst := some 57, op := Op.call { callee := Callee.value (Operand.func 153), args := #[Operand.tmp 56], argTypes := #[23] }, type := 187, pos := "xorval.go:146", after := #[{ on := 2, ground := Ground.data }], guard := none }) rfl (fun K hK => ?_) AllReadyH.nil
        go_simp
        refine (HWIN.out _ HT6d.out).mono ?_
        rintro e w7 ⟨rfl, k7⟩
        have s0 := k7.cell (p := ⟨B, 0, none⟩) g0 (fun h => h)
        have s1 := k7.cell (p := ⟨B, 1, none⟩) g1 (fun h => h)
        have D7 := Hj (D6d.out.keeps k7)
        have K67 := Hj (((Keeps.refl (fun _ => False) w6).drew).trans k7 (fun _ _ h => h))
        clear k7 hHeld
        refine hK.out _ _ ⟨s0, s1⟩ (fun hHeld => ?_)
        clear hK K
        try simp only [Act.put, List.setIfInBounds_toArray, List.set_cons_zero, List.set_cons_succ]
        refine wpAnyH_take (i := 4) (oi := { dst := some 58, op := Op.binOp BinOp.eql 187 (Operand.tmp 55) (Operand.tmp 57) 187, type := 4, pos := "xorval.go:146", after := #[{ on := 1, ground := Ground.data }, { on := 3, ground := Ground.data }], guard := none }) (v := ?_) rfl (by kernel_rfl) (by kernel_rfl) (by kernel_rfl) (fun _ _ _ h => h) (Or.inl ⟨by rfl, ?_⟩) (by assumption) ?_
        rotate_left
        · intro w hSw
          try dsimp only at hSw
          obtain ⟨hSa, hSb⟩ := hSw
          go_simp
          first | done | (with_reducible rfl)
        try simp only [Act.put, List.setIfInBounds_toArray, List.set_cons_zero, List.set_cons_succ]
        refine wpAnyH_take (i := 5) (oi := { dst := some 59, op := Op.move (Operand.tmp 58), type := 4, pos := "xorval.go:146", after := #[{ on := 4, ground := Ground.data }, { on := 3, ground := Ground.chain }], guard := none }) (v := ?_) rfl (by kernel_rfl) (by kernel_rfl) (by kernel_rfl) (fun _ _ _ h => h) (Or.inl ⟨by rfl, ?_⟩) (by assumption) ?_
        rotate_left
        · intro w hSw
          try dsimp only at hSw
          obtain ⟨hSa, hSb⟩ := hSw
          go_simp
          first | done | (with_reducible rfl)
        try simp only [Act.put, List.setIfInBounds_toArray, List.set_cons_zero, List.set_cons_succ]
        refine wpAnyH_take (i := 6) (v := undef) rfl (by kernel_rfl) (by kernel_rfl) (by kernel_rfl) (fun _ _ _ h => h) (Or.inr ⟨by rfl, rfl⟩) (by assumption) ?_
        try simp only [Act.put]
        refine wpAnyH_take (i := 7) (v := undef) rfl (by kernel_rfl) (by kernel_rfl) (by kernel_rfl) (fun _ _ _ h => h) (Or.inr ⟨by rfl, rfl⟩) (by assumption) ?_
        try simp only [Act.put]
        refine wpAnyH_take (i := 8) (v := undef) rfl (by kernel_rfl) (by kernel_rfl) (by kernel_rfl) (fun _ _ _ h => h) (Or.inr ⟨by rfl, rfl⟩) (by assumption) ?_
        try simp only [Act.put]
        refine wpAnyH_take (i := 9) (v := undef) rfl (by kernel_rfl) (by kernel_rfl) (by kernel_rfl) (fun _ _ _ h => h) (Or.inr ⟨by rfl, rfl⟩) (by assumption) ?_
        try simp only [Act.put]
        refine wpAnyH_take (i := 10) (v := undef) rfl (by kernel_rfl) (by kernel_rfl) (by kernel_rfl) (fun _ _ _ h => h) (Or.inr ⟨by rfl, rfl⟩) (by assumption) ?_
        try simp only [Act.put]
        refine wpAnyH_take (i := 11) (v := undef) rfl (by kernel_rfl) (by kernel_rfl) (by kernel_rfl) (fun _ _ _ h => h) (Or.inr ⟨by rfl, rfl⟩) (by assumption) ?_
        try simp only [Act.put]
        refine wpAnyH_take (i := 12) (oi := { dst := some 66, op := Op.pick (Operand.tmp 59) (Operand.tmp 65) (Operand.const (Value.bool false)), type := 4, pos := "xorval.go:146", after := #[{ on := 5, ground := Ground.data }, { on := 11, ground := Ground.data }], guard := none }) (v := ?_) rfl (by kernel_rfl) (by kernel_rfl) (by kernel_rfl) (fun _ _ _ h => h) (Or.inl ⟨by rfl, ?_⟩) (by assumption) ?_
        rotate_left
        · intro w hSw
          try dsimp only at hSw
          obtain ⟨hSa, hSb⟩ := hSw
          go_simp
          first | done | (with_reducible rfl)
        try simp only [Act.put, List.setIfInBounds_toArray]
        refine wpAnyH_ready (rs := [13]) (by kernel_rfl) (by simp) ?_
        refine AllReadyH.cons (o := { dst := some 67, op := Op.call { callee := Callee.value (Operand.func 151), args := #[Operand.tmp 54, Operand.tmp 66], argTypes := #[185, 4] }, type := 0, pos := "xorval.go:146", after := #[{ on := 0, ground := Ground.data }, { on := 12, ground := Ground.data }, { on := 10, ground := Ground.chain }], guard := none }) rfl (fun K hK => ?_) AllReadyH.nil
        go_simp
        refine (qbt base p v bs ((i + 1 + m2 + n1 + n2) + m4) D last s _ 0 e6 _ D7.out HQ4.out).mono ?_
        rintro e w9 ⟨rfl, d9, k9⟩
        have kk9 : Keeps (fun k => k = p ∨ k = D) w6 w9 := (K67.out.mono (fun _ _ h => h.elim)).trans k9 (fun _ _ h => h)
        have hb9 := D6.out.other kk9 HB6.out
        have v0 : w9.cell? ⟨B, 0, none⟩ = some (.int .i64 (y1 : Nat)) := by (rw [cell_of_row _ _ _ _ _ _ hb9]; rfl)
        have v1 : w9.cell? ⟨B, 1, none⟩ = some (.int .i64 (Z : Nat)) := by (rw [cell_of_row _ _ _ _ _ _ hb9]; rfl)
        have D9 := Hj d9
        have HB9 := Hj hb9
        have K9 := Hj (K6.out.trans kk9 (fun _ _ h => h))
        clear d9 hb9 k9 kk9 hHeld
        refine hK.out _ _ ⟨v0, v1⟩ (fun hHeld => ?_)
        clear hK K
        try simp only [Act.put, List.setIfInBounds_toArray, List.set_cons_zero, List.set_cons_succ]
        refine wpAnyH_done (by kernel_rfl) ?_ _
        clear hHeld
        go_wp2_with fail
        go_meet
        exact ⟨HB9.out, D9.out, K9.out⟩
      · have h1 : ((y1 : Int) == (L : Int)) = false := beq_eq_false_iff_ne.2 (by omega)
        have h2 : ¬ (y1 : Int) = (L : Int) := by omega
        have h4 : (y1 == L) = false := beq_eq_false_iff_ne.2 hA
        have h5 : decide (y1 = L) = false := decide_eq_false hA
        have h6 : decide ((y1 : Int) = (L : Int)) = false := decide_eq_false h2
        clear hne HL HN
        refine wp_region_held_drew (S := fun w' => w'.cell? ⟨B, 0, none⟩ = some (.int .i64 (y1 : Nat)) ∧ w'.cell? ⟨B, 1, none⟩ = some (.int .i64 (Z : Nat))) (by kernel_rfl) ⟨g0, g1⟩ (fun hHeld => ?_)
        refine wpAnyH_take (i := 0) (oi := { dst := some 54, op := Op.move (Operand.tmp 0), type := 185, pos := "xorval.go:146", after := #[], guard := none }) (v := ?_) rfl (by kernel_rfl) (by kernel_rfl) (by kernel_rfl) (fun _ _ _ h => h) (Or.inl ⟨by rfl, ?_⟩) (by assumption) ?_
        rotate_left
        · intro w hSw
          try dsimp only at hSw
          obtain ⟨hSa, hSb⟩ := hSw
          go_simp
          first | done | (with_reducible rfl)
        try simp only [Act.put, List.setIfInBounds_toArray, List.set_cons_zero, List.set_cons_succ]
        refine wpAnyH_take (i := 1) (oi := { dst := some 55, op := Op.load 187 (Operand.tmp 3), type := 187, pos := "xorval.go:146", after := #[], guard := none }) (v := ?_) rfl (by kernel_rfl) (by kernel_rfl) (by kernel_rfl) (fun _ _ _ h => h) (Or.inl ⟨by rfl, ?_⟩) (by assumption) ?_
        rotate_left
        · intro w hSw
          try dsimp only at hSw
          obtain ⟨hSa, hSb⟩ := hSw
          go_simp
          first | done | (with_reducible rfl)
        try simp only [Act.put, List.setIfInBounds_toArray, List.set_cons_zero, List.set_cons_succ]
        refine wpAnyH_take (i := 2) (oi := { dst := some 56, op := Op.move (Operand.tmp 5), type := 23, pos := "xorval.go:146", after := #[], guard := none }) (v := ?_) rfl (by kernel_rfl) (by kernel_rfl) (by kernel_rfl) (fun _ _ _ h => h) (Or.inl ⟨by rfl, ?_⟩) (by assumption) ?_
        rotate_left
        · intro w hSw
          try dsimp only at hSw
          obtain ⟨hSa, hSb⟩ := hSw
          go_simp
          first | done | (with_reducible rfl)
        try simp only [Act.put, List.setIfInBounds_toArray, List.set_cons_zero, List.set_cons_succ]
        refine wpAnyH_ready (rs := [3]) (by kernel_rfl) (by simp) ?_
        refine AllReadyH.cons (o := { dst := some 57, op := Op.call { callee := Callee.value (Operand.func 153), args := #[Operand.tmp 56], argTypes := #[23] }, type := 187, pos := "xorval.go:146", after := #[{ on := 2, ground := Ground.data }], guard := none }) rfl (fun K hK => ?_) AllReadyH.nil
        go_simp
        refine (HWIN.out _ HT6d.out).mono ?_
        rintro e w7 ⟨rfl, k7⟩
        have s0 := k7.cell (p := ⟨B, 0, none⟩) g0 (fun h => h)
        have s1 := k7.cell (p := ⟨B, 1, none⟩) g1 (fun h => h)
        have D7 := Hj (D6d.out.keeps k7)
        have K67 := Hj (((Keeps.refl (fun _ => False) w6).drew).trans k7 (fun _ _ h => h))
        clear k7 hHeld
        refine hK.out _ _ ⟨s0, s1⟩ (fun hHeld => ?_)
        clear hK K
        try simp only [Act.put, List.setIfInBounds_toArray, List.set_cons_zero, List.set_cons_succ]
        refine wpAnyH_take (i := 4) (oi := { dst := some 58, op := Op.binOp BinOp.eql 187 (Operand.tmp 55) (Operand.tmp 57) 187, type := 4, pos := "xorval.go:146", after := #[{ on := 1, ground := Ground.data }, { on := 3, ground := Ground.data }], guard := none }) (v := ?_) rfl (by kernel_rfl) (by kernel_rfl) (by kernel_rfl) (fun _ _ _ h => h) (Or.inl ⟨by rfl, ?_⟩) (by assumption) ?_
        rotate_left
        · intro w hSw
          try dsimp only at hSw
          obtain ⟨hSa, hSb⟩ := hSw
          go_simp
          first | done | (with_reducible rfl)
        try simp only [Act.put, List.setIfInBounds_toArray, List.set_cons_zero, List.set_cons_succ]
        refine wpAnyH_take (i := 5) (oi := { dst := some 59, op := Op.move (Operand.tmp 58), type := 4, pos := "xorval.go:146", after := #[{ on := 4, ground := Ground.data }, { on := 3, ground := Ground.chain }], guard := none }) (v := ?_) rfl (by kernel_rfl) (by kernel_rfl) (by kernel_rfl) (fun _ _ _ h => h) (Or.inl ⟨by rfl, ?_⟩) (by assumption) ?_
        rotate_left
        · intro w hSw
          try dsimp only at hSw
          obtain ⟨hSa, hSb⟩ := hSw
          go_simp
          first | done | (with_reducible rfl)
        try simp only [Act.put, List.setIfInBounds_toArray, List.set_cons_zero, List.set_cons_succ]
        refine wpAnyH_take (i := 6) (v := undef) rfl (by kernel_rfl) (by kernel_rfl) (by kernel_rfl) (fun _ _ _ h => h) (Or.inr ⟨by rfl, rfl⟩) (by assumption) ?_
        try simp only [Act.put]
        refine wpAnyH_take (i := 7) (v := undef) rfl (by kernel_rfl) (by kernel_rfl) (by kernel_rfl) (fun _ _ _ h => h) (Or.inr ⟨by rfl, rfl⟩) (by assumption) ?_
        try simp only [Act.put]
        refine wpAnyH_take (i := 8) (v := undef) rfl (by kernel_rfl) (by kernel_rfl) (by kernel_rfl) (fun _ _ _ h => h) (Or.inr ⟨by rfl, rfl⟩) (by assumption) ?_
        try simp only [Act.put]
        refine wpAnyH_take (i := 9) (v := undef) rfl (by kernel_rfl) (by kernel_rfl) (by kernel_rfl) (fun _ _ _ h => h) (Or.inr ⟨by rfl, rfl⟩) (by assumption) ?_
        try simp only [Act.put]
        refine wpAnyH_take (i := 10) (v := undef) rfl (by kernel_rfl) (by kernel_rfl) (by kernel_rfl) (fun _ _ _ h => h) (Or.inr ⟨by rfl, rfl⟩) (by assumption) ?_
        try simp only [Act.put]
        refine wpAnyH_take (i := 11) (v := undef) rfl (by kernel_rfl) (by kernel_rfl) (by kernel_rfl) (fun _ _ _ h => h) (Or.inr ⟨by rfl, rfl⟩) (by assumption) ?_
        try simp only [Act.put]
        refine wpAnyH_take (i := 12) (oi := { dst := some 66, op := Op.pick (Operand.tmp 59) (Operand.tmp 65) (Operand.const (Value.bool false)), type := 4, pos := "xorval.go:146", after := #[{ on := 5, ground := Ground.data }, { on := 11, ground := Ground.data }], guard := none }) (v := ?_) rfl (by kernel_rfl) (by kernel_rfl) (by kernel_rfl) (fun _ _ _ h => h) (Or.inl ⟨by rfl, ?_⟩) (by assumption) ?_
        rotate_left
        · intro w hSw
          try dsimp only at hSw
          obtain ⟨hSa, hSb⟩ := hSw
          go_simp
          first | done | (with_reducible rfl)
        try simp only [Act.put, List.setIfInBounds_toArray]
        refine wpAnyH_ready (rs := [13]) (by kernel_rfl) (by simp) ?_
        refine AllReadyH.cons (o := { dst := some 67, op := Op.call { callee := Callee.value (Operand.func 151), args := #[Operand.tmp 54, Operand.tmp 66], argTypes := #[185, 4] }, type := 0, pos := "xorval.go:146", after := #[{ on := 0, ground := Ground.data }, { on := 12, ground := Ground.data }, { on := 10, ground := Ground.chain }], guard := none }) rfl (fun K hK => ?_) AllReadyH.nil
        go_simp
        refine (qbt base p v bs ((i + 1 + m2 + n1 + n2) + m4) D last s _ 0 e6 _ D7.out HQ4.out).mono ?_
        rintro e w9 ⟨rfl, d9, k9⟩
        have kk9 : Keeps (fun k => k = p ∨ k = D) w6 w9 := (K67.out.mono (fun _ _ h => h.elim)).trans k9 (fun _ _ h => h)
        have hb9 := D6.out.other kk9 HB6.out
        have v0 : w9.cell? ⟨B, 0, none⟩ = some (.int .i64 (y1 : Nat)) := by (rw [cell_of_row _ _ _ _ _ _ hb9]; rfl)
        have v1 : w9.cell? ⟨B, 1, none⟩ = some (.int .i64 (Z : Nat)) := by (rw [cell_of_row _ _ _ _ _ _ hb9]; rfl)
        have D9 := Hj d9
        have HB9 := Hj hb9
        have K9 := Hj (K6.out.trans kk9 (fun _ _ h => h))
        clear d9 hb9 k9 kk9 hHeld
        refine hK.out _ _ ⟨v0, v1⟩ (fun hHeld => ?_)
        clear hK K
        try simp only [Act.put, List.setIfInBounds_toArray, List.set_cons_zero, List.set_cons_succ]
        refine wpAnyH_done (by kernel_rfl) ?_ _
        clear hHeld
        go_wp2_with fail
        go_meet
        exact ⟨HB9.out, D9.out, K9.out⟩
   case rest =>
    obtain ⟨hb9, d9, k9⟩ := hcut
    obtain ⟨wk, hwk⟩ : ∃ wk, wc = wk := ⟨_, rfl⟩
    subst hwk
    obtain ⟨c0, c1, c2, c3, c4, cf⟩ := d9.cells
    have cf1 := cf 1
    have cf2 := cf 2
    have g0' : wc.cell? ⟨B, 0, none⟩ = some (.int .i64 (y1 : Nat)) := by rw [cell_of_row _ _ _ _ _ _ hb9]; rfl
    have g1' : wc.cell? ⟨B, 1, none⟩ = some (.int .i64 (Z : Nat)) := by rw [cell_of_row _ _ _ _ _ _ hb9]; rfl
    obtain ⟨n1, n2⟩ := d9.setWin (a := y1) (c := Z) (t := T) HAT.out
    obtain ⟨wE, hwE⟩ : ∃ wE, wE = (wc.setCell ⟨D, 1, none⟩ (.int .i64 (y1 : Nat))).setCell ⟨D, 2, none⟩ (.int .i64 (Z : Nat)) := ⟨_, rfl⟩
    rw [← hwE] at n1 n2
    have kE := k9.trans n2 (fun _ _ h => .inr h)
    have HNE := Hj n1; have HKE := Hj kE; have HWE := Hj hwE
    clear d9 k9 cf n2 kE hwE c0 c3 c4 hb9
    obtain ⟨b0, -, -, -, -, bf⟩ := n1.cells
    have bf0 := bf 0
    have hxor := HXOR.out
    obtain ⟨f1, f2⟩ := n1.setLast (e := last ^^^ X)
    have F1 := Hj f1; have F2 := Hj (HKE.out.trans f2 (fun _ _ h => .inr h))
    obtain ⟨Y, hY⟩ : ∃ Y, Y = last ^^^ X := ⟨_, rfl⟩
    rw [← hY] at F1 F2 hxor
    have HY := Hj hY
    clear f1 f2 hY bf n1 g0 g1
    go_upto_region 14 with fail
    rw [← HWE.out]
    clear c1 c2 cf1 cf2 g0' g1'
    go_wp2_with fail
    go_ret
    exact ⟨Y, Y, (y1, T), rfl, fun h => ⟨HY.out, rfl, rfl⟩, F1.out, F2.out⟩
end
end
end Go.Proofs.YtfpcgcbehdogjaaGreatDoor
