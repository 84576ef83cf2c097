/-
  WALKS: runval.Get.
-/
import Derived.Test.YtdniaingipoggaaWRunE
import Derived.WalkSpells
import Derived.WalkLawsBesides
import Derived.Deep.RegionHeld3
import Derived.Deep.DrawnRows
import Derived.Deep.AppendLies
import Derived.Deep.Cut
namespace Go.Proofs.Ytdniaingipoggaa
open Go.RowKit
attribute [local go_sem ↓] Go.wp_at_zero Go.wp_at_succ

theorem rget_getB (f n : Nat) (last : Nat × Nat) (b : List Bool) (hn : n ≠ 0) {x c e m : Nat} (hg : getB b = (x, c, e, m)) :
    rget (f + 1) n last b = if e ≠ 0 then (e, [], b.drop m) else if n < c ∨ (x = last.1 ∧ last.2 < 128) then (8, [], b.drop m) else after [(x, c)] (rget f (n - c) (x, c) (b.drop m)) := by
  unfold getB at hg
  by_cases h1 : b.length < 64
  · rw [if_pos h1] at hg
    simp only [Prod.mk.injEq] at hg
    obtain ⟨rfl, rfl, rfl, rfl⟩ := hg
    rw [rget_eof1 _ _ _ _ hn h1]; rfl
  · rw [if_neg h1] at hg
    by_cases h2 : b.length < 71
    · rw [if_pos h2] at hg
      simp only [Prod.mk.injEq] at hg
      obtain ⟨rfl, rfl, rfl, rfl⟩ := hg
      rw [rget_eof2 _ _ _ _ hn (by omega) h2]; rfl
    · rw [if_neg h2] at hg
      simp only [Prod.mk.injEq] at hg
      obtain ⟨rfl, rfl, rfl, rfl⟩ := hg
      by_cases h3 : n < bitsNat ((b.drop 64).take 7) + 1 ∨ (bitsNat (b.take 64) = last.1 ∧ last.2 < 128)
      · rw [rget_bad _ _ _ _ _ _ hn (by omega) rfl rfl h3, if_neg (by simp), if_pos h3]
      · rw [rget_step _ _ _ _ _ _ hn (by omega) rfl rfl h3, if_neg (by simp), if_neg h3]
theorem getB_bounds {b : List Bool} {x c e m : Nat} (hg : getB b = (x, c, e, m)) : x ≤ 18446744073709551615 ∧ c ≤ 128 ∧ (e = 0 → 1 ≤ c) ∧ m ≤ b.length ∧ e ≤ 3 := by
  have hm := getB_le b
  rw [hg] at hm
  unfold getB at hg
  have hx := bitsNat_lt (b.take 64)
  have h64 : 2 ^ (b.take 64).length ≤ 2 ^ 64 := Nat.pow_le_pow_right (by decide) (List.length_take_le _ _)
  have hc := bitsNat_lt ((b.drop 64).take 7)
  have h7 : 2 ^ ((b.drop 64).take 7).length ≤ 2 ^ 7 := Nat.pow_le_pow_right (by decide) (List.length_take_le _ _)
  split at hg
  · simp only [Prod.mk.injEq] at hg
    obtain ⟨rfl, rfl, rfl, rfl⟩ := hg
    exact ⟨by omega, by omega, by omega, hm, by omega⟩
  · split at hg
    · simp only [Prod.mk.injEq] at hg
      obtain ⟨rfl, rfl, rfl, rfl⟩ := hg
      exact ⟨by omega, by omega, by omega, hm, by omega⟩
    · simp only [Prod.mk.injEq] at hg
      obtain ⟨rfl, rfl, rfl, rfl⟩ := hg
      exact ⟨by omega, by omega, by omega, hm, by omega⟩
theorem two_one (k k' : IntKind) (a b : Int) : ∀ u ∈ [Value.int k a, Value.int k' b], u.oneCell' = true := by
  intro u hu
  simp only [List.mem_cons, List.not_mem_nil, or_false] at hu
  rcases hu with rfl | rfl <;> rfl
theorem frozen_alloc_old (w : World) (o : Obj) (a : Addr) (h : a.block < w.heap.size) : (w.alloc o).frozen? a = w.frozen? a := World.frozen?_of_block (Below.heap_alloc w o a.block h)
theorem cell_alloc_below (w : World) (o : Obj) (a : Addr) (h : a.block < w.heap.size) : (w.alloc o).cell? a = w.cell? a := World.cell?_of_block (Below.heap_alloc w o a.block h)
/-- the values that a read hands back -/
def getVals (r : Nat × List (Nat × Nat) × List Bool) : List Nat := if r.1 = 0 then joinOf r.2.1 else []
theorem getVals_bad {r : Nat × List (Nat × Nat) × List Bool} (h : r.1 ≠ 0) : getVals r = [] := by unfold getVals; rw [if_neg h]

set_option maxHeartbeats 400000 in
theorem get_nil (n : Int) (w : World) : Calls Try.prog 52 #[.pointer none, .int .i64 n] w fun e w' => e = .returned (.tuple #[.slice none 0 0, .int .i64 1]) ∧ w = w' := by
  go_enter Try.func52, Try.ntmps52
  go_wp2
  go_ret2
  exact ⟨rfl, rfl⟩
set_option maxHeartbeats 400000 in
theorem get_bad (p : Nat) (n : Int) (w : World) (h : n < 0) : Calls Try.prog 52 #[.pointer (some ⟨p, 0, none⟩), .int .i64 n] w fun e w' => e = .returned (.tuple #[.slice none 0 0, .int .i64 2]) ∧ w = w' := by
  go_enter Try.func52, Try.ntmps52
  go_wp2
  go_ret2
  exact ⟨rfl, rfl⟩

set_option maxRecDepth 100000 in
set_option maxHeartbeats 2000000 in
theorem get_any (base p : Nat) (v : Value) (bs : List Nat) (i n : Nat) (w : World) (h : IsR w base p v bs i) (hl : bs.length ≤ 1099511627776) (hi : i ≤ 8 * bs.length) (hn : n ≤ 1000000000) :
    Calls Try.prog 52 #[.pointer (some ⟨p, 0, none⟩), .int .i64 n] w fun e w' => ∃ v', e = .returned (.tuple #[v', .int .i64 (((rget n n (0, 128) ((unpackB bs).drop i)).1 : Nat) : Int)]) ∧
      w'.ownsRow w.heap.size 35 1 v' (getVals (rget n n (0, 128) ((unpackB bs).drop i))).length (u64s (getVals (rget n n (0, 128) ((unpackB bs).drop i)))) ∧
      (∃ i', i' ≤ 8 * bs.length ∧ IsR w' base p v bs i' ∧ (rget n n (0, 128) ((unpackB bs).drop i)).2.2 = (unpackB bs).drop i') ∧ Keeps (fun k => k = p) w w' := by
  obtain ⟨i0, hii, hz0, hz1, hz2⟩ := info_parts infoRun
  have hR := Lib.hid h
  have hp := h.lt
  have hpo : ∀ g, v.ownBlock = some g → g < w.heap.size := fun g hg => h.own_lt hg
  have HPO := Lib.hid hpo
  clear h hpo
  obtain ⟨res, hres⟩ : ∃ res, res = rget n n (0, 128) ((unpackB bs).drop i) := ⟨_, rfl⟩
  rw [← hres]
  have HRES := Lib.hid hres
  clear hres
  have hnn : ¬ (n : Int) < 0 := by omega
  go_enter Try.func52, Try.ntmps52
  go_wp2
  obtain ⟨w0, hw0⟩ : ∃ w0, w0 = w.alloc (.cells #[.int .u64 0, .int .i64 128] 82) := ⟨_, rfl⟩
  rw [← hw0]
  have hk0 : ∀ S, Keeps S w w0 := fun S => by rw [hw0]; exact (Keeps.refl S w).alloc _
  have hs0 : w0.heap.size = w.heap.size + 1 := by rw [hw0]; simp
  have hR0 : IsR w0 base p v bs i := hR.out.keeps (hk0 (fun _ => False)) (fun h => h) (fun _ _ h => h)
  have hD : w0.heap[w.heap.size]? = some (.cells #[.int .u64 0, .int .i64 128] 82 (0, 0)) := by rw [hw0]; exact heap_alloc_new w _
  have hk0' := hk0 (fun k => k = p)
  clear hk0 hw0
  go_loopw [1, 6] (fun t1 t6 wr => ∃ (f m i' xl cl : Nat) (acc : List (Nat × Nat)) (v1 : Value), m ≤ f ∧ m ≤ n ∧ t1 = .int .i64 m ∧ v1 = t6 ∧ acc.length + m ≤ n ∧ (∀ q ∈ acc, q.2 ≤ 128) ∧ wr.ownsRow (w.heap.size + 1) 82 2 v1 acc.length (runCells acc) ∧
      wr.heap[w.heap.size]? = some (.cells #[.int .u64 (xl : Nat), .int .i64 (cl : Nat)] 82 (0, 0)) ∧ i' ≤ 8 * bs.length ∧ IsR wr base p v bs i' ∧ Keeps (fun k => k = p) w wr ∧ after acc (rget f m (xl, cl) ((unpackB bs).drop i')) = res) (fun t1 _ _ => (intOf t1).toNat)
  case atStart => exact ⟨n, n, i, 0, 128, [], _, by omega, by omega, rfl, rfl, by simp, by simp, World.ownsRow_nil _ _ _ _, hD, hi, hR0, hk0', HRES.out.symm⟩
  case round =>
    obtain ⟨f, m, i', xl, cl, acc, v1, hf, hmn, rfl, rfl, hacc, hall, hrow, hL, hi', hRr, hkr, hres⟩ := hrel
    clear hD hR0 hk0' hs0
    have hws : w.heap.size + 1 ≤ wr.heap.size := by have := (Array.getElem?_eq_some_iff.1 hL).1; omega
    by_cases hm : m = 0
    · rw [rget_done _ _ _ _ hm] at hres
      have hm0 : ¬ (0 : Int) < m := by omega
      simp only [after, List.append_nil] at hres
      have hP := holdsP_row hrow
      obtain ⟨ad, cap, rfl⟩ := row_slice hrow
      have hjo := joinI_intRuns acc hall
      have HJO := Lib.hid hjo; have HP := Lib.hid hP; have HRR := Lib.hid hRr; have HKR := Lib.hid hkr; have HRS := Lib.hid hres
      have hal : (intRuns acc).length ≤ 1000000000 := by rw [intRuns_length]; omega
      clear hjo hP hRr hkr hres hrow hL hall hm hacc
      go_wp2_with fail
      refine (join_any _ (intRuns acc) wr HP.out hal).mono ?_
      rintro e w1 ⟨v', rfl, hr1, hk1⟩
      rw [HJO.out] at hr1
      obtain ⟨ad', cap', rfl⟩ := row_slice hr1
      go_wp2
      go_ret2
      refine ⟨_, by rw [← HRS.out]; rfl, ?_, ⟨i', hi', HRR.out.keeps hk1 (fun h => h) (fun _ _ h => h), by rw [← HRS.out]⟩, HKR.out.trans hk1 (fun _ _ h => h.elim)⟩
      rw [← HRS.out]
      exact row_base hr1 (fun g hg => by have := (hr1.lt g hg).1; omega)
    · obtain ⟨f1, rfl⟩ : ∃ f1, f = f1 + 1 := ⟨f - 1, by omega⟩
      obtain ⟨⟨x, c, e, q⟩, hg⟩ : ∃ r, getB ((unpackB bs).drop i') = r := ⟨_, rfl⟩
      obtain ⟨bx, bc, be, bq, be3⟩ := getB_bounds hg
      rw [rget_getB _ _ _ _ hm hg] at hres
      rw [rest_length] at bq
      have hgr := getRun_any base p v bs i' wr hRr hl hi'
      rw [hg] at hgr
      simp only at hgr
      have HGR := Lib.hid hgr; have HRES2 := Lib.hid hres; have HROW := Lib.hid hrow; have HL := Lib.hid hL; have HKR := Lib.hid hkr; have HALL := Lib.hid hall; have HBE := Lib.hid be
      have hmpos : (0 : Int) < m := by omega
      have hpw : p < wr.heap.size := by omega
      clear hgr hres hrow hL hkr hall be hg hRr hm
      go_wp2_with fail
      refine HGR.out.mono ?_
      rintro e1 w1 ⟨rfl, hR1, hk1⟩
      have hL1 := hk1.heap HL.out (show ¬ w.heap.size = p by omega)
      have hrow1 := hk1.row HROW.out (fun b hb e => by have := (HROW.out.lt b hb).1; omega)
      have hkw1 := HKR.out.trans hk1 (fun _ _ h => h)
      have hs1 := hk1.size
      obtain ⟨X, hX⟩ : ∃ X, X = w1.heap.size := ⟨_, rfl⟩
      have HR1 := Lib.hid hR1; have HL1 := Lib.hid hL1; have HROW1 := Lib.hid hrow1; have HKW1 := Lib.hid hkw1; have HX := Lib.hid hX
      clear hR1 hL1 hrow1 hkw1 hk1 hX
      by_cases he : e = 0
      · subst he
        rw [if_neg (by simp)] at HRES2
        have hc1 := HBE.out rfl
        obtain ⟨w2, hw2⟩ : ∃ w2, w2 = w1.alloc (.cells #[.int .u64 (x : Nat), .int .i64 (c : Nat)] 82) := ⟨_, rfl⟩
        have hk2 : ∀ S, Keeps S w1 w2 := fun S => by rw [hw2]; exact (Keeps.refl S w1).alloc _
        have hXb : w2.heap[w1.heap.size]? = some (.cells #[.int .u64 (x : Nat), .int .i64 (c : Nat)] 82 (0, 0)) := by rw [hw2]; exact heap_alloc_new w1 _
        have hs2 : w2.heap.size = w1.heap.size + 1 := by rw [hw2]; simp
        have hL2 := (hk2 (fun _ => False)).heap HL1.out (fun h => h)
        have hrow2 := (hk2 (fun _ => False)).row HROW1.out (fun _ _ h => h)
        have hR2 := HR1.out.keeps (hk2 (fun _ => False)) (fun h => h) (fun _ _ h => h)
        have hkw2 := HKW1.out.trans (hk2 (fun k => k = p)) (fun _ _ h => h)
        obtain ⟨X, hX⟩ : ∃ X, X = w1.heap.size := ⟨_, rfl⟩
        rw [← hX] at hXb
        have cx0 : w2.cell? ⟨X, 0, none⟩ = some (.int .u64 (x : Nat)) := by rw [cell_of_row _ _ _ _ _ _ hXb]; rfl
        have cx1 : w2.cell? ⟨X, 1, none⟩ = some (.int .i64 (c : Nat)) := by rw [cell_of_row _ _ _ _ _ _ hXb]; rfl
        have cl0 : w2.cell? ⟨w.heap.size, 0, none⟩ = some (.int .u64 (xl : Nat)) := by rw [cell_of_row _ _ _ _ _ _ hL2]; rfl
        have cl1 : w2.cell? ⟨w.heap.size, 1, none⟩ = some (.int .i64 (cl : Nat)) := by rw [cell_of_row _ _ _ _ _ _ hL2]; rfl
        have fl0 : w2.frozen? ⟨w.heap.size, 0, none⟩ = false := frozen_of_row _ _ _ _ _ hL2
        have fl1 : w2.frozen? ⟨w.heap.size, 1, none⟩ = false := frozen_of_row _ _ _ _ _ hL2
        have hXlt : X < w2.heap.size := by omega
        have hXv : some X ≠ v1.ownBlock := fun e => by have := (HROW1.out.lt X e.symm).2; omega
        have hLv : some w.heap.size ≠ v1.ownBlock := fun e => by have := (HROW1.out.lt _ e.symm).1; omega
        have hLlt : w.heap.size < w2.heap.size := by omega
        have hXL : ¬ X = w.heap.size := by omega
        have hLX : ¬ w.heap.size = X := by omega
        have H2 := Lib.hid hw2; have HXB := Lib.hid hXb; have HL2 := Lib.hid hL2; have HROW2 := Lib.hid hrow2; have HR2 := Lib.hid hR2; have HKW2 := Lib.hid hkw2; have HXE := Lib.hid hX
        clear hw2 hXb hL2 hrow2 hR2 hkw2 hk2 hX
        have hbad : ∀ (nw : World), nw = w2 → ∃ v', Ending.returned (.tuple #[.slice none 0 0, .int .i64 8]) = .returned (.tuple #[v', .int .i64 8]) ∧ nw = nw := fun nw _ => ⟨_, rfl, rfl⟩
        clear hbad
        by_cases hbig : m < c
        · rw [if_pos (.inl hbig)] at HRES2
          have hbig' : (m : Int) < c := by omega
          have hbd : decide (m < c) = true := by simpa using hbig
          clear hbig
          go_upto_region 9 with (fail)
          rw [← H2.out, ← HXE.out]
          go_wp2
          go_ret2
          refine ⟨_, by rw [← HRES2.out]; rfl, ?_, ⟨i' + q, by omega, HR2.out, by rw [← HRES2.out]; show ((unpackB bs).drop i').drop q = _; rw [List.drop_drop]⟩, HKW2.out⟩
          rw [getVals_bad (by rw [← HRES2.out]; show (8 : Nat) ≠ 0; decide)]
          exact World.ownsRow_nil _ _ _ _
        · have hbig' : ¬ (m : Int) < c := by omega
          have hbd : decide (m < c) = false := by simpa using hbig
          by_cases hrep : x = xl ∧ cl < 128
          · rw [if_pos (.inr hrep)] at HRES2
            obtain ⟨rfl, hcl⟩ := hrep
            have hcl' : (cl : Int) < 128 := by omega
            clear hcl hbig
            go_upto_region 9 with (fail)
            rw [← H2.out, ← HXE.out]
            go_wp2
            go_ret2
            refine ⟨_, by rw [← HRES2.out]; rfl, ?_, ⟨i' + q, by omega, HR2.out, by rw [← HRES2.out]; show ((unpackB bs).drop i').drop q = _; rw [List.drop_drop]⟩, HKW2.out⟩
            rw [getVals_bad (by rw [← HRES2.out]; show (8 : Nat) ≠ 0; decide)]
            exact World.ownsRow_nil _ _ _ _
          · rw [if_neg (fun h => h.elim hbig hrep)] at HRES2
            have hcs : (x = xl ∧ ¬ (cl : Int) < 128) ∨ ((x : Int) == (xl : Int)) = false := by
              by_cases h1 : x = xl
              · exact .inl ⟨h1, fun h => hrep ⟨h1, by omega⟩⟩
              · exact .inr (by simp; omega)
            clear hrep hbig
            rcases hcs with ⟨rfl, hcl⟩ | hxl
            · go_upto_region 9 with (fail)
              rw [← H2.out, ← HXE.out]
              go_wp2_with fail
              have ca0 : ∀ o, (w2.drew.alloc o).cell? ⟨w.heap.size, 0, none⟩ = some (.int .u64 (x : Nat)) := fun o => (cell_alloc_below w2.drew o _ hLlt).trans cl0
              have ca1 : ∀ o, (w2.drew.alloc o).cell? ⟨w.heap.size, 1, none⟩ = some (.int .i64 (cl : Nat)) := fun o => (cell_alloc_below w2.drew o _ hLlt).trans cl1
              have fa0 : ∀ o, (w2.drew.alloc o).frozen? ⟨w.heap.size, 0, none⟩ = false := fun o => (frozen_alloc_old w2.drew o _ hLlt).trans fl0
              have fa1 : ∀ o, (w2.drew.alloc o).frozen? ⟨w.heap.size, 1, none⟩ = false := fun o => (frozen_alloc_old w2.drew o _ hLlt).trans fl1
              have hvi := HROW2.out
              have HS2 := Lib.hid hs2
              clear hs2
              go_region_held3 (fun w' => w'.cell? ⟨X, 0, none⟩ = some (.int .u64 (x : Nat)) ∧ w'.cell? ⟨X, 1, none⟩ = some (.int .i64 (c : Nat)))
                (first | go_keep | (go_split_ands; refine ⟨?_, ?_⟩ <;> (rw [hgrow.cell_far _ (by simp; omega) hXv]; go_keep)))
                ((refine step_append_lies _ (by rfl) (.tmp 43) (.tmp 45) 79 (by rfl) (w.heap.size + 1) 82 i0 (.agg #[.int .u64 0, .int .i64 0]) 2 16 Try.underlying79 hii hz0 hz1 hz2 rfl (by decide) _ acc.length (runCells acc) (by rfl) (hvi.drew.alloc _) ⟨w2.heap.size, 0, none⟩ 1 1 [.int .u64 (x : Nat), .int .i64 (c : Nat)] (by rfl) rfl (World.news_of_block (by exact heap_alloc_new _ _)) (two_one _ _ _ _) (by decide) (by unfold maxLen; omega) (by omega) (by simp; omega) (w2.heap.size + 1) (by simp) ?_; intro g cap w3 hown hgrow hat hlt; have s0 := (hgrow.cell_far ⟨w.heap.size, 0, none⟩ (by simp; omega) hLv).trans (ca0 _); have s1 := (hgrow.cell_far ⟨w.heap.size, 1, none⟩ (by simp; omega) hLv).trans (ca1 _); have s2 := (hgrow.frozen_far ⟨w.heap.size, 0, none⟩ (by simp; omega) hLv).trans (fa0 _); have s3 := (hgrow.frozen_far ⟨w.heap.size, 1, none⟩ (by simp; omega) hLv).trans (fa1 _)))
              obtain ⟨w4, hw4⟩ : ∃ w4, w4 = (w3.setCell ⟨w.heap.size, 0, none⟩ (.int .u64 (x : Nat))).setCell ⟨w.heap.size, 1, none⟩ (.int .i64 (c : Nat)) := ⟨_, rfl⟩
              rw [← hw4]
              have kg : Keeps (own v1) w2 w3 := ((Keeps.refl (own v1) w2).drew.alloc _).grown hgrow (fun k _ e => e)
              have ks : Keeps (fun k => k = w.heap.size) w3 w4 := by rw [hw4]; exact ((Keeps.refl (fun k => k = w.heap.size) _).setCell (p := ⟨w.heap.size, 0, none⟩) (fun _ => rfl) _).setCell (p := ⟨w.heap.size, 1, none⟩) (fun _ => rfl) _
              have hL3 := kg.heap HL2.out (fun e => hLv e.symm)
              have hL4 := heap_setCell_same _ w.heap.size 1 _ _ (.int .i64 (c : Nat)) (heap_setCell_same _ w.heap.size 0 _ _ (.int .u64 (x : Nat)) hL3)
              rw [← hw4] at hL4
              have hrow4 := ks.row hown (fun b hb e => by have := (hown.lt b hb).1; omega)
              have hX4 := ks.heap (kg.heap HXB.out (fun e => hXv e.symm)) hXL
              have c4 : w4.cell? ⟨X, 1, none⟩ = some (.int .i64 (c : Nat)) := by rw [cell_of_row _ _ _ _ _ _ hX4]; rfl
              have hR4 := (HR2.out.keeps kg (fun e => by have := (HROW2.out.lt _ e).1; omega) (fun b hb e => by have := (HROW2.out.lt _ e).1; have := HPO.out b hb; omega)).keeps ks (by omega) (fun b hb e => by have := HPO.out b hb; omega)
              have hkw4 := (HKW2.out.trans kg (fun k hk e => by have := (HROW2.out.lt _ e).1; omega)).trans ks (fun k hk e => by omega)
              have D1 := Lib.hid hL4; have D2 := Lib.hid hrow4; have D3 := Lib.hid hR4; have D4 := Lib.hid hkw4
              clear hL4 hrow4 hR4 hkw4 hX4 hL3 ks kg hw4 hown hgrow hat hlt hvi ca0 ca1 fa0 fa1 cl0 cl1 fl0 fl1 cx0 cx1
              have HBIG := Lib.hid hbig'
              obtain ⟨d, hd⟩ : ∃ d, d = m - c := ⟨_, rfl⟩
              have hd1 : (m : Int) - c = d := by omega
              have hwd : IntKind.i64.wrap (d : Int) = d := wrap_nat _ (by omega)
              have HD := Lib.hid hd
              clear hd
              go_wp2
              refine ⟨⟨f1, d, i' + q, _, _, acc ++ [(x, c)], _, by have := HD.out; omega, by have := HD.out; omega, rfl, rfl, by have := HD.out; rw [List.length_append, List.length_singleton]; omega, ?_, ?_, D1.out, by omega, D3.out, D4.out, ?_⟩, by have := HD.out; simp [intOf]; omega⟩
              · intro z hz
                rcases List.mem_append.1 hz with h | h
                · exact HALL.out z h
                · rw [List.mem_singleton.1 h]; exact bc
              · rw [List.length_append, List.length_singleton, runCells_snoc]
                exact D2.out
              · rw [HD.out, ← HRES2.out, after_after, List.drop_drop]
            · go_upto_region 9 with (fail)
              rw [← H2.out, ← HXE.out]
              go_wp2_with fail
              have ca0 : ∀ o, (w2.drew.alloc o).cell? ⟨w.heap.size, 0, none⟩ = some (.int .u64 (xl : Nat)) := fun o => (cell_alloc_below w2.drew o _ hLlt).trans cl0
              have ca1 : ∀ o, (w2.drew.alloc o).cell? ⟨w.heap.size, 1, none⟩ = some (.int .i64 (cl : Nat)) := fun o => (cell_alloc_below w2.drew o _ hLlt).trans cl1
              have fa0 : ∀ o, (w2.drew.alloc o).frozen? ⟨w.heap.size, 0, none⟩ = false := fun o => (frozen_alloc_old w2.drew o _ hLlt).trans fl0
              have fa1 : ∀ o, (w2.drew.alloc o).frozen? ⟨w.heap.size, 1, none⟩ = false := fun o => (frozen_alloc_old w2.drew o _ hLlt).trans fl1
              have hvi := HROW2.out
              have HS2 := Lib.hid hs2
              clear hs2
              go_region_held3 (fun w' => w'.cell? ⟨X, 0, none⟩ = some (.int .u64 (x : Nat)) ∧ w'.cell? ⟨X, 1, none⟩ = some (.int .i64 (c : Nat)))
                (first | go_keep | (go_split_ands; refine ⟨?_, ?_⟩ <;> (rw [hgrow.cell_far _ (by simp; omega) hXv]; go_keep)))
                ((refine step_append_lies _ (by rfl) (.tmp 43) (.tmp 45) 79 (by rfl) (w.heap.size + 1) 82 i0 (.agg #[.int .u64 0, .int .i64 0]) 2 16 Try.underlying79 hii hz0 hz1 hz2 rfl (by decide) _ acc.length (runCells acc) (by rfl) (hvi.drew.alloc _) ⟨w2.heap.size, 0, none⟩ 1 1 [.int .u64 (x : Nat), .int .i64 (c : Nat)] (by rfl) rfl (World.news_of_block (by exact heap_alloc_new _ _)) (two_one _ _ _ _) (by decide) (by unfold maxLen; omega) (by omega) (by simp; omega) (w2.heap.size + 1) (by simp) ?_; intro g cap w3 hown hgrow hat hlt; have s0 := (hgrow.cell_far ⟨w.heap.size, 0, none⟩ (by simp; omega) hLv).trans (ca0 _); have s1 := (hgrow.cell_far ⟨w.heap.size, 1, none⟩ (by simp; omega) hLv).trans (ca1 _); have s2 := (hgrow.frozen_far ⟨w.heap.size, 0, none⟩ (by simp; omega) hLv).trans (fa0 _); have s3 := (hgrow.frozen_far ⟨w.heap.size, 1, none⟩ (by simp; omega) hLv).trans (fa1 _)))
              obtain ⟨w4, hw4⟩ : ∃ w4, w4 = (w3.setCell ⟨w.heap.size, 0, none⟩ (.int .u64 (x : Nat))).setCell ⟨w.heap.size, 1, none⟩ (.int .i64 (c : Nat)) := ⟨_, rfl⟩
              rw [← hw4]
              have kg : Keeps (own v1) w2 w3 := ((Keeps.refl (own v1) w2).drew.alloc _).grown hgrow (fun k _ e => e)
              have ks : Keeps (fun k => k = w.heap.size) w3 w4 := by rw [hw4]; exact ((Keeps.refl (fun k => k = w.heap.size) _).setCell (p := ⟨w.heap.size, 0, none⟩) (fun _ => rfl) _).setCell (p := ⟨w.heap.size, 1, none⟩) (fun _ => rfl) _
              have hL3 := kg.heap HL2.out (fun e => hLv e.symm)
              have hL4 := heap_setCell_same _ w.heap.size 1 _ _ (.int .i64 (c : Nat)) (heap_setCell_same _ w.heap.size 0 _ _ (.int .u64 (x : Nat)) hL3)
              rw [← hw4] at hL4
              have hrow4 := ks.row hown (fun b hb e => by have := (hown.lt b hb).1; omega)
              have hX4 := ks.heap (kg.heap HXB.out (fun e => hXv e.symm)) hXL
              have c4 : w4.cell? ⟨X, 1, none⟩ = some (.int .i64 (c : Nat)) := by rw [cell_of_row _ _ _ _ _ _ hX4]; rfl
              have hR4 := (HR2.out.keeps kg (fun e => by have := (HROW2.out.lt _ e).1; omega) (fun b hb e => by have := (HROW2.out.lt _ e).1; have := HPO.out b hb; omega)).keeps ks (by omega) (fun b hb e => by have := HPO.out b hb; omega)
              have hkw4 := (HKW2.out.trans kg (fun k hk e => by have := (HROW2.out.lt _ e).1; omega)).trans ks (fun k hk e => by omega)
              have D1 := Lib.hid hL4; have D2 := Lib.hid hrow4; have D3 := Lib.hid hR4; have D4 := Lib.hid hkw4
              clear hL4 hrow4 hR4 hkw4 hX4 hL3 ks kg hw4 hown hgrow hat hlt hvi ca0 ca1 fa0 fa1 cl0 cl1 fl0 fl1 cx0 cx1
              have HBIG := Lib.hid hbig'
              obtain ⟨d, hd⟩ : ∃ d, d = m - c := ⟨_, rfl⟩
              have hd1 : (m : Int) - c = d := by omega
              have hwd : IntKind.i64.wrap (d : Int) = d := wrap_nat _ (by omega)
              have HD := Lib.hid hd
              clear hd
              go_wp2
              refine ⟨⟨f1, d, i' + q, _, _, acc ++ [(x, c)], _, by have := HD.out; omega, by have := HD.out; omega, rfl, rfl, by have := HD.out; rw [List.length_append, List.length_singleton]; omega, ?_, ?_, D1.out, by omega, D3.out, D4.out, ?_⟩, by have := HD.out; simp [intOf]; omega⟩
              · intro z hz
                rcases List.mem_append.1 hz with h | h
                · exact HALL.out z h
                · rw [List.mem_singleton.1 h]; exact bc
              · rw [List.length_append, List.length_singleton, runCells_snoc]
                exact D2.out
              · rw [HD.out, ← HRES2.out, after_after, List.drop_drop]
      · rw [if_pos he] at HRES2
        have he' : ((e : Int) == 0) = false := by simp; omega
        have he2 : ¬ (e : Int) = 0 := by omega
        go_wp2
        go_ret2
        refine ⟨_, by rw [← HRES2.out]; rfl, ?_, ⟨i' + q, by omega, HR1.out.keeps ((Keeps.refl (fun _ => False) w1).alloc _) (fun h => h) (fun _ _ h => h), by rw [← HRES2.out]; show ((unpackB bs).drop i').drop q = _; rw [List.drop_drop]⟩, HKW1.out.trans ((Keeps.refl (fun _ => False) w1).alloc _) (fun _ _ h => h.elim)⟩
        rw [getVals_bad (by rw [← HRES2.out]; exact he)]
        exact World.ownsRow_nil _ _ _ _
end Go.Proofs.Ytdniaingipoggaa
