/-
  Lemmas on which LTopChunks rests, packed out of the texts WRunF WDictD WXorG WDictE WRef07b WRef07c WLaw07a WCodec07 WRef06c; each for all arguments under the hypotheses it names.
-/
import Derived.Test.YtfpcgcbehdogjaaGreatDoorT14
import Derived.Deep.Cut
namespace Go.Proofs.YtfpcgcbehdogjaaGreatDoor
section
set_option maxHeartbeats 2000000
set_option maxRecDepth 100000
open Go.RowKit
attribute [local go_sem ↓] Go.wp_at_zero Go.wp_at_succ
theorem rget_getB (f n : Nat) (last : Nat × Nat) (b : List Bool) (hn : n ≠ 0) {x c e m : Nat} (hg : getB b = (x, c, e, m)) :
 rget (f + 1) n last b = if e ≠ 0 then (e, [], b.drop m) else if n < c ∨ (x = last.1 ∧ last.2 < 128) then (8, [], b.drop m) else after [(x, c)] (rget f (n - c) (x, c) (b.drop m)) := by
 unfold getB at hg
 by_cases h1 : b.length < 64
 · rw [if_pos h1] at hg
   simp only [Prod.mk.injEq] at hg
   obtain ⟨rfl, rfl, rfl, rfl⟩ := hg
   rw [rget_eof1 _ _ _ _ hn h1]; rfl
 · rw [if_neg h1] at hg
   by_cases h2 : b.length < 71
   · rw [if_pos h2] at hg
     simp only [Prod.mk.injEq] at hg
     obtain ⟨rfl, rfl, rfl, rfl⟩ := hg
     rw [rget_eof2 _ _ _ _ hn (by omega) h2]; rfl
   · rw [if_neg h2] at hg
     simp only [Prod.mk.injEq] at hg
     obtain ⟨rfl, rfl, rfl, rfl⟩ := hg
     by_cases h3 : n < qae ((b.drop 64).take 7) + 1 ∨ (qae (b.take 64) = last.1 ∧ last.2 < 128)
     · rw [rget_bad _ _ _ _ _ _ hn (by omega) rfl rfl h3, if_neg (by simp), if_pos h3]
     · rw [rget_step _ _ _ _ _ _ hn (by omega) rfl rfl h3, if_neg (by simp), if_neg h3]
theorem getB_bounds {b : List Bool} {x c e m : Nat} (hg : getB b = (x, c, e, m)) : x ≤ 18446744073709551615 ∧ c ≤ 128 ∧ (e = 0 → 1 ≤ c) ∧ m ≤ b.length ∧ e ≤ 3 := by
 have hm := getB_le b
 rw [hg] at hm
 unfold getB at hg
 have hx := qcw (b.take 64)
 have h64 : 2 ^ (b.take 64).length ≤ 2 ^ 64 := Nat.pow_le_pow_right (by decide) (List.length_take_le _ _)
 have hc := qcw ((b.drop 64).take 7)
 have h7 : 2 ^ ((b.drop 64).take 7).length ≤ 2 ^ 7 := Nat.pow_le_pow_right (by decide) (List.length_take_le _ _)
 split at hg
 · simp only [Prod.mk.injEq] at hg
   obtain ⟨rfl, rfl, rfl, rfl⟩ := hg
   exact ⟨by omega, by omega, by omega, hm, by omega⟩
 · split at hg
   · simp only [Prod.mk.injEq] at hg
     obtain ⟨rfl, rfl, rfl, rfl⟩ := hg
     exact ⟨by omega, by omega, by omega, hm, by omega⟩
   · simp only [Prod.mk.injEq] at hg
     obtain ⟨rfl, rfl, rfl, rfl⟩ := hg
     exact ⟨by omega, by omega, by omega, hm, by omega⟩
def getVals (r : Nat × List (Nat × Nat) × List Bool) : List Nat := if r.1 = 0 then joinOf r.2.1 else []
theorem getVals_bad {r : Nat × List (Nat × Nat) × List Bool} (h : r.1 ≠ 0) : getVals r = [] := by unfold getVals; rw [if_neg h]
theorem get_any (base p : Nat) (v : Value) (bs : List Nat) (i n : Nat) (w : World) (h : IsR w base p v bs i) (hl : bs.length ≤ 1099511627776) (hi : i ≤ 8 * bs.length) (hn : n ≤ 1000000000) :
 Calls Tryz.prog 48 #[.pointer (some ⟨p, 0, none⟩), .int .i64 n] w fun e w' => ∃ v', e = .returned (.tuple #[v', .int .i64 (((rget n n (0, 128) ((qad bs).drop i)).1 : Nat) : Int)]) ∧
  w'.ownsRow w.heap.size 23 1 v' (getVals (rget n n (0, 128) ((qad bs).drop i))).length (u64s (getVals (rget n n (0, 128) ((qad bs).drop i)))) ∧
  (∃ i', i' ≤ 8 * bs.length ∧ IsR w' base p v bs i' ∧ (rget n n (0, 128) ((qad bs).drop i)).2.2 = (qad bs).drop i') ∧ Keeps (fun k => k = p) w w' := by
 obtain ⟨i0, hii, hz0, hz1, hz2⟩ := info_parts infoRun
 have hR := Hj h
 have hp := h.lt
 have hpo : ∀ g, v.ownBlock = some g → g < w.heap.size := fun g hg => h.own_lt hg
 have HPO := Hj hpo
 clear h hpo
 obtain ⟨res, hres⟩ : ∃ res, res = rget n n (0, 128) ((qad bs).drop i) := ⟨_, rfl⟩
 rw [← hres]
 have HRES := Hj hres
 clear hres
 have hnn : ¬ (n : Int) < 0 := by omega
 go_enter Tryz.func48, Tryz.ntmps48
 go_wp2
 obtain ⟨w0, hw0⟩ : ∃ w0, w0 = w.alloc (.cells #[.int .u64 0, .int .i64 128] 197) := ⟨_, rfl⟩
 rw [← hw0]
 have hk0 : ∀ S, Keeps S w w0 := fun S => by rw [hw0]; exact (Keeps.refl S w).alloc _
 have hs0 : w0.heap.size = w.heap.size + 1 := by rw [hw0]; simp
 have hR0 : IsR w0 base p v bs i := hR.out.keeps (hk0 (fun _ => False)) (fun h => h) (fun _ _ h => h)
 have hD : w0.heap[w.heap.size]? = some (.cells #[.int .u64 0, .int .i64 128] 197 (0, 0)) := by rw [hw0]; exact heap_alloc_new w _
 have hk0' := hk0 (fun k => k = p)
 clear hk0 hw0
 go_loopw [1, 6] (fun t1 t6 wr => ∃ (f m i' xl cl : Nat) (acc : List (Nat × Nat)) (v1 : Value), m ≤ f ∧ m ≤ n ∧ t1 = .int .i64 m ∧ v1 = t6 ∧ acc.length + m ≤ n ∧ (∀ q ∈ acc, q.2 ≤ 128) ∧ wr.ownsRow (w.heap.size + 1) 197 2 v1 acc.length (qcp acc) ∧
  wr.heap[w.heap.size]? = some (.cells #[.int .u64 (xl : Nat), .int .i64 (cl : Nat)] 197 (0, 0)) ∧ i' ≤ 8 * bs.length ∧ IsR wr base p v bs i' ∧ Keeps (fun k => k = p) w wr ∧ after acc (rget f m (xl, cl) ((qad bs).drop i')) = res) (fun t1 _ _ => (intOf t1).toNat)
 case atStart => exact ⟨n, n, i, 0, 128, [], _, by omega, by omega, rfl, rfl, by simp, by simp, World.ownsRow_nil _ _ _ _, hD, hi, hR0, hk0', HRES.out.symm⟩
 case round =>
  obtain ⟨f, m, i', xl, cl, acc, v1, hf, hmn, rfl, rfl, hacc, hall, hrow, hL, hi', hRr, hkr, hres⟩ := hrel
  clear hD hR0 hk0' hs0
  have hws : w.heap.size + 1 ≤ wr.heap.size := by have := (Array.getElem?_eq_some_iff.1 hL).1; omega
  by_cases hm : m = 0
  · rw [rget_done _ _ _ _ hm] at hres
    have hm0 : ¬ (0 : Int) < m := by omega
    simp only [after, List.append_nil] at hres
    have hP := holdsP_row hrow
    obtain ⟨ad, cap, rfl⟩ := qaf hrow
    have hjo := joinI_intRuns acc hall
    have HJO := Hj hjo; have HP := Hj hP; have HRR := Hj hRr; have HKR := Hj hkr; have HRS := Hj hres
    have hal : (intRuns acc).length ≤ 1000000000 := by rw [intRuns_length]; omega
    clear hjo hP hRr hkr hres hrow hL hall hm hacc
    go_wp2_with fail
    refine (join_any _ (intRuns acc) wr HP.out hal).mono ?_
    rintro e w1 ⟨v', rfl, hr1, hk1⟩
    rw [HJO.out] at hr1
    obtain ⟨ad', cap', rfl⟩ := qaf hr1
    go_wp2
    go_ret2
    refine ⟨_, by rw [← HRS.out]; rfl, ?_, ⟨i', hi', HRR.out.keeps hk1 (fun h => h) (fun _ _ h => h), by rw [← HRS.out]⟩, HKR.out.trans hk1 (fun _ _ h => h.elim)⟩
    rw [← HRS.out]
    exact qam hr1 (fun g hg => by have := (hr1.lt g hg).1; omega)
  · obtain ⟨f1, rfl⟩ : ∃ f1, f = f1 + 1 := ⟨f - 1, by omega⟩
    obtain ⟨⟨x, c, e, q⟩, hg⟩ : ∃ r, getB ((qad bs).drop i') = r := ⟨_, rfl⟩
    obtain ⟨bx, bc, be, bq, be3⟩ := getB_bounds hg
    rw [rget_getB _ _ _ _ hm hg] at hres
    rw [rest_length] at bq
    have hgr := getRun_any base p v bs i' wr hRr hl hi'
    rw [hg] at hgr
    simp only at hgr
    have HGR := Hj hgr; have HRES2 := Hj hres; have HROW := Hj hrow; have HL := Hj hL; have HKR := Hj hkr; have HALL := Hj hall; have HBE := Hj be
    have hmpos : (0 : Int) < m := by omega
    have hpw : p < wr.heap.size := by omega
    clear hgr hres hrow hL hkr hall be hg hRr hm
    go_wp2_with fail
    refine HGR.out.mono ?_
    rintro e1 w1 ⟨rfl, hR1, hk1⟩
    have hL1 := hk1.heap HL.out (show ¬ w.heap.size = p by omega)
    have hrow1 := hk1.row HROW.out (fun b hb e => by have := (HROW.out.lt b hb).1; omega)
    have hkw1 := HKR.out.trans hk1 (fun _ _ h => h)
    have hs1 := hk1.size
    obtain ⟨X, hX⟩ : ∃ X, X = w1.heap.size := ⟨_, rfl⟩
    have HR1 := Hj hR1; have HL1 := Hj hL1; have HROW1 := Hj hrow1; have HKW1 := Hj hkw1; have HX := Hj hX
    clear hR1 hL1 hrow1 hkw1 hk1 hX
    by_cases he : e = 0
    · subst he
      rw [if_neg (by simp)] at HRES2
      have hc1 := HBE.out rfl
      obtain ⟨w2, hw2⟩ : ∃ w2, w2 = w1.alloc (.cells #[.int .u64 (x : Nat), .int .i64 (c : Nat)] 197) := ⟨_, rfl⟩
      have hk2 : ∀ S, Keeps S w1 w2 := fun S => by rw [hw2]; exact (Keeps.refl S w1).alloc _
      have hXb : w2.heap[w1.heap.size]? = some (.cells #[.int .u64 (x : Nat), .int .i64 (c : Nat)] 197 (0, 0)) := by rw [hw2]; exact heap_alloc_new w1 _
      have hs2 : w2.heap.size = w1.heap.size + 1 := by rw [hw2]; simp
      have hL2 := (hk2 (fun _ => False)).heap HL1.out (fun h => h)
      have hrow2 := (hk2 (fun _ => False)).row HROW1.out (fun _ _ h => h)
      have hR2 := HR1.out.keeps (hk2 (fun _ => False)) (fun h => h) (fun _ _ h => h)
      have hkw2 := HKW1.out.trans (hk2 (fun k => k = p)) (fun _ _ h => h)
      obtain ⟨X, hX⟩ : ∃ X, X = w1.heap.size := ⟨_, rfl⟩
      rw [← hX] at hXb
      have cx0 : w2.cell? ⟨X, 0, none⟩ = some (.int .u64 (x : Nat)) := by rw [cell_of_row _ _ _ _ _ _ hXb]; rfl
      have cx1 : w2.cell? ⟨X, 1, none⟩ = some (.int .i64 (c : Nat)) := by rw [cell_of_row _ _ _ _ _ _ hXb]; rfl
      have cl0 : w2.cell? ⟨w.heap.size, 0, none⟩ = some (.int .u64 (xl : Nat)) := by rw [cell_of_row _ _ _ _ _ _ hL2]; rfl
      have cl1 : w2.cell? ⟨w.heap.size, 1, none⟩ = some (.int .i64 (cl : Nat)) := by rw [cell_of_row _ _ _ _ _ _ hL2]; rfl
      have fl0 : w2.frozen? ⟨w.heap.size, 0, none⟩ = false := frozen_of_row _ _ _ _ _ hL2
      have fl1 : w2.frozen? ⟨w.heap.size, 1, none⟩ = false := frozen_of_row _ _ _ _ _ hL2
      have hXlt : X < w2.heap.size := by omega
      have hXv : some X ≠ v1.ownBlock := fun e => by have := (HROW1.out.lt X e.symm).2; omega
      have hLv : some w.heap.size ≠ v1.ownBlock := fun e => by have := (HROW1.out.lt _ e.symm).1; omega
      have hLlt : w.heap.size < w2.heap.size := by omega
      have hXL : ¬ X = w.heap.size := by omega
      have hLX : ¬ w.heap.size = X := by omega
      have H2 := Hj hw2; have HXB := Hj hXb; have HL2 := Hj hL2; have HROW2 := Hj hrow2; have HR2 := Hj hR2; have HKW2 := Hj hkw2; have HXE := Hj hX
      clear hw2 hXb hL2 hrow2 hR2 hkw2 hk2 hX
      have hbad : ∀ (nw : World), nw = w2 → ∃ v', Ending.returned (.tuple #[.slice none 0 0, .int .i64 8]) = .returned (.tuple #[v', .int .i64 8]) ∧ nw = nw := fun nw _ => ⟨_, rfl, rfl⟩
      clear hbad
      by_cases hbig : m < c
      · rw [if_pos (.inl hbig)] at HRES2
        have hbig' : (m : Int) < c := by omega
        have hbd : decide (m < c) = true := by simpa using hbig
        clear hbig
        go_upto_region 9 with (fail)
        rw [← H2.out, ← HXE.out]
        go_wp2
        go_ret2
        refine ⟨_, by rw [← HRES2.out]; rfl, ?_, ⟨i' + q, by omega, HR2.out, by rw [← HRES2.out]; show ((qad bs).drop i').drop q = _; rw [List.drop_drop]⟩, HKW2.out⟩
        rw [getVals_bad (by rw [← HRES2.out]; show (8 : Nat) ≠ 0; decide)]
        exact World.ownsRow_nil _ _ _ _
      · have hbig' : ¬ (m : Int) < c := by omega
        have hbd : decide (m < c) = false := by simpa using hbig
        by_cases hrep : x = xl ∧ cl < 128
        · rw [if_pos (.inr hrep)] at HRES2
          obtain ⟨rfl, hcl⟩ := hrep
          have hcl' : (cl : Int) < 128 := by omega
          clear hcl hbig
          go_upto_region 9 with (fail)
          rw [← H2.out, ← HXE.out]
          go_wp2
          go_ret2
          refine ⟨_, by rw [← HRES2.out]; rfl, ?_, ⟨i' + q, by omega, HR2.out, by rw [← HRES2.out]; show ((qad bs).drop i').drop q = _; rw [List.drop_drop]⟩, HKW2.out⟩
          rw [getVals_bad (by rw [← HRES2.out]; show (8 : Nat) ≠ 0; decide)]
          exact World.ownsRow_nil _ _ _ _
        · rw [if_neg (fun h => h.elim hbig hrep)] at HRES2
          have hcs : (x = xl ∧ ¬ (cl : Int) < 128) ∨ ((x : Int) == (xl : Int)) = false := by
           by_cases h1 : x = xl
           · exact .inl ⟨h1, fun h => hrep ⟨h1, by omega⟩⟩
           · exact .inr (by simp; omega)
          clear hrep hbig
          rcases hcs with ⟨rfl, hcl⟩ | hxl
          · go_upto_region 9 with (fail)
            rw [← H2.out, ← HXE.out]
            go_wp2_with fail
            have ca0 : ∀ o, (w2.drew.alloc o).cell? ⟨w.heap.size, 0, none⟩ = some (.int .u64 (x : Nat)) := fun o => (qbm w2.drew o _ hLlt).trans cl0
            have ca1 : ∀ o, (w2.drew.alloc o).cell? ⟨w.heap.size, 1, none⟩ = some (.int .i64 (cl : Nat)) := fun o => (qbm w2.drew o _ hLlt).trans cl1
            have fa0 : ∀ o, (w2.drew.alloc o).frozen? ⟨w.heap.size, 0, none⟩ = false := fun o => (qck w2.drew o _ hLlt).trans fl0
            have fa1 : ∀ o, (w2.drew.alloc o).frozen? ⟨w.heap.size, 1, none⟩ = false := fun o => (qck w2.drew o _ hLlt).trans fl1
            have hvi := HROW2.out
            have HS2 := Hj hs2
            clear hs2
            go_region_held3 (fun w' => w'.cell? ⟨X, 0, none⟩ = some (.int .u64 (x : Nat)) ∧ w'.cell? ⟨X, 1, none⟩ = some (.int .i64 (c : Nat)))
             (first | go_keep | (go_split_ands; refine ⟨?_, ?_⟩ <;> (rw [hgrow.cell_far _ (by simp; omega) hXv]; go_keep)))
             ((refine step_append_lies _ (by rfl) (.tmp 43) (.tmp 45) 198 (by rfl) (w.heap.size + 1) 197 i0 (.agg #[.int .u64 0, .int .i64 0]) 2 16 Tryz.underlying198 hii hz0 hz1 hz2 rfl (by decide) _ acc.length (qcp acc) (by rfl) (hvi.drew.alloc _) ⟨w2.heap.size, 0, none⟩ 1 1 [.int .u64 (x : Nat), .int .i64 (c : Nat)] (by rfl) rfl (World.news_of_block (by exact heap_alloc_new _ _)) (two_one _ _ _ _) (by decide) (by unfold maxLen; omega) (by omega) (by simp; omega) (w2.heap.size + 1) (by simp) ?_; intro g cap w3 hown hgrow hat hlt; have s0 := (hgrow.cell_far ⟨w.heap.size, 0, none⟩ (by simp; omega) hLv).trans (ca0 _); have s1 := (hgrow.cell_far ⟨w.heap.size, 1, none⟩ (by simp; omega) hLv).trans (ca1 _); have s2 := (hgrow.frozen_far ⟨w.heap.size, 0, none⟩ (by simp; omega) hLv).trans (fa0 _); have s3 := (hgrow.frozen_far ⟨w.heap.size, 1, none⟩ (by simp; omega) hLv).trans (fa1 _)))
            obtain ⟨w4, hw4⟩ : ∃ w4, w4 = (w3.setCell ⟨w.heap.size, 0, none⟩ (.int .u64 (x : Nat))).setCell ⟨w.heap.size, 1, none⟩ (.int .i64 (c : Nat)) := ⟨_, rfl⟩
            rw [← hw4]
            have kg : Keeps (own v1) w2 w3 := ((Keeps.refl (own v1) w2).drew.alloc _).grown hgrow (fun k _ e => e)
            have ks : Keeps (fun k => k = w.heap.size) w3 w4 := by rw [hw4]; exact ((Keeps.refl (fun k => k = w.heap.size) _).setCell (p := ⟨w.heap.size, 0, none⟩) (fun _ => rfl) _).setCell (p := ⟨w.heap.size, 1, none⟩) (fun _ => rfl) _
            have hL3 := kg.heap HL2.out (fun e => hLv e.symm)
            have hL4 := heap_setCell_same _ w.heap.size 1 _ _ (.int .i64 (c : Nat)) (heap_setCell_same _ w.heap.size 0 _ _ (.int .u64 (x : Nat)) hL3)
            rw [← hw4] at hL4
            have hrow4 := ks.row hown (fun b hb e => by have := (hown.lt b hb).1; omega)
            have hX4 := ks.heap (kg.heap HXB.out (fun e => hXv e.symm)) hXL
            have c4 : w4.cell? ⟨X, 1, none⟩ = some (.int .i64 (c : Nat)) := by rw [cell_of_row _ _ _ _ _ _ hX4]; rfl
            have hR4 := (HR2.out.keeps kg (fun e => by have := (HROW2.out.lt _ e).1; omega) (fun b hb e => by have := (HROW2.out.lt _ e).1; have := HPO.out b hb; omega)).keeps ks (by omega) (fun b hb e => by have := HPO.out b hb; omega)
            have hkw4 := (HKW2.out.trans kg (fun k hk e => by have := (HROW2.out.lt _ e).1; omega)).trans ks (fun k hk e => by omega)
            have D1 := Hj hL4; have D2 := Hj hrow4; have D3 := Hj hR4; have D4 := Hj hkw4
            clear hL4 hrow4 hR4 hkw4 hX4 hL3 ks kg hw4 hown hgrow hat hlt hvi ca0 ca1 fa0 fa1 cl0 cl1 fl0 fl1 cx0 cx1
            have HBIG := Hj hbig'
            obtain ⟨d, hd⟩ : ∃ d, d = m - c := ⟨_, rfl⟩
            have hd1 : (m : Int) - c = d := by omega
            have hwd : IntKind.i64.wrap (d : Int) = d := qbk _ (by omega)
            have HD := Hj hd
            clear hd
            go_wp2
            refine ⟨⟨f1, d, i' + q, _, _, acc ++ [(x, c)], _, by have := HD.out; omega, by have := HD.out; omega, rfl, rfl, by have := HD.out; rw [List.length_append, List.length_singleton]; omega, ?_, ?_, D1.out, by omega, D3.out, D4.out, ?_⟩, by have := HD.out; simp [intOf]; omega⟩
            · intro z hz
              rcases List.mem_append.1 hz with h | h
              · exact HALL.out z h
              · rw [List.mem_singleton.1 h]; exact bc
            · rw [List.length_append, List.length_singleton, runCells_snoc]
              exact D2.out
            · rw [HD.out, ← HRES2.out, after_after, List.drop_drop]
          · go_upto_region 9 with (fail)
            rw [← H2.out, ← HXE.out]
            go_wp2_with fail
            have ca0 : ∀ o, (w2.drew.alloc o).cell? ⟨w.heap.size, 0, none⟩ = some (.int .u64 (xl : Nat)) := fun o => (qbm w2.drew o _ hLlt).trans cl0
            have ca1 : ∀ o, (w2.drew.alloc o).cell? ⟨w.heap.size, 1, none⟩ = some (.int .i64 (cl : Nat)) := fun o => (qbm w2.drew o _ hLlt).trans cl1
            have fa0 : ∀ o, (w2.drew.alloc o).frozen? ⟨w.heap.size, 0, none⟩ = false := fun o => (qck w2.drew o _ hLlt).trans fl0
            have fa1 : ∀ o, (w2.drew.alloc o).frozen? ⟨w.heap.size, 1, none⟩ = false := fun o => (qck w2.drew o _ hLlt).trans fl1
            have hvi := HROW2.out
            have HS2 := Hj hs2
            clear hs2
            go_region_held3 (fun w' => w'.cell? ⟨X, 0, none⟩ = some (.int .u64 (x : Nat)) ∧ w'.cell? ⟨X, 1, none⟩ = some (.int .i64 (c : Nat)))
             (first | go_keep | (go_split_ands; refine ⟨?_, ?_⟩ <;> (rw [hgrow.cell_far _ (by simp; omega) hXv]; go_keep)))
             ((refine step_append_lies _ (by rfl) (.tmp 43) (.tmp 45) 198 (by rfl) (w.heap.size + 1) 197 i0 (.agg #[.int .u64 0, .int .i64 0]) 2 16 Tryz.underlying198 hii hz0 hz1 hz2 rfl (by decide) _ acc.length (qcp acc) (by rfl) (hvi.drew.alloc _) ⟨w2.heap.size, 0, none⟩ 1 1 [.int .u64 (x : Nat), .int .i64 (c : Nat)] (by rfl) rfl (World.news_of_block (by exact heap_alloc_new _ _)) (two_one _ _ _ _) (by decide) (by unfold maxLen; omega) (by omega) (by simp; omega) (w2.heap.size + 1) (by simp) ?_; intro g cap w3 hown hgrow hat hlt; have s0 := (hgrow.cell_far ⟨w.heap.size, 0, none⟩ (by simp; omega) hLv).trans (ca0 _); have s1 := (hgrow.cell_far ⟨w.heap.size, 1, none⟩ (by simp; omega) hLv).trans (ca1 _); have s2 := (hgrow.frozen_far ⟨w.heap.size, 0, none⟩ (by simp; omega) hLv).trans (fa0 _); have s3 := (hgrow.frozen_far ⟨w.heap.size, 1, none⟩ (by simp; omega) hLv).trans (fa1 _)))
            obtain ⟨w4, hw4⟩ : ∃ w4, w4 = (w3.setCell ⟨w.heap.size, 0, none⟩ (.int .u64 (x : Nat))).setCell ⟨w.heap.size, 1, none⟩ (.int .i64 (c : Nat)) := ⟨_, rfl⟩
            rw [← hw4]
            have kg : Keeps (own v1) w2 w3 := ((Keeps.refl (own v1) w2).drew.alloc _).grown hgrow (fun k _ e => e)
            have ks : Keeps (fun k => k = w.heap.size) w3 w4 := by rw [hw4]; exact ((Keeps.refl (fun k => k = w.heap.size) _).setCell (p := ⟨w.heap.size, 0, none⟩) (fun _ => rfl) _).setCell (p := ⟨w.heap.size, 1, none⟩) (fun _ => rfl) _
            have hL3 := kg.heap HL2.out (fun e => hLv e.symm)
            have hL4 := heap_setCell_same _ w.heap.size 1 _ _ (.int .i64 (c : Nat)) (heap_setCell_same _ w.heap.size 0 _ _ (.int .u64 (x : Nat)) hL3)
            rw [← hw4] at hL4
            have hrow4 := ks.row hown (fun b hb e => by have := (hown.lt b hb).1; omega)
            have hX4 := ks.heap (kg.heap HXB.out (fun e => hXv e.symm)) hXL
            have c4 : w4.cell? ⟨X, 1, none⟩ = some (.int .i64 (c : Nat)) := by rw [cell_of_row _ _ _ _ _ _ hX4]; rfl
            have hR4 := (HR2.out.keeps kg (fun e => by have := (HROW2.out.lt _ e).1; omega) (fun b hb e => by have := (HROW2.out.lt _ e).1; have := HPO.out b hb; omega)).keeps ks (by omega) (fun b hb e => by have := HPO.out b hb; omega)
            have hkw4 := (HKW2.out.trans kg (fun k hk e => by have := (HROW2.out.lt _ e).1; omega)).trans ks (fun k hk e => by omega)
            have D1 := Hj hL4; have D2 := Hj hrow4; have D3 := Hj hR4; have D4 := Hj hkw4
            clear hL4 hrow4 hR4 hkw4 hX4 hL3 ks kg hw4 hown hgrow hat hlt hvi ca0 ca1 fa0 fa1 cl0 cl1 fl0 fl1 cx0 cx1
            have HBIG := Hj hbig'
            obtain ⟨d, hd⟩ : ∃ d, d = m - c := ⟨_, rfl⟩
            have hd1 : (m : Int) - c = d := by omega
            have hwd : IntKind.i64.wrap (d : Int) = d := qbk _ (by omega)
            have HD := Hj hd
            clear hd
            go_wp2
            refine ⟨⟨f1, d, i' + q, _, _, acc ++ [(x, c)], _, by have := HD.out; omega, by have := HD.out; omega, rfl, rfl, by have := HD.out; rw [List.length_append, List.length_singleton]; omega, ?_, ?_, D1.out, by omega, D3.out, D4.out, ?_⟩, by have := HD.out; simp [intOf]; omega⟩
            · intro z hz
              rcases List.mem_append.1 hz with h | h
              · exact HALL.out z h
              · rw [List.mem_singleton.1 h]; exact bc
            · rw [List.length_append, List.length_singleton, runCells_snoc]
              exact D2.out
            · rw [HD.out, ← HRES2.out, after_after, List.drop_drop]
    · rw [if_pos he] at HRES2
      have he' : ((e : Int) == 0) = false := by simp; omega
      have he2 : ¬ (e : Int) = 0 := by omega
      go_wp2
      go_ret2
      refine ⟨_, by rw [← HRES2.out]; rfl, ?_, ⟨i' + q, by omega, HR1.out.keeps ((Keeps.refl (fun _ => False) w1).alloc _) (fun h => h) (fun _ _ h => h), by rw [← HRES2.out]; show ((qad bs).drop i').drop q = _; rw [List.drop_drop]⟩, HKW1.out.trans ((Keeps.refl (fun _ => False) w1).alloc _) (fun _ _ h => h.elim)⟩
      rw [getVals_bad (by rw [← HRES2.out]; exact he)]
      exact World.ownsRow_nil _ _ _ _
end
section
set_option maxHeartbeats 4000000
set_option maxRecDepth 100000
open Go.RowKit Go.Maps
theorem insO_len (x : Nat) (s : List Nat) (h : s.Pairwise (· < ·)) : (insO x s).length = if x ∈ s then s.length else s.length + 1 := by
 induction s with
 | nil => simp [insO]
 | cons y r ih =>
   obtain ⟨h1, h2⟩ := List.pairwise_cons.1 h
   unfold insO
   split
   · rename_i hxy
     have hn : x ∉ y :: r := fun e => by
      rcases List.mem_cons.1 e with e | e
      · omega
      · have := h1 x e; omega
     rw [if_neg hn]; simp
   · split
     · rename_i _ e; subst e; simp
     · rename_i _ hne
       rw [List.length_cons, ih h2]
       by_cases hm : x ∈ r
       · simp [hm]
       · simp [hm, hne]
theorem dictO_snoc (a : List Nat) (x : Nat) : dictO (a ++ [x]) = insO x (dictO a) :=
 strict_ext _ _ (qby _) (insO_sorted x _ (qby a)) (fun z => by rw [qcn, mem_insO, qcn]; simp [or_comm])
theorem dictO_snoc_len (a : List Nat) (x : Nat) : (dictO (a ++ [x])).length = if x ∈ a then (dictO a).length else (dictO a).length + 1 := by
 rw [dictO_snoc, insO_len x _ (qby a)]
 simp only [qcn]
theorem dictO_range (zs : List Nat) (k : Nat) (h : ∀ z, z ∈ zs ↔ z < k) : (dictO zs).length = k := by
 rw [strict_ext (dictO zs) (List.range k) (qby zs) List.pairwise_lt_range (fun z => by rw [qcn, h, List.mem_range]), List.length_range]
theorem rfield_any (base p : Nat) (v : Value) (bs : List Nat) (i N X : Nat) (rest : List Bool) (w : World) (h : IsR w base p v bs i) (hl : bs.length ≤ 140737488351232) (hib : i ≤ 8 * bs.length) (hN : N ≤ 64) (hX : X < 2 ^ N) (hi : (qad bs).drop i = qaa X N ++ rest) :
 Calls Tryz.prog 53 #[.pointer (some ⟨p, 0, none⟩), .int .i64 (N : Int)] w fun e w' => e = .returned (.tuple #[.int .u64 (X : Int), .int .i64 0]) ∧ IsR w' base p v bs (i + N) ∧ Keeps (fun k => k = p) w w' := by
 have hlen := congrArg List.length hi
 rw [List.length_drop, qaz, List.length_append, qab] at hlen
 have he : i + N ≤ 8 * bs.length := by omega
 have hb : qae (qaw bs i N) = X := by
  unfold qaw
  rw [hi, List.take_left' (qab X N), qba, Nat.mod_eq_of_lt hX]
 have := rbits_any base p v bs i N w h hl hN he
 rwa [hb] at this
theorem drop_field {bs : List Nat} {i N X : Nat} {rest : List Bool} (hib : i ≤ 8 * bs.length) (hi : (qad bs).drop i = qaa X N ++ rest) : (qad bs).drop (i + N) = rest ∧ i + N ≤ 8 * bs.length := by
 refine ⟨by rw [← List.drop_drop, hi, List.drop_left' (qab X N)], ?_⟩
 have hlen := congrArg List.length hi
 rw [List.length_drop, qaz, List.length_append, qab] at hlen
 omega
theorem IsR.grown {a b : World} {base p q : Nat} {v : Value} {bs : List Nat} {i : Nat} {row : Option Nat} (h : IsR a base p v bs i) (hg : a.grownBy b row) (hp : p < q) (hv : ∀ g, v.ownBlock = some g → g < q) (hr : ∀ g, row = some g → q ≤ g) : IsR b base p v bs i :=
 h.keeps (S := fun k => q ≤ k) ((Keeps.refl _ a).grown hg (fun k _ e => hr k e)) (by omega) (fun g hg => by have := hv g hg; omega)
theorem getd_any (base p : Nat) (v : Value) (bs : List Nat) (i : Nat) (d : List Nat) (rest : List Bool) (w : World) (h : IsR w base p v bs i) (hl : bs.length ≤ 140737488351232) (hib : i ≤ 8 * bs.length)
 (hd1 : 1 ≤ d.length) (hd2 : d.length ≤ 128) (hs : d.Pairwise (· < ·)) (hX : ∀ x ∈ d, x ≤ 18446744073709551615) (hi : (qad bs).drop i = qaa (d.length - 1) 7 ++ (words8 d ++ rest)) :
 Calls Tryz.prog 108 #[.pointer (some ⟨p, 0, none⟩)] w fun e w' => ∃ v', e = .returned (.tuple #[v', .int .i64 0]) ∧ w'.ownsRow w.heap.size 23 1 v' d.length (u64s d) ∧
  IsR w' base p v bs (i + 7 + 64 * d.length) ∧ Keeps (fun k => k = p) w w' := by
 obtain ⟨i0, hii, hz0, hz1, hz2⟩ := info_parts infoU64
 obtain ⟨K, hK⟩ : ∃ K, d.length = K := ⟨_, rfl⟩
 rw [hK] at hi hd1 hd2 ⊢
 obtain ⟨q, hq⟩ : ∃ q, K = q + 1 := ⟨K - 1, by omega⟩
 rw [show K - 1 = q by omega] at hi
 have H0 := Hj (rfield_any base p v bs i 7 q (words8 d ++ rest) w h hl hib (by decide) (by omega) hi)
 obtain ⟨hdr, hb7⟩ := drop_field hib hi
 have HDR := Hj hdr; have HB7 := Hj hb7; have HS := Hj hs; have HX := Hj hX; have HKD := Hj hK
 have hpl := h.lt
 have HVL : Hid (∀ g, v.ownBlock = some g → g < w.heap.size) := Hj (fun g hg => h.own_lt hg)
 have HPL := Hj hpl
 have eq1 : (q : Int) + 1 = (K : Int) := by omega
 have hqb : (q : Int) ≤ 127 := by omega
 clear h hi hdr hb7 hs hX hK hib hq hpl
 go_enter Tryz.func108, Tryz.ntmps108
 go_wp2_with (go_at_call 53; refine H0.out.mono ?_; rintro e w1 ⟨rfl, hr, hk⟩; have HR0 := Hj hr; have HK0 := Hj hk; clear hr hk)
 go_loopw [6, 21] (fun c6 c wr => ∃ (j : Nat), c = .int .i64 (j : Int) ∧ j ≤ K ∧ Hid (wr.ownsRow w.heap.size 23 1 c6 j (u64s (d.take j))) ∧ Hid (IsR wr base p v bs (i + 7 + 64 * j)) ∧ i + 7 + 64 * j ≤ 8 * bs.length ∧ Hid ((qad bs).drop (i + 7 + 64 * j) = words8 (d.drop j) ++ rest) ∧ Hid (Keeps (fun k => k = p) w wr)) (fun _ c _ => K - (intOf c).toNat)
 case atStart => exact ⟨0, rfl, Nat.zero_le _, Hj (World.ownsRow_nil _ _ _ _), HR0, HB7.out, HDR, HK0⟩
 case round =>
  obtain ⟨j, rfl, hjK, HROW, HR, hbj, HD, HK⟩ := hrel
  obtain ⟨ad, cp, rfl⟩ := qaf HROW.out
  by_cases hlt : j < K
  · have hlti : (j : Int) < (K : Int) := by omega
    obtain ⟨x, hx⟩ : ∃ x, d[j]? = some x := ⟨d[j]'(by have := HKD.out; omega), by simp⟩
    have hx64 := HX.out x (List.mem_of_getElem? hx)
    have hdd : d.drop j = x :: d.drop (j + 1) := by
     obtain ⟨h1, h2⟩ := List.getElem?_eq_some_iff.1 hx
     rw [List.drop_eq_getElem_cons h1, h2]
    have hf : (qad bs).drop (i + 7 + 64 * j) = qaa x 64 ++ (words8 (d.drop (j + 1)) ++ rest) := by rw [HD.out, hdd]; simp [words8]
    have HC := Hj (rfield_any base p v bs (i + 7 + 64 * j) 64 x _ wr HR.out hl hbj (by decide) (by omega) hf)
    obtain ⟨hdn, hbn⟩ := drop_field hbj hf
    have HDN := Hj hdn
    have hT : d.take (j + 1) = d.take j ++ [x] := by rw [List.take_add_one, hx]; rfl
    have HT := Hj hT
    have htl : (u64s (d.take j)).length = j := by rw [qbz, List.length_take]; have := HKD.out; omega
    have HTL := Hj htl
    rcases Nat.eq_zero_or_pos j with hj0 | hj0
    · subst hj0
      clear hx hx64 hdd hf hdn hT htl
      go_wp2_with (first
       | (go_at_call 53; refine HC.out.mono ?_; rintro e w2 ⟨rfl, hr, hk⟩; have HR2 := Hj hr; have HK2 := Hj (HK.out.trans hk (fun k _ e => e)); have HRW2 := Hj (hk.row HROW.out (fun g hg e => by have := (HROW.out.lt g hg).1; have := HPL.out; omega)); clear hr hk)
       | (at_builtin; refine wpList_append_own _ rfl _ _ 55 rfl w.heap.size 23 i0 (.int .u64 0) 1 8 Tryz.underlying55 hii hz0 hz1 hz2 rfl (by decide) _ _ _ rfl (HRW2.out.alloc _) ⟨w2.heap.size, 0, none⟩ 1 1 [.int .u64 (x : Int)] rfl rfl (cell_one_new _ _ _) (by simp [Value.oneCell']) (by unfold maxLen; omega) (by omega) (by have := HK2.out.size; simp; omega) ?_; intro v' w3 hown' hg3 hnil3)
       | go_in)
      go_roundw
      case rel =>
       exact ⟨1, rfl, by omega, Hj (by rw [HT.out]; simpa [u64s] using hown'), Hj ((HR2.out.keeps ((Keeps.refl (fun _ => False) w2).alloc _) (fun h => h) (fun _ _ h => h)).grown (q := w.heap.size) hg3 HPL.out HVL.out (fun g hg => (HRW2.out.lt g hg).1)), by omega, HDN, Hj ((HK2.out.alloc _).grown hg3 (fun k hk e => by have := (HRW2.out.lt k e).1; omega))⟩
      case measure => simp [intOf]; omega
    · obtain ⟨m, hm⟩ : ∃ m, j = m + 1 := ⟨j - 1, by omega⟩
      have em : (j : Int) - 1 = (m : Int) := by omega
      have hj0' : (0 : Int) < (j : Int) := by omega
      obtain ⟨y, hy⟩ : ∃ y, d[m]? = some y := ⟨d[m]'(by have := HKD.out; omega), by simp⟩
      have hyx : ¬ (x : Int) ≤ (y : Int) := by
       obtain ⟨h1, h2⟩ := List.getElem?_eq_some_iff.1 hx
       obtain ⟨h3, h4⟩ := List.getElem?_eq_some_iff.1 hy
       have := List.pairwise_iff_getElem.1 HS.out m j h3 h1 (by omega)
       omega
      have hyr : (u64s (d.take j))[m]? = some (.int .u64 (y : Int)) := by simp [u64s, show m < j by omega, hy]
      have hms : (m : Int) < (j : Int) := by omega
      have HYR := Hj hyr
      have hjb : (j : Int) ≤ 128 := by omega
      clear hx hx64 hdd hf hdn hT htl hm hy hyr
      go_wp2_with (first
       | (go_at_call 53; refine HC.out.mono ?_; rintro e w2 ⟨rfl, hr, hk⟩; have HR2 := Hj hr; have HK2 := Hj (HK.out.trans hk (fun k _ e => e)); have HRW2 := Hj (hk.row HROW.out (fun g hg e => by have := (HROW.out.lt g hg).1; have := HPL.out; omega)); obtain ⟨g, cap, hge, hjc, _, hcell, _⟩ := row_cell HRW2.out HYR.out; simp only [Value.slice.injEq] at hge; obtain ⟨rfl, _, rfl⟩ := hge; clear hr hk)
       | (at_builtin; refine wpList_append_own _ rfl _ _ 55 rfl w.heap.size 23 i0 (.int .u64 0) 1 8 Tryz.underlying55 hii hz0 hz1 hz2 rfl (by decide) _ _ _ rfl (HRW2.out.alloc _) ⟨w2.heap.size, 0, none⟩ 1 1 [.int .u64 (x : Int)] rfl rfl (cell_one_new _ _ _) (by simp [Value.oneCell']) (by unfold maxLen; omega) (by omega) (by have := HK2.out.size; simp; omega) ?_; intro v' w3 hown' hg3 hnil3)
       | go_in)
      go_roundw
      case rel =>
       exact ⟨j + 1, by simp, by omega, Hj (by rw [HT.out]; simpa [u64s] using hown'), Hj ((HR2.out.keeps ((Keeps.refl (fun _ => False) w2).alloc _) (fun h => h) (fun _ _ h => h)).grown (q := w.heap.size) hg3 HPL.out HVL.out (fun g hg => (HRW2.out.lt g hg).1)), by omega, HDN, Hj ((HK2.out.alloc _).grown hg3 (fun k hk e => by have := (HRW2.out.lt k e).1; omega))⟩
      case measure => simp [intOf]; omega
  · obtain rfl : j = K := by omega
    go_wp2
    go_ret2
    refine ⟨_, rfl, ?_, HR.out, HK.out⟩
    have := HROW.out
    rwa [List.take_of_length_le (by have := HKD.out; omega)] at this
end
section
set_option maxHeartbeats 4000000
set_option maxRecDepth 100000
open Go.RowKit
structure Mid6 (D : Nat × List Nat × List Bool) (acc : List Nat) (b : List Bool) (s : Nat × Nat) (p f : Nat) : Prop where
 err : (decX f s p b).1 = D.1
 ok : D.1 = 0 → acc ++ (decX f s p b).2.1 = D.2.1
 bad : D.1 ≠ 0 → D.2.1 = []
 rest : (decX f s p b).2.2 = D.2.2
theorem dec6_start {n : Nat} {b : List Bool} (hn : n ≠ 0) (hl : ¬ b.length < 64) : Mid6 (dec6 n b) [qae (b.take 64)] (b.drop 64) win0 (qae (b.take 64)) (n - 1) := by
 have hb := fun h => dec6_bad (n := n) (b := b) h
 unfold dec6 at *
 rw [if_neg hn, if_neg hl] at *
 exact ⟨rfl, fun h => by simp only at h ⊢; rw [if_pos h]; rfl, hb, rfl⟩
theorem Mid6.step {D : Nat × List Nat × List Bool} {acc : List Nat} {b : List Bool} {s s' : Nat × Nat} {p f x m : Nat} (h : Mid6 D acc b s p (f + 1)) (hc : getX s b = (x, 0, m, s')) :
 Mid6 D (acc ++ [p ^^^ x]) (b.drop m) s' (p ^^^ x) f := by
 obtain ⟨h1, h2, h3, h4⟩ := h
 rw [decX_succ hc] at h1 h2 h4
 simp only [ne_eq, not_true_eq_false, if_false] at h1 h2 h4
 exact ⟨h1, fun h => by rw [← h2 h]; simp, h3, h4⟩
theorem Mid6.stop {D : Nat × List Nat × List Bool} {acc : List Nat} {b : List Bool} {s s' : Nat × Nat} {p f x e m : Nat} (h : Mid6 D acc b s p (f + 1)) (hc : getX s b = (x, e, m, s')) (he : e ≠ 0) : D = (e, [], b.drop m) := by
 obtain ⟨h1, h2, h3, h4⟩ := h
 rw [decX_succ hc, if_pos he] at h1 h4
 have := h3 (by rw [← h1]; exact he)
 obtain ⟨D1, D2, D3⟩ := D
 simp only at h1 h4 this
 rw [← h1, this, ← h4]
theorem Mid6.done {D : Nat × List Nat × List Bool} {acc : List Nat} {b : List Bool} {s : Nat × Nat} {p : Nat} (h : Mid6 D acc b s p 0) : D = (0, acc, b) := by
 obtain ⟨h1, h2, h3, h4⟩ := h
 simp only [decX, List.append_nil] at h1 h2 h4
 obtain ⟨D1, D2, D3⟩ := D
 simp only at h1 h2 h4
 rw [← h1, ← h2 h1.symm, ← h4]
theorem xget_zero (p : Nat) (w : World) : Calls Tryz.prog 45 #[.pointer (some ⟨p, 0, none⟩), .int .i64 0] w fun e w' => e = .returned (.tuple #[.slice none 0 0, .int .i64 0]) ∧ w = w' := by
 go_enter Tryz.func45, Tryz.ntmps45
 go_wp2
 go_ret2
 exact ⟨rfl, rfl⟩
theorem DS.beside {w w' : World} {base p : Nat} {v : Value} {bs : List Nat} {i D last : Nat} {s : Nat × Nat} {err : Nat} (h : DS w base p v bs i D last s err) {b1 n : Nat} {u : Value} {xs : List Value} (hr : w.ownsRow b1 23 1 u n xs) (k : Keeps (own u) w w') : DS w' base p v bs i D last s err := by
 have hne : ∀ {B : Nat} {cs : Array Value} {t : TypeId} {fr : Nat × Nat}, w.heap[B]? = some (.cells cs t fr) → t ≠ 23 → ¬ own u B := fun hB ht e => by
  obtain ⟨c', hc'⟩ := qaj hr e
  exact qag hB hc' ht rfl
 refine ⟨h.rd.keeps k (hne h.rd.blk (by decide)) (fun g hg => ?_), k.heap h.dec (hne h.dec (by decide))⟩
 obtain ⟨c', hc'⟩ := qaj h.rd.row hg
 exact hne hc' (by decide)
theorem xget_any (base p : Nat) (v : Value) (bs : List Nat) (i n : Nat) (w : World) (h : IsR w base p v bs i) (hl : bs.length ≤ 1099511627776) (hi : i ≤ 8 * bs.length) (hn : n ≤ 1000000000) (hT : TabZ w) (hbase : 2 < base) :
 Calls Tryz.prog 45 #[.pointer (some ⟨p, 0, none⟩), .int .i64 n] w fun e w' => ∃ v', e = .returned (.tuple #[v', .int .i64 (((dec6 n ((qad bs).drop i)).1 : Nat) : Int)]) ∧
  w'.ownsRow w.heap.size 23 1 v' (dec6 n ((qad bs).drop i)).2.1.length (u64s (dec6 n ((qad bs).drop i)).2.1) ∧
  (∃ i', i' ≤ 8 * bs.length ∧ IsR w' base p v bs i' ∧ (dec6 n ((qad bs).drop i)).2.2 = (qad bs).drop i') ∧ Keeps (fun k => k = p) w w' := by
 obtain ⟨i0, hii, hz0, hz1, hz2⟩ := info_parts infoU64
 by_cases hn0 : n = 0
 · subst hn0
   refine (xget_zero p w).mono ?_
   rintro e w' ⟨rfl, rfl⟩
   exact ⟨_, rfl, World.ownsRow_nil _ _ _ _, ⟨i, hi, h, rfl⟩, Keeps.refl _ _⟩
 have hpl := h.lt
 have hpb : 2 < p := Nat.lt_of_lt_of_le hbase h.base
 obtain ⟨b, hb⟩ : ∃ b, b = (qad bs).drop i := ⟨_, rfl⟩
 obtain ⟨D, hD⟩ : ∃ D, D = dec6 n b := ⟨_, rfl⟩
 rw [← hb, ← hD]
 obtain ⟨E, hE⟩ : ∃ E, E = w.heap.size := ⟨_, rfl⟩
 obtain ⟨w1, hw1⟩ : ∃ w1, w1 = w.alloc (.cells (decCells 0 win0 p 0) 191) := ⟨_, rfl⟩
 have k1 : Keeps (fun _ => False) w w1 := by rw [hw1]; exact (Keeps.refl _ w).alloc _
 have d1 : DS w1 base p v bs i E 0 win0 0 := ⟨h.keeps k1 (fun h => h) (fun _ _ h => h), by rw [hw1, hE]; exact heap_alloc_new w _⟩
 have hs1 : w1.heap.size = E + 1 := by rw [hw1, hE]; simp
 have hbE : 2 < E := by rw [hE]; exact hT.pos
 have hpE : p < E := by rw [hE]; exact hpl
 have hbl : b.length = 8 * bs.length - i := by rw [hb]; exact rest_length' bs i
 -- the first word
 obtain ⟨X, e1, m1, hrd, hst⟩ : ∃ X e1 m1, readD 0 ((64 : Nat) : Int) ((qad bs).drop i) = (X, e1, m1) ∧ ((e1 = 0 ∧ m1 = 64 ∧ ¬ b.length < 64 ∧ X = qae (b.take 64)) ∨ (e1 = 3 ∧ m1 = 0 ∧ X = 0 ∧ b.length < 64)) := by
  rw [qbf, ← hb]
  by_cases hs : b.length < 64
  · exact ⟨_, _, _, qdd 64 b (by decide) hs, .inr ⟨rfl, rfl, rfl, hs⟩⟩
  · exact ⟨_, _, _, stepB_in 64 b (by decide) (by omega), .inl ⟨rfl, rfl, hs, rfl⟩⟩
 have hX64 : X < 18446744073709551616 := by
  rcases hst with ⟨_, _, _, rfl⟩ | ⟨_, _, rfl, _⟩
  · have : qae (b.take 64) < 2 ^ 64 := bitsNat_lt' (List.length_take_le _ _)
    omega
  · decide
 have him : i + m1 ≤ 8 * bs.length := by rcases hst with ⟨_, rfl, h2, _⟩ | ⟨_, rfl, _, _⟩ <;> omega
 have hinv : (e1 = 0 ∧ Mid6 D [X] ((qad bs).drop (i + m1)) win0 X (n - 1)) ∨ (e1 ≠ 0 ∧ D = (e1, [], (qad bs).drop (i + m1))) := by
  rcases hst with ⟨h1, h2, h3, h4⟩ | ⟨h1, h2, h3, h4⟩
  · refine .inl ⟨h1, ?_⟩
    have := dec6_start (n := n) hn0 h3
    rw [← h4, ← hD, hb, List.drop_drop] at this
    rw [h2]; exact this
  · refine .inr ⟨by omega, ?_⟩
    rw [h1, h2, hD, Nat.add_zero, ← hb]
    unfold dec6
    rw [if_neg hn0, if_pos h4]
 have hc1 := qar base p v bs i E 0 win0 w1 0 64 X e1 m1 d1 hl hi hrd
 have hnn : ¬ (n : Int) < 0 := by omega
 have hnz : ¬ (n : Int) = 0 := by omega
 have hnz' : ((n : Int) == 0) = false := by simp; omega
 have hn1 : 1 ≤ n := by omega
 have HC1 := Hj hc1; have K1 := Hj k1; have D1 := Hj d1; have HINV := Hj hinv; have HT := Hj hT; have HW1 := Hj hw1; have HS1 := Hj hs1
 clear hb hD hw1 k1 d1 hrd hst hinv hc1 hT h hbl hn0 hs1
 subst hE
 go_enter Tryz.func45, Tryz.ntmps45
 go_wp2_with fail
 rw [show w.alloc (.cells #[.int .u64 0, .int .i64 0, .int .i64 0, .pointer (some ⟨p, 0, none⟩), .int .i64 0] 191) = w1 from HW1.out.symm]
 refine HC1.out.mono ?_
 rintro e w2 ⟨rfl, d2, k2⟩
 obtain ⟨c0, _, _, _, c4, cf⟩ := d2.cells
 have cf0 := cf 0
 obtain ⟨w3, hw3⟩ : ∃ w3, w3 = w2.setCell ⟨w.heap.size, 0, none⟩ (.int .u64 (X : Nat)) := ⟨_, rfl⟩
 obtain ⟨d3, k3⟩ := d2.setLast (e := X)
 rw [← hw3] at d3 k3
 have b0 := d3.cells.1
 have hk3 : Keeps (fun k => k = p ∨ w.heap.size ≤ k) w w3 := (((K1.out.mono (fun _ _ h => h.elim)).trans k2 (fun k _ e => e.imp id (fun e => by omega))).trans k3 (fun k _ e => .inr (by omega)))
 have HW3 := Hj hw3; have D3 := Hj d3; have HK3 := Hj hk3
 have hs3 : w.heap.size + 1 ≤ w3.heap.size := by have := HS1.out; have := k2.size; have := k3.size; omega
 clear cf d2 k2 d3 k3 hw3 hk3
 go_upto_region 9 with fail
 rw [← HW3.out]
 clear c0 c4 cf0
 go_wp2_with fail
 obtain ⟨w4, hw4⟩ : ∃ w4, w4 = w3.alloc (.cells #[.int .u64 (X : Nat)] 23) := ⟨_, rfl⟩
 rw [← hw4]
 have k4 : ∀ S, Keeps S w3 w4 := fun S => by rw [hw4]; exact (Keeps.refl S w3).alloc _
 have hrow4 : w4.ownsRow (w.heap.size + 1) 23 1 (.slice (some ⟨w3.heap.size, 0, none⟩) 1 1) [X].length (u64s [X]) := by
  rw [hw4]
  exact World.ownsRow_lit (base := w.heap.size + 1) (e := 23) (size := 1) w3 #[.int .u64 (X : Nat)] 1 hs3 (by decide) rfl
 have D4 := Hj (D3.out.keeps (k4 _)); have HK4 := Hj (HK3.out.trans (k4 (fun _ => False)) (fun _ _ h => h.elim)); have HR4 := Hj hrow4
 clear k4 hrow4 hw4 b0
 go_loopw [7, 8] (fun t7 t8 wr => ∃ (c f last err i' : Nat) (s : Nat × Nat) (acc : List Nat), c ≤ n ∧ 1 ≤ c ∧ t8 = .int .i64 c ∧ acc.length = c ∧ wr.ownsRow (w.heap.size + 1) 23 1 t7 acc.length (u64s acc) ∧ i' ≤ 8 * bs.length ∧ DS wr base p v bs i' w.heap.size last s err ∧ Keeps (fun k => k = p ∨ w.heap.size ≤ k) w wr ∧
  ((err = 0 ∧ okWin s ∧ last < 18446744073709551616 ∧ c + f = n ∧ Mid6 D acc ((qad bs).drop i') s last f) ∨ (err ≠ 0 ∧ D = (err, [], (qad bs).drop i')))) (fun _ t8 _ => n - (intOf t8).toNat)
 case atStart => exact ⟨1, n - 1, X, e1, i + m1, win0, [X], hn1, by omega, rfl, rfl, HR4.out, him, D4.out, HK4.out, HINV.out.imp (fun h => ⟨h.1, .inl rfl, hX64, by omega, h.2⟩) id⟩
 case round =>
  obtain ⟨c, f, last, err, i', s, acc, hcn, hc1, rfl, hacc, hrow, hi', hd, hk, hinv⟩ := hrel
  have g4 := hd.cells.2.2.2.2.1
  by_cases he : err = 0
  · subst he
    obtain ⟨hs, hla, hcf, hmid⟩ : okWin s ∧ last < 18446744073709551616 ∧ c + f = n ∧ Mid6 D acc ((qad bs).drop i') s last f := by
     rcases hinv with h | h
     · exact h.2
     · exact absurd rfl h.1
    by_cases hlt : c < n
    · have hcn' : (c : Int) < n := by omega
      obtain ⟨g, rfl⟩ : ∃ g, f = g + 1 := ⟨f - 1, by omega⟩
      obtain ⟨⟨x, e, m, s'⟩, hg⟩ : ∃ q, getX s ((qad bs).drop i') = q := ⟨_, rfl⟩
      have hbd := getX_bounds s ((qad bs).drop i') hs
      rw [hg, rest_length'] at hbd
      simp only at hbd
      have hT' := HT.out.keeps hk (by omega)
      have hget := dget_any base p v bs i' w.heap.size last s wr hd hl hi' hs hla hT' hbase hbE x e m s' hg
      have hnext : (e = 0 ∧ (c + 1) + g = n ∧ Mid6 D (acc ++ [last ^^^ x]) ((qad bs).drop (i' + m)) s' (last ^^^ x) g) ∨ (e ≠ 0 ∧ D = (e, [], (qad bs).drop (i' + m))) := by
       rw [← List.drop_drop]
       by_cases h0 : e = 0
       · subst h0
         exact .inl ⟨rfl, by omega, hmid.step hg⟩
       · exact .inr ⟨h0, hmid.stop hg h0⟩
      have hst : i' + m ≤ 8 * bs.length := by omega
      obtain ⟨ad, cap, rfl⟩ := qaf hrow
      have HGET := Hj hget; have HNEXT := Hj hnext; have HROW := Hj hrow; have HK := Hj hk; have HOW := Hj hbd.2.2.2; have HXL := Hj hbd.2.2.1; have HACC := Hj hacc; have HS := Hj hs
      have hss : w.heap.size + 1 ≤ wr.heap.size := by have := hk.size; have := HS1.out; have := (Array.getElem?_eq_some_iff.1 hd.dec).1; omega
      clear hget hnext hrow hk hbd hacc hs hmid hinv hT' hg
      have HD := Hj hd
      clear hd
      go_wp2_with fail
      refine HGET.out.mono ?_
      rintro e2 w5 ⟨y, last2, s2, rfl, hyx, d5, k5⟩
      have hrow5 := k5.row HROW.out (fun g hg e => by have := (HROW.out.lt g hg).1; rcases e with e | e <;> omega)
      have hss5 : w.heap.size + 1 ≤ w5.heap.size := Nat.le_trans hss k5.size
      have HYX := Hj hyx; have D5 := Hj d5; have R5 := Hj hrow5
      have HK5 := Hj (HK.out.trans k5 (fun k _ e => e.imp id (fun e => by omega)))
      have hal : acc.length ≤ 1000000000 := by have := HACC.out; omega
      clear hyx d5 k5 g4
      go_wp2_with (at_builtin; refine qbe _ rfl _ _ 55 rfl (w.heap.size + 1) 23 i0 (.int .u64 0) 1 8 Tryz.underlying55 hii hz0 hz1 hz2 rfl (by decide) _ _ _ rfl (hrow5.alloc _) ⟨w5.heap.size, 0, none⟩ 1 1 [.int .u64 (y : Nat)] rfl rfl ?c1 ?c2 ?c3 ?c4 ?c5 ?_)
      case c1 => exact cell_one_new _ _ _
      case c2 => simp [Value.oneCell']
      case c3 => unfold maxLen; omega
      case c4 => omega
      case c5 => simp; omega
      intro v' w6 hown' hgrow hnew
      have kk1 : Keeps (own (.slice ad acc.length cap)) w5 w6 := ((Keeps.refl (own _) w5).alloc _).grown hgrow (fun k _ e => e)
      have F1 := Hj (HK5.out.trans kk1 (fun k hk e => .inr (by have := (R5.out.lt k e).1; omega)))
      have F2 := Hj (D5.out.beside R5.out kk1)
      have F3 := Hj hown'
      clear hown' hgrow hnew kk1 hrow5
      go_wp2
      refine ⟨⟨c + 1, g, last2, e, i' + m, s2, acc ++ [y], by omega, by omega, by go_num, by have := HACC.out; simp; omega, by have := F3.out; simpa [u64s] using this, hst, F2.out, F1.out, ?_⟩, by simp [intOf]; omega⟩
      rcases HNEXT.out with ⟨h0, h1, h2⟩ | h
      · obtain ⟨z1, z2, z3⟩ := HYX.out h0
        refine .inl ⟨h0, by rw [z3]; exact HOW.out, by rw [z2, z1]; exact xor_lt64 hla HXL.out, h1, ?_⟩
        rw [z3, z2, z1]
        exact h2
      · exact .inr h
    · obtain rfl : c = n := by omega
      obtain rfl : f = 0 := by omega
      have hD2 := hmid.done
      have hcn' : ¬ (c : Int) < c := by omega
      have HROW := Hj hrow; have HK := Hj hk; have HD := Hj hd; have HD2 := Hj hD2
      clear hrow hk hd hs hmid hinv hD2
      go_wp2
      go_ret2
      rw [HD2.out]
      exact ⟨_, rfl, qam HROW.out (fun g hg => by have := (HROW.out.lt g hg).1; omega), ⟨i', hi', HD.out.rd, rfl⟩, HK.out.mono (fun k hk e => by omega)⟩
  · have hD2 : D = (err, [], (qad bs).drop i') := by
     rcases hinv with h | h
     · exact absurd h.1 he
     · exact h.2
    have e1' : ((err : Int) == 0) = false := by simp; omega
    have e2' : (err : Int) ≠ 0 := by omega
    have HROW := Hj hrow; have HK := Hj hk; have HD := Hj hd; have HD2 := Hj hD2
    clear hrow hk hd hinv hD2 he
    by_cases hlt : c < n
    · have hcn' : (c : Int) < n := by omega
      go_wp2
      go_quiet (fail)
      go_wp2
      go_ret2
      rw [HD2.out]
      exact ⟨_, rfl, World.ownsRow_nil _ _ _ _, ⟨i', hi', HD.out.rd.drewN nq, rfl⟩, (HK.out.mono (fun k hk e => by omega)).drewN nq⟩
    · have hcn' : ¬ (c : Int) < n := by omega
      go_wp2
      go_quiet (fail)
      go_wp2
      go_ret2
      rw [HD2.out]
      exact ⟨_, rfl, World.ownsRow_nil _ _ _ _, ⟨i', hi', HD.out.rd.drewN nq, rfl⟩, (HK.out.mono (fun k hk e => by omega)).drewN nq⟩
end
section
set_option maxHeartbeats 4000000
set_option maxRecDepth 100000
open Go.RowKit Go.Maps
theorem get8_any (base p : Nat) (v : Value) (bs : List Nat) (i : Nat) (l : List Nat) (rest : List Bool) (w : World) (h : IsR w base p v bs i) (hbl : bs.length ≤ 1099511627776) (hib : i ≤ 8 * bs.length)
 (hl : l.length ≤ 1000000000) (hX : ∀ x ∈ l, x ≤ 18446744073709551615) (hne : l ≠ []) (hk : (dictO l).length ≤ 128) (hi : (qad bs).drop i = enc8 l ++ rest) :
 Calls Tryz.prog 51 #[.pointer (some ⟨p, 0, none⟩), .int .i64 (l.length : Int)] w fun e w' => ∃ v', e = .returned (.tuple #[v', .int .i64 0]) ∧ w'.ownsRow w.heap.size 23 1 v' l.length (u64s l) ∧
  (∃ i', i' ≤ 8 * bs.length ∧ IsR w' base p v bs i' ∧ (qad bs).drop i' = rest) ∧ Keeps (fun k => k = p) w w' := by
 obtain ⟨i0, hii, hz0, hz1, hz2⟩ := info_parts infoU64
 have hkpos := dictO_pos hne
 have hlpos := List.length_pos_iff.2 hne
 have hmem : ∀ x, x ∈ l ↔ x ∈ dictO l := fun x => (qcn x l).symm
 have hsorted := qby l
 have hi' : (qad bs).drop i = qaa ((dictO l).length - 1) 7 ++ (words8 (dictO l) ++ (index8 (dictO l) l ++ rest)) := by rw [hi]; unfold enc8; simp only [List.append_assoc]
 have hdX : ∀ x ∈ dictO l, x ≤ 18446744073709551615 := fun x hx => hX x ((hmem x).2 hx)
 generalize dictO l = d at *
 have H0 := Hj (getd_any base p v bs i d (index8 d l ++ rest) w h (by omega) hib hkpos hk hsorted hdX hi')
 have hlen := congrArg List.length hi'
 rw [List.length_drop, qaz, List.length_append, List.length_append, qab, qco] at hlen
 have hb1 : i + 7 + 64 * d.length ≤ 8 * bs.length := by omega
 have hd1 : (qad bs).drop (i + 7 + 64 * d.length) = index8 d l ++ rest := by
  rw [← List.drop_drop, ← List.drop_drop, hi', List.drop_left' (qab _ _), List.drop_left' (qco d)]
 obtain ⟨K, hK⟩ : ∃ K, d.length = K := ⟨_, rfl⟩
 obtain ⟨m, hm⟩ : ∃ m, m = widthO K := ⟨_, rfl⟩
 have hm7 : m ≤ 7 := by rw [hm]; exact widthO_le K (by omega)
 have hKm : ∀ z, z < K → z < 2 ^ m := fun z hz => by
  rw [hm]; unfold widthO
  rw [if_neg (by omega)]
  by_cases h1 : K - 1 = 0
  · have : z = 0 := by omega
    subst this; exact Nat.two_pow_pos _
  · have := (Lib.bitLenAux_bounds 64 (K - 1) (by omega) h1).2.2
    exact Nat.lt_of_le_of_lt (show z ≤ K - 1 by omega) this
 have HWD := Hj (fun w => width_any K w (by omega))
 rw [← hm] at HWD
 rw [hK] at H0 hb1 hd1 hk hkpos
 obtain ⟨zs, hzs⟩ : ∃ zs, zs = l.map (fun x => d.idxOf x) := ⟨_, rfl⟩
 have hcov : ∀ z, z ∈ zs ↔ z < K := fun z => by
  rw [hzs, List.mem_map]
  constructor
  · rintro ⟨x, hx, rfl⟩
    rw [← hK]; exact List.idxOf_lt_length_iff.2 ((hmem x).1 hx)
  · intro hz
    have hzd : z < d.length := by omega
    refine ⟨d[z], (hmem _).2 (List.getElem_mem _), ?_⟩
    have hnd : d.Nodup := hsorted.imp (fun h => Nat.ne_of_lt h)
    exact hnd.idxOf_getElem z hzd
 have hfull := dictO_range zs K hcov
 have hzat : ∀ j x, l[j]? = some x → ∃ z, zs[j]? = some z ∧ d.idxOf x = z ∧ z < K ∧ d[z]? = some x := fun j x hx => by
  have hxd := (hmem x).1 (List.mem_of_getElem? hx)
  have h2 := List.idxOf_lt_length_iff.2 hxd
  exact ⟨d.idxOf x, by rw [hzs, List.getElem?_map, hx]; rfl, rfl, by omega, by rw [List.getElem?_eq_getElem h2]; simp⟩
 have hzl : zs.length = l.length := by rw [hzs, List.length_map]
 have HFULL := Hj hfull; have HZAT := Hj hzat; have HZL := Hj hzl; have HD1 := Hj hd1; have HKD := Hj hK; have HM := Hj hm; have HKM := Hj hKm
 have hpl := h.lt
 have HVL : Hid (∀ g, v.ownBlock = some g → g < w.heap.size) := Hj (fun g hg => h.own_lt hg)
 have HPL := Hj hpl; have HX := Hj hX; have HB1 := Hj hb1
 have hn0 : ¬ (l.length : Int) < 0 := by omega
 have hn1 : ¬ (l.length : Int) = 0 := by omega
 have hKb : (K : Int) ≤ 128 := by omega
 have hmk := fun w' : World => run_makeMap (P := Tryz.prog) 206 w'
 have HMK := Hj hmk
 clear hlen h hi hi' hd1 hsorted hmem hdX hK hm hKm hcov hfull hzat hzl hzs hpl hX hib hne hb1 hmk
 go_enter Tryz.func51, Tryz.ntmps51
 go_wp2_with (first
  | (go_at_call 108; refine H0.out.mono ?_; rintro e w1 ⟨vd, rfl, hrow, hr, hk1⟩; obtain ⟨add, cpd, rfl⟩ := qaf hrow; have HRD := Hj hrow; have HR1 := Hj hr; have HK1 := Hj hk1; have hmk := HMK.out w1; have HM0 := Hj (World.ownsMap_made w1 Tryz.prog 23 (plainElem (H := Nat) Tryz.prog 4)); clear hrow hr hk1))
 clear hmk HMK
 go_loopw [8, 31] (fun c8 c wr => ∃ (j : Nat) (D : DataW Nat), c = .int .i64 (j : Int) ∧ j ≤ l.length ∧ Hid (wr.ownsMap Tryz.prog 23 (plainElem (H := Nat) Tryz.prog 4) w1.heap.size j D) ∧ Hid (SetOf D (zs.take j)) ∧ Hid (Maps.size D = (dictO (zs.take j)).length) ∧
  Hid (wr.ownsRow (w1.heap.size + 1) 23 1 c8 j (u64s (l.take j))) ∧ (∃ i', i' ≤ 8 * bs.length ∧ Hid (IsR wr base p v bs i') ∧ Hid ((qad bs).drop i' = index8 d (l.drop j) ++ rest)) ∧ Hid (Keeps (fun k => k = p) w1 wr)) (fun _ c _ => l.length - (intOf c).toNat)
 case atStart =>
  exact ⟨0, .map [], rfl, Nat.zero_le _, HM0, Hj SetOf.nil, Hj rfl, Hj (World.ownsRow_nil _ _ _ _), ⟨_, HB1.out, Hj (HR1.out.keeps ((Keeps.refl (fun _ => False) w1).alloc _) (fun h => h) (fun _ _ h => h)), HD1⟩, Hj ((Keeps.refl _ _).alloc _)⟩
 case round =>
  clear HM0 HR1 HD1 HB1
  obtain ⟨j, D, rfl, hjl, HM1, HS, HSZ, HROW, ⟨i', hbi, HR, HD⟩, HK⟩ := hrel
  by_cases hlt : j < l.length
  · have hlti : (j : Int) < (l.length : Int) := by omega
    obtain ⟨x, hx⟩ : ∃ x, l[j]? = some x := ⟨l[j], by simp⟩
    obtain ⟨z, hz1', hz2', hz3, hz4⟩ := HZAT.out j x hx
    have hldd : l.drop j = x :: l.drop (j + 1) := by
     obtain ⟨h1, h2⟩ := List.getElem?_eq_some_iff.1 hx
     rw [List.drop_eq_getElem_cons h1, h2]
    have hf : (qad bs).drop i' = qaa z m ++ (index8 d (l.drop (j + 1)) ++ rest) := by rw [HD.out, hldd, ← hz2', HM.out, ← HKD.out]; simp [index8]
    have HC := Hj (rfield_any base p v bs i' m z _ wr HR.out (by omega) hbi (by omega) (HKM.out z hz3) hf)
    obtain ⟨hdn, hbn⟩ := drop_field hbi hf
    have HDN := Hj hdn
    have HT : Hid (l.take (j + 1) = l.take j ++ [x]) := Hj (by rw [List.take_add_one, hx]; rfl)
    have HZT : Hid (zs.take (j + 1) = zs.take j ++ [z]) := Hj (by rw [List.take_add_one, hz1']; rfl)
    have HKY := Hj (keyU z (by omega))
    have HZ4 := Hj hz4
    have hzK : ¬ (K : Int) ≤ (z : Int) := by omega
    have hzK2 : (z : Int) < (K : Int) := by omega
    have HRDW := Hj (HK.out.row HRD.out (fun g hg e => by have := (HRD.out.lt g hg).1; have := HPL.out; omega))
    have hdz : (u64s d)[z]? = some (.int .u64 (x : Int)) := by simp [u64s, hz4]
    have HDZ := Hj hdz
    clear hx hz1' hz2' hz3 hz4 hldd hf hdn hdz
    go_wp2_with (first
     | (go_at_call 106; refine (HWD.out _).mono ?_; rintro e w' ⟨rfl, rfl⟩)
     | (go_at_call 53; refine HC.out.mono ?_; rintro e w2 ⟨rfl, hr, hk⟩; have HR2 := Hj hr; have HK2 := Hj (HK.out.trans hk (fun k _ e => e))
        have HRW2 := Hj (hk.row HROW.out (fun g hg e => by have := (HROW.out.lt g hg).1; have := HPL.out; have := HK1.out.size; omega))
        have HM2 : Hid (w2.ownsMap Tryz.prog 23 (plainElem (H := Nat) Tryz.prog 4) w1.heap.size j D) := Hj (by
         obtain ⟨es, clock, hb, F, hs, hD⟩ := HM1.out
         exact ⟨es, clock, hk.heap hb (by have := HPL.out; have := HK1.out.size; omega), F, hs, hD⟩)
        clear hr hk)
     | (at_mapUpdate; refine wpList_mapUpdate_own _ rfl _ _ _ 206 rfl 23 4 lawU Tryz.underlying206 (plainElem (H := Nat) Tryz.prog 4) w1.heap.size j D rfl HM2.out (by unfold maxLen; omega) _ _ _ rfl rfl HKY.out _ _ (plainElem_bool Tryz.underlying4 true) ?_; intro w3 hm3 hg3
        have HRW3 := Hj (HRW2.out.kept hg3 (Or.inr (fun e => by have := (HRW2.out.lt _ e).1; omega)))
        have HK3 := Hj (HK2.out.grown hg3 (fun k hk e => by simp only [Option.some.injEq] at e; omega))
        have HR3 := Hj (HR2.out.grown (q := w1.heap.size) hg3 (Nat.lt_of_lt_of_le HPL.out HK1.out.size) (fun g hg => Nat.lt_of_lt_of_le (HVL.out g hg) HK1.out.size) (fun g e => by simp only [Option.some.injEq] at e; omega))
        have hrd3 := HK3.out.row HRD.out (fun g hg e => by have := (HRD.out.lt g hg).1; have := HPL.out; omega)
        obtain ⟨g, cap, hge, hjc, _, hcell, _⟩ := row_cell hrd3 HDZ.out; simp only [Value.slice.injEq] at hge; obtain ⟨rfl, _, rfl⟩ := hge
        have HM3 := Hj hm3
        clear hm3 hg3 hrd3)
     | (at_builtin; refine wpList_append_own _ rfl _ _ 55 rfl (w1.heap.size + 1) 23 i0 (.int .u64 0) 1 8 Tryz.underlying55 hii hz0 hz1 hz2 rfl (by decide) _ _ _ rfl (HRW3.out.alloc _) ⟨w3.heap.size, 0, none⟩ 1 1 [.int .u64 (x : Int)] rfl rfl (cell_one_new _ _ _) (by simp [Value.oneCell']) (by unfold maxLen; omega) (by omega) (by have := HK3.out.size; have := HM3.out.lt; simp; omega) ?_; intro v' w4 hown' hg4 hnil4)
     | go_in)
    go_roundw
    case rel =>
     refine ⟨j + 1, _, by simp, by omega, Hj ((HM3.out.alloc _).kept hg4 (fun e => by have := (HRW3.out.lt _ e.symm).1; omega)), Hj (by rw [HZT.out]; exact HS.out.put HM1.out.isMap z _), Hj ?_, Hj (by rw [HT.out]; simpa [u64s] using hown'), ⟨_, hbn, Hj ?_, HDN⟩, Hj ?_⟩
     · rw [Maps.size_put (HM1.out.tidy lawU), HSZ.out, HZT.out, dictO_snoc_len]
       by_cases hz : z ∈ zs.take j
       · rw [if_pos ((HS.out z).2 hz), if_pos hz]
       · rw [if_neg (fun e => hz ((HS.out z).1 e)), if_neg hz]
     · exact (HR3.out.keeps ((Keeps.refl (fun _ => False) w3).alloc _) (fun h => h) (fun _ _ h => h)).grown (q := w1.heap.size) hg4 (Nat.lt_of_lt_of_le HPL.out HK1.out.size) (fun g hg => Nat.lt_of_lt_of_le (HVL.out g hg) HK1.out.size) (fun g hg => Nat.le_of_succ_le (HRW3.out.lt g hg).1)
     · exact (HK3.out.alloc _).grown hg4 (fun k hk e => by have := (HRW3.out.lt k e).1; omega)
    case measure => simp [intOf]; omega
  · obtain rfl : j = l.length := by omega
    have hsz : Maps.size D = K := by rw [HSZ.out, List.take_of_length_le (by have := HZL.out; omega), HFULL.out]
    have HLN : Hid (∀ ty, (Builtin.len_ #[206] ty #[.map (some w1.heap.size)]).run Tryz.prog wr = .ok (.int .i64 ((K : Nat) : Int)) wr) := Hj (fun ty => by rw [← hsz]; exact HM1.out.len Tryz.underlying206 ty)
    have HSK := Hj hsz
    clear hsz
    go_wp2_with (first
     | (at_len; refine wpList_len_own _ rfl _ 206 rfl 23 4 Tryz.underlying206 _ w1.heap.size l.length D rfl HM1.out ?_; rw [HSK.out])
     | go_in)
    go_ret2
    refine ⟨_, rfl, ?_, ⟨i', hbi, HR.out, ?_⟩, HK1.out.trans HK.out (fun k _ e => e)⟩
    · have := HROW.out
      rw [List.take_length] at this
      exact qam this (fun g hg => Nat.le_trans HK1.out.size (Nat.le_of_succ_le (this.lt g hg).1))
    · have := HD.out
      rwa [List.drop_length] at this
end
section
open Go.RowKit
end
section
open Go.RowKit
end
section
open Go.RowKit
end
section
open Go.RowKit
def enc7 (l : List Nat) : List Bool := qav (runsOf l)
def dec7 (n : Nat) (b : List Bool) : Nat × List Nat × List Bool := ((rget n n (0, 128) b).1, getVals (rget n n (0, 128) b), (rget n n (0, 128) b).2.2)
theorem enc7_length (l : List Nat) : (enc7 l).length ≤ 71 * l.length := by
 unfold enc7; rw [qcj]; have := runsOf_length l; omega
theorem put7_any (base p : Nat) (v0 v : Value) (bits : List Bool) (l : List Nat) (w : World) (hW : IsW w base p v0 bits) (hb0 : base ≤ w.heap.size) (hbits : bits.length ≤ 1000000000) (hl : l.length ≤ 1000000000) (hX : ∀ x ∈ l, x ≤ 18446744073709551615)
 (h : Holds w v (u64s l)) (hap : ∀ k, ownH v l k → ¬ foot p v0 k) :
 Calls Tryz.prog 47 #[.pointer (some ⟨p, 0, none⟩), v] w fun e w' => e = .returned (.int .i64 0) ∧ Wrote base p v0 (bits ++ enc7 l) w w' := put_any base p v0 v bits l w hW hb0 hbits hl hX h hap
theorem get7_any (base p : Nat) (v : Value) (bs : List Nat) (i n : Nat) (w : World) (h : IsR w base p v bs i) (hl : bs.length ≤ 1099511627776) (hi : i ≤ 8 * bs.length) (hn : n ≤ 1000000000) :
 Calls Tryz.prog 48 #[.pointer (some ⟨p, 0, none⟩), .int .i64 n] w fun e w' => ∃ v', e = .returned (.tuple #[v', .int .i64 (((dec7 n ((qad bs).drop i)).1 : Nat) : Int)]) ∧
  w'.ownsRow w.heap.size 23 1 v' (dec7 n ((qad bs).drop i)).2.1.length (u64s (dec7 n ((qad bs).drop i)).2.1) ∧
  (∃ i', i' ≤ 8 * bs.length ∧ IsR w' base p v bs i' ∧ (dec7 n ((qad bs).drop i)).2.2 = (qad bs).drop i') ∧ Keeps (fun k => k = p) w w' := get_any base p v bs i n w h hl hi hn
theorem size7_any (v : Value) (l : List Nat) (w : World) (hl : l.length ≤ 1099511627776) (h : Holds w v (u64s l)) :
 Calls Tryz.prog 46 #[v] w fun e w' => e = .returned (.int .i64 (((enc7 l).length : Nat) : Int)) ∧ Keeps (fun _ => False) w w' := by
 unfold enc7; rw [qcj]; exact size_any v l w hl h
end
section
open Go.RowKit
end
end Go.Proofs.YtfpcgcbehdogjaaGreatDoor
