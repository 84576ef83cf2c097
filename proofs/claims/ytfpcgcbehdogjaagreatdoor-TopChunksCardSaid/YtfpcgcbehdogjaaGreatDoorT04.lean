/-
  Lemmas on which LTopChunks rests, packed out of the texts PQuiet SortI SortH PDict; each for all arguments under the hypotheses it names.
-/
import Derived.Test.YtfpcgcbehdogjaaGreatDoorT01
import Derived.Test.YtfpcgcbehdogjaaGreatDoorT02
import Derived.Maps.RangeWalk
namespace Go.Proofs.YtfpcgcbehdogjaaGreatDoor
section
open Go.RowKit
theorem qau {P : Program} (C : World → Prop) {id : Nat} {Q : Exit → Act → World → Prop} {a : Act} {w : World} {l : List Oper} (hm : P.follows .mixedOrders = true) (hB : Region.lexB .any l.toArray = true) (hC : C { w with drawn := w.drawn + 1 })
 (h : wpQuiet P l.toArray C (fun a' => ∀ w', C w' → Q .normal a' w') l a) : (Code.region id l.toArray true).wp P Q a w :=
 wp_region_quiet (C := C) hm hB hC (by simpa using h)
end
section
set_option maxHeartbeats 16000000
set_option maxRecDepth 100000
open Go.RowKit
theorem scS_go (d : Array Nat) (b i q : Nat) (h : i < b) (hq : i = q + 1) (hp : ltN d[i]! d[q]! = false) : Go.Sort.scanSorted ltN d b i = Go.Sort.scanSorted ltN d b (i + 1) := by
 subst hq
 rw [Go.Sort.scanSorted, if_pos (by simp [h, hp])]
theorem scS_end (d : Array Nat) (b i : Nat) (h : b ≤ i ∨ ∃ q, i = q + 1 ∧ ltN d[i]! d[q]! = true) : Go.Sort.scanSorted ltN d b i = i := by
 rw [Go.Sort.scanSorted]
 rcases h with h | ⟨q, rfl, h⟩
 · rw [if_neg (by simp; omega)]
 · rw [if_neg (by simp [h])]
theorem shD_go (q : Nat) (d : Array Nat) (h : ltN d[q + 1]! d[q]! = true) : Go.Sort.shiftDown ltN (q + 1) d = Go.Sort.shiftDown ltN q (Go.Sort.swp d (q + 1) q) := by
 rw [Go.Sort.shiftDown, if_neg (by simp [h])]
theorem shD_end (j : Nat) (d : Array Nat) (h : j = 0 ∨ ∃ q, j = q + 1 ∧ ltN d[j]! d[q]! = false) : Go.Sort.shiftDown ltN j d = d := by
 rcases h with rfl | ⟨q, rfl, h⟩
 · rw [Go.Sort.shiftDown]
 · rw [Go.Sort.shiftDown, if_pos (by simp [h])]
theorem shU_go (b j q : Nat) (d : Array Nat) (h : j < b) (hq : j = q + 1) (hl : ltN d[j]! d[q]! = true) : Go.Sort.shiftUp ltN b j d = Go.Sort.shiftUp ltN b (j + 1) (Go.Sort.swp d j q) := by
 subst hq
 rw [Go.Sort.shiftUp, if_pos h, if_neg (by simp [hl])]
 rfl
theorem shU_end (b j : Nat) (d : Array Nat) (h : b ≤ j ∨ ∃ q, j = q + 1 ∧ ltN d[j]! d[q]! = false) : Go.Sort.shiftUp ltN b j d = d := by
 rw [Go.Sort.shiftUp]
 rcases h with h | ⟨q, rfl, h⟩
 · rw [if_neg (by omega)]
 · split
   · rw [if_pos (by simp [h])]
   · rfl
theorem shD_size (j : Nat) (d : Array Nat) : (Go.Sort.shiftDown ltN j d).size = d.size := by
 fun_induction Go.Sort.shiftDown ltN j d <;> simp_all [Go.Sort.size_swp]
theorem shU_size (b j : Nat) (d : Array Nat) : (Go.Sort.shiftUp ltN b j d).size = d.size := by
 fun_induction Go.Sort.shiftUp ltN b j d <;> simp_all [Go.Sort.size_swp]
theorem fixD_size (a i : Nat) (d : Array Nat) : (Go.Sort.fixDown ltN a i d).size = d.size := by
 unfold Go.Sort.fixDown; split
 · exact shD_size _ _
 · rfl
theorem fixU_size (b i : Nat) (d : Array Nat) : (Go.Sort.fixUp ltN b i d).size = d.size := by
 unfold Go.Sort.fixUp; split
 · exact shU_size _ _ _
 · rfl
theorem uPins_any (w0 w : World) (blk off cap a b : Nat) (d : Array Nat) (h : Arr w0 w blk off d) (hab : a < b) (hb : b ≤ d.size) (hsz : d.size ≤ 1099511627776) :
 Calls Tryz.prog 222 #[.slice (some ⟨blk, off, none⟩) d.size cap, .int .i64 (a : Int), .int .i64 (b : Int)] w fun e w' =>
  e = .returned (.bool (Go.Sort.partialInsertionSort ltN d a b).2) ∧ Arr w0 w' blk off (Go.Sort.partialInsertionSort ltN d a b).1 := by
 have HH := Hj h
 obtain ⟨R, hR⟩ : ∃ R, Go.Sort.partialInsertionSort ltN d a b = R := ⟨_, rfl⟩
 have HR : Hid (Go.Sort.partialIns ltN a b 5 (a + 1) d = R) := Hj hR
 rw [hR]
 clear h hR
 go_enter Tryz.func222, Tryz.ntmps222
 go_wp2
 go_loopw [7, 8] (fun ci cj wr => ∃ (i j s : Nat) (dk : Array Nat), ci = .int .i64 (i : Int) ∧ cj = .int .i64 (j : Int) ∧ j + s = 5 ∧ a + 1 ≤ i ∧ i ≤ b ∧ dk.size = d.size ∧ Hid (Arr w0 wr blk off dk) ∧ Hid (Go.Sort.partialIns ltN a b s i dk = R)) (fun ci cj _ => (5 - intOf cj).toNat)
 case atStart => exact ⟨a + 1, 0, 5, d, by simp, by simp, by omega, Nat.le_refl _, by omega, rfl, HH, HR⟩
 case round =>
  obtain ⟨i, j, s, dk, rfl, rfl, hjs, hai, hib, hsk, HA, HO⟩ := hrel
  cases s with
  | zero =>
    obtain rfl : j = 5 := by omega
    have HE : Hid (R = (dk, false)) := Hj (by rw [← HO.out]; rfl)
    clear hjs
    go_wp2
    go_ret
    exact ⟨by rw [HE.out]; rfl, by rw [HE.out]; exact HA.out⟩
  | succ s =>
    have hj5 : (j : Int) < 5 := by omega
    have hjm : (5 : Int) - ((j : Int) + 1) < 5 - (j : Int) := by omega
    obtain ⟨j', hj'⟩ : ∃ j', j' = j + 1 := ⟨_, rfl⟩
    have ej : (j : Int) + 1 = (j' : Int) := by omega
    have HJS : Hid (j' + s = 5) := Hj (by omega)
    clear hjs hj'
    go_wp2
    go_loopw [7] (fun ci wr => ∃ (i2 : Nat), ci = .int .i64 (i2 : Int) ∧ i ≤ i2 ∧ i2 ≤ b ∧ Hid (Arr w0 wr blk off dk) ∧ Hid (Go.Sort.scanSorted ltN dk b i2 = Go.Sort.scanSorted ltN dk b i)) (fun ci _ => b - (intOf ci).toNat)
    case atStart => exact ⟨i, rfl, Nat.le_refl _, hib, HA, Hj rfl⟩
    case round =>
     obtain ⟨i2, rfl, hii, hib2, HA2, HU⟩ := hrel
     by_cases hlt : i2 < b
     · have hlti : (i2 : Int) < (b : Int) := by omega
       have his : (i2 : Int) < (d.size : Int) := by omega
       obtain ⟨q, hq⟩ : ∃ q, i2 = q + 1 := ⟨i2 - 1, by omega⟩
       have eq1 : (i2 : Int) - 1 = (q : Int) := by omega
       have hqs : (q : Int) < (d.size : Int) := by omega
       have c0 := HA2.out.cell i2 (by omega); have c1 := HA2.out.cell q (by omega)
       have f0 := HA2.out.fro i2 (by omega); have f1 := HA2.out.fro q (by omega)
       obtain ⟨x, hx⟩ : ∃ x, dk[i2]! = x := ⟨_, rfl⟩
       obtain ⟨y, hy⟩ : ∃ y, dk[q]! = y := ⟨_, rfl⟩
       rw [hx] at c0
       rw [hy] at c1
       have HX := Hj hx; have HY := Hj hy; have HQ := Hj hq
       clear hx hy
       cases hl : ltN x y with
       | false =>
         have HN : Hid (Go.Sort.scanSorted ltN dk b (i2 + 1) = Go.Sort.scanSorted ltN dk b i) := Hj (by rw [← HU.out]; exact (scS_go dk b i2 q hlt hq (by rw [HX.out, HY.out, hl])).symm)
         clear hq
         go_wp2
         go_quiet ((go_at_call 158; exact Calls.quiet_of_same (qai _ _ _)))
         go_wp2
         exact ⟨⟨i2 + 1, by simp, by omega, by omega, Hj (HA2.out.drewN _), HN⟩, by simp [intOf]; omega⟩
       | true =>
         have HI : Hid (Go.Sort.scanSorted ltN dk b i = i2) := Hj (by rw [← HU.out]; exact scS_end dk b i2 (.inr ⟨q, hq, by rw [HX.out, HY.out, hl]⟩))
         have HS : Hid (R = if b - a < 50 then (dk, false) else Go.Sort.partialIns ltN a b s i2 (Go.Sort.fixUp ltN b i2 (Go.Sort.fixDown ltN a i2 (Go.Sort.swp dk i2 q)))) := Hj (by
          rw [← HO.out, Go.Sort.partialIns_succ, HI.out, if_neg (by omega), show i2 - 1 = q by omega])
         have hnb : ¬ i2 = b := by omega
         clear hq
         by_cases h50 : b - a < 50
         · have h50' : (b : Int) - (a : Int) < 50 := by omega
           have HE : Hid (R = (dk, false)) := Hj (by rw [HS.out, if_pos h50])
           clear h50
           go_wp2
           go_quiet ((go_at_call 158; exact Calls.quiet_of_same (qai _ _ _)))
           have HA3 := Hj (HA2.out.drewN nq)
           generalize wr.drewN nq = wq at *
           go_wp2
           go_ret
           exact ⟨by rw [HE.out]; rfl, by rw [HE.out]; exact HA3.out⟩
         · have h50' : ¬ (b : Int) - (a : Int) < 50 := by omega
           have h50'' : (decide ((b : Int) - (a : Int) < 50)) = false := by simp; omega
           have HE : Hid (R = Go.Sort.partialIns ltN a b s i2 (Go.Sort.fixUp ltN b i2 (Go.Sort.fixDown ltN a i2 (Go.Sort.swp dk i2 q)))) := Hj (by rw [HS.out, if_neg h50])
           have hi3 : i2 < dk.size := by omega
           have hq3 : q < dk.size := by have := HQ.out; omega
           have HSW : Hid (∀ wq m, Arr w0 wq blk off dk → Arr w0 (((wq.drewN m).setCell ⟨blk, off + i2, none⟩ (.int .u64 (y : Int))).setCell ⟨blk, off + q, none⟩ (.int .u64 (x : Int))) blk off (Go.Sort.swp dk i2 q)) := Hj (fun wq m hq => (hq.drewN m).swap hi3 hq3 HY.out HX.out)
           have hne2 : ¬ (off + q = off + i2) := by have := HQ.out; omega
           clear h50
           go_wp2
           go_quiet ((go_at_call 158; exact Calls.quiet_of_same (qai _ _ _)))
           have HA3 := Hj (HA2.out.drewN nq)
           generalize wr.drewN nq = wq at *
           have g0 := HA3.out.cell i2 hi3; have g1 := HA3.out.cell q hq3
           have k0 := HA3.out.fro i2 hi3; have k1 := HA3.out.fro q hq3
           rw [HX.out] at g0
           rw [HY.out] at g1
           clear HA2 c0 c1 f0 f1 hl HU
           have HNX : Hid (∀ wq dq, dq = Go.Sort.fixUp ltN b i2 (Go.Sort.fixDown ltN a i2 (Go.Sort.swp dk i2 q)) → Arr w0 wq blk off dq → ∃ (i j s : Nat) (dk : Array Nat), Value.int .i64 (i2 : Int) = .int .i64 (i : Int) ∧ Value.int .i64 (j' : Int) = .int .i64 (j : Int) ∧ j + s = 5 ∧ a + 1 ≤ i ∧ i ≤ b ∧ dk.size = d.size ∧ Hid (Arr w0 wq blk off dk) ∧ Hid (Go.Sort.partialIns ltN a b s i dk = R)) := Hj (fun wq dq hd hq =>
            ⟨i2, j', s, dq, rfl, rfl, HJS.out, by omega, hib2, by rw [hd, fixU_size, fixD_size, Go.Sort.size_swp, hsk], Hj hq, Hj (by rw [hd, HE.out])⟩)
           have HSZ : Hid ((Go.Sort.swp dk i2 q).size = d.size) := Hj (by rw [Go.Sort.size_swp, hsk])
           clear hi3 hq3
           by_cases h2 : 2 ≤ i2 - a
           · have h2' : (2 : Int) ≤ (i2 : Int) - (a : Int) := by omega
             have HD0 : Hid (Go.Sort.fixDown ltN a i2 (Go.Sort.swp dk i2 q) = Go.Sort.shiftDown ltN q (Go.Sort.swp dk i2 q)) := Hj (by unfold Go.Sort.fixDown; rw [if_pos h2, show i2 - 1 = q by have := HQ.out; omega])
             clear h2
             go_wp2
             go_region
             go_wp2
             go_loopw [9] (fun cj wr => ∃ (m : Nat) (dj : Array Nat), cj = .int .i64 (m : Int) ∧ m ≤ q ∧ dj.size = d.size ∧ Hid (Arr w0 wr blk off dj) ∧ Hid (Go.Sort.shiftDown ltN m dj = Go.Sort.shiftDown ltN q (Go.Sort.swp dk i2 q))) (fun cj _ => (intOf cj).toNat)
             case atStart => exact ⟨q, _, rfl, Nat.le_refl _, HSZ.out, Hj (HSW.out _ _ HA3.out), Hj rfl⟩
             case round =>
              clear g0 g1 k0 k1
              obtain ⟨m, dj, rfl, hmq, hsj, HAj, HDj⟩ := hrel
              cases m with
              | zero =>
                have HD : Hid (Go.Sort.fixDown ltN a i2 (Go.Sort.swp dk i2 q) = dj) := Hj (by rw [HD0.out, ← HDj.out]; exact shD_end 0 dj (.inl rfl))
                by_cases h3 : 2 ≤ b - i2
                · have h3' : (2 : Int) ≤ (b : Int) - (i2 : Int) := by omega
                  obtain ⟨t0, ht0⟩ : ∃ t0, t0 = i2 + 1 := ⟨_, rfl⟩
                  have et : (i2 : Int) + 1 = (t0 : Int) := by omega
                  have HU0 : Hid (Go.Sort.fixUp ltN b i2 (Go.Sort.fixDown ltN a i2 (Go.Sort.swp dk i2 q)) = Go.Sort.shiftUp ltN b t0 dj) := Hj (by rw [HD.out]; unfold Go.Sort.fixUp; rw [if_pos h3, ht0])
                  have HT0 := Hj ht0
                  clear h3 ht0
                  go_wp2
                  go_loopw [10] (fun cj wr => ∃ (t : Nat) (du : Array Nat), cj = .int .i64 (t : Int) ∧ t0 ≤ t ∧ t ≤ b ∧ du.size = d.size ∧ Hid (Arr w0 wr blk off du) ∧ Hid (Go.Sort.shiftUp ltN b t du = Go.Sort.shiftUp ltN b t0 dj)) (fun cj _ => b - (intOf cj).toNat)
                  case atStart => exact ⟨t0, _, rfl, Nat.le_refl _, by have := HT0.out; omega, hsj, HAj, Hj rfl⟩
                  case round =>
                   obtain ⟨t, du, rfl, htt, htb, hsu, HAu, HUt⟩ := hrel
                   by_cases htl : t < b
                   · have htl' : (t : Int) < (b : Int) := by omega
                     obtain ⟨r, hr⟩ : ∃ r, t = r + 1 := ⟨t - 1, by have := HT0.out; omega⟩
                     have er : (t : Int) - 1 = (r : Int) := by omega
                     have hts : (t : Int) < (d.size : Int) := by omega
                     have ht3 : t < du.size := by omega
                     have hr3 : r < du.size := by omega
                     have hrs : (r : Int) < (d.size : Int) := by omega
                     have hne3 : ¬ (off + r = off + t) := by omega
                     have c0 := HAu.out.cell t ht3; have c1 := HAu.out.cell r hr3
                     obtain ⟨u, hu⟩ : ∃ u, du[t]! = u := ⟨_, rfl⟩
                     obtain ⟨v, hv⟩ : ∃ v, du[r]! = v := ⟨_, rfl⟩
                     rw [hu] at c0
                     rw [hv] at c1
                     have HTr := Hj hr; have HUu := Hj hu; have HV := Hj hv; have HT3 := Hj ht3; have HR3 := Hj hr3
                     cases hl : ltN u v with
                     | true =>
                       have HNN : Hid (Go.Sort.shiftUp ltN b (t + 1) (Go.Sort.swp du t r) = Go.Sort.shiftUp ltN b t0 dj) := Hj (by rw [← HUt.out]; exact (shU_go b t r du htl hr (by rw [hu, hv, hl])).symm)
                       clear hr hu hv ht3 hr3
                       go_wp2
                       go_quiet ((go_at_call 158; exact Calls.quiet_of_same (qai _ _ _)))
                       have HAq := Hj (HAu.out.drewN nq)
                       generalize wr.drewN nq = wz at *
                       have g0 := HAq.out.cell t HT3.out; have g1 := HAq.out.cell r HR3.out
                       have k0 := HAq.out.fro t HT3.out; have k1 := HAq.out.fro r HR3.out
                       rw [HUu.out] at g0
                       rw [HV.out] at g1
                       clear HAu c0 c1 hl
                       go_wp2
                       go_region
                       go_wp2
                       exact ⟨⟨t + 1, _, by simp, by omega, by omega, by rw [Go.Sort.size_swp, hsu], Hj ((HAq.out.drewN _).swap HT3.out HR3.out HV.out HUu.out), HNN⟩, by simp [intOf]; omega⟩
                     | false =>
                       have HF : Hid (Go.Sort.fixUp ltN b i2 (Go.Sort.fixDown ltN a i2 (Go.Sort.swp dk i2 q)) = du) := Hj (by rw [HU0.out, ← HUt.out]; exact shU_end b t du (.inr ⟨r, hr, by rw [hu, hv, hl]⟩))
                       clear hr hu hv ht3 hr3
                       go_wp2
                       go_quiet ((go_at_call 158; exact Calls.quiet_of_same (qai _ _ _)))
                       go_wp2
                       exact ⟨HNX.out _ _ HF.out.symm (HAu.out.drewN _), by simp [intOf]; omega⟩
                   · have HF : Hid (Go.Sort.fixUp ltN b i2 (Go.Sort.fixDown ltN a i2 (Go.Sort.swp dk i2 q)) = du) := Hj (by rw [HU0.out, ← HUt.out]; exact shU_end b t du (.inl (by omega)))
                     have htl' : ¬ (t : Int) < (b : Int) := by omega
                     go_wp2
                     exact ⟨HNX.out _ _ HF.out.symm HAu.out, by simp [intOf]; omega⟩
                · have h3' : ¬ (2 : Int) ≤ (b : Int) - (i2 : Int) := by omega
                  have HF : Hid (Go.Sort.fixUp ltN b i2 (Go.Sort.fixDown ltN a i2 (Go.Sort.swp dk i2 q)) = dj) := Hj (by rw [HD.out]; unfold Go.Sort.fixUp; rw [if_neg h3])
                  clear h3
                  go_wp2
                  all_goals exact ⟨HNX.out _ _ HF.out.symm HAj.out, by simp [intOf]; omega⟩
              | succ r =>
                obtain ⟨m, hm⟩ : ∃ m, m = r + 1 := ⟨_, rfl⟩
                rw [← hm] at HDj hmq ⊢
                have em : (m : Int) - 1 = (r : Int) := by omega
                have hm1 : (1 : Int) ≤ (m : Int) := by omega
                have hms : (m : Int) < (d.size : Int) := by have := HQ.out; omega
                have hm3 : m < dj.size := by have := HQ.out; omega
                have hr3 : r < dj.size := by omega
                have hne3 : ¬ (off + r = off + m) := by omega
                have c0 := HAj.out.cell m hm3; have c1 := HAj.out.cell r hr3
                obtain ⟨u, hu⟩ : ∃ u, dj[m]! = u := ⟨_, rfl⟩
                obtain ⟨v, hv⟩ : ∃ v, dj[r]! = v := ⟨_, rfl⟩
                rw [hu] at c0
                rw [hv] at c1
                have HM := Hj hm; have HUu := Hj hu; have HV := Hj hv; have HM3 := Hj hm3; have HR3 := Hj hr3
                clear hm hu hv hm3 hr3
                cases hl : ltN u v with
                | true =>
                  have HNN : Hid (Go.Sort.shiftDown ltN r (Go.Sort.swp dj m r) = Go.Sort.shiftDown ltN q (Go.Sort.swp dk i2 q)) := Hj (by rw [← HDj.out, HM.out]; exact (shD_go r dj (by rw [← HM.out, HUu.out, HV.out, hl])).symm)
                  go_wp2
                  go_quiet ((go_at_call 158; exact Calls.quiet_of_same (qai _ _ _)))
                  have HAq := Hj (HAj.out.drewN nq)
                  generalize wr.drewN nq = wz at *
                  have g0 := HAq.out.cell m HM3.out; have g1 := HAq.out.cell r HR3.out
                  have k0 := HAq.out.fro m HM3.out; have k1 := HAq.out.fro r HR3.out
                  rw [HUu.out] at g0
                  rw [HV.out] at g1
                  clear HAj c0 c1 hl
                  go_wp2
                  go_region
                  go_wp2
                  exact ⟨⟨r, _, rfl, by have := HM.out; omega, by rw [Go.Sort.size_swp, hsj], Hj ((HAq.out.drewN _).swap HM3.out HR3.out HV.out HUu.out), HNN⟩, by have := HM.out; simp [intOf]; omega⟩
                | false =>
                  have HD : Hid (Go.Sort.fixDown ltN a i2 (Go.Sort.swp dk i2 q) = dj) := Hj (by rw [HD0.out, ← HDj.out]; exact shD_end m dj (.inr ⟨r, HM.out, by rw [HUu.out, HV.out, hl]⟩))
                  go_wp2
                  go_quiet ((go_at_call 158; exact Calls.quiet_of_same (qai _ _ _)))
                  have HAj := Hj (HAj.out.drewN nq)
                  generalize wr.drewN nq = wr at *
                  clear c0 c1 hl
                  by_cases h3 : 2 ≤ b - i2
                  · have h3' : (2 : Int) ≤ (b : Int) - (i2 : Int) := by omega
                    obtain ⟨t0, ht0⟩ : ∃ t0, t0 = i2 + 1 := ⟨_, rfl⟩
                    have et : (i2 : Int) + 1 = (t0 : Int) := by omega
                    have HU0 : Hid (Go.Sort.fixUp ltN b i2 (Go.Sort.fixDown ltN a i2 (Go.Sort.swp dk i2 q)) = Go.Sort.shiftUp ltN b t0 dj) := Hj (by rw [HD.out]; unfold Go.Sort.fixUp; rw [if_pos h3, ht0])
                    have HT0 := Hj ht0
                    clear h3 ht0
                    go_wp2
                    go_loopw [10] (fun cj wr => ∃ (t : Nat) (du : Array Nat), cj = .int .i64 (t : Int) ∧ t0 ≤ t ∧ t ≤ b ∧ du.size = d.size ∧ Hid (Arr w0 wr blk off du) ∧ Hid (Go.Sort.shiftUp ltN b t du = Go.Sort.shiftUp ltN b t0 dj)) (fun cj _ => b - (intOf cj).toNat)
                    case atStart => exact ⟨t0, _, rfl, Nat.le_refl _, by have := HT0.out; omega, hsj, HAj, Hj rfl⟩
                    case round =>
                     obtain ⟨t, du, rfl, htt, htb, hsu, HAu, HUt⟩ := hrel
                     by_cases htl : t < b
                     · have htl' : (t : Int) < (b : Int) := by omega
                       obtain ⟨r, hr⟩ : ∃ r, t = r + 1 := ⟨t - 1, by have := HT0.out; omega⟩
                       have er : (t : Int) - 1 = (r : Int) := by omega
                       have hts : (t : Int) < (d.size : Int) := by omega
                       have ht3 : t < du.size := by omega
                       have hr3 : r < du.size := by omega
                       have hrs : (r : Int) < (d.size : Int) := by omega
                       have hne3 : ¬ (off + r = off + t) := by omega
                       have c0 := HAu.out.cell t ht3; have c1 := HAu.out.cell r hr3
                       obtain ⟨u, hu⟩ : ∃ u, du[t]! = u := ⟨_, rfl⟩
                       obtain ⟨v, hv⟩ : ∃ v, du[r]! = v := ⟨_, rfl⟩
                       rw [hu] at c0
                       rw [hv] at c1
                       have HTr := Hj hr; have HUu := Hj hu; have HV := Hj hv; have HT3 := Hj ht3; have HR3 := Hj hr3
                       cases hl : ltN u v with
                       | true =>
                         have HNN : Hid (Go.Sort.shiftUp ltN b (t + 1) (Go.Sort.swp du t r) = Go.Sort.shiftUp ltN b t0 dj) := Hj (by rw [← HUt.out]; exact (shU_go b t r du htl hr (by rw [hu, hv, hl])).symm)
                         clear hr hu hv ht3 hr3
                         go_wp2
                         go_quiet ((go_at_call 158; exact Calls.quiet_of_same (qai _ _ _)))
                         have HAq := Hj (HAu.out.drewN nq)
                         generalize wr.drewN nq = wz at *
                         have g0 := HAq.out.cell t HT3.out; have g1 := HAq.out.cell r HR3.out
                         have k0 := HAq.out.fro t HT3.out; have k1 := HAq.out.fro r HR3.out
                         rw [HUu.out] at g0
                         rw [HV.out] at g1
                         clear HAu c0 c1 hl
                         go_wp2
                         go_region
                         go_wp2
                         exact ⟨⟨t + 1, _, by simp, by omega, by omega, by rw [Go.Sort.size_swp, hsu], Hj ((HAq.out.drewN _).swap HT3.out HR3.out HV.out HUu.out), HNN⟩, by simp [intOf]; omega⟩
                       | false =>
                         have HF : Hid (Go.Sort.fixUp ltN b i2 (Go.Sort.fixDown ltN a i2 (Go.Sort.swp dk i2 q)) = du) := Hj (by rw [HU0.out, ← HUt.out]; exact shU_end b t du (.inr ⟨r, hr, by rw [hu, hv, hl]⟩))
                         clear hr hu hv ht3 hr3
                         go_wp2
                         go_quiet ((go_at_call 158; exact Calls.quiet_of_same (qai _ _ _)))
                         go_wp2
                         exact ⟨HNX.out _ _ HF.out.symm (HAu.out.drewN _), by simp [intOf]; omega⟩
                     · have HF : Hid (Go.Sort.fixUp ltN b i2 (Go.Sort.fixDown ltN a i2 (Go.Sort.swp dk i2 q)) = du) := Hj (by rw [HU0.out, ← HUt.out]; exact shU_end b t du (.inl (by omega)))
                       have htl' : ¬ (t : Int) < (b : Int) := by omega
                       go_wp2
                       exact ⟨HNX.out _ _ HF.out.symm HAu.out, by simp [intOf]; omega⟩
                  · have h3' : ¬ (2 : Int) ≤ (b : Int) - (i2 : Int) := by omega
                    have HF : Hid (Go.Sort.fixUp ltN b i2 (Go.Sort.fixDown ltN a i2 (Go.Sort.swp dk i2 q)) = dj) := Hj (by rw [HD.out]; unfold Go.Sort.fixUp; rw [if_neg h3])
                    clear h3
                    go_wp2
                    all_goals exact ⟨HNX.out _ _ HF.out.symm HAj.out, by simp [intOf]; omega⟩
           · have h2' : ¬ (2 : Int) ≤ (i2 : Int) - (a : Int) := by omega
             have HD : Hid (Go.Sort.fixDown ltN a i2 (Go.Sort.swp dk i2 q) = Go.Sort.swp dk i2 q) := Hj (by unfold Go.Sort.fixDown; rw [if_neg h2])
             clear h2
             go_wp2
             go_region
             have HAj := Hj (HSW.out _ 1 HA3.out)
             have hsj := HSZ.out
             clear g0 g1 k0 k1
             by_cases h3 : 2 ≤ b - i2
             · have h3' : (2 : Int) ≤ (b : Int) - (i2 : Int) := by omega
               obtain ⟨t0, ht0⟩ : ∃ t0, t0 = i2 + 1 := ⟨_, rfl⟩
               have et : (i2 : Int) + 1 = (t0 : Int) := by omega
               have HU0 : Hid (Go.Sort.fixUp ltN b i2 (Go.Sort.fixDown ltN a i2 (Go.Sort.swp dk i2 q)) = Go.Sort.shiftUp ltN b t0 (Go.Sort.swp dk i2 q)) := Hj (by rw [HD.out]; unfold Go.Sort.fixUp; rw [if_pos h3, ht0])
               have HT0 := Hj ht0
               clear h3 ht0
               go_wp2
               go_loopw [10] (fun cj wr => ∃ (t : Nat) (du : Array Nat), cj = .int .i64 (t : Int) ∧ t0 ≤ t ∧ t ≤ b ∧ du.size = d.size ∧ Hid (Arr w0 wr blk off du) ∧ Hid (Go.Sort.shiftUp ltN b t du = Go.Sort.shiftUp ltN b t0 (Go.Sort.swp dk i2 q))) (fun cj _ => b - (intOf cj).toNat)
               case atStart => exact ⟨t0, _, rfl, Nat.le_refl _, by have := HT0.out; omega, hsj, HAj, Hj rfl⟩
               case round =>
                obtain ⟨t, du, rfl, htt, htb, hsu, HAu, HUt⟩ := hrel
                by_cases htl : t < b
                · have htl' : (t : Int) < (b : Int) := by omega
                  obtain ⟨r, hr⟩ : ∃ r, t = r + 1 := ⟨t - 1, by have := HT0.out; omega⟩
                  have er : (t : Int) - 1 = (r : Int) := by omega
                  have hts : (t : Int) < (d.size : Int) := by omega
                  have ht3 : t < du.size := by omega
                  have hr3 : r < du.size := by omega
                  have hrs : (r : Int) < (d.size : Int) := by omega
                  have hne3 : ¬ (off + r = off + t) := by omega
                  have c0 := HAu.out.cell t ht3; have c1 := HAu.out.cell r hr3
                  obtain ⟨u, hu⟩ : ∃ u, du[t]! = u := ⟨_, rfl⟩
                  obtain ⟨v, hv⟩ : ∃ v, du[r]! = v := ⟨_, rfl⟩
                  rw [hu] at c0
                  rw [hv] at c1
                  have HTr := Hj hr; have HUu := Hj hu; have HV := Hj hv; have HT3 := Hj ht3; have HR3 := Hj hr3
                  cases hl : ltN u v with
                  | true =>
                    have HNN : Hid (Go.Sort.shiftUp ltN b (t + 1) (Go.Sort.swp du t r) = Go.Sort.shiftUp ltN b t0 (Go.Sort.swp dk i2 q)) := Hj (by rw [← HUt.out]; exact (shU_go b t r du htl hr (by rw [hu, hv, hl])).symm)
                    clear hr hu hv ht3 hr3
                    go_wp2
                    go_quiet ((go_at_call 158; exact Calls.quiet_of_same (qai _ _ _)))
                    have HAq := Hj (HAu.out.drewN nq)
                    generalize wr.drewN nq = wz at *
                    have g0 := HAq.out.cell t HT3.out; have g1 := HAq.out.cell r HR3.out
                    have k0 := HAq.out.fro t HT3.out; have k1 := HAq.out.fro r HR3.out
                    rw [HUu.out] at g0
                    rw [HV.out] at g1
                    clear HAu c0 c1 hl
                    go_wp2
                    go_region
                    go_wp2
                    exact ⟨⟨t + 1, _, by simp, by omega, by omega, by rw [Go.Sort.size_swp, hsu], Hj ((HAq.out.drewN _).swap HT3.out HR3.out HV.out HUu.out), HNN⟩, by simp [intOf]; omega⟩
                  | false =>
                    have HF : Hid (Go.Sort.fixUp ltN b i2 (Go.Sort.fixDown ltN a i2 (Go.Sort.swp dk i2 q)) = du) := Hj (by rw [HU0.out, ← HUt.out]; exact shU_end b t du (.inr ⟨r, hr, by rw [hu, hv, hl]⟩))
                    clear hr hu hv ht3 hr3
                    go_wp2
                    go_quiet ((go_at_call 158; exact Calls.quiet_of_same (qai _ _ _)))
                    go_wp2
                    exact ⟨HNX.out _ _ HF.out.symm (HAu.out.drewN _), by simp [intOf]; omega⟩
                · have HF : Hid (Go.Sort.fixUp ltN b i2 (Go.Sort.fixDown ltN a i2 (Go.Sort.swp dk i2 q)) = du) := Hj (by rw [HU0.out, ← HUt.out]; exact shU_end b t du (.inl (by omega)))
                  have htl' : ¬ (t : Int) < (b : Int) := by omega
                  go_wp2
                  exact ⟨HNX.out _ _ HF.out.symm HAu.out, by simp [intOf]; omega⟩
             · have h3' : ¬ (2 : Int) ≤ (b : Int) - (i2 : Int) := by omega
               have HF : Hid (Go.Sort.fixUp ltN b i2 (Go.Sort.fixDown ltN a i2 (Go.Sort.swp dk i2 q)) = (Go.Sort.swp dk i2 q)) := Hj (by rw [HD.out]; unfold Go.Sort.fixUp; rw [if_neg h3])
               clear h3
               go_wp2
               all_goals exact ⟨HNX.out _ _ HF.out.symm HAj.out, by simp [intOf]; omega⟩
     · have HI : Hid (Go.Sort.scanSorted ltN dk b i = i2) := Hj (by rw [← HU.out]; exact scS_end dk b i2 (.inl (by omega)))
       have HE : Hid (R = (dk, true)) := Hj (by
        rw [← HO.out, Go.Sort.partialIns_succ, HI.out, if_pos (by omega)])
       obtain rfl : i2 = b := by omega
       go_wp2
       go_quiet (fail)
       have HA3 := Hj (HA2.out.drewN nq)
       generalize wr.drewN nq = wq at *
       go_wp2
       go_ret
       exact ⟨by rw [HE.out]; rfl, by rw [HE.out]; exact HA3.out⟩
end
section
set_option maxHeartbeats 8000000
set_option maxRecDepth 100000
open Go.RowKit
theorem par_end (a i j i2 j2 : Nat) (d : Array Nat) (hi : i2 = Go.Sort.scanUp (fun x => ltN x d[a]!) d j i) (hj : j2 = Go.Sort.scanDown (fun x => !ltN x d[a]!) d i2 j) (h : j2 < i2) : Go.Sort.partLoop ltN a i j d = (j2, d) := by
 subst hi; subst hj
 rw [Go.Sort.partLoop_eq, if_pos h]
theorem par_go (a i j i2 j2 : Nat) (d : Array Nat) (hi : i2 = Go.Sort.scanUp (fun x => ltN x d[a]!) d j i) (hj : j2 = Go.Sort.scanDown (fun x => !ltN x d[a]!) d i2 j) (h : ¬ j2 < i2) :
 Go.Sort.partLoop ltN a i j d = Go.Sort.partLoop ltN a (i2 + 1) (j2 - 1) (Go.Sort.swp d i2 j2) := by
 subst hi; subst hj
 rw [Go.Sort.partLoop_eq, if_neg h]
theorem uPar_any (w0 w : World) (blk off cap a b p : Nat) (d : Array Nat) (h : Arr w0 w blk off d) (hap : a ≤ p) (hpb : p < b) (hb : b ≤ d.size) (hsz : d.size ≤ 1099511627776) :
 Calls Tryz.prog 224 #[.slice (some ⟨blk, off, none⟩) d.size cap, .int .i64 (a : Int), .int .i64 (b : Int), .int .i64 (p : Int)] w fun e w' =>
  (∃ c : Bool, e = .returned (.tuple #[.int .i64 (((Go.Sort.partition ltN d a b p).1 : Nat) : Int), .bool c])) ∧ Arr w0 w' blk off (Go.Sort.partition ltN d a b p).2.2 := by
 rw [Go.Sort.partition_fst, Go.Sort.partition_arr]
 have HH := Hj h
 obtain ⟨I0, hI0⟩ : ∃ I0, I0 = a + 1 := ⟨_, rfl⟩
 obtain ⟨J0, hJ0⟩ : ∃ J0, J0 = b - 1 := ⟨_, rfl⟩
 rw [← hI0, ← hJ0]
 have eI : (a : Int) + 1 = (I0 : Int) := by omega
 have eB : (b : Int) - 1 = (J0 : Int) := by omega
 have ha1 : a < d.size := by omega
 have hp1 : p < d.size := by omega
 have has : (a : Int) < (d.size : Int) := by omega
 have hps : (p : Int) < (d.size : Int) := by omega
 have c0 := h.cell a ha1; have c1 := h.cell p hp1
 have f0 := h.fro a ha1; have f1 := h.fro p hp1
 obtain ⟨x, hx⟩ : ∃ x, d[a]! = x := ⟨_, rfl⟩
 obtain ⟨y, hy⟩ : ∃ y, d[p]! = y := ⟨_, rfl⟩
 rw [hx] at c0
 rw [hy] at c1
 obtain ⟨v2, h2⟩ := h.two ha1 hp1 (.int .u64 (y : Int))
 have HS : Hid (∀ m, Arr w0 (((w.drewN m).setCell ⟨blk, off + a, none⟩ (.int .u64 (y : Int))).setCell ⟨blk, off + p, none⟩ (.int .u64 (x : Int))) blk off (Go.Sort.swp d a p)) := Hj (fun m => (h.drewN m).swap ha1 hp1 hy hx)
 have HSZ := Hj (Go.Sort.size_swp d a p)
 generalize Go.Sort.swp d a p = d1 at HS HSZ ⊢
 have HI0 : Hid (a + 1 = I0) := Hj hI0.symm
 have hIJ : I0 ≤ J0 + 1 := by omega
 have hJd : J0 < d.size := by omega
 have HB : Hid (J0 + 1 = b) := Hj (by omega)
 clear h hx hy ha1 hp1 hI0 hJ0 hb hpb
 have hai0 : a + 1 ≤ I0 := by have := HI0.out; omega
 obtain ⟨R, hR⟩ : ∃ R, Go.Sort.partLoop ltN a I0 J0 d1 = R := ⟨_, rfl⟩
 rw [hR]
 have HR := Hj hR
 clear hR
 go_enter Tryz.func224, Tryz.ntmps224
 go_wp2
 go_region
 go_wp2
 clear c0 c1 f0 f1 h2
 have hsk0 : d1.size = d.size := HSZ.out
 obtain ⟨x, hx⟩ : ∃ x, d1[a]! = x := ⟨_, rfl⟩
 have HX := Hj hx
 clear hx
 go_wp2
 go_loopw [10] (fun ci wr => ∃ (i2 : Nat), ci = .int .i64 (i2 : Int) ∧ I0 ≤ i2 ∧ i2 ≤ J0 + 1 ∧ Hid (Arr w0 wr blk off d1) ∧ Hid (Go.Sort.scanUp (fun x => ltN x d1[a]!) d1 J0 i2 = Go.Sort.scanUp (fun x => ltN x d1[a]!) d1 J0 I0)) (fun ci _ => J0 + 1 - (intOf ci).toNat)
 case atStart => exact ⟨I0, rfl, Nat.le_refl _, hIJ, (Hj (HS.out _)), Hj rfl⟩
 case round =>
  obtain ⟨i2, rfl, hii, hij2, HA2, HU⟩ := hrel
  by_cases hle : i2 ≤ J0
  · have hlei : (i2 : Int) ≤ (J0 : Int) := by omega
    have his : (i2 : Int) < (d.size : Int) := by omega
    have c0 := HA2.out.cell a (by omega); have c1 := HA2.out.cell i2 (by omega)
    obtain ⟨y, hy⟩ : ∃ y, d1[i2]! = y := ⟨_, rfl⟩
    rw [HX.out] at c0
    rw [hy] at c1
    have HY := Hj hy
    clear hy
    cases hl : ltN y x with
    | true =>
      have HN : Hid (Go.Sort.scanUp (fun x => ltN x d1[a]!) d1 J0 (i2 + 1) = Go.Sort.scanUp (fun x => ltN x d1[a]!) d1 J0 I0) := Hj (by rw [← HU.out]; exact (scU_go _ d1 J0 i2 hle (by show ltN _ _ = true; rw [HX.out, HY.out, hl])).symm)
      go_wp2
      go_quiet ((go_at_call 158; exact Calls.quiet_of_same (qai _ _ _)))
      go_wp2
      exact ⟨⟨i2 + 1, by simp, by omega, by omega, Hj (HA2.out.drewN _), HN⟩, by simp [intOf]; omega⟩
    | false =>
      have HI : Hid (i2 = Go.Sort.scanUp (fun x => ltN x d1[a]!) d1 J0 I0) := Hj (by rw [← HU.out]; exact (scU_end _ d1 J0 i2 (.inr (by show ltN _ _ = false; rw [HX.out, HY.out, hl]))).symm)
      go_wp2
      go_quiet ((go_at_call 158; exact Calls.quiet_of_same (qai _ _ _)))
      have HA3 := Hj (HA2.out.drewN nq)
      generalize wr.drewN nq = wq at *
      have HL := Hj hl
      clear HA2 HU c0 c1 hl
      go_wp2
      go_loopw [11] (fun cj wr => ∃ (j2 : Nat), cj = .int .i64 (j2 : Int) ∧ j2 ≤ J0 ∧ i2 ≤ j2 + 1 ∧ Hid (Arr w0 wr blk off d1) ∧ Hid (Go.Sort.scanDown (fun x => !ltN x d1[a]!) d1 i2 j2 = Go.Sort.scanDown (fun x => !ltN x d1[a]!) d1 i2 J0)) (fun cj _ => (intOf cj).toNat)
      case atStart => exact ⟨J0, rfl, Nat.le_refl _, by omega, HA3, Hj rfl⟩
      case round =>
       obtain ⟨j2, rfl, hjj, hij3, HA4, HD⟩ := hrel
       by_cases hle2 : i2 ≤ j2
       · have hlei2 : (i2 : Int) ≤ (j2 : Int) := by omega
         have hjs : (j2 : Int) < (d.size : Int) := by omega
         obtain ⟨J, hJJ⟩ : ∃ J, J = j2 := ⟨_, rfl⟩
         subst hJJ
         obtain ⟨q, hJ⟩ : ∃ q, J = q + 1 := ⟨J - 1, by omega⟩
         have eJ : (J : Int) - 1 = (q : Int) := by omega
         have c0 := HA4.out.cell a (by omega); have c1 := HA4.out.cell J (by omega)
         obtain ⟨z, hz⟩ : ∃ z, d1[J]! = z := ⟨_, rfl⟩
         rw [HX.out] at c0
         rw [hz] at c1
         have HZ := Hj hz; have HJ := Hj hJ
         clear hz hJ
         cases hl : ltN z x with
         | false =>
           have HN : Hid (Go.Sort.scanDown (fun x => !ltN x d1[a]!) d1 i2 q = Go.Sort.scanDown (fun x => !ltN x d1[a]!) d1 i2 J0) := Hj (by rw [← HD.out, HJ.out]; exact (scD_go _ d1 i2 q (by have := HJ.out; omega) (by show (!ltN _ _) = true; rw [HX.out, ← HJ.out, HZ.out, hl]; rfl)).symm)
           go_wp2
           go_quiet ((go_at_call 158; exact Calls.quiet_of_same (qai _ _ _)))
           go_wp2
           exact ⟨⟨q, rfl, by have := HJ.out; omega, by have := HJ.out; omega, Hj (HA4.out.drewN _), HN⟩, by have := HJ.out; simp [intOf]; omega⟩
         | true =>
           have HJ2 : Hid (J = Go.Sort.scanDown (fun x => !ltN x d1[a]!) d1 i2 J0) := Hj (by rw [← HD.out]; exact (scD_end _ d1 i2 J (.inr (by show (!ltN _ _) = false; rw [HX.out, HZ.out, hl]; rfl))).symm)
           have HG := Hj (par_go a I0 J0 i2 J d1 HI.out HJ2.out (by omega))
           have hne : ¬ J = i2 := fun e => by
            have h1 := HY.out; have h2 := HZ.out; have h3 := HL.out
            rw [e, h1] at h2
            rw [h2, hl] at h3
            exact absurd h3 (by decide)
           have hne2 : ¬ (off + J = off + i2) := by omega
           have hlt : i2 < J := by omega
           have HNX : Hid (∀ wq, Arr w0 wq blk off (Go.Sort.swp d1 i2 J) → ∃ (i' j' : Nat) (dj : Array Nat), Value.int .i64 ((i2 : Int) + 1) = .int .i64 (i' : Int) ∧ Value.int .i64 (q : Int) = .int .i64 (j' : Int) ∧ a + 1 ≤ i' ∧ i' ≤ j' + 1 ∧ j' ≤ J0 ∧ dj.size = d.size ∧ Hid (Arr w0 wq blk off dj) ∧ Hid (Go.Sort.partLoop ltN a i' j' dj = R)) := Hj (fun wq hq =>
            ⟨i2 + 1, q, _, by simp, rfl, by omega, by have := HJ.out; omega, by have := HJ.out; omega, by rw [Go.Sort.size_swp, HSZ.out], Hj hq, Hj (by rw [← HR.out, HG.out, show J - 1 = q by have := HJ.out; omega])⟩)
           have hi3 : i2 < d1.size := by omega
           have hJ3 : J < d1.size := by omega
           have HSW : Hid (∀ wq m, Arr w0 wq blk off d1 → Arr w0 (((wq.drewN m).setCell ⟨blk, off + i2, none⟩ (.int .u64 (z : Int))).setCell ⟨blk, off + J, none⟩ (.int .u64 (y : Int))) blk off (Go.Sort.swp d1 i2 J)) := Hj (fun wq m hq => (hq.drewN m).swap hi3 hJ3 HZ.out HY.out)
           have hms : (J0 : Int) + 1 - I0 > (q : Int) + 1 - (i2 + 1) := by have := HJ.out; omega
           clear hne hi3 hJ3
           go_wp2
           go_quiet ((go_at_call 158; exact Calls.quiet_of_same (qai _ _ _)))
           have HA5 := Hj (HA4.out.drewN nq)
           generalize wr.drewN nq = wq at *
           have g1 := HA5.out.cell J (by omega); have g2 := HA5.out.cell i2 (by omega)
           have k1 := HA5.out.fro J (by omega); have k2 := HA5.out.fro i2 (by omega)
           rw [HZ.out] at g1
           rw [HY.out] at g2
           clear HA4 HD c0 c1 hl
           go_wp2
           go_region
           go_wp2
           go_loopw [10, 11] (fun ci cj wr => ∃ (i j : Nat) (dk : Array Nat), ci = .int .i64 (i : Int) ∧ cj = .int .i64 (j : Int) ∧ a + 1 ≤ i ∧ i ≤ j + 1 ∧ j ≤ J0 ∧ dk.size = d.size ∧ Hid (Arr w0 wr blk off dk) ∧ Hid (Go.Sort.partLoop ltN a i j dk = R)) (fun ci cj _ => (intOf cj + 1 - intOf ci).toNat)
           case atStart => exact HNX.out _ (HSW.out _ _ HA5.out)
           case round =>
            clear g1 g2 k1 k2
            obtain ⟨i, j, dk, rfl, rfl, hai, hij, hjb, hsk, HA, HO⟩ := hrel
            obtain ⟨x, hx⟩ : ∃ x, dk[a]! = x := ⟨_, rfl⟩
            have HX := Hj hx
            clear hx
            go_wp2
            go_loopw [10] (fun ci wr => ∃ (i2 : Nat), ci = .int .i64 (i2 : Int) ∧ i ≤ i2 ∧ i2 ≤ j + 1 ∧ Hid (Arr w0 wr blk off dk) ∧ Hid (Go.Sort.scanUp (fun x => ltN x dk[a]!) dk j i2 = Go.Sort.scanUp (fun x => ltN x dk[a]!) dk j i)) (fun ci _ => j + 1 - (intOf ci).toNat)
            case atStart => exact ⟨i, rfl, Nat.le_refl _, hij, HA, Hj rfl⟩
            case round =>
             obtain ⟨i2, rfl, hii, hij2, HA2, HU⟩ := hrel
             by_cases hle : i2 ≤ j
             · have hlei : (i2 : Int) ≤ (j : Int) := by omega
               have his : (i2 : Int) < (d.size : Int) := by omega
               have c0 := HA2.out.cell a (by omega); have c1 := HA2.out.cell i2 (by omega)
               obtain ⟨y, hy⟩ : ∃ y, dk[i2]! = y := ⟨_, rfl⟩
               rw [HX.out] at c0
               rw [hy] at c1
               have HY := Hj hy
               clear hy
               cases hl : ltN y x with
               | true =>
                 have HN : Hid (Go.Sort.scanUp (fun x => ltN x dk[a]!) dk j (i2 + 1) = Go.Sort.scanUp (fun x => ltN x dk[a]!) dk j i) := Hj (by rw [← HU.out]; exact (scU_go _ dk j i2 hle (by show ltN _ _ = true; rw [HX.out, HY.out, hl])).symm)
                 go_wp2
                 go_quiet ((go_at_call 158; exact Calls.quiet_of_same (qai _ _ _)))
                 go_wp2
                 exact ⟨⟨i2 + 1, by simp, by omega, by omega, Hj (HA2.out.drewN _), HN⟩, by simp [intOf]; omega⟩
               | false =>
                 have HI : Hid (i2 = Go.Sort.scanUp (fun x => ltN x dk[a]!) dk j i) := Hj (by rw [← HU.out]; exact (scU_end _ dk j i2 (.inr (by show ltN _ _ = false; rw [HX.out, HY.out, hl]))).symm)
                 go_wp2
                 go_quiet ((go_at_call 158; exact Calls.quiet_of_same (qai _ _ _)))
                 have HA3 := Hj (HA2.out.drewN nq)
                 generalize wr.drewN nq = wq at *
                 have HL := Hj hl
                 clear HA2 HU c0 c1 hl
                 go_wp2
                 go_loopw [11] (fun cj wr => ∃ (j2 : Nat), cj = .int .i64 (j2 : Int) ∧ j2 ≤ j ∧ i2 ≤ j2 + 1 ∧ Hid (Arr w0 wr blk off dk) ∧ Hid (Go.Sort.scanDown (fun x => !ltN x dk[a]!) dk i2 j2 = Go.Sort.scanDown (fun x => !ltN x dk[a]!) dk i2 j)) (fun cj _ => (intOf cj).toNat)
                 case atStart => exact ⟨j, rfl, Nat.le_refl _, by omega, HA3, Hj rfl⟩
                 case round =>
                  obtain ⟨j2, rfl, hjj, hij3, HA4, HD⟩ := hrel
                  by_cases hle2 : i2 ≤ j2
                  · have hlei2 : (i2 : Int) ≤ (j2 : Int) := by omega
                    have hjs : (j2 : Int) < (d.size : Int) := by omega
                    obtain ⟨J, hJJ⟩ : ∃ J, J = j2 := ⟨_, rfl⟩
                    subst hJJ
                    obtain ⟨q, hJ⟩ : ∃ q, J = q + 1 := ⟨J - 1, by omega⟩
                    have eJ : (J : Int) - 1 = (q : Int) := by omega
                    have c0 := HA4.out.cell a (by omega); have c1 := HA4.out.cell J (by omega)
                    obtain ⟨z, hz⟩ : ∃ z, dk[J]! = z := ⟨_, rfl⟩
                    rw [HX.out] at c0
                    rw [hz] at c1
                    have HZ := Hj hz; have HJ := Hj hJ
                    clear hz hJ
                    cases hl : ltN z x with
                    | false =>
                      have HN : Hid (Go.Sort.scanDown (fun x => !ltN x dk[a]!) dk i2 q = Go.Sort.scanDown (fun x => !ltN x dk[a]!) dk i2 j) := Hj (by rw [← HD.out, HJ.out]; exact (scD_go _ dk i2 q (by have := HJ.out; omega) (by show (!ltN _ _) = true; rw [HX.out, ← HJ.out, HZ.out, hl]; rfl)).symm)
                      go_wp2
                      go_quiet ((go_at_call 158; exact Calls.quiet_of_same (qai _ _ _)))
                      go_wp2
                      exact ⟨⟨q, rfl, by have := HJ.out; omega, by have := HJ.out; omega, Hj (HA4.out.drewN _), HN⟩, by have := HJ.out; simp [intOf]; omega⟩
                    | true =>
                      have HJ2 : Hid (J = Go.Sort.scanDown (fun x => !ltN x dk[a]!) dk i2 j) := Hj (by rw [← HD.out]; exact (scD_end _ dk i2 J (.inr (by show (!ltN _ _) = false; rw [HX.out, HZ.out, hl]; rfl))).symm)
                      have HG := Hj (par_go a i j i2 J dk HI.out HJ2.out (by omega))
                      have hne : ¬ J = i2 := fun e => by
                       have h1 := HY.out; have h2 := HZ.out; have h3 := HL.out
                       rw [e, h1] at h2
                       rw [h2, hl] at h3
                       exact absurd h3 (by decide)
                      have hne2 : ¬ (off + J = off + i2) := by omega
                      have hlt : i2 < J := by omega
                      have HNX : Hid (∀ wq, Arr w0 wq blk off (Go.Sort.swp dk i2 J) → ∃ (i' j' : Nat) (dj : Array Nat), Value.int .i64 ((i2 : Int) + 1) = .int .i64 (i' : Int) ∧ Value.int .i64 (q : Int) = .int .i64 (j' : Int) ∧ a + 1 ≤ i' ∧ i' ≤ j' + 1 ∧ j' ≤ J0 ∧ dj.size = d.size ∧ Hid (Arr w0 wq blk off dj) ∧ Hid (Go.Sort.partLoop ltN a i' j' dj = R)) := Hj (fun wq hq =>
                       ⟨i2 + 1, q, _, by simp, rfl, by omega, by have := HJ.out; omega, by have := HJ.out; omega, by rw [Go.Sort.size_swp, hsk], Hj hq, Hj (by rw [← HO.out, HG.out, show J - 1 = q by have := HJ.out; omega])⟩)
                      have hi3 : i2 < dk.size := by omega
                      have hJ3 : J < dk.size := by omega
                      have HSW : Hid (∀ wq m, Arr w0 wq blk off dk → Arr w0 (((wq.drewN m).setCell ⟨blk, off + i2, none⟩ (.int .u64 (z : Int))).setCell ⟨blk, off + J, none⟩ (.int .u64 (y : Int))) blk off (Go.Sort.swp dk i2 J)) := Hj (fun wq m hq => (hq.drewN m).swap hi3 hJ3 HZ.out HY.out)
                      have hms : (j : Int) + 1 - i > (q : Int) + 1 - (i2 + 1) := by have := HJ.out; omega
                      clear hne hi3 hJ3
                      go_wp2
                      go_quiet ((go_at_call 158; exact Calls.quiet_of_same (qai _ _ _)))
                      have HA5 := Hj (HA4.out.drewN nq)
                      generalize wr.drewN nq = wq at *
                      have g1 := HA5.out.cell J (by omega); have g2 := HA5.out.cell i2 (by omega)
                      have k1 := HA5.out.fro J (by omega); have k2 := HA5.out.fro i2 (by omega)
                      rw [HZ.out] at g1
                      rw [HY.out] at g2
                      clear HA4 HD c0 c1 hl
                      go_wp2
                      go_region
                      go_wp2
                      exact ⟨HNX.out _ (HSW.out _ _ HA5.out), by simp [intOf]; omega⟩
                  · have hJ2 : Hid (j2 = Go.Sort.scanDown (fun x => !ltN x dk[a]!) dk i2 j) := Hj (by rw [← HD.out]; exact (scD_end _ dk i2 j2 (.inl (by omega))).symm)
                    have HE : Hid (R = (j2, dk)) := Hj (by rw [← HO.out]; exact par_end a i j i2 j2 dk HI.out hJ2.out (by omega))
                    have hle3 : (decide ((i2 : Int) ≤ (j2 : Int))) = false := by simp; omega
                    have hgt : (j2 : Int) < (i2 : Int) := by omega
                    have hjd : j2 < dk.size := by omega
                    have hja : a ≤ j2 := by omega
                    clear hle3 hgt
                    go_wp2
                    go_quiet (fail)
                    have HA5 := Hj (HA4.out.drewN nq)
                    generalize wr.drewN nq = wq at *
                    have hjs : (j2 : Int) < (d.size : Int) := by omega
                    have ha1 : a < dk.size := by omega
                    obtain ⟨y, hy⟩ : ∃ y, dk[j2]! = y := ⟨_, rfl⟩
                    have c0 := HA5.out.cell a ha1; have c1 := HA5.out.cell j2 hjd
                    have f0 := HA5.out.fro a ha1; have f1 := HA5.out.fro j2 hjd
                    rw [HX.out] at c0
                    rw [hy] at c1
                    obtain ⟨v2, h2⟩ := HA5.out.two hjd ha1 (.int .u64 (x : Int))
                    have HSW : Hid (∀ m, Arr w0 (((wq.drewN m).setCell ⟨blk, off + j2, none⟩ (.int .u64 (x : Int))).setCell ⟨blk, off + a, none⟩ (.int .u64 (y : Int))) blk off (Go.Sort.swp dk j2 a)) := Hj (fun m => (HA5.out.drewN m).swap hjd ha1 HX.out hy)
                    clear hy ha1 hjd
                    go_wp2
                    go_region
                    go_wp2
                    go_ret2
                    exact ⟨⟨_, by rw [HE.out]; rfl⟩, by rw [HE.out]; exact HSW.out _⟩
             · have HI : Hid (i2 = Go.Sort.scanUp (fun x => ltN x dk[a]!) dk j i) := Hj (by rw [← HU.out]; exact (scU_end _ dk j i2 (.inl (by omega))).symm)
               have hlei : (decide ((i2 : Int) ≤ (j : Int))) = false := by simp; omega
               have hi2j : i2 = j + 1 := by omega
               have HIJ2 := Hj hi2j
               have hgt0 : (j : Int) < (i2 : Int) := by omega
               clear hlei hgt0 hi2j
               go_wp2
               go_quiet (fail)
               have HA3 := Hj (HA2.out.drewN nq)
               generalize wr.drewN nq = wq at *
               go_wp2
               go_loopw [11] (fun cj wr => ∃ (j2 : Nat), cj = .int .i64 (j2 : Int) ∧ j2 = j ∧ Hid (Arr w0 wr blk off dk)) (fun cj _ => (intOf cj).toNat)
               case atStart => exact ⟨j, rfl, rfl, HA3⟩
               case round =>
                obtain ⟨j2, rfl, hj2, HA4⟩ := hrel
                have HIJ3 := HIJ2
                have hJ2 : Hid (j2 = Go.Sort.scanDown (fun x => !ltN x dk[a]!) dk i2 j) := Hj (by rw [hj2]; exact (scD_end _ dk i2 j (.inl (by have := HIJ2.out; omega))).symm)
                have HE : Hid (R = (j2, dk)) := Hj (by rw [← HO.out]; exact par_end a i j i2 j2 dk HI.out hJ2.out (by have := HIJ2.out; omega))
                have hle2 : ¬ i2 ≤ j2 := by have := HIJ2.out; omega
                have hjd : j2 < dk.size := by omega
                have hja : a ≤ j2 := by omega
                have hjs : (j2 : Int) < (d.size : Int) := by omega
                clear hj2
                go_wp2
                go_quiet (fail)
                have HA5 := Hj (HA4.out.drewN nq)
                generalize wr.drewN nq = wq at *
                have ha1 : a < dk.size := by omega
                obtain ⟨y, hy⟩ : ∃ y, dk[j2]! = y := ⟨_, rfl⟩
                have c0 := HA5.out.cell a ha1; have c1 := HA5.out.cell j2 hjd
                have f0 := HA5.out.fro a ha1; have f1 := HA5.out.fro j2 hjd
                rw [HX.out] at c0
                rw [hy] at c1
                obtain ⟨v2, h2⟩ := HA5.out.two hjd ha1 (.int .u64 (x : Int))
                have HSW : Hid (∀ m, Arr w0 (((wq.drewN m).setCell ⟨blk, off + j2, none⟩ (.int .u64 (x : Int))).setCell ⟨blk, off + a, none⟩ (.int .u64 (y : Int))) blk off (Go.Sort.swp dk j2 a)) := Hj (fun m => (HA5.out.drewN m).swap hjd ha1 HX.out hy)
                clear hy ha1 hjd
                go_wp2
                go_region
                go_wp2
                go_ret2
                exact ⟨⟨_, by rw [HE.out]; rfl⟩, by rw [HE.out]; exact HSW.out _⟩
       · have hJ2 : Hid (j2 = Go.Sort.scanDown (fun x => !ltN x d1[a]!) d1 i2 J0) := Hj (by rw [← HD.out]; exact (scD_end _ d1 i2 j2 (.inl (by omega))).symm)
         have HE : Hid (R = (j2, d1)) := Hj (by rw [← HR.out]; exact par_end a I0 J0 i2 j2 d1 HI.out hJ2.out (by omega))
         have hle3 : (decide ((i2 : Int) ≤ (j2 : Int))) = false := by simp; omega
         have hgt : (j2 : Int) < (i2 : Int) := by omega
         have hjd : j2 < d1.size := by omega
         have hja : a ≤ j2 := by omega
         clear hle3 hgt
         go_wp2
         go_quiet (fail)
         have HA5 := Hj (HA4.out.drewN nq)
         generalize wr.drewN nq = wq at *
         have hjs : (j2 : Int) < (d.size : Int) := by omega
         have ha1 : a < d1.size := by omega
         obtain ⟨y, hy⟩ : ∃ y, d1[j2]! = y := ⟨_, rfl⟩
         have c0 := HA5.out.cell a ha1; have c1 := HA5.out.cell j2 hjd
         have f0 := HA5.out.fro a ha1; have f1 := HA5.out.fro j2 hjd
         rw [HX.out] at c0
         rw [hy] at c1
         obtain ⟨v2, h2⟩ := HA5.out.two hjd ha1 (.int .u64 (x : Int))
         have HSW : Hid (∀ m, Arr w0 (((wq.drewN m).setCell ⟨blk, off + j2, none⟩ (.int .u64 (x : Int))).setCell ⟨blk, off + a, none⟩ (.int .u64 (y : Int))) blk off (Go.Sort.swp d1 j2 a)) := Hj (fun m => (HA5.out.drewN m).swap hjd ha1 HX.out hy)
         clear hy ha1 hjd
         go_wp2
         go_region
         go_wp2
         go_ret2
         exact ⟨⟨_, by rw [HE.out]; rfl⟩, by rw [HE.out]; exact HSW.out _⟩
  · have HI : Hid (i2 = Go.Sort.scanUp (fun x => ltN x d1[a]!) d1 J0 I0) := Hj (by rw [← HU.out]; exact (scU_end _ d1 J0 i2 (.inl (by omega))).symm)
    have hlei : (decide ((i2 : Int) ≤ (J0 : Int))) = false := by simp; omega
    have hi2j : i2 = J0 + 1 := by omega
    have HIJ2 := Hj hi2j
    have hgt0 : (J0 : Int) < (i2 : Int) := by omega
    clear hlei hgt0 hi2j
    go_wp2
    go_quiet (fail)
    have HA3 := Hj (HA2.out.drewN nq)
    generalize wr.drewN nq = wq at *
    go_wp2
    go_loopw [11] (fun cj wr => ∃ (j2 : Nat), cj = .int .i64 (j2 : Int) ∧ j2 = J0 ∧ Hid (Arr w0 wr blk off d1)) (fun cj _ => (intOf cj).toNat)
    case atStart => exact ⟨J0, rfl, rfl, HA3⟩
    case round =>
     obtain ⟨j2, rfl, hj2, HA4⟩ := hrel
     have HIJ3 := HIJ2
     have hJ2 : Hid (j2 = Go.Sort.scanDown (fun x => !ltN x d1[a]!) d1 i2 J0) := Hj (by rw [hj2]; exact (scD_end _ d1 i2 J0 (.inl (by have := HIJ2.out; omega))).symm)
     have HE : Hid (R = (j2, d1)) := Hj (by rw [← HR.out]; exact par_end a I0 J0 i2 j2 d1 HI.out hJ2.out (by have := HIJ2.out; omega))
     have hle2 : ¬ i2 ≤ j2 := by have := HIJ2.out; omega
     have hjd : j2 < d1.size := by omega
     have hja : a ≤ j2 := by omega
     have hjs : (j2 : Int) < (d.size : Int) := by omega
     clear hj2
     go_wp2
     go_quiet (fail)
     have HA5 := Hj (HA4.out.drewN nq)
     generalize wr.drewN nq = wq at *
     have ha1 : a < d1.size := by omega
     obtain ⟨y, hy⟩ : ∃ y, d1[j2]! = y := ⟨_, rfl⟩
     have c0 := HA5.out.cell a ha1; have c1 := HA5.out.cell j2 hjd
     have f0 := HA5.out.fro a ha1; have f1 := HA5.out.fro j2 hjd
     rw [HX.out] at c0
     rw [hy] at c1
     obtain ⟨v2, h2⟩ := HA5.out.two hjd ha1 (.int .u64 (x : Int))
     have HSW : Hid (∀ m, Arr w0 (((wq.drewN m).setCell ⟨blk, off + j2, none⟩ (.int .u64 (x : Int))).setCell ⟨blk, off + a, none⟩ (.int .u64 (y : Int))) blk off (Go.Sort.swp d1 j2 a)) := Hj (fun m => (HA5.out.drewN m).swap hjd ha1 HX.out hy)
     clear hy ha1 hjd
     go_wp2
     go_region
     go_wp2
     go_ret2
     exact ⟨⟨_, by rw [HE.out]; rfl⟩, by rw [HE.out]; exact HSW.out _⟩
end
section
open Go.RowKit Go.Maps
def insO (x : Nat) : List Nat → List Nat
 | [] => [x]
 | y :: r => if x < y then x :: y :: r else if x = y then y :: r else y :: insO x r
def dictO (l : List Nat) : List Nat := l.foldr insO []
theorem mem_insO (x z : Nat) (l : List Nat) : z ∈ insO x l ↔ z = x ∨ z ∈ l := by
 induction l with
 | nil => simp [insO]
 | cons y r ih =>
   unfold insO
   split
   · simp
   · split
     · rename_i _ h; subst h; simp
     · simp only [List.mem_cons, ih]
       constructor
       · rintro (h | h | h)
         · exact .inr (.inl h)
         · exact .inl h
         · exact .inr (.inr h)
       · rintro (h | h | h)
         · exact .inr (.inl h)
         · exact .inl h
         · exact .inr (.inr h)
theorem insO_sorted (x : Nat) (l : List Nat) (h : l.Pairwise (· < ·)) : (insO x l).Pairwise (· < ·) := by
 induction l with
 | nil => simp [insO]
 | cons y r ih =>
   obtain ⟨h1, h2⟩ := List.pairwise_cons.1 h
   unfold insO
   split
   · rename_i hxy
     refine List.pairwise_cons.2 ⟨fun z hz => ?_, h⟩
     rcases List.mem_cons.1 hz with rfl | hz
     · exact hxy
     · exact Nat.lt_trans hxy (h1 z hz)
   · split
     · exact h
     · refine List.pairwise_cons.2 ⟨fun z hz => ?_, ih h2⟩
       rcases (mem_insO x z r).1 hz with rfl | hz
       · omega
       · exact h1 z hz
theorem qby (l : List Nat) : (dictO l).Pairwise (· < ·) := by
 induction l with
 | nil => exact List.Pairwise.nil
 | cons x r ih => exact insO_sorted x _ ih
theorem qcn (z : Nat) (l : List Nat) : z ∈ dictO l ↔ z ∈ l := by
 induction l with
 | nil => simp [dictO]
 | cons x r ih =>
   show z ∈ insO x (dictO r) ↔ _
   rw [mem_insO, ih, List.mem_cons]
theorem strict_ext : ∀ (a b : List Nat), a.Pairwise (· < ·) → b.Pairwise (· < ·) → (∀ z, z ∈ a ↔ z ∈ b) → a = b := by
 intro a
 induction a with
 | nil => intro b _ _ h; cases b with
   | nil => rfl
   | cons y r => exact absurd ((h y).2 (by simp)) (by simp)
 | cons x r ih =>
   intro b ha hb h
   cases b with
   | nil => exact absurd ((h x).1 (by simp)) (by simp)
   | cons y s =>
     obtain ⟨a1, a2⟩ := List.pairwise_cons.1 ha
     obtain ⟨b1, b2⟩ := List.pairwise_cons.1 hb
     have hx : x = y := by
      rcases List.mem_cons.1 ((h x).1 (by simp)) with e | e
      · exact e
      · rcases List.mem_cons.1 ((h y).2 (by simp)) with e' | e'
        · exact e'.symm
        · have := a1 y e'; have := b1 x e; omega
     subst hx
     rw [ih s a2 b2 (fun z => ?_)]
     constructor
     · intro hz
       rcases List.mem_cons.1 ((h z).1 (List.mem_cons_of_mem _ hz)) with e | e
       · have := a1 z hz; omega
       · exact e
     · intro hz
       rcases List.mem_cons.1 ((h z).2 (List.mem_cons_of_mem _ hz)) with e | e
       · have := b1 z hz; omega
       · exact e
theorem strict_of {a : Array Nat} {d : List Nat} (hp : Go.Sort.PermIn 0 d.length d.toArray a) (hs : Go.Sort.SortedIn ltN 0 d.length a) (hn : d.Nodup) : a.toList.Pairwise (· < ·) ∧ a.toList.Perm d := by
 have hsz : a.size = d.length := by rw [hp.1]; simp
 have hperm : a.toList.Perm d := by
  have h := hp.2.2
  rw [show (a.extract 0 d.length) = a by rw [← hsz]; simp, show (d.toArray.extract 0 d.length) = d.toArray by rw [show d.length = d.toArray.size by simp]; exact Array.extract_size] at h
  simpa using h
 refine ⟨?_, hperm⟩
 have hnd : a.toList.Nodup := hperm.symm.nodup hn
 rw [List.pairwise_iff_getElem]
 intro i j hi hj hij
 have hi' : i < a.size := by simpa using hi
 have hj' : j < a.size := by simpa using hj
 have h := hs i j (Nat.zero_le _) hij (by omega)
 rw [getElem!_pos a i hi', getElem!_pos a j hj'] at h
 simp only [ltN, decide_eq_false_iff_not] at h
 have hne : a.toList[i] ≠ a.toList[j] := List.pairwise_iff_getElem.1 hnd i j hi hj hij
 simp only [Array.getElem_toList] at hne ⊢
 omega
theorem dictO_of {a : Array Nat} {d l : List Nat} (hp : Go.Sort.PermIn 0 d.length d.toArray a) (hs : Go.Sort.SortedIn ltN 0 d.length a) (hn : d.Nodup) (hm : ∀ z, z ∈ d ↔ z ∈ l) : a.toList = dictO l := by
 obtain ⟨h1, h2⟩ := strict_of hp hs hn
 exact strict_ext _ _ h1 (qby l) (fun z => by rw [h2.mem_iff, hm, qcn])
theorem insO_length (x : Nat) (l : List Nat) : (insO x l).length ≤ l.length + 1 := by
 induction l with
 | nil => simp [insO]
 | cons y r ih =>
   unfold insO
   split
   · simp
   · split
     · simp
     · simp only [List.length_cons]; omega
theorem dictO_length (l : List Nat) : (dictO l).length ≤ l.length := by
 induction l with
 | nil => simp [dictO]
 | cons x r ih =>
   have := insO_length x (dictO r)
   show (insO x (dictO r)).length ≤ _
   simp only [List.length_cons]; omega
theorem dictO_pos {l : List Nat} (h : l ≠ []) : 0 < (dictO l).length := by
 cases l with
 | nil => exact absurd rfl h
 | cons x r =>
   have := (qcn x (x :: r)).2 (by simp)
   exact List.length_pos_of_mem this
def CollN {H : Type} (D0 : DataW H) (left : Lit → Bool) (ss : List Nat) : Prop := ss.Nodup ∧ ∀ x : Nat, x ∈ ss ↔ (has D0 (.int .u64 (x : Int)) = true ∧ left (.int .u64 (x : Int)) = false)
section
variable {H : Type} {D0 : DataW H} {left : Lit → Bool} {ss : List Nat}
theorem CollN.start (D0 : DataW H) : CollN D0 (has D0) [] := ⟨List.nodup_nil, fun x => by cases has D0 (.int .u64 (x : Int)) <;> simp⟩
theorem CollN.step (h : CollN D0 left ss) {x : Nat} {y : DataW H} (hlk : left (.int .u64 (x : Int)) = true) (hat : ∀ zd, D0.atKey (.int .u64 (x : Int)) zd = y) : CollN D0 (fun z => left z && !z.sameKey (.int .u64 (x : Int))) (ss ++ [x]) := by
 have hhas : has D0 (.int .u64 (x : Int)) = true := has_true_of_atKey hat
 have hnew : x ∉ ss := fun hx => by have := ((h.2 x).1 hx).2; rw [hlk] at this; cases this
 refine ⟨List.nodup_append.2 ⟨h.1, by simp, fun a ha b hb => by simp at hb; subst hb; exact fun e => hnew (e ▸ ha)⟩, fun y => ?_⟩
 by_cases hy : y = x
 · subst hy; simp [hhas, Lit.sameKey]
 · have hyx : ¬ (y : Int) = (x : Int) := by omega
   simp [h.2 y, hy, hyx, Lit.sameKey]
theorem CollN.done (h : CollN D0 left ss) (hl : ∀ kl, left kl = false) : ∀ x : Nat, x ∈ ss ↔ has D0 (.int .u64 (x : Int)) = true := fun x => by rw [h.2 x, hl]; simp
end
end
end Go.Proofs.YtfpcgcbehdogjaaGreatDoor
