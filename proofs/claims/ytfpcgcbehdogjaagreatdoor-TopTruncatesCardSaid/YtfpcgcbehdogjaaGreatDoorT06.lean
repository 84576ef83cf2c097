/-
  Lemmas on which LTopTruncates rests, packed out of the texts SortI WXorA SortJ PTimes PTimes2 WRef06 WDoor6; each for all arguments under the hypotheses it names.
-/
import Derived.Test.YtfpcgcbehdogjaaGreatDoorT04
import Derived.Laws.Bits64b
import Derived.Laws.Bits64
import Derived.Lib.ItoaNum
import Derived.Lib.LaidTab
namespace Go.Proofs.YtfpcgcbehdogjaaGreatDoor
section
set_option maxHeartbeats 16000000
set_option maxRecDepth 100000
open Go.RowKit
theorem scS_go (d : Array Nat) (b i q : Nat) (h : i < b) (hq : i = q + 1) (hp : ltN d[i]! d[q]! = false) : Go.Sort.scanSorted ltN d b i = Go.Sort.scanSorted ltN d b (i + 1) := by
 subst hq
 rw [Go.Sort.scanSorted, if_pos (by simp [h, hp])]
theorem scS_end (d : Array Nat) (b i : Nat) (h : b ≤ i ∨ ∃ q, i = q + 1 ∧ ltN d[i]! d[q]! = true) : Go.Sort.scanSorted ltN d b i = i := by
 rw [Go.Sort.scanSorted]
 rcases h with h | ⟨q, rfl, h⟩
 · rw [if_neg (by simp; omega)]
 · rw [if_neg (by simp [h])]
theorem shD_go (q : Nat) (d : Array Nat) (h : ltN d[q + 1]! d[q]! = true) : Go.Sort.shiftDown ltN (q + 1) d = Go.Sort.shiftDown ltN q (Go.Sort.swp d (q + 1) q) := by
 rw [Go.Sort.shiftDown, if_neg (by simp [h])]
theorem shD_end (j : Nat) (d : Array Nat) (h : j = 0 ∨ ∃ q, j = q + 1 ∧ ltN d[j]! d[q]! = false) : Go.Sort.shiftDown ltN j d = d := by
 rcases h with rfl | ⟨q, rfl, h⟩
 · rw [Go.Sort.shiftDown]
 · rw [Go.Sort.shiftDown, if_pos (by simp [h])]
theorem shU_go (b j q : Nat) (d : Array Nat) (h : j < b) (hq : j = q + 1) (hl : ltN d[j]! d[q]! = true) : Go.Sort.shiftUp ltN b j d = Go.Sort.shiftUp ltN b (j + 1) (Go.Sort.swp d j q) := by
 subst hq
 rw [Go.Sort.shiftUp, if_pos h, if_neg (by simp [hl])]
 rfl
theorem qgu (b j : Nat) (d : Array Nat) (h : b ≤ j ∨ ∃ q, j = q + 1 ∧ ltN d[j]! d[q]! = false) : Go.Sort.shiftUp ltN b j d = d := by
 rw [Go.Sort.shiftUp]
 rcases h with h | ⟨q, rfl, h⟩
 · rw [if_neg (by omega)]
 · split
   · rw [if_pos (by simp [h])]
   · rfl
theorem shD_size (j : Nat) (d : Array Nat) : (Go.Sort.shiftDown ltN j d).size = d.size := by
 fun_induction Go.Sort.shiftDown ltN j d <;> simp_all [Go.Sort.size_swp]
theorem shU_size (b j : Nat) (d : Array Nat) : (Go.Sort.shiftUp ltN b j d).size = d.size := by
 fun_induction Go.Sort.shiftUp ltN b j d <;> simp_all [Go.Sort.size_swp]
theorem fixD_size (a i : Nat) (d : Array Nat) : (Go.Sort.fixDown ltN a i d).size = d.size := by
 unfold Go.Sort.fixDown; split
 · exact shD_size _ _
 · rfl
theorem fixU_size (b i : Nat) (d : Array Nat) : (Go.Sort.fixUp ltN b i d).size = d.size := by
 unfold Go.Sort.fixUp; split
 · exact shU_size _ _ _
 · rfl
theorem uPins_any (w0 w : World) (blk off cap a b : Nat) (d : Array Nat) (h : Arr w0 w blk off d) (hab : a < b) (hb : b ≤ d.size) (hsz : d.size ≤ 1099511627776) :
 Calls Tryz.prog 222 #[.slice (some ⟨blk, off, none⟩) d.size cap, .int .i64 (a : Int), .int .i64 (b : Int)] w fun e w' =>
  e = .returned (.bool (Go.Sort.partialInsertionSort ltN d a b).2) ∧ Arr w0 w' blk off (Go.Sort.partialInsertionSort ltN d a b).1 := by
 have HH := Hj h
 obtain ⟨R, hR⟩ : ∃ R, Go.Sort.partialInsertionSort ltN d a b = R := ⟨_, rfl⟩
 have HR : Hid (Go.Sort.partialIns ltN a b 5 (a + 1) d = R) := Hj hR
 rw [hR]
 clear h hR
 go_enter Tryz.func222, Tryz.ntmps222
 go_wp2
 go_loopw [7, 8] (fun ci cj wr => ∃ (i j s : Nat) (dk : Array Nat), ci = .int .i64 (i : Int) ∧ cj = .int .i64 (j : Int) ∧ j + s = 5 ∧ a + 1 ≤ i ∧ i ≤ b ∧ dk.size = d.size ∧ Hid (Arr w0 wr blk off dk) ∧ Hid (Go.Sort.partialIns ltN a b s i dk = R)) (fun ci cj _ => (5 - intOf cj).toNat)
 case atStart => exact ⟨a + 1, 0, 5, d, by simp, by simp, by omega, Nat.le_refl _, by omega, rfl, HH, HR⟩
 case round =>
  obtain ⟨i, j, s, dk, rfl, rfl, hjs, hai, hib, hsk, HA, HO⟩ := hrel
  cases s with
  | zero =>
    obtain rfl : j = 5 := by omega
    have HE : Hid (R = (dk, false)) := Hj (by rw [← HO.out]; rfl)
    clear hjs
    go_wp2
    go_ret
    exact ⟨by rw [HE.out]; rfl, by rw [HE.out]; exact HA.out⟩
  | succ s =>
    have hj5 : (j : Int) < 5 := by omega
    have hjm : (5 : Int) - ((j : Int) + 1) < 5 - (j : Int) := by omega
    obtain ⟨j', hj'⟩ : ∃ j', j' = j + 1 := ⟨_, rfl⟩
    have ej : (j : Int) + 1 = (j' : Int) := by omega
    have HJS : Hid (j' + s = 5) := Hj (by omega)
    clear hjs hj'
    go_wp2
    go_loopw [7] (fun ci wr => ∃ (i2 : Nat), ci = .int .i64 (i2 : Int) ∧ i ≤ i2 ∧ i2 ≤ b ∧ Hid (Arr w0 wr blk off dk) ∧ Hid (Go.Sort.scanSorted ltN dk b i2 = Go.Sort.scanSorted ltN dk b i)) (fun ci _ => b - (intOf ci).toNat)
    case atStart => exact ⟨i, rfl, Nat.le_refl _, hib, HA, Hj rfl⟩
    case round =>
     obtain ⟨i2, rfl, hii, hib2, HA2, HU⟩ := hrel
     by_cases hlt : i2 < b
     · have hlti : (i2 : Int) < (b : Int) := by omega
       have his : (i2 : Int) < (d.size : Int) := by omega
       obtain ⟨q, hq⟩ : ∃ q, i2 = q + 1 := ⟨i2 - 1, by omega⟩
       have eq1 : (i2 : Int) - 1 = (q : Int) := by omega
       have hqs : (q : Int) < (d.size : Int) := by omega
       have c0 := HA2.out.cell i2 (by omega); have c1 := HA2.out.cell q (by omega)
       have f0 := HA2.out.fro i2 (by omega); have f1 := HA2.out.fro q (by omega)
       obtain ⟨x, hx⟩ : ∃ x, dk[i2]! = x := ⟨_, rfl⟩
       obtain ⟨y, hy⟩ : ∃ y, dk[q]! = y := ⟨_, rfl⟩
       rw [hx] at c0
       rw [hy] at c1
       have HX := Hj hx; have HY := Hj hy; have HQ := Hj hq
       clear hx hy
       cases hl : ltN x y with
       | false =>
         have HN : Hid (Go.Sort.scanSorted ltN dk b (i2 + 1) = Go.Sort.scanSorted ltN dk b i) := Hj (by rw [← HU.out]; exact (scS_go dk b i2 q hlt hq (by rw [HX.out, HY.out, hl])).symm)
         clear hq
         go_wp2
         go_quiet ((go_at_call 158; exact Calls.quiet_of_same (qah _ _ _)))
         go_wp2
         exact ⟨⟨i2 + 1, by simp, by omega, by omega, Hj (HA2.out.drewN _), HN⟩, by simp [intOf]; omega⟩
       | true =>
         have HI : Hid (Go.Sort.scanSorted ltN dk b i = i2) := Hj (by rw [← HU.out]; exact scS_end dk b i2 (.inr ⟨q, hq, by rw [HX.out, HY.out, hl]⟩))
         have HS : Hid (R = if b - a < 50 then (dk, false) else Go.Sort.partialIns ltN a b s i2 (Go.Sort.fixUp ltN b i2 (Go.Sort.fixDown ltN a i2 (Go.Sort.swp dk i2 q)))) := Hj (by
          rw [← HO.out, Go.Sort.partialIns_succ, HI.out, if_neg (by omega), show i2 - 1 = q by omega])
         have hnb : ¬ i2 = b := by omega
         clear hq
         by_cases h50 : b - a < 50
         · have h50' : (b : Int) - (a : Int) < 50 := by omega
           have HE : Hid (R = (dk, false)) := Hj (by rw [HS.out, if_pos h50])
           clear h50
           go_wp2
           go_quiet ((go_at_call 158; exact Calls.quiet_of_same (qah _ _ _)))
           have HA3 := Hj (HA2.out.drewN nq)
           generalize wr.drewN nq = wq at *
           go_wp2
           go_ret
           exact ⟨by rw [HE.out]; rfl, by rw [HE.out]; exact HA3.out⟩
         · have h50' : ¬ (b : Int) - (a : Int) < 50 := by omega
           have h50'' : (decide ((b : Int) - (a : Int) < 50)) = false := by simp; omega
           have HE : Hid (R = Go.Sort.partialIns ltN a b s i2 (Go.Sort.fixUp ltN b i2 (Go.Sort.fixDown ltN a i2 (Go.Sort.swp dk i2 q)))) := Hj (by rw [HS.out, if_neg h50])
           have hi3 : i2 < dk.size := by omega
           have hq3 : q < dk.size := by have := HQ.out; omega
           have HSW : Hid (∀ wq m, Arr w0 wq blk off dk → Arr w0 (((wq.drewN m).setCell ⟨blk, off + i2, none⟩ (.int .u64 (y : Int))).setCell ⟨blk, off + q, none⟩ (.int .u64 (x : Int))) blk off (Go.Sort.swp dk i2 q)) := Hj (fun wq m hq => (hq.drewN m).swap hi3 hq3 HY.out HX.out)
           have hne2 : ¬ (off + q = off + i2) := by have := HQ.out; omega
           clear h50
           go_wp2
           go_quiet ((go_at_call 158; exact Calls.quiet_of_same (qah _ _ _)))
           have HA3 := Hj (HA2.out.drewN nq)
           generalize wr.drewN nq = wq at *
           have g0 := HA3.out.cell i2 hi3; have g1 := HA3.out.cell q hq3
           have k0 := HA3.out.fro i2 hi3; have k1 := HA3.out.fro q hq3
           rw [HX.out] at g0
           rw [HY.out] at g1
           clear HA2 c0 c1 f0 f1 hl HU
           have HNX : Hid (∀ wq dq, dq = Go.Sort.fixUp ltN b i2 (Go.Sort.fixDown ltN a i2 (Go.Sort.swp dk i2 q)) → Arr w0 wq blk off dq → ∃ (i j s : Nat) (dk : Array Nat), Value.int .i64 (i2 : Int) = .int .i64 (i : Int) ∧ Value.int .i64 (j' : Int) = .int .i64 (j : Int) ∧ j + s = 5 ∧ a + 1 ≤ i ∧ i ≤ b ∧ dk.size = d.size ∧ Hid (Arr w0 wq blk off dk) ∧ Hid (Go.Sort.partialIns ltN a b s i dk = R)) := Hj (fun wq dq hd hq =>
            ⟨i2, j', s, dq, rfl, rfl, HJS.out, by omega, hib2, by rw [hd, fixU_size, fixD_size, Go.Sort.size_swp, hsk], Hj hq, Hj (by rw [hd, HE.out])⟩)
           have HSZ : Hid ((Go.Sort.swp dk i2 q).size = d.size) := Hj (by rw [Go.Sort.size_swp, hsk])
           clear hi3 hq3
           by_cases h2 : 2 ≤ i2 - a
           · have h2' : (2 : Int) ≤ (i2 : Int) - (a : Int) := by omega
             have HD0 : Hid (Go.Sort.fixDown ltN a i2 (Go.Sort.swp dk i2 q) = Go.Sort.shiftDown ltN q (Go.Sort.swp dk i2 q)) := Hj (by unfold Go.Sort.fixDown; rw [if_pos h2, show i2 - 1 = q by have := HQ.out; omega])
             clear h2
             go_wp2
             go_region
             go_wp2
             go_loopw [9] (fun cj wr => ∃ (m : Nat) (dj : Array Nat), cj = .int .i64 (m : Int) ∧ m ≤ q ∧ dj.size = d.size ∧ Hid (Arr w0 wr blk off dj) ∧ Hid (Go.Sort.shiftDown ltN m dj = Go.Sort.shiftDown ltN q (Go.Sort.swp dk i2 q))) (fun cj _ => (intOf cj).toNat)
             case atStart => exact ⟨q, _, rfl, Nat.le_refl _, HSZ.out, Hj (HSW.out _ _ HA3.out), Hj rfl⟩
             case round =>
              clear g0 g1 k0 k1
              obtain ⟨m, dj, rfl, hmq, hsj, HAj, HDj⟩ := hrel
              cases m with
              | zero =>
                have HD : Hid (Go.Sort.fixDown ltN a i2 (Go.Sort.swp dk i2 q) = dj) := Hj (by rw [HD0.out, ← HDj.out]; exact shD_end 0 dj (.inl rfl))
                by_cases h3 : 2 ≤ b - i2
                · have h3' : (2 : Int) ≤ (b : Int) - (i2 : Int) := by omega
                  obtain ⟨t0, ht0⟩ : ∃ t0, t0 = i2 + 1 := ⟨_, rfl⟩
                  have et : (i2 : Int) + 1 = (t0 : Int) := by omega
                  have HU0 : Hid (Go.Sort.fixUp ltN b i2 (Go.Sort.fixDown ltN a i2 (Go.Sort.swp dk i2 q)) = Go.Sort.shiftUp ltN b t0 dj) := Hj (by rw [HD.out]; unfold Go.Sort.fixUp; rw [if_pos h3, ht0])
                  have HT0 := Hj ht0
                  clear h3 ht0
                  go_wp2
                  go_loopw [10] (fun cj wr => ∃ (t : Nat) (du : Array Nat), cj = .int .i64 (t : Int) ∧ t0 ≤ t ∧ t ≤ b ∧ du.size = d.size ∧ Hid (Arr w0 wr blk off du) ∧ Hid (Go.Sort.shiftUp ltN b t du = Go.Sort.shiftUp ltN b t0 dj)) (fun cj _ => b - (intOf cj).toNat)
                  case atStart => exact ⟨t0, _, rfl, Nat.le_refl _, by have := HT0.out; omega, hsj, HAj, Hj rfl⟩
                  case round =>
                   obtain ⟨t, du, rfl, htt, htb, hsu, HAu, HUt⟩ := hrel
                   by_cases htl : t < b
                   · have htl' : (t : Int) < (b : Int) := by omega
                     obtain ⟨r, hr⟩ : ∃ r, t = r + 1 := ⟨t - 1, by have := HT0.out; omega⟩
                     have er : (t : Int) - 1 = (r : Int) := by omega
                     have hts : (t : Int) < (d.size : Int) := by omega
                     have ht3 : t < du.size := by omega
                     have hr3 : r < du.size := by omega
                     have hrs : (r : Int) < (d.size : Int) := by omega
                     have hne3 : ¬ (off + r = off + t) := by omega
                     have c0 := HAu.out.cell t ht3; have c1 := HAu.out.cell r hr3
                     obtain ⟨u, hu⟩ : ∃ u, du[t]! = u := ⟨_, rfl⟩
                     obtain ⟨v, hv⟩ : ∃ v, du[r]! = v := ⟨_, rfl⟩
                     rw [hu] at c0
                     rw [hv] at c1
                     have HTr := Hj hr; have HUu := Hj hu; have HV := Hj hv; have HT3 := Hj ht3; have HR3 := Hj hr3
                     cases hl : ltN u v with
                     | true =>
                       have HNN : Hid (Go.Sort.shiftUp ltN b (t + 1) (Go.Sort.swp du t r) = Go.Sort.shiftUp ltN b t0 dj) := Hj (by rw [← HUt.out]; exact (shU_go b t r du htl hr (by rw [hu, hv, hl])).symm)
                       clear hr hu hv ht3 hr3
                       go_wp2
                       go_quiet ((go_at_call 158; exact Calls.quiet_of_same (qah _ _ _)))
                       have HAq := Hj (HAu.out.drewN nq)
                       generalize wr.drewN nq = wz at *
                       have g0 := HAq.out.cell t HT3.out; have g1 := HAq.out.cell r HR3.out
                       have k0 := HAq.out.fro t HT3.out; have k1 := HAq.out.fro r HR3.out
                       rw [HUu.out] at g0
                       rw [HV.out] at g1
                       clear HAu c0 c1 hl
                       go_wp2
                       go_region
                       go_wp2
                       exact ⟨⟨t + 1, _, by simp, by omega, by omega, by rw [Go.Sort.size_swp, hsu], Hj ((HAq.out.drewN _).swap HT3.out HR3.out HV.out HUu.out), HNN⟩, by simp [intOf]; omega⟩
                     | false =>
                       have HF : Hid (Go.Sort.fixUp ltN b i2 (Go.Sort.fixDown ltN a i2 (Go.Sort.swp dk i2 q)) = du) := Hj (by rw [HU0.out, ← HUt.out]; exact qgu b t du (.inr ⟨r, hr, by rw [hu, hv, hl]⟩))
                       clear hr hu hv ht3 hr3
                       go_wp2
                       go_quiet ((go_at_call 158; exact Calls.quiet_of_same (qah _ _ _)))
                       go_wp2
                       exact ⟨HNX.out _ _ HF.out.symm (HAu.out.drewN _), by simp [intOf]; omega⟩
                   · have HF : Hid (Go.Sort.fixUp ltN b i2 (Go.Sort.fixDown ltN a i2 (Go.Sort.swp dk i2 q)) = du) := Hj (by rw [HU0.out, ← HUt.out]; exact qgu b t du (.inl (by omega)))
                     have htl' : ¬ (t : Int) < (b : Int) := by omega
                     go_wp2
                     exact ⟨HNX.out _ _ HF.out.symm HAu.out, by simp [intOf]; omega⟩
                · have h3' : ¬ (2 : Int) ≤ (b : Int) - (i2 : Int) := by omega
                  have HF : Hid (Go.Sort.fixUp ltN b i2 (Go.Sort.fixDown ltN a i2 (Go.Sort.swp dk i2 q)) = dj) := Hj (by rw [HD.out]; unfold Go.Sort.fixUp; rw [if_neg h3])
                  clear h3
                  go_wp2
                  all_goals exact ⟨HNX.out _ _ HF.out.symm HAj.out, by simp [intOf]; omega⟩
              | succ r =>
                obtain ⟨m, hm⟩ : ∃ m, m = r + 1 := ⟨_, rfl⟩
                rw [← hm] at HDj hmq ⊢
                have em : (m : Int) - 1 = (r : Int) := by omega
                have hm1 : (1 : Int) ≤ (m : Int) := by omega
                have hms : (m : Int) < (d.size : Int) := by have := HQ.out; omega
                have hm3 : m < dj.size := by have := HQ.out; omega
                have hr3 : r < dj.size := by omega
                have hne3 : ¬ (off + r = off + m) := by omega
                have c0 := HAj.out.cell m hm3; have c1 := HAj.out.cell r hr3
                obtain ⟨u, hu⟩ : ∃ u, dj[m]! = u := ⟨_, rfl⟩
                obtain ⟨v, hv⟩ : ∃ v, dj[r]! = v := ⟨_, rfl⟩
                rw [hu] at c0
                rw [hv] at c1
                have HM := Hj hm; have HUu := Hj hu; have HV := Hj hv; have HM3 := Hj hm3; have HR3 := Hj hr3
                clear hm hu hv hm3 hr3
                cases hl : ltN u v with
                | true =>
                  have HNN : Hid (Go.Sort.shiftDown ltN r (Go.Sort.swp dj m r) = Go.Sort.shiftDown ltN q (Go.Sort.swp dk i2 q)) := Hj (by rw [← HDj.out, HM.out]; exact (shD_go r dj (by rw [← HM.out, HUu.out, HV.out, hl])).symm)
                  go_wp2
                  go_quiet ((go_at_call 158; exact Calls.quiet_of_same (qah _ _ _)))
                  have HAq := Hj (HAj.out.drewN nq)
                  generalize wr.drewN nq = wz at *
                  have g0 := HAq.out.cell m HM3.out; have g1 := HAq.out.cell r HR3.out
                  have k0 := HAq.out.fro m HM3.out; have k1 := HAq.out.fro r HR3.out
                  rw [HUu.out] at g0
                  rw [HV.out] at g1
                  clear HAj c0 c1 hl
                  go_wp2
                  go_region
                  go_wp2
                  exact ⟨⟨r, _, rfl, by have := HM.out; omega, by rw [Go.Sort.size_swp, hsj], Hj ((HAq.out.drewN _).swap HM3.out HR3.out HV.out HUu.out), HNN⟩, by have := HM.out; simp [intOf]; omega⟩
                | false =>
                  have HD : Hid (Go.Sort.fixDown ltN a i2 (Go.Sort.swp dk i2 q) = dj) := Hj (by rw [HD0.out, ← HDj.out]; exact shD_end m dj (.inr ⟨r, HM.out, by rw [HUu.out, HV.out, hl]⟩))
                  go_wp2
                  go_quiet ((go_at_call 158; exact Calls.quiet_of_same (qah _ _ _)))
                  have HAj := Hj (HAj.out.drewN nq)
                  generalize wr.drewN nq = wr at *
                  clear c0 c1 hl
                  by_cases h3 : 2 ≤ b - i2
                  · have h3' : (2 : Int) ≤ (b : Int) - (i2 : Int) := by omega
                    obtain ⟨t0, ht0⟩ : ∃ t0, t0 = i2 + 1 := ⟨_, rfl⟩
                    have et : (i2 : Int) + 1 = (t0 : Int) := by omega
                    have HU0 : Hid (Go.Sort.fixUp ltN b i2 (Go.Sort.fixDown ltN a i2 (Go.Sort.swp dk i2 q)) = Go.Sort.shiftUp ltN b t0 dj) := Hj (by rw [HD.out]; unfold Go.Sort.fixUp; rw [if_pos h3, ht0])
                    have HT0 := Hj ht0
                    clear h3 ht0
                    go_wp2
                    go_loopw [10] (fun cj wr => ∃ (t : Nat) (du : Array Nat), cj = .int .i64 (t : Int) ∧ t0 ≤ t ∧ t ≤ b ∧ du.size = d.size ∧ Hid (Arr w0 wr blk off du) ∧ Hid (Go.Sort.shiftUp ltN b t du = Go.Sort.shiftUp ltN b t0 dj)) (fun cj _ => b - (intOf cj).toNat)
                    case atStart => exact ⟨t0, _, rfl, Nat.le_refl _, by have := HT0.out; omega, hsj, HAj, Hj rfl⟩
                    case round =>
                     obtain ⟨t, du, rfl, htt, htb, hsu, HAu, HUt⟩ := hrel
                     by_cases htl : t < b
                     · have htl' : (t : Int) < (b : Int) := by omega
                       obtain ⟨r, hr⟩ : ∃ r, t = r + 1 := ⟨t - 1, by have := HT0.out; omega⟩
                       have er : (t : Int) - 1 = (r : Int) := by omega
                       have hts : (t : Int) < (d.size : Int) := by omega
                       have ht3 : t < du.size := by omega
                       have hr3 : r < du.size := by omega
                       have hrs : (r : Int) < (d.size : Int) := by omega
                       have hne3 : ¬ (off + r = off + t) := by omega
                       have c0 := HAu.out.cell t ht3; have c1 := HAu.out.cell r hr3
                       obtain ⟨u, hu⟩ : ∃ u, du[t]! = u := ⟨_, rfl⟩
                       obtain ⟨v, hv⟩ : ∃ v, du[r]! = v := ⟨_, rfl⟩
                       rw [hu] at c0
                       rw [hv] at c1
                       have HTr := Hj hr; have HUu := Hj hu; have HV := Hj hv; have HT3 := Hj ht3; have HR3 := Hj hr3
                       cases hl : ltN u v with
                       | true =>
                         have HNN : Hid (Go.Sort.shiftUp ltN b (t + 1) (Go.Sort.swp du t r) = Go.Sort.shiftUp ltN b t0 dj) := Hj (by rw [← HUt.out]; exact (shU_go b t r du htl hr (by rw [hu, hv, hl])).symm)
                         clear hr hu hv ht3 hr3
                         go_wp2
                         go_quiet ((go_at_call 158; exact Calls.quiet_of_same (qah _ _ _)))
                         have HAq := Hj (HAu.out.drewN nq)
                         generalize wr.drewN nq = wz at *
                         have g0 := HAq.out.cell t HT3.out; have g1 := HAq.out.cell r HR3.out
                         have k0 := HAq.out.fro t HT3.out; have k1 := HAq.out.fro r HR3.out
                         rw [HUu.out] at g0
                         rw [HV.out] at g1
                         clear HAu c0 c1 hl
                         go_wp2
                         go_region
                         go_wp2
                         exact ⟨⟨t + 1, _, by simp, by omega, by omega, by rw [Go.Sort.size_swp, hsu], Hj ((HAq.out.drewN _).swap HT3.out HR3.out HV.out HUu.out), HNN⟩, by simp [intOf]; omega⟩
                       | false =>
                         have HF : Hid (Go.Sort.fixUp ltN b i2 (Go.Sort.fixDown ltN a i2 (Go.Sort.swp dk i2 q)) = du) := Hj (by rw [HU0.out, ← HUt.out]; exact qgu b t du (.inr ⟨r, hr, by rw [hu, hv, hl]⟩))
                         clear hr hu hv ht3 hr3
                         go_wp2
                         go_quiet ((go_at_call 158; exact Calls.quiet_of_same (qah _ _ _)))
                         go_wp2
                         exact ⟨HNX.out _ _ HF.out.symm (HAu.out.drewN _), by simp [intOf]; omega⟩
                     · have HF : Hid (Go.Sort.fixUp ltN b i2 (Go.Sort.fixDown ltN a i2 (Go.Sort.swp dk i2 q)) = du) := Hj (by rw [HU0.out, ← HUt.out]; exact qgu b t du (.inl (by omega)))
                       have htl' : ¬ (t : Int) < (b : Int) := by omega
                       go_wp2
                       exact ⟨HNX.out _ _ HF.out.symm HAu.out, by simp [intOf]; omega⟩
                  · have h3' : ¬ (2 : Int) ≤ (b : Int) - (i2 : Int) := by omega
                    have HF : Hid (Go.Sort.fixUp ltN b i2 (Go.Sort.fixDown ltN a i2 (Go.Sort.swp dk i2 q)) = dj) := Hj (by rw [HD.out]; unfold Go.Sort.fixUp; rw [if_neg h3])
                    clear h3
                    go_wp2
                    all_goals exact ⟨HNX.out _ _ HF.out.symm HAj.out, by simp [intOf]; omega⟩
           · have h2' : ¬ (2 : Int) ≤ (i2 : Int) - (a : Int) := by omega
             have HD : Hid (Go.Sort.fixDown ltN a i2 (Go.Sort.swp dk i2 q) = Go.Sort.swp dk i2 q) := Hj (by unfold Go.Sort.fixDown; rw [if_neg h2])
             clear h2
             go_wp2
             go_region
             have HAj := Hj (HSW.out _ 1 HA3.out)
             have hsj := HSZ.out
             clear g0 g1 k0 k1
             by_cases h3 : 2 ≤ b - i2
             · have h3' : (2 : Int) ≤ (b : Int) - (i2 : Int) := by omega
               obtain ⟨t0, ht0⟩ : ∃ t0, t0 = i2 + 1 := ⟨_, rfl⟩
               have et : (i2 : Int) + 1 = (t0 : Int) := by omega
               have HU0 : Hid (Go.Sort.fixUp ltN b i2 (Go.Sort.fixDown ltN a i2 (Go.Sort.swp dk i2 q)) = Go.Sort.shiftUp ltN b t0 (Go.Sort.swp dk i2 q)) := Hj (by rw [HD.out]; unfold Go.Sort.fixUp; rw [if_pos h3, ht0])
               have HT0 := Hj ht0
               clear h3 ht0
               go_wp2
               go_loopw [10] (fun cj wr => ∃ (t : Nat) (du : Array Nat), cj = .int .i64 (t : Int) ∧ t0 ≤ t ∧ t ≤ b ∧ du.size = d.size ∧ Hid (Arr w0 wr blk off du) ∧ Hid (Go.Sort.shiftUp ltN b t du = Go.Sort.shiftUp ltN b t0 (Go.Sort.swp dk i2 q))) (fun cj _ => b - (intOf cj).toNat)
               case atStart => exact ⟨t0, _, rfl, Nat.le_refl _, by have := HT0.out; omega, hsj, HAj, Hj rfl⟩
               case round =>
                obtain ⟨t, du, rfl, htt, htb, hsu, HAu, HUt⟩ := hrel
                by_cases htl : t < b
                · have htl' : (t : Int) < (b : Int) := by omega
                  obtain ⟨r, hr⟩ : ∃ r, t = r + 1 := ⟨t - 1, by have := HT0.out; omega⟩
                  have er : (t : Int) - 1 = (r : Int) := by omega
                  have hts : (t : Int) < (d.size : Int) := by omega
                  have ht3 : t < du.size := by omega
                  have hr3 : r < du.size := by omega
                  have hrs : (r : Int) < (d.size : Int) := by omega
                  have hne3 : ¬ (off + r = off + t) := by omega
                  have c0 := HAu.out.cell t ht3; have c1 := HAu.out.cell r hr3
                  obtain ⟨u, hu⟩ : ∃ u, du[t]! = u := ⟨_, rfl⟩
                  obtain ⟨v, hv⟩ : ∃ v, du[r]! = v := ⟨_, rfl⟩
                  rw [hu] at c0
                  rw [hv] at c1
                  have HTr := Hj hr; have HUu := Hj hu; have HV := Hj hv; have HT3 := Hj ht3; have HR3 := Hj hr3
                  cases hl : ltN u v with
                  | true =>
                    have HNN : Hid (Go.Sort.shiftUp ltN b (t + 1) (Go.Sort.swp du t r) = Go.Sort.shiftUp ltN b t0 (Go.Sort.swp dk i2 q)) := Hj (by rw [← HUt.out]; exact (shU_go b t r du htl hr (by rw [hu, hv, hl])).symm)
                    clear hr hu hv ht3 hr3
                    go_wp2
                    go_quiet ((go_at_call 158; exact Calls.quiet_of_same (qah _ _ _)))
                    have HAq := Hj (HAu.out.drewN nq)
                    generalize wr.drewN nq = wz at *
                    have g0 := HAq.out.cell t HT3.out; have g1 := HAq.out.cell r HR3.out
                    have k0 := HAq.out.fro t HT3.out; have k1 := HAq.out.fro r HR3.out
                    rw [HUu.out] at g0
                    rw [HV.out] at g1
                    clear HAu c0 c1 hl
                    go_wp2
                    go_region
                    go_wp2
                    exact ⟨⟨t + 1, _, by simp, by omega, by omega, by rw [Go.Sort.size_swp, hsu], Hj ((HAq.out.drewN _).swap HT3.out HR3.out HV.out HUu.out), HNN⟩, by simp [intOf]; omega⟩
                  | false =>
                    have HF : Hid (Go.Sort.fixUp ltN b i2 (Go.Sort.fixDown ltN a i2 (Go.Sort.swp dk i2 q)) = du) := Hj (by rw [HU0.out, ← HUt.out]; exact qgu b t du (.inr ⟨r, hr, by rw [hu, hv, hl]⟩))
                    clear hr hu hv ht3 hr3
                    go_wp2
                    go_quiet ((go_at_call 158; exact Calls.quiet_of_same (qah _ _ _)))
                    go_wp2
                    exact ⟨HNX.out _ _ HF.out.symm (HAu.out.drewN _), by simp [intOf]; omega⟩
                · have HF : Hid (Go.Sort.fixUp ltN b i2 (Go.Sort.fixDown ltN a i2 (Go.Sort.swp dk i2 q)) = du) := Hj (by rw [HU0.out, ← HUt.out]; exact qgu b t du (.inl (by omega)))
                  have htl' : ¬ (t : Int) < (b : Int) := by omega
                  go_wp2
                  exact ⟨HNX.out _ _ HF.out.symm HAu.out, by simp [intOf]; omega⟩
             · have h3' : ¬ (2 : Int) ≤ (b : Int) - (i2 : Int) := by omega
               have HF : Hid (Go.Sort.fixUp ltN b i2 (Go.Sort.fixDown ltN a i2 (Go.Sort.swp dk i2 q)) = (Go.Sort.swp dk i2 q)) := Hj (by rw [HD.out]; unfold Go.Sort.fixUp; rw [if_neg h3])
               clear h3
               go_wp2
               all_goals exact ⟨HNX.out _ _ HF.out.symm HAj.out, by simp [intOf]; omega⟩
     · have HI : Hid (Go.Sort.scanSorted ltN dk b i = i2) := Hj (by rw [← HU.out]; exact scS_end dk b i2 (.inl (by omega)))
       have HE : Hid (R = (dk, true)) := Hj (by
        rw [← HO.out, Go.Sort.partialIns_succ, HI.out, if_pos (by omega)])
       obtain rfl : i2 = b := by omega
       go_wp2
       go_quiet (fail)
       have HA3 := Hj (HA2.out.drewN nq)
       generalize wr.drewN nq = wq at *
       go_wp2
       go_ret
       exact ⟨by rw [HE.out]; rfl, by rw [HE.out]; exact HA3.out⟩
end
section
set_option maxHeartbeats 2000000
set_option maxRecDepth 100000
open Go.RowKit
def TabZ (w : World) : Prop := ∀ j, j < 64 → w.cell? ⟨2, j, none⟩ = some (.int .u8 (Lib.deBruijn64tab.getD j 0 : Nat))
theorem TabZ.keeps {S : Nat → Prop} {a b : World} (h : TabZ a) (k : Keeps S a b) (hS : ¬ S 2) : TabZ b := fun j hj => k.cell (h j hj) hS
theorem TabZ.pos {a : World} (h : TabZ a) : 2 < a.heap.size := World.block_lt_of_cell? a _ (h 0 (by decide))
theorem lz64_any (x : Nat) (w : World) (hx : x < 18446744073709551616) : Calls Tryz.prog 189 #[.int .u64 (x : Nat)] w fun e w' => e = .returned (.int .i64 (lz x : Nat)) ∧ w = w' := by
 have hb := bitLen_le64 x
 have h1 : IntKind.i64.wrap (64 - ((Lib.bitLen x : Nat) : Int)) = ((lz x : Nat) : Int) := by unfold lz; rw [IntWalk.i64_in _ (by omega)]; omega
 have h2 : 64 - ((Lib.bitLen x : Nat) : Int) = ((lz x : Nat) : Int) := by unfold lz; omega
 have e : ((x : Int)).toNat = x := by omega
 have hc := len64_any (x : Int) w (by omega) (by omega)
 rw [e] at hc
 obtain ⟨B, hB⟩ : ∃ B, B = Lib.bitLen x := ⟨_, rfl⟩
 rw [← hB] at hc h1 h2 hb
 have HC := Hj hc
 obtain ⟨L, hL⟩ : ∃ L, L = lz x := ⟨_, rfl⟩
 rw [← hL] at h1 h2 ⊢
 clear hc e hB hL
 go_enter Tryz.func189, Tryz.ntmps189
 go_wp2_with (go_at_call 193; refine HC.out.mono ?_; rintro e w' ⟨rfl, rfl⟩)
 go_ret
 exact ⟨rfl, rfl⟩
theorem tz64_key (x a : Nat) (hx : x < 18446744073709551616) (hlow : x &&& (18446744073709551616 - x) = a) (hx0 : x ≠ 0) :
 IntKind.u64.wrap (bits BinOp.and IntKind.u64 (x : Int) (IntKind.u64.wrap (-(x : Int))) * 285870213051353865) / 288230376151711744 = ((a * 285870213051353865 % 18446744073709551616 / 288230376151711744 : Nat) : Int) := by
 have e1 : IntKind.u64.wrap (-(x : Int)) = ((18446744073709551616 - x : Nat) : Int) := by rw [IntKind.wrap_u64]; omega
 rw [e1, bits_and_u64_nat x _ hx (by omega), hlow, IntKind.wrap_u64]
 omega
theorem tz64_core (x k idx : Nat) (w : World) (hx0 : ((x : Int) == 0) = false)
 (key : IntKind.u64.wrap (bits BinOp.and IntKind.u64 (x : Int) (IntKind.u64.wrap (-(x : Int))) * 285870213051353865) / 288230376151711744 = (idx : Int))
 (hi : idx < 64) (hk : k < 64) (hcell : w.cell? ⟨2, idx, none⟩ = some (.int .u8 k)) :
 Calls Tryz.prog 190 #[.int .u64 (x : Nat)] w fun e w' => e = .returned (.int .i64 k) ∧ w' = w := by
 go_enter Tryz.func190, Tryz.ntmps190
 go_wp2_with (simp only [key])
 go_ret
 exact ⟨rfl, rfl⟩
theorem tz64_any (x : Nat) (w : World) (hx : x < 18446744073709551616) (h0 : x ≠ 0) (hT : TabZ w) : Calls Tryz.prog 190 #[.int .u64 (x : Nat)] w fun e w' => e = .returned (.int .i64 (tz x : Nat)) ∧ w = w' := by
 obtain ⟨hlow, hk⟩ := Lib.lowest_bit 64 x h0 hx
 obtain ⟨hi, htab⟩ := Lib.deBruijn64_at _ hk
 have hcell := hT _ hi
 rw [htab] at hcell
 exact (tz64_core x _ _ w (by simp; omega) (tz64_key x _ hx hlow h0) hi hk hcell).mono fun e w' ⟨he, hw⟩ => ⟨he, hw.symm⟩
theorem qgd (a c : Nat) (w : World) (h : a + c ≤ 64) : Calls Tryz.prog 152 #[.agg #[.int .i64 (a : Nat), .int .i64 (c : Nat)]] w fun e w' => e = .returned (.int .i64 ((64 - a - c : Nat) : Int)) ∧ Keeps (fun _ => False) w w' := by
 have h1 : IntKind.i64.wrap (64 - (a : Int)) = 64 - a := IntWalk.i64_in _ (by omega)
 have h2 : IntKind.i64.wrap (64 - (a : Int) - c) = 64 - a - c := IntWalk.i64_in _ (by omega)
 have h3 : 64 - (a : Int) - c = ((64 - a - c : Nat) : Int) := by omega
 have H3 := Hj h3
 clear h3
 go_enter Tryz.func152, Tryz.ntmps152
 go_wp2
 go_ret
 exact ⟨qdw H3.out, (Keeps.refl _ w).alloc _⟩
theorem qev (x : Nat) (w : World) (hx : x < 18446744073709551616) (h0 : x ≠ 0) (hT : TabZ w) :
 Calls Tryz.prog 153 #[.int .u64 (x : Nat)] w fun e w' => e = .returned (.agg #[.int .i64 (lz x : Nat), .int .i64 ((64 - lz x - tz x : Nat) : Int)]) ∧ Keeps (fun _ => False) w w' := by
 have hlt := lz_tz hx h0
 have HC1 := fun w => lz64_any x w hx
 have HC2 := fun w (h : TabZ w) => tz64_any x w hx h0 h
 obtain ⟨a, ha⟩ : ∃ a, a = lz x := ⟨_, rfl⟩
 obtain ⟨t, ht⟩ : ∃ t, t = tz x := ⟨_, rfl⟩
 rw [← ha] at HC1 hlt ⊢
 rw [← ht] at HC2 hlt ⊢
 have H1 := Hj HC1; have H2 := Hj HC2; have HT := Hj hT
 have h1 : IntKind.i64.wrap (64 - (a : Int)) = 64 - a := IntWalk.i64_in _ (by omega)
 have h2 : IntKind.i64.wrap (64 - (a : Int) - t) = 64 - a - t := IntWalk.i64_in _ (by omega)
 have h3 : 64 - (a : Int) - t = ((64 - a - t : Nat) : Int) := by omega
 have H3 := Hj h3
 have hx0 : (x : Int) ≠ 0 := by omega
 clear h3 HC1 HC2 ha ht hT hx0 h0
 go_enter Tryz.func153, Tryz.ntmps153
 go_wp2_with fail
 refine (H1.out _).mono ?_
 rintro e w1 ⟨rfl, rfl⟩
 go_wp2_with fail
 refine (H2.out _ (HT.out.keeps ((Keeps.refl (fun _ => False) w).alloc _) (fun h => h))).mono ?_
 rintro e w2 ⟨rfl, rfl⟩
 go_wp2
 refine bodyPost_ret (v := .agg #[.int .i64 (a : Nat), .int .i64 (64 - (a : Int) - t)]) (by simp [results, Tryz.results153, go_sem]) rfl ⟨by rw [H3.out], ?_⟩
 exact (Keeps.refl _ w).alloc _
theorem fits_none (D x : Nat) (w : World) (c1 : w.cell? ⟨D, 1, none⟩ = some (.int .i64 0)) (c2 : w.cell? ⟨D, 2, none⟩ = some (.int .i64 0)) :
 Calls Tryz.prog 154 #[.pointer (some ⟨D, 0, none⟩), .int .u64 (x : Nat)] w fun e w' => e = .returned (.bool false) ∧ w = w' := by
 go_enter Tryz.func154, Tryz.ntmps154
 go_wp2
 go_ret
 exact ⟨rfl, rfl⟩
theorem fits_some (D x a b c : Nat) (f : Bool) (w : World) (hx : x < 18446744073709551616) (h0 : x ≠ 0) (hab : a + b ≤ 63) (hc : c = 64 - a - b) (c1 : w.cell? ⟨D, 1, none⟩ = some (.int .i64 (a : Nat))) (c2 : w.cell? ⟨D, 2, none⟩ = some (.int .i64 (c : Nat))) (hT : TabZ w)
 (hf : f = (decide (a ≤ lz x) && decide (b ≤ tz x))) :
 Calls Tryz.prog 154 #[.pointer (some ⟨D, 0, none⟩), .int .u64 (x : Nat)] w fun e w' => e = .returned (.bool f) ∧ Keeps (fun _ => False) w w' := by
 have hlt := lz_tz hx h0
 have HW := Hj (qev x w hx h0 hT)
 obtain ⟨p, hp⟩ : ∃ p, p = lz x := ⟨_, rfl⟩
 obtain ⟨q, hq⟩ : ∃ q, q = tz x := ⟨_, rfl⟩
 rw [← hp, ← hq] at hlt hf HW
 have hc0 : ((c : Int) == 0) = false := beq_eq_false_iff_ne.2 (by omega)
 have hc1 : (c : Int) ≠ 0 := by omega
 have hD := World.block_lt_of_cell? w _ c1
 obtain ⟨wd, hwd⟩ : ∃ wd, wd = 64 - p - q := ⟨_, rfl⟩
 rw [← hwd] at HW
 have C1 := Hj c1; have C2 := Hj c2; have HC := Hj hc; have HWD := Hj hwd; have HF := Hj hf
 clear hT h0 hp hq hc hwd hf
 go_enter Tryz.func154, Tryz.ntmps154
 go_wp2_with fail
 refine HW.out.mono ?_
 rintro e w1 ⟨rfl, k1⟩
 have d1 := k1.cell C1.out (fun h => h)
 have d2 := k1.cell C2.out (fun h => h)
 obtain ⟨w2, hw2⟩ : ∃ w2, w2 = w1.alloc (.cells #[.int .i64 (p : Nat), .int .i64 (wd : Nat)] 187) := ⟨_, rfl⟩
 have k2 : Keeps (fun _ => False) w w2 := by rw [hw2]; exact k1.alloc _
 have hb2 : w2.heap[w1.heap.size]? = some (.cells #[.int .i64 (p : Nat), .int .i64 (wd : Nat)] 187 (0, 0)) := by rw [hw2]; exact heap_alloc_new w1 _
 obtain ⟨B, hB⟩ : ∃ B, B = w1.heap.size := ⟨_, rfl⟩
 rw [← hB] at hb2
 have HW2 := Hj hw2; have K2 := Hj k2; have HB2 := Hj hb2; have HBB := Hj hB
 clear k1 d1 d2 c1 c2 hw2 k2 hb2 hB
 go_wp2_with fail
 rw [← HW2.out, ← HBB.out]
 obtain ⟨C, hC⟩ : ∃ C : World → Prop, C = fun w' => Keeps (fun _ => False) w2 w' := ⟨_, rfl⟩
 have cw : C { w2 with drawn := w2.drawn + 1 } := by rw [hC]; exact (Keeps.refl (fun _ => False) w2).drew
 have t1 : ∀ wq, C wq → Calls Tryz.prog 152 #[.agg #[.int .i64 (p : Nat), .int .i64 (wd : Nat)]] wq fun e w' => e = .returned (.int .i64 (q : Nat)) ∧ C w' := by
  rw [hC]
  exact fun wq hk => (qgd p wd wq (by have := HWD.out; omega)).mono fun e w' ⟨he, hk'⟩ => ⟨by rw [he, show 64 - p - wd = q by have := HWD.out; omega], hk.trans hk' (fun _ _ h => h)⟩
 have t2 : ∀ wq, C wq → Calls Tryz.prog 152 #[.agg #[.int .i64 (a : Nat), .int .i64 (c : Nat)]] wq fun e w' => e = .returned (.int .i64 (b : Nat)) ∧ C w' := by
  rw [hC]
  exact fun wq hk => (qgd a c wq (by have := HC.out; omega)).mono fun e w' ⟨he, hk'⟩ => ⟨by rw [he, show 64 - a - c = b by have := HC.out; omega], hk.trans hk' (fun _ _ h => h)⟩
 have e1 : ∀ wq, C wq → wq.cell? ⟨B, 0, none⟩ = some (.int .i64 (p : Nat)) := by rw [hC]; exact fun wq hk => by rw [cell_of_row _ _ _ _ _ _ (hk.heap HB2.out (fun h => h))]; rfl
 have e2 : ∀ wq, C wq → wq.cell? ⟨B, 1, none⟩ = some (.int .i64 (wd : Nat)) := by rw [hC]; exact fun wq hk => by rw [cell_of_row _ _ _ _ _ _ (hk.heap HB2.out (fun h => h))]; rfl
 have e3 : ∀ wq, C wq → wq.cell? ⟨D, 1, none⟩ = some (.int .i64 (a : Nat)) := by rw [hC]; exact fun wq hk => (K2.out.trans hk (fun _ _ h => h)).cell C1.out (fun h => h)
 have e4 : ∀ wq, C wq → wq.cell? ⟨D, 2, none⟩ = some (.int .i64 (c : Nat)) := by rw [hC]; exact fun wq hk => (K2.out.trans hk (fun _ _ h => h)).cell C2.out (fun h => h)
 have ck : ∀ wq, C wq → Keeps (fun _ => False) w wq := by rw [hC]; exact fun wq hk => K2.out.trans hk (fun _ _ h => h)
 have CW := Hj cw; have T1 := Hj t1; have T2 := Hj t2; have E1 := Hj e1; have E2 := Hj e2; have E3 := Hj e3; have E4 := Hj e4; have CK := Hj ck
 clear cw t1 t2 e1 e2 e3 e4 ck hC hc0 hc1
 have hcase : (a ≤ p ∧ b ≤ q) ∨ (a ≤ p ∧ ¬ b ≤ q) ∨ ¬ a ≤ p := by omega
 rcases hcase with ⟨ha, hb⟩ | ⟨ha, hb⟩ | ha
 · have ha' : decide ((a : Int) ≤ (p : Int)) = true := by simp; omega
   have hb' : decide ((b : Int) ≤ (q : Int)) = true := by simp; omega
   have hf' : f = true := by rw [HF.out]; simp [ha, hb]
   subst hf'
   clear HF
   refine qas C (by kernel_rfl) (by kernel_rfl) CW.out ?_
   repeat (
    refine wpQuiet_step (fun K hK => ?_)
    go_simp
    first
     | (refine hK _ ?_; clear hK K)
     | (refine ⟨_, fun _ _ => rfl, hK _ ?_⟩; clear hK K)
     | (apply Exists.intro
        refine ⟨fun wq hwq => ?_, hK _ ?_⟩
        (first
         | (go_at_call 152; first | (with_reducible exact T1.out _ hwq) | (with_reducible exact T2.out _ hwq))
         | (have g1 := E1.out _ hwq; have g2 := E2.out _ hwq; have g3 := E3.out _ hwq; have g4 := E4.out _ hwq; go_simp; exact rfl))
        clear hK K))
   refine wpQuiet_nil ?_
   intro wz hwz
   have KZ := Hj (CK.out _ hwz)
   clear hwz T1 T2 E1 E2 E3 E4 CW CK
   go_wp2
   go_ret
   exact ⟨rfl, KZ.out⟩
 · have ha' : decide ((a : Int) ≤ (p : Int)) = true := by simp; omega
   have hb' : decide ((b : Int) ≤ (q : Int)) = false := by simp; omega
   have hf' : f = false := by rw [HF.out]; simp [hb]
   subst hf'
   clear HF
   refine qas C (by kernel_rfl) (by kernel_rfl) CW.out ?_
   repeat (
    refine wpQuiet_step (fun K hK => ?_)
    go_simp
    first
     | (refine hK _ ?_; clear hK K)
     | (refine ⟨_, fun _ _ => rfl, hK _ ?_⟩; clear hK K)
     | (apply Exists.intro
        refine ⟨fun wq hwq => ?_, hK _ ?_⟩
        (first
         | (go_at_call 152; first | (with_reducible exact T1.out _ hwq) | (with_reducible exact T2.out _ hwq))
         | (have g1 := E1.out _ hwq; have g2 := E2.out _ hwq; have g3 := E3.out _ hwq; have g4 := E4.out _ hwq; go_simp; exact rfl))
        clear hK K))
   refine wpQuiet_nil ?_
   intro wz hwz
   have KZ := Hj (CK.out _ hwz)
   clear hwz T1 T2 E1 E2 E3 E4 CW CK
   go_wp2
   go_ret
   exact ⟨rfl, KZ.out⟩
 · have ha' : decide ((a : Int) ≤ (p : Int)) = false := by simp; omega
   have hf' : f = false := by rw [HF.out]; simp [ha]
   subst hf'
   have g1 : w2.cell? ⟨B, 0, none⟩ = some (.int .i64 (p : Nat)) := by rw [cell_of_row _ _ _ _ _ _ HB2.out]; rfl
   have g2 : w2.cell? ⟨D, 1, none⟩ = some (.int .i64 (a : Nat)) := K2.out.cell C1.out (fun h => h)
   clear HF T1 T2 E1 E2 E3 E4 CW CK
   have hna : ¬ (a : Int) ≤ p := by omega
   go_quiet (fail)
   obtain ⟨wz, hwz⟩ : ∃ wz, wz = w2.drewN nq := ⟨_, rfl⟩
   rw [← hwz]
   have KZ : Hid (Keeps (fun _ => False) w wz) := Hj (by rw [hwz]; exact K2.out.drewN nq)
   clear hwz g1 g2
   go_wp2
   go_ret
   exact ⟨rfl, KZ.out⟩
theorem fits_any (D x : Nat) (s : Nat × Nat) (w : World) (hx : x < 18446744073709551616) (h0 : x ≠ 0) (hs : okWin s) (c1 : w.cell? ⟨D, 1, none⟩ = some (.int .i64 (s.1 : Nat))) (c2 : w.cell? ⟨D, 2, none⟩ = some (.int .i64 ((64 - s.1 - s.2 : Nat) : Int))) (hT : TabZ w) :
 Calls Tryz.prog 154 #[.pointer (some ⟨D, 0, none⟩), .int .u64 (x : Nat)] w fun e w' => e = .returned (.bool (fitsX s x)) ∧ Keeps (fun _ => False) w w' := by
 rcases hs with rfl | hs
 · rw [qkn hx h0]
   exact (fits_none D x w c1 c2).mono fun e w' ⟨he, hw⟩ => ⟨he, by rw [← hw]; exact Keeps.refl _ _⟩
 · exact fits_some D x s.1 s.2 _ _ w hx h0 hs rfl c1 c2 hT rfl
end
section
set_option maxHeartbeats 4000000
set_option maxRecDepth 100000
open Go.RowKit
theorem len_any (x : Int) (w : World) (h0 : 0 ≤ x) (h1 : x ≤ 18446744073709551615) :
 Calls Tryz.prog 157 #[.int .u64 x] w fun e w' => e = .returned (.int .i64 (Lib.bitLen x.toNat)) ∧ w' = w := by
 go_enter Tryz.func157, Tryz.ntmps157
 go_wp2_with (go_at_call 193; refine (len64_any x _ h0 h1).mono ?_; rintro e w' ⟨rfl, rfl⟩)
 go_ret
 exact ⟨rfl, rfl⟩
theorem two_wrap (k : Nat) (hk : k ≤ 62) : IntKind.u64.wrap ((2 : Int) ^ k) = (((2 ^ k : Nat)) : Int) := by
 have h : (2 : Nat) ^ k ≤ 2 ^ 62 := Nat.pow_le_pow_right (by decide) hk
 rw [IntKind.wrap_u64, show ((2 : Int) ^ k) = ((2 ^ k : Nat) : Int) by push_cast; rfl]
 generalize (2 : Nat) ^ k = p at h
 omega
theorem pow2_le (n : Nat) (h0 : 0 < n) (h : n ≤ 1099511627776) : 1 ≤ 2 ^ Lib.bitLen n ∧ 2 ^ Lib.bitLen n ≤ 2 * n := by
 obtain ⟨h1, h2, _⟩ := Lib.bitLenAux_bounds 64 n (by omega) (by omega)
 refine ⟨Nat.one_le_two_pow, ?_⟩
 change 1 ≤ Lib.bitLen n at h1
 change 2 ^ (Lib.bitLen n - 1) ≤ n at h2
 obtain ⟨k, hk⟩ : ∃ k, Lib.bitLen n = k + 1 := ⟨Lib.bitLen n - 1, by omega⟩
 rw [hk] at h2 ⊢
 rw [Nat.pow_succ]
 simp at h2
 omega
theorem pow2_any (n M : Nat) (w : World) (h0 : 0 < n) (hn : n ≤ 1099511627776) (hM : 2 ^ Lib.bitLen n = M) :
 Calls Tryz.prog 238 #[.int .i64 (n : Int)] w fun e w' => e = .returned (.int .u64 (M : Int)) ∧ w' = w := by
 have hk : Lib.bitLen n ≤ 62 := Lib.bitLen_le n 62 (by omega) (by omega)
 have HW := two_wrap (Lib.bitLen n) hk
 rw [hM] at HW
 have HL : Hid (∀ w, Calls Tryz.prog 157 #[.int .u64 (n : Int)] w fun e w' => e = .returned (.int .i64 (Lib.bitLen n)) ∧ w' = w) := Hj (fun w => by
  have h := len_any (n : Int) w (by omega) (by omega)
  rwa [Int.toNat_natCast] at h)
 clear hM
 generalize Lib.bitLen n = k at *
 go_enter Tryz.func238, Tryz.ntmps238
 go_wp2_with (go_at_call 157; refine (HL.out _).mono ?_; rintro e w' ⟨rfl, rfl⟩)
 go_ret
 exact ⟨rfl, rfl⟩
theorem setCell_over (w : World) (blk off : Nat) (v v' : Value) : (w.setCell ⟨blk, off, none⟩ v).setCell ⟨blk, off, none⟩ v' = w.setCell ⟨blk, off, none⟩ v' := by
 simp only [Go.Sort.setCell_eq, Go.Sort.mapBlock_mapBlock]
 congr 1
 funext c
 simp
theorem xsNext_any (p X : Nat) (hX : X < 18446744073709551616) (w : World) (hc : w.cell? ⟨p, 0, none⟩ = some (.int .u64 X)) (hf : w.frozen? ⟨p, 0, none⟩ = false) :
 Calls Tryz.prog 239 #[.pointer (some ⟨p, 0, none⟩)] w fun e w' => ∃ C : Nat, C < 18446744073709551616 ∧ e = .returned (.int .u64 (C : Int)) ∧ w' = (w.setCell ⟨p, 0, none⟩ (.int .u64 (C : Int))).drewN 3 := by
 obtain ⟨A, hA⟩ : ∃ A : Nat, A = X ^^^ (X * 8192 % 18446744073709551616) := ⟨_, rfl⟩
 obtain ⟨B, hB⟩ : ∃ B : Nat, B = A ^^^ (A / 128) := ⟨_, rfl⟩
 obtain ⟨C, hC⟩ : ∃ C : Nat, C = B ^^^ (B * 131072 % 18446744073709551616) := ⟨_, rfl⟩
 have lA : A < 18446744073709551616 := by rw [hA]; exact Nat.xor_lt_two_pow (n := 64) (by omega) (by omega)
 have lB : B < 18446744073709551616 := by rw [hB]; exact Nat.xor_lt_two_pow (n := 64) (by omega) (by omega)
 have lC : C < 18446744073709551616 := by rw [hC]; exact Nat.xor_lt_two_pow (n := 64) (by omega) (by omega)
 have e1 : bits .xor .u64 (X : Int) (IntKind.u64.wrap ((X : Int) * 8192)) = (A : Int) := by
  rw [IntKind.wrap_u64, show ((X : Int) * 8192 % 18446744073709551616) = ((X * 8192 % 18446744073709551616 : Nat) : Int) by omega, bits_xor_u64_nat _ _ hX (by omega), hA]
 have e2 : bits .xor .u64 (A : Int) ((A : Int) / 128) = (B : Int) := by
  rw [show ((A : Int) / 128) = ((A / 128 : Nat) : Int) by omega, bits_xor_u64_nat _ _ lA (by omega), hB]
 have e3 : bits .xor .u64 (B : Int) (IntKind.u64.wrap ((B : Int) * 131072)) = (C : Int) := by
  rw [IntKind.wrap_u64, show ((B : Int) * 131072 % 18446744073709551616) = ((B * 131072 % 18446744073709551616 : Nat) : Int) by omega, bits_xor_u64_nat _ _ lB (by omega), hC]
 clear hA hB hC
 have HC := Hj lC
 have hss := fun v v' => setCell_over w p 0 v v'
 go_enter Tryz.func239, Tryz.ntmps239
 go_wp2
 go_region
 all_goals go_wp2
 all_goals go_region
 all_goals go_wp2
 all_goals go_region
 all_goals go_wp2
 go_ret
 exact ⟨C, HC.out, rfl, rfl⟩
theorem Arr.other {w0 w : World} {blk off : Nat} {d : Array Nat} (h : Arr w0 w blk off d) {p : Nat} (hp : w0.heap.size ≤ p) (hb : p ≠ blk) (v : Value) : Arr w0 (w.setCell ⟨p, 0, none⟩ v) blk off d := by
 refine ⟨h.os, h.tape, h.output, ?_, fun k hk hn => ?_, fun j hj => ?_, fun j hj => ?_⟩
 · show _ ≤ (w.heap.modify p _).size
   rw [Array.size_modify]; exact h.size
 · show (w.heap.modify p _)[k]? = _
   rw [Array.getElem?_modify, if_neg (by omega)]
   exact h.block k hk hn
 · rw [qal _ _ _ _ (by simpa using Ne.symm hb)]; exact h.cell j hj
 · rw [qbg]; exact h.fro j hj
structure Rnd (w0 w : World) (blk off : Nat) (d : Array Nat) (p X : Nat) : Prop where
 arr : Arr w0 w blk off d
 cell : w.cell? ⟨p, 0, none⟩ = some (.int .u64 (X : Int))
 fro : w.frozen? ⟨p, 0, none⟩ = false
theorem Rnd.next {w0 w : World} {blk off : Nat} {d : Array Nat} {p X : Nat} (h : Rnd w0 w blk off d p X) (hp : w0.heap.size ≤ p) (hb : p ≠ blk) (C m : Nat) : Rnd w0 ((w.setCell ⟨p, 0, none⟩ (.int .u64 (C : Int))).drewN m) blk off d p C :=
 ⟨(h.arr.other hp hb _).drewN m, World.cell?_setCell_same _ _ _ h.cell, by show (w.setCell _ _).frozen? _ = _; rw [qbg]; exact h.fro⟩
theorem Rnd.swap {w0 w : World} {blk off : Nat} {d : Array Nat} {p X : Nat} (h : Rnd w0 w blk off d p X) (hb : p ≠ blk) {i j : Nat} (hi : i < d.size) (hj : j < d.size) {x y : Nat} (hx : d[j]! = x) (hy : d[i]! = y) (m : Nat) :
 Rnd w0 (((w.drewN m).setCell ⟨blk, off + i, none⟩ (.int .u64 ((x : Nat) : Int))).setCell ⟨blk, off + j, none⟩ (.int .u64 ((y : Nat) : Int))) blk off (Go.Sort.swp d i j) p X := by
 refine ⟨(h.arr.drewN m).swap hi hj hx hy, ?_, ?_⟩
 · rw [qal _ _ _ _ hb, qal _ _ _ _ hb]; exact h.cell
 · rw [qbg, qbg]; exact h.fro
theorem Arr.rnd {w0 w : World} {blk off : Nat} {d : Array Nat} (h : Arr w0 w blk off d) (hd : 0 < d.size) (X : Nat) (t : TypeId) : Rnd w0 (w.alloc (.cells #[.int .u64 (X : Int)] t)) blk off d w.heap.size X ∧ w.heap.size ≠ blk := by
 have hlt : blk < w.heap.size := World.block_lt_of_cell? w _ (h.cell 0 hd)
 have hb : ∀ k, k < w.heap.size → (w.alloc (.cells #[.int .u64 (X : Int)] t)).heap[k]? = w.heap[k]? := fun k hk => Below.heap_alloc w _ k hk
 refine ⟨⟨⟨h.os, h.tape, h.output, by have := h.size; simp; omega, fun k hk hn => ?_, fun j hj => ?_, fun j hj => ?_⟩, by simp, by simp⟩, by omega⟩
 · rw [hb k (by have := h.size; omega)]; exact h.block k hk hn
 · rw [← h.cell j hj]; simp only [World.cell?, hb blk hlt]
 · rw [← h.fro j hj]; simp only [World.frozen?, hb blk hlt]
theorem uBreak_any (w0 w : World) (blk off cap a b : Nat) (d : Array Nat) (h : Arr w0 w blk off d) (hab : a + 12 < b) (hb : b ≤ d.size) (hsz : d.size ≤ 1099511627776) :
 Calls Tryz.prog 219 #[.slice (some ⟨blk, off, none⟩) d.size cap, .int .i64 (a : Int), .int .i64 (b : Int)] w fun e w' => e = .returned (.tuple #[]) ∧ ∃ d', Go.Sort.PermIn a b d d' ∧ Arr w0 w' blk off d' := by
 obtain ⟨L, hL⟩ : ∃ L, L = b - a := ⟨_, rfl⟩
 obtain ⟨q, hq⟩ : ∃ q, q = L / 4 := ⟨_, rfl⟩
 obtain ⟨I, hI⟩ : ∃ I, I = a + 2 * q - 1 := ⟨_, rfl⟩
 obtain ⟨E, hE⟩ : ∃ E, E = a + 2 * q + 1 := ⟨_, rfl⟩
 obtain ⟨M, hM⟩ : ∃ M, 2 ^ Lib.bitLen L = M := ⟨_, rfl⟩
 obtain ⟨hM1, hM2⟩ := pow2_le L (by omega) (by omega)
 rw [hM] at hM1 hM2
 have HP := Hj (fun w => pow2_any L M w (by omega) (by omega) hM)
 have e0 : (b : Int) - (a : Int) = (L : Int) := by omega
 have e1 : (L : Int) / 4 = (q : Int) := by omega
 have e2 : (a : Int) + (q : Int) * 2 - 1 = (I : Int) := by omega
 have e3 : (a : Int) + (q : Int) * 2 + 1 = (E : Int) := by omega
 have hq0 : (q : Int) ≤ 1099511627776 := by omega
 have ha0 : (a : Int) ≤ 1099511627776 := by omega
 have h8 : (8 : Int) ≤ (L : Int) := by omega
 have hps : w0.heap.size ≤ w.heap.size := h.size
 obtain ⟨hr, hne⟩ := h.rnd (by omega) L 345
 have HR := Hj hr; have HPS := Hj hps; have HNE := Hj hne
 have HL := Hj hL; have HQ := Hj hq; have HI := Hj hI; have HE := Hj hE; have HAB := Hj hab
 have HPM : Hid (Go.Sort.PermIn a b d d) := Hj (Go.Sort.permIn_refl d a b)
 have hML : M ≤ 2 * L := hM2
 clear h hL hq hI hE hM hr hps hne
 go_enter Tryz.func219, Tryz.ntmps219
 go_wp2_with (go_at_call 238; refine (HP.out _).mono ?_; rintro e w1 ⟨rfl, rfl⟩)
 go_loopw [9] (fun c wr => ∃ (i X : Nat) (dk : Array Nat), c = .int .i64 (i : Int) ∧ I ≤ i ∧ i ≤ E + 1 ∧ X < 18446744073709551616 ∧ dk.size = d.size ∧ Hid (Rnd w0 wr blk off dk w.heap.size X) ∧ Hid (Go.Sort.PermIn a b d dk)) (fun c _ => (E + 1) - (intOf c).toNat)
 case atStart => exact ⟨I, L, d, rfl, Nat.le_refl _, by have := HI.out; have := HE.out; omega, by omega, rfl, HR, HPM⟩
 case round =>
  obtain ⟨i, X, dk, rfl, hIi, hiE, hX, hsk, HRk, HPk⟩ := hrel
  by_cases hlt : i ≤ E
  · have hlti : (i : Int) ≤ (E : Int) := by omega
    have HC := Hj (xsNext_any w.heap.size X hX wr HRk.out.cell HRk.out.fro)
    go_wp2_with fail
    refine HC.out.mono ?_
    rintro e w1 ⟨C, hC, rfl, hw1⟩
    have HR1 : Hid (Rnd w0 w1 blk off dk w.heap.size C) := Hj (by rw [hw1]; exact HRk.out.next HPS.out HNE.out C 3)
    obtain ⟨O, hO⟩ : ∃ O : Nat, O = C &&& (M - 1) := ⟨_, rfl⟩
    have lO : O ≤ M - 1 := by rw [hO]; exact Nat.and_le_right
    have eAnd : bits .and .u64 (C : Int) ((M : Int) - 1) = (O : Int) := by
     rw [show ((M : Int) - 1) = ((M - 1 : Nat) : Int) by omega, bits_and_u64_nat _ _ hC (by omega), hO]
    clear hw1 hO HRk HC
    obtain ⟨o, ho⟩ : ∃ o, o = if L ≤ O then O - L else O := ⟨_, rfl⟩
    have hoL : o < L := by rw [ho]; split <;> omega
    obtain ⟨J, hJ⟩ : ∃ J, J = a + o := ⟨_, rfl⟩
    have eJ : (a : Int) + (o : Int) = (J : Int) := by omega
    have hib : i < b := by have := HE.out; have := HQ.out; have := HL.out; omega
    have hia : a ≤ i := by have := HI.out; have := HQ.out; have := HL.out; have := HAB.out; omega
    have hJb : J < b := by have := HL.out; omega
    have hJa : a ≤ J := by omega
    have hi1 : i < dk.size := by omega
    have hJ1 : J < dk.size := by omega
    have his : (i : Int) < (d.size : Int) := by omega
    have hJs : (J : Int) < (d.size : Int) := by omega
    have c0 := HR1.out.arr.cell i hi1; have c1 := HR1.out.arr.cell J hJ1
    have f0 := HR1.out.arr.fro i hi1; have f1 := HR1.out.arr.fro J hJ1
    obtain ⟨x, hx⟩ : ∃ x, dk[i]! = x := ⟨_, rfl⟩
    obtain ⟨y, hy⟩ : ∃ y, dk[J]! = y := ⟨_, rfl⟩
    rw [hx] at c0
    rw [hy] at c1
    obtain ⟨v2, h2⟩ := HR1.out.arr.two hi1 hJ1 (.int .u64 (y : Int))
    have HSW : Hid (∀ m, Rnd w0 (((w1.drewN m).setCell ⟨blk, off + i, none⟩ (.int .u64 (y : Int))).setCell ⟨blk, off + J, none⟩ (.int .u64 (x : Int))) blk off (Go.Sort.swp dk i J) w.heap.size C) := Hj (fun m => HR1.out.swap HNE.out hi1 hJ1 hy hx m)
    have HPN : Hid (Go.Sort.PermIn a b d (Go.Sort.swp dk i J)) := Hj (Go.Sort.permIn_trans _ _ _ a b HPk.out (Go.Sort.swp_permIn dk a b i J hia hib hJa hJb (by omega)))
    have HSK : Hid ((Go.Sort.swp dk i J).size = d.size) := Hj (by rw [Go.Sort.size_swp, hsk])
    by_cases hOL : L ≤ O
    · have hOL' : (L : Int) ≤ (O : Int) := by omega
      have eo : (O : Int) - (L : Int) = (o : Int) := by rw [if_pos hOL] at ho; omega
      clear ho hJ hx hy hi1 hJ1 hia hib hJa hJb hlt
      go_wp2
      go_region
      go_wp2
      exact ⟨⟨i + 1, C, _, by simp, by omega, by omega, hC, HSK.out, Hj (HSW.out _), HPN⟩, by simp [intOf]; omega⟩
    · have hOL' : ¬ (L : Int) ≤ (O : Int) := by omega
      obtain rfl : o = O := by rw [if_neg hOL] at ho; exact ho
      clear ho hJ hx hy hi1 hJ1 hia hib hJa hJb hlt
      go_wp2
      go_region
      go_wp2
      exact ⟨⟨i + 1, C, _, by simp, by omega, by omega, hC, HSK.out, Hj (HSW.out _), HPN⟩, by simp [intOf]; omega⟩
  · have hge : ¬ (i : Int) ≤ (E : Int) := by omega
    go_wp2
    go_end0
    exact ⟨rfl, dk, HPk.out, HRk.out.arr⟩
end
section
open Go.RowKit
def inI (x : Int) : Prop := -9223372036854775808 ≤ x ∧ x ≤ 9223372036854775807
def W (x : Int) : Int := IntKind.i64.wrap x
theorem W_eq (x : Int) : W x = (x + 9223372036854775808) % 18446744073709551616 - 9223372036854775808 := IntKind.wrap_i64 x
theorem W_in (x : Int) : inI (W x) := by rw [W_eq]; unfold inI; omega
def U (x : Int) : Nat := (x % 18446744073709551616).toNat
theorem U_lt (x : Int) : U x < 18446744073709551616 := by unfold U; omega
theorem U_wrap (x : Int) : IntKind.u64.wrap x = ((U x : Nat) : Int) := by rw [IntKind.wrap_u64]; unfold U; omega
theorem W_U {x : Int} (h : inI x) : W ((U x : Nat) : Int) = x := by rw [W_eq]; unfold U inI at *; omega
def formI (x : Int) : Nat := if x = 0 then 0 else if -64 ≤ x ∧ x ≤ 63 then 1 else if -2048 ≤ x ∧ x ≤ 2047 then 2 else if -2147483648 ≤ x ∧ x ≤ 2147483647 then 3 else 4
theorem qhu (x : Int) : formI x ≤ 4 := by unfold formI; split <;> (try split) <;> (try split) <;> (try split) <;> omega
def fBits (k : Nat) : Nat := [0, 2, 6, 14, 15].getD k 0
def fLen (k : Nat) : Nat := [1, 2, 3, 4, 4].getD k 0
def fWidth (k : Nat) : Nat := [0, 7, 12, 32, 64].getD k 0
def ext (X w : Nat) : Int := if w = 0 then 0 else if X % 2 ^ w < 2 ^ (w - 1) then ((X % 2 ^ w : Nat) : Int) else ((X % 2 ^ w : Nat) : Int) - ((2 ^ w : Nat) : Int)
theorem ext_eq (x : Int) (h : inI x) (k : Nat) (hk : k ≤ 4) : ext (U x) (fWidth k) = x ↔ formI x ≤ k := by
 have hc : k = 0 ∨ k = 1 ∨ k = 2 ∨ k = 3 ∨ k = 4 := by omega
 unfold inI at h
 unfold ext U formI
 rcases hc with rfl | rfl | rfl | rfl | rfl <;> simp only [fWidth, List.getD_eq_getElem?_getD, List.getElem?_cons_zero, List.getElem?_cons_succ, Option.getD_some] <;> simp <;> (repeat' split) <;> omega
def chgF : Int → Int → List Int → List Int
 | _, _, [] => []
 | d, t, s :: r => W (W (s - t) - d) :: chgF (W (s - t)) s r
def qbh : List Int → List Int
 | [] => []
 | t :: r => chgF 0 t r
theorem qip (d t : Int) (l : List Int) : (chgF d t l).length = l.length := by
 induction l generalizing d t with
 | nil => rfl
 | cons s r ih => simp [chgF, ih]
theorem qeq (l : List Int) : (qbh l).length = l.length - 1 := by cases l <;> simp [qbh, qip]
theorem chgF_in (d t : Int) (l : List Int) : ∀ x ∈ chgF d t l, inI x := by
 induction l generalizing d t with
 | nil => intro x hx; simp [chgF] at hx
 | cons s r ih =>
   intro x hx
   simp only [chgF, List.mem_cons] at hx
   rcases hx with rfl | hx
   · exact W_in _
   · exact ih _ _ x hx
theorem qhi (l : List Int) : ∀ x ∈ qbh l, inI x := by
 cases l with
 | nil => intro x hx; simp [qbh] at hx
 | cons t r => exact chgF_in _ _ _
def qdc (x : Int) : List Bool := qab (fBits (formI x)) (fLen (formI x)) ++ qab (U x) (fWidth (formI x))
theorem fLen_le (k : Nat) (h : k ≤ 4) : 1 ≤ fLen k ∧ fLen k ≤ 4 := by
 have hc : k = 0 ∨ k = 1 ∨ k = 2 ∨ k = 3 ∨ k = 4 := by omega
 rcases hc with rfl | rfl | rfl | rfl | rfl <;> simp [fLen]
theorem qiq (k : Nat) (h : k ≤ 4) : fWidth k ≤ 64 := by
 have hc : k = 0 ∨ k = 1 ∨ k = 2 ∨ k = 3 ∨ k = 4 := by omega
 rcases hc with rfl | rfl | rfl | rfl | rfl <;> simp [fWidth]
theorem qhp (x : Int) : (qdc x).length = fLen (formI x) + fWidth (formI x) := by simp [qdc, qad]
theorem encChange_le (x : Int) : (qdc x).length ≤ 68 := by
 rw [qhp]
 have := qhu x
 have := fLen_le (formI x) this
 have := qiq (formI x) ‹_›
 omega
def qam (l : List Int) : List Bool := l.flatMap qdc
theorem qeb (l : List Int) : (qam l).length ≤ 68 * l.length := by
 induction l with
 | nil => simp [qam]
 | cons x l ih => have := encChange_le x; simp only [qam, List.flatMap_cons, List.length_append, List.length_cons] at ih ⊢; omega
theorem qew (l : List Int) (x : Int) : qam (l ++ [x]) = qam l ++ qdc x := by simp [qam]
def enc5 : List Int → List Bool
 | [] => []
 | t :: r => qab (U t) 64 ++ qam (chgF 0 t r)
theorem qfs (l : List Int) : (enc5 l).length ≤ 68 * l.length := by
 cases l with
 | nil => simp [enc5]
 | cons t r => have := qeb (chgF 0 t r); rw [qip] at this; simp only [enc5, List.length_append, qad, List.length_cons]; omega
end
section
open Go.RowKit
end
section
open Go.RowKit
end
section
open Go.RowKit
theorem cells_deb : Tryz.prog.cellsOf 330 = 64 := by kernel_rfl
theorem cells_u8z : Tryz.prog.cellsOf 5 = 1 := by kernel_rfl
theorem gDeb : Tryz.prog.globalNamed "math/bits.deBruijn64tab" = some 2 := by kernel_rfl
theorem gDebType : (Tryz.prog.globals[(2 : Nat)]?).map (·.type) = some 330 := by kernel_rfl
end
end Go.Proofs.YtfpcgcbehdogjaaGreatDoor
