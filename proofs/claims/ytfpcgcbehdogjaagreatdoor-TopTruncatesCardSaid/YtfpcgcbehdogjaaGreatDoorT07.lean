/-
  Lemmas on which LTopTruncates rests, packed out of the texts SortH WLabA WLabB WVarA PMod; each for all arguments under the hypotheses it names.
-/
import Derived.Test.YtfpcgcbehdogjaaGreatDoorT04
import Derived.BigCall
import Derived.Shelf.RegionOpen
import Derived.TacticsInMore
import Derived.LoopNIn
import Derived.LoopIn
namespace Go.Proofs.YtfpcgcbehdogjaaGreatDoor
section
set_option maxHeartbeats 8000000
set_option maxRecDepth 100000
open Go.RowKit
theorem par_end (a i j i2 j2 : Nat) (d : Array Nat) (hi : i2 = Go.Sort.scanUp (fun x => ltN x d[a]!) d j i) (hj : j2 = Go.Sort.scanDown (fun x => !ltN x d[a]!) d i2 j) (h : j2 < i2) : Go.Sort.partLoop ltN a i j d = (j2, d) := by
 subst hi; subst hj
 rw [Go.Sort.partLoop_eq, if_pos h]
theorem par_go (a i j i2 j2 : Nat) (d : Array Nat) (hi : i2 = Go.Sort.scanUp (fun x => ltN x d[a]!) d j i) (hj : j2 = Go.Sort.scanDown (fun x => !ltN x d[a]!) d i2 j) (h : ¬ j2 < i2) :
 Go.Sort.partLoop ltN a i j d = Go.Sort.partLoop ltN a (i2 + 1) (j2 - 1) (Go.Sort.swp d i2 j2) := by
 subst hi; subst hj
 rw [Go.Sort.partLoop_eq, if_neg h]
theorem uPar_any (w0 w : World) (blk off cap a b p : Nat) (d : Array Nat) (h : Arr w0 w blk off d) (hap : a ≤ p) (hpb : p < b) (hb : b ≤ d.size) (hsz : d.size ≤ 1099511627776) :
 Calls Tryz.prog 224 #[.slice (some ⟨blk, off, none⟩) d.size cap, .int .i64 (a : Int), .int .i64 (b : Int), .int .i64 (p : Int)] w fun e w' =>
  (∃ c : Bool, e = .returned (.tuple #[.int .i64 (((Go.Sort.partition ltN d a b p).1 : Nat) : Int), .bool c])) ∧ Arr w0 w' blk off (Go.Sort.partition ltN d a b p).2.2 := by
 rw [Go.Sort.partition_fst, Go.Sort.partition_arr]
 have HH := Hj h
 obtain ⟨I0, hI0⟩ : ∃ I0, I0 = a + 1 := ⟨_, rfl⟩
 obtain ⟨J0, hJ0⟩ : ∃ J0, J0 = b - 1 := ⟨_, rfl⟩
 rw [← hI0, ← hJ0]
 have eI : (a : Int) + 1 = (I0 : Int) := by omega
 have eB : (b : Int) - 1 = (J0 : Int) := by omega
 have ha1 : a < d.size := by omega
 have hp1 : p < d.size := by omega
 have has : (a : Int) < (d.size : Int) := by omega
 have hps : (p : Int) < (d.size : Int) := by omega
 have c0 := h.cell a ha1; have c1 := h.cell p hp1
 have f0 := h.fro a ha1; have f1 := h.fro p hp1
 obtain ⟨x, hx⟩ : ∃ x, d[a]! = x := ⟨_, rfl⟩
 obtain ⟨y, hy⟩ : ∃ y, d[p]! = y := ⟨_, rfl⟩
 rw [hx] at c0
 rw [hy] at c1
 obtain ⟨v2, h2⟩ := h.two ha1 hp1 (.int .u64 (y : Int))
 have HS : Hid (∀ m, Arr w0 (((w.drewN m).setCell ⟨blk, off + a, none⟩ (.int .u64 (y : Int))).setCell ⟨blk, off + p, none⟩ (.int .u64 (x : Int))) blk off (Go.Sort.swp d a p)) := Hj (fun m => (h.drewN m).swap ha1 hp1 hy hx)
 have HSZ := Hj (Go.Sort.size_swp d a p)
 generalize Go.Sort.swp d a p = d1 at HS HSZ ⊢
 have HI0 : Hid (a + 1 = I0) := Hj hI0.symm
 have hIJ : I0 ≤ J0 + 1 := by omega
 have hJd : J0 < d.size := by omega
 have HB : Hid (J0 + 1 = b) := Hj (by omega)
 clear h hx hy ha1 hp1 hI0 hJ0 hb hpb
 have hai0 : a + 1 ≤ I0 := by have := HI0.out; omega
 obtain ⟨R, hR⟩ : ∃ R, Go.Sort.partLoop ltN a I0 J0 d1 = R := ⟨_, rfl⟩
 rw [hR]
 have HR := Hj hR
 clear hR
 go_enter Tryz.func224, Tryz.ntmps224
 go_wp2
 go_region
 go_wp2
 clear c0 c1 f0 f1 h2
 have hsk0 : d1.size = d.size := HSZ.out
 obtain ⟨x, hx⟩ : ∃ x, d1[a]! = x := ⟨_, rfl⟩
 have HX := Hj hx
 clear hx
 go_wp2
 go_loopw [10] (fun ci wr => ∃ (i2 : Nat), ci = .int .i64 (i2 : Int) ∧ I0 ≤ i2 ∧ i2 ≤ J0 + 1 ∧ Hid (Arr w0 wr blk off d1) ∧ Hid (Go.Sort.scanUp (fun x => ltN x d1[a]!) d1 J0 i2 = Go.Sort.scanUp (fun x => ltN x d1[a]!) d1 J0 I0)) (fun ci _ => J0 + 1 - (intOf ci).toNat)
 case atStart => exact ⟨I0, rfl, Nat.le_refl _, hIJ, (Hj (HS.out _)), Hj rfl⟩
 case round =>
  obtain ⟨i2, rfl, hii, hij2, HA2, HU⟩ := hrel
  by_cases hle : i2 ≤ J0
  · have hlei : (i2 : Int) ≤ (J0 : Int) := by omega
    have his : (i2 : Int) < (d.size : Int) := by omega
    have c0 := HA2.out.cell a (by omega); have c1 := HA2.out.cell i2 (by omega)
    obtain ⟨y, hy⟩ : ∃ y, d1[i2]! = y := ⟨_, rfl⟩
    rw [HX.out] at c0
    rw [hy] at c1
    have HY := Hj hy
    clear hy
    cases hl : ltN y x with
    | true =>
      have HN : Hid (Go.Sort.scanUp (fun x => ltN x d1[a]!) d1 J0 (i2 + 1) = Go.Sort.scanUp (fun x => ltN x d1[a]!) d1 J0 I0) := Hj (by rw [← HU.out]; exact (scU_go _ d1 J0 i2 hle (by show ltN _ _ = true; rw [HX.out, HY.out, hl])).symm)
      go_wp2
      go_quiet ((go_at_call 158; exact Calls.quiet_of_same (qah _ _ _)))
      go_wp2
      exact ⟨⟨i2 + 1, by simp, by omega, by omega, Hj (HA2.out.drewN _), HN⟩, by simp [intOf]; omega⟩
    | false =>
      have HI : Hid (i2 = Go.Sort.scanUp (fun x => ltN x d1[a]!) d1 J0 I0) := Hj (by rw [← HU.out]; exact (qgt _ d1 J0 i2 (.inr (by show ltN _ _ = false; rw [HX.out, HY.out, hl]))).symm)
      go_wp2
      go_quiet ((go_at_call 158; exact Calls.quiet_of_same (qah _ _ _)))
      have HA3 := Hj (HA2.out.drewN nq)
      generalize wr.drewN nq = wq at *
      have HL := Hj hl
      clear HA2 HU c0 c1 hl
      go_wp2
      go_loopw [11] (fun cj wr => ∃ (j2 : Nat), cj = .int .i64 (j2 : Int) ∧ j2 ≤ J0 ∧ i2 ≤ j2 + 1 ∧ Hid (Arr w0 wr blk off d1) ∧ Hid (Go.Sort.scanDown (fun x => !ltN x d1[a]!) d1 i2 j2 = Go.Sort.scanDown (fun x => !ltN x d1[a]!) d1 i2 J0)) (fun cj _ => (intOf cj).toNat)
      case atStart => exact ⟨J0, rfl, Nat.le_refl _, by omega, HA3, Hj rfl⟩
      case round =>
       obtain ⟨j2, rfl, hjj, hij3, HA4, HD⟩ := hrel
       by_cases hle2 : i2 ≤ j2
       · have hlei2 : (i2 : Int) ≤ (j2 : Int) := by omega
         have hjs : (j2 : Int) < (d.size : Int) := by omega
         obtain ⟨J, hJJ⟩ : ∃ J, J = j2 := ⟨_, rfl⟩
         subst hJJ
         obtain ⟨q, hJ⟩ : ∃ q, J = q + 1 := ⟨J - 1, by omega⟩
         have eJ : (J : Int) - 1 = (q : Int) := by omega
         have c0 := HA4.out.cell a (by omega); have c1 := HA4.out.cell J (by omega)
         obtain ⟨z, hz⟩ : ∃ z, d1[J]! = z := ⟨_, rfl⟩
         rw [HX.out] at c0
         rw [hz] at c1
         have HZ := Hj hz; have HJ := Hj hJ
         clear hz hJ
         cases hl : ltN z x with
         | false =>
           have HN : Hid (Go.Sort.scanDown (fun x => !ltN x d1[a]!) d1 i2 q = Go.Sort.scanDown (fun x => !ltN x d1[a]!) d1 i2 J0) := Hj (by rw [← HD.out, HJ.out]; exact (scD_go _ d1 i2 q (by have := HJ.out; omega) (by show (!ltN _ _) = true; rw [HX.out, ← HJ.out, HZ.out, hl]; rfl)).symm)
           go_wp2
           go_quiet ((go_at_call 158; exact Calls.quiet_of_same (qah _ _ _)))
           go_wp2
           exact ⟨⟨q, rfl, by have := HJ.out; omega, by have := HJ.out; omega, Hj (HA4.out.drewN _), HN⟩, by have := HJ.out; simp [intOf]; omega⟩
         | true =>
           have HJ2 : Hid (J = Go.Sort.scanDown (fun x => !ltN x d1[a]!) d1 i2 J0) := Hj (by rw [← HD.out]; exact (qdx _ d1 i2 J (.inr (by show (!ltN _ _) = false; rw [HX.out, HZ.out, hl]; rfl))).symm)
           have HG := Hj (par_go a I0 J0 i2 J d1 HI.out HJ2.out (by omega))
           have hne : ¬ J = i2 := fun e => by
            have h1 := HY.out; have h2 := HZ.out; have h3 := HL.out
            rw [e, h1] at h2
            rw [h2, hl] at h3
            exact absurd h3 (by decide)
           have hne2 : ¬ (off + J = off + i2) := by omega
           have hlt : i2 < J := by omega
           have HNX : Hid (∀ wq, Arr w0 wq blk off (Go.Sort.swp d1 i2 J) → ∃ (i' j' : Nat) (dj : Array Nat), Value.int .i64 ((i2 : Int) + 1) = .int .i64 (i' : Int) ∧ Value.int .i64 (q : Int) = .int .i64 (j' : Int) ∧ a + 1 ≤ i' ∧ i' ≤ j' + 1 ∧ j' ≤ J0 ∧ dj.size = d.size ∧ Hid (Arr w0 wq blk off dj) ∧ Hid (Go.Sort.partLoop ltN a i' j' dj = R)) := Hj (fun wq hq =>
            ⟨i2 + 1, q, _, by simp, rfl, by omega, by have := HJ.out; omega, by have := HJ.out; omega, by rw [Go.Sort.size_swp, HSZ.out], Hj hq, Hj (by rw [← HR.out, HG.out, show J - 1 = q by have := HJ.out; omega])⟩)
           have hi3 : i2 < d1.size := by omega
           have hJ3 : J < d1.size := by omega
           have HSW : Hid (∀ wq m, Arr w0 wq blk off d1 → Arr w0 (((wq.drewN m).setCell ⟨blk, off + i2, none⟩ (.int .u64 (z : Int))).setCell ⟨blk, off + J, none⟩ (.int .u64 (y : Int))) blk off (Go.Sort.swp d1 i2 J)) := Hj (fun wq m hq => (hq.drewN m).swap hi3 hJ3 HZ.out HY.out)
           have hms : (J0 : Int) + 1 - I0 > (q : Int) + 1 - (i2 + 1) := by have := HJ.out; omega
           clear hne hi3 hJ3
           go_wp2
           go_quiet ((go_at_call 158; exact Calls.quiet_of_same (qah _ _ _)))
           have HA5 := Hj (HA4.out.drewN nq)
           generalize wr.drewN nq = wq at *
           have g1 := HA5.out.cell J (by omega); have g2 := HA5.out.cell i2 (by omega)
           have k1 := HA5.out.fro J (by omega); have k2 := HA5.out.fro i2 (by omega)
           rw [HZ.out] at g1
           rw [HY.out] at g2
           clear HA4 HD c0 c1 hl
           go_wp2
           go_region
           go_wp2
           go_loopw [10, 11] (fun ci cj wr => ∃ (i j : Nat) (dk : Array Nat), ci = .int .i64 (i : Int) ∧ cj = .int .i64 (j : Int) ∧ a + 1 ≤ i ∧ i ≤ j + 1 ∧ j ≤ J0 ∧ dk.size = d.size ∧ Hid (Arr w0 wr blk off dk) ∧ Hid (Go.Sort.partLoop ltN a i j dk = R)) (fun ci cj _ => (intOf cj + 1 - intOf ci).toNat)
           case atStart => exact HNX.out _ (HSW.out _ _ HA5.out)
           case round =>
            clear g1 g2 k1 k2
            obtain ⟨i, j, dk, rfl, rfl, hai, hij, hjb, hsk, HA, HO⟩ := hrel
            obtain ⟨x, hx⟩ : ∃ x, dk[a]! = x := ⟨_, rfl⟩
            have HX := Hj hx
            clear hx
            go_wp2
            go_loopw [10] (fun ci wr => ∃ (i2 : Nat), ci = .int .i64 (i2 : Int) ∧ i ≤ i2 ∧ i2 ≤ j + 1 ∧ Hid (Arr w0 wr blk off dk) ∧ Hid (Go.Sort.scanUp (fun x => ltN x dk[a]!) dk j i2 = Go.Sort.scanUp (fun x => ltN x dk[a]!) dk j i)) (fun ci _ => j + 1 - (intOf ci).toNat)
            case atStart => exact ⟨i, rfl, Nat.le_refl _, hij, HA, Hj rfl⟩
            case round =>
             obtain ⟨i2, rfl, hii, hij2, HA2, HU⟩ := hrel
             by_cases hle : i2 ≤ j
             · have hlei : (i2 : Int) ≤ (j : Int) := by omega
               have his : (i2 : Int) < (d.size : Int) := by omega
               have c0 := HA2.out.cell a (by omega); have c1 := HA2.out.cell i2 (by omega)
               obtain ⟨y, hy⟩ : ∃ y, dk[i2]! = y := ⟨_, rfl⟩
               rw [HX.out] at c0
               rw [hy] at c1
               have HY := Hj hy
               clear hy
               cases hl : ltN y x with
               | true =>
                 have HN : Hid (Go.Sort.scanUp (fun x => ltN x dk[a]!) dk j (i2 + 1) = Go.Sort.scanUp (fun x => ltN x dk[a]!) dk j i) := Hj (by rw [← HU.out]; exact (scU_go _ dk j i2 hle (by show ltN _ _ = true; rw [HX.out, HY.out, hl])).symm)
                 go_wp2
                 go_quiet ((go_at_call 158; exact Calls.quiet_of_same (qah _ _ _)))
                 go_wp2
                 exact ⟨⟨i2 + 1, by simp, by omega, by omega, Hj (HA2.out.drewN _), HN⟩, by simp [intOf]; omega⟩
               | false =>
                 have HI : Hid (i2 = Go.Sort.scanUp (fun x => ltN x dk[a]!) dk j i) := Hj (by rw [← HU.out]; exact (qgt _ dk j i2 (.inr (by show ltN _ _ = false; rw [HX.out, HY.out, hl]))).symm)
                 go_wp2
                 go_quiet ((go_at_call 158; exact Calls.quiet_of_same (qah _ _ _)))
                 have HA3 := Hj (HA2.out.drewN nq)
                 generalize wr.drewN nq = wq at *
                 have HL := Hj hl
                 clear HA2 HU c0 c1 hl
                 go_wp2
                 go_loopw [11] (fun cj wr => ∃ (j2 : Nat), cj = .int .i64 (j2 : Int) ∧ j2 ≤ j ∧ i2 ≤ j2 + 1 ∧ Hid (Arr w0 wr blk off dk) ∧ Hid (Go.Sort.scanDown (fun x => !ltN x dk[a]!) dk i2 j2 = Go.Sort.scanDown (fun x => !ltN x dk[a]!) dk i2 j)) (fun cj _ => (intOf cj).toNat)
                 case atStart => exact ⟨j, rfl, Nat.le_refl _, by omega, HA3, Hj rfl⟩
                 case round =>
                  obtain ⟨j2, rfl, hjj, hij3, HA4, HD⟩ := hrel
                  by_cases hle2 : i2 ≤ j2
                  · have hlei2 : (i2 : Int) ≤ (j2 : Int) := by omega
                    have hjs : (j2 : Int) < (d.size : Int) := by omega
                    obtain ⟨J, hJJ⟩ : ∃ J, J = j2 := ⟨_, rfl⟩
                    subst hJJ
                    obtain ⟨q, hJ⟩ : ∃ q, J = q + 1 := ⟨J - 1, by omega⟩
                    have eJ : (J : Int) - 1 = (q : Int) := by omega
                    have c0 := HA4.out.cell a (by omega); have c1 := HA4.out.cell J (by omega)
                    obtain ⟨z, hz⟩ : ∃ z, dk[J]! = z := ⟨_, rfl⟩
                    rw [HX.out] at c0
                    rw [hz] at c1
                    have HZ := Hj hz; have HJ := Hj hJ
                    clear hz hJ
                    cases hl : ltN z x with
                    | false =>
                      have HN : Hid (Go.Sort.scanDown (fun x => !ltN x dk[a]!) dk i2 q = Go.Sort.scanDown (fun x => !ltN x dk[a]!) dk i2 j) := Hj (by rw [← HD.out, HJ.out]; exact (scD_go _ dk i2 q (by have := HJ.out; omega) (by show (!ltN _ _) = true; rw [HX.out, ← HJ.out, HZ.out, hl]; rfl)).symm)
                      go_wp2
                      go_quiet ((go_at_call 158; exact Calls.quiet_of_same (qah _ _ _)))
                      go_wp2
                      exact ⟨⟨q, rfl, by have := HJ.out; omega, by have := HJ.out; omega, Hj (HA4.out.drewN _), HN⟩, by have := HJ.out; simp [intOf]; omega⟩
                    | true =>
                      have HJ2 : Hid (J = Go.Sort.scanDown (fun x => !ltN x dk[a]!) dk i2 j) := Hj (by rw [← HD.out]; exact (qdx _ dk i2 J (.inr (by show (!ltN _ _) = false; rw [HX.out, HZ.out, hl]; rfl))).symm)
                      have HG := Hj (par_go a i j i2 J dk HI.out HJ2.out (by omega))
                      have hne : ¬ J = i2 := fun e => by
                       have h1 := HY.out; have h2 := HZ.out; have h3 := HL.out
                       rw [e, h1] at h2
                       rw [h2, hl] at h3
                       exact absurd h3 (by decide)
                      have hne2 : ¬ (off + J = off + i2) := by omega
                      have hlt : i2 < J := by omega
                      have HNX : Hid (∀ wq, Arr w0 wq blk off (Go.Sort.swp dk i2 J) → ∃ (i' j' : Nat) (dj : Array Nat), Value.int .i64 ((i2 : Int) + 1) = .int .i64 (i' : Int) ∧ Value.int .i64 (q : Int) = .int .i64 (j' : Int) ∧ a + 1 ≤ i' ∧ i' ≤ j' + 1 ∧ j' ≤ J0 ∧ dj.size = d.size ∧ Hid (Arr w0 wq blk off dj) ∧ Hid (Go.Sort.partLoop ltN a i' j' dj = R)) := Hj (fun wq hq =>
                       ⟨i2 + 1, q, _, by simp, rfl, by omega, by have := HJ.out; omega, by have := HJ.out; omega, by rw [Go.Sort.size_swp, hsk], Hj hq, Hj (by rw [← HO.out, HG.out, show J - 1 = q by have := HJ.out; omega])⟩)
                      have hi3 : i2 < dk.size := by omega
                      have hJ3 : J < dk.size := by omega
                      have HSW : Hid (∀ wq m, Arr w0 wq blk off dk → Arr w0 (((wq.drewN m).setCell ⟨blk, off + i2, none⟩ (.int .u64 (z : Int))).setCell ⟨blk, off + J, none⟩ (.int .u64 (y : Int))) blk off (Go.Sort.swp dk i2 J)) := Hj (fun wq m hq => (hq.drewN m).swap hi3 hJ3 HZ.out HY.out)
                      have hms : (j : Int) + 1 - i > (q : Int) + 1 - (i2 + 1) := by have := HJ.out; omega
                      clear hne hi3 hJ3
                      go_wp2
                      go_quiet ((go_at_call 158; exact Calls.quiet_of_same (qah _ _ _)))
                      have HA5 := Hj (HA4.out.drewN nq)
                      generalize wr.drewN nq = wq at *
                      have g1 := HA5.out.cell J (by omega); have g2 := HA5.out.cell i2 (by omega)
                      have k1 := HA5.out.fro J (by omega); have k2 := HA5.out.fro i2 (by omega)
                      rw [HZ.out] at g1
                      rw [HY.out] at g2
                      clear HA4 HD c0 c1 hl
                      go_wp2
                      go_region
                      go_wp2
                      exact ⟨HNX.out _ (HSW.out _ _ HA5.out), by simp [intOf]; omega⟩
                  · have hJ2 : Hid (j2 = Go.Sort.scanDown (fun x => !ltN x dk[a]!) dk i2 j) := Hj (by rw [← HD.out]; exact (qdx _ dk i2 j2 (.inl (by omega))).symm)
                    have HE : Hid (R = (j2, dk)) := Hj (by rw [← HO.out]; exact par_end a i j i2 j2 dk HI.out hJ2.out (by omega))
                    have hle3 : (decide ((i2 : Int) ≤ (j2 : Int))) = false := by simp; omega
                    have hgt : (j2 : Int) < (i2 : Int) := by omega
                    have hjd : j2 < dk.size := by omega
                    have hja : a ≤ j2 := by omega
                    clear hle3 hgt
                    go_wp2
                    go_quiet (fail)
                    have HA5 := Hj (HA4.out.drewN nq)
                    generalize wr.drewN nq = wq at *
                    have hjs : (j2 : Int) < (d.size : Int) := by omega
                    have ha1 : a < dk.size := by omega
                    obtain ⟨y, hy⟩ : ∃ y, dk[j2]! = y := ⟨_, rfl⟩
                    have c0 := HA5.out.cell a ha1; have c1 := HA5.out.cell j2 hjd
                    have f0 := HA5.out.fro a ha1; have f1 := HA5.out.fro j2 hjd
                    rw [HX.out] at c0
                    rw [hy] at c1
                    obtain ⟨v2, h2⟩ := HA5.out.two hjd ha1 (.int .u64 (x : Int))
                    have HSW : Hid (∀ m, Arr w0 (((wq.drewN m).setCell ⟨blk, off + j2, none⟩ (.int .u64 (x : Int))).setCell ⟨blk, off + a, none⟩ (.int .u64 (y : Int))) blk off (Go.Sort.swp dk j2 a)) := Hj (fun m => (HA5.out.drewN m).swap hjd ha1 HX.out hy)
                    clear hy ha1 hjd
                    go_wp2
                    go_region
                    go_wp2
                    go_ret2
                    exact ⟨⟨_, by rw [HE.out]; rfl⟩, by rw [HE.out]; exact HSW.out _⟩
             · have HI : Hid (i2 = Go.Sort.scanUp (fun x => ltN x dk[a]!) dk j i) := Hj (by rw [← HU.out]; exact (qgt _ dk j i2 (.inl (by omega))).symm)
               have hlei : (decide ((i2 : Int) ≤ (j : Int))) = false := by simp; omega
               have hi2j : i2 = j + 1 := by omega
               have HIJ2 := Hj hi2j
               have hgt0 : (j : Int) < (i2 : Int) := by omega
               clear hlei hgt0 hi2j
               go_wp2
               go_quiet (fail)
               have HA3 := Hj (HA2.out.drewN nq)
               generalize wr.drewN nq = wq at *
               go_wp2
               go_loopw [11] (fun cj wr => ∃ (j2 : Nat), cj = .int .i64 (j2 : Int) ∧ j2 = j ∧ Hid (Arr w0 wr blk off dk)) (fun cj _ => (intOf cj).toNat)
               case atStart => exact ⟨j, rfl, rfl, HA3⟩
               case round =>
                obtain ⟨j2, rfl, hj2, HA4⟩ := hrel
                have HIJ3 := HIJ2
                have hJ2 : Hid (j2 = Go.Sort.scanDown (fun x => !ltN x dk[a]!) dk i2 j) := Hj (by rw [hj2]; exact (qdx _ dk i2 j (.inl (by have := HIJ2.out; omega))).symm)
                have HE : Hid (R = (j2, dk)) := Hj (by rw [← HO.out]; exact par_end a i j i2 j2 dk HI.out hJ2.out (by have := HIJ2.out; omega))
                have hle2 : ¬ i2 ≤ j2 := by have := HIJ2.out; omega
                have hjd : j2 < dk.size := by omega
                have hja : a ≤ j2 := by omega
                have hjs : (j2 : Int) < (d.size : Int) := by omega
                clear hj2
                go_wp2
                go_quiet (fail)
                have HA5 := Hj (HA4.out.drewN nq)
                generalize wr.drewN nq = wq at *
                have ha1 : a < dk.size := by omega
                obtain ⟨y, hy⟩ : ∃ y, dk[j2]! = y := ⟨_, rfl⟩
                have c0 := HA5.out.cell a ha1; have c1 := HA5.out.cell j2 hjd
                have f0 := HA5.out.fro a ha1; have f1 := HA5.out.fro j2 hjd
                rw [HX.out] at c0
                rw [hy] at c1
                obtain ⟨v2, h2⟩ := HA5.out.two hjd ha1 (.int .u64 (x : Int))
                have HSW : Hid (∀ m, Arr w0 (((wq.drewN m).setCell ⟨blk, off + j2, none⟩ (.int .u64 (x : Int))).setCell ⟨blk, off + a, none⟩ (.int .u64 (y : Int))) blk off (Go.Sort.swp dk j2 a)) := Hj (fun m => (HA5.out.drewN m).swap hjd ha1 HX.out hy)
                clear hy ha1 hjd
                go_wp2
                go_region
                go_wp2
                go_ret2
                exact ⟨⟨_, by rw [HE.out]; rfl⟩, by rw [HE.out]; exact HSW.out _⟩
       · have hJ2 : Hid (j2 = Go.Sort.scanDown (fun x => !ltN x d1[a]!) d1 i2 J0) := Hj (by rw [← HD.out]; exact (qdx _ d1 i2 j2 (.inl (by omega))).symm)
         have HE : Hid (R = (j2, d1)) := Hj (by rw [← HR.out]; exact par_end a I0 J0 i2 j2 d1 HI.out hJ2.out (by omega))
         have hle3 : (decide ((i2 : Int) ≤ (j2 : Int))) = false := by simp; omega
         have hgt : (j2 : Int) < (i2 : Int) := by omega
         have hjd : j2 < d1.size := by omega
         have hja : a ≤ j2 := by omega
         clear hle3 hgt
         go_wp2
         go_quiet (fail)
         have HA5 := Hj (HA4.out.drewN nq)
         generalize wr.drewN nq = wq at *
         have hjs : (j2 : Int) < (d.size : Int) := by omega
         have ha1 : a < d1.size := by omega
         obtain ⟨y, hy⟩ : ∃ y, d1[j2]! = y := ⟨_, rfl⟩
         have c0 := HA5.out.cell a ha1; have c1 := HA5.out.cell j2 hjd
         have f0 := HA5.out.fro a ha1; have f1 := HA5.out.fro j2 hjd
         rw [HX.out] at c0
         rw [hy] at c1
         obtain ⟨v2, h2⟩ := HA5.out.two hjd ha1 (.int .u64 (x : Int))
         have HSW : Hid (∀ m, Arr w0 (((wq.drewN m).setCell ⟨blk, off + j2, none⟩ (.int .u64 (x : Int))).setCell ⟨blk, off + a, none⟩ (.int .u64 (y : Int))) blk off (Go.Sort.swp d1 j2 a)) := Hj (fun m => (HA5.out.drewN m).swap hjd ha1 HX.out hy)
         clear hy ha1 hjd
         go_wp2
         go_region
         go_wp2
         go_ret2
         exact ⟨⟨_, by rw [HE.out]; rfl⟩, by rw [HE.out]; exact HSW.out _⟩
  · have HI : Hid (i2 = Go.Sort.scanUp (fun x => ltN x d1[a]!) d1 J0 I0) := Hj (by rw [← HU.out]; exact (qgt _ d1 J0 i2 (.inl (by omega))).symm)
    have hlei : (decide ((i2 : Int) ≤ (J0 : Int))) = false := by simp; omega
    have hi2j : i2 = J0 + 1 := by omega
    have HIJ2 := Hj hi2j
    have hgt0 : (J0 : Int) < (i2 : Int) := by omega
    clear hlei hgt0 hi2j
    go_wp2
    go_quiet (fail)
    have HA3 := Hj (HA2.out.drewN nq)
    generalize wr.drewN nq = wq at *
    go_wp2
    go_loopw [11] (fun cj wr => ∃ (j2 : Nat), cj = .int .i64 (j2 : Int) ∧ j2 = J0 ∧ Hid (Arr w0 wr blk off d1)) (fun cj _ => (intOf cj).toNat)
    case atStart => exact ⟨J0, rfl, rfl, HA3⟩
    case round =>
     obtain ⟨j2, rfl, hj2, HA4⟩ := hrel
     have HIJ3 := HIJ2
     have hJ2 : Hid (j2 = Go.Sort.scanDown (fun x => !ltN x d1[a]!) d1 i2 J0) := Hj (by rw [hj2]; exact (qdx _ d1 i2 J0 (.inl (by have := HIJ2.out; omega))).symm)
     have HE : Hid (R = (j2, d1)) := Hj (by rw [← HR.out]; exact par_end a I0 J0 i2 j2 d1 HI.out hJ2.out (by have := HIJ2.out; omega))
     have hle2 : ¬ i2 ≤ j2 := by have := HIJ2.out; omega
     have hjd : j2 < d1.size := by omega
     have hja : a ≤ j2 := by omega
     have hjs : (j2 : Int) < (d.size : Int) := by omega
     clear hj2
     go_wp2
     go_quiet (fail)
     have HA5 := Hj (HA4.out.drewN nq)
     generalize wr.drewN nq = wq at *
     have ha1 : a < d1.size := by omega
     obtain ⟨y, hy⟩ : ∃ y, d1[j2]! = y := ⟨_, rfl⟩
     have c0 := HA5.out.cell a ha1; have c1 := HA5.out.cell j2 hjd
     have f0 := HA5.out.fro a ha1; have f1 := HA5.out.fro j2 hjd
     rw [HX.out] at c0
     rw [hy] at c1
     obtain ⟨v2, h2⟩ := HA5.out.two hjd ha1 (.int .u64 (x : Int))
     have HSW : Hid (∀ m, Arr w0 (((wq.drewN m).setCell ⟨blk, off + j2, none⟩ (.int .u64 (x : Int))).setCell ⟨blk, off + a, none⟩ (.int .u64 (y : Int))) blk off (Go.Sort.swp d1 j2 a)) := Hj (fun m => (HA5.out.drewN m).swap hjd ha1 HX.out hy)
     clear hy ha1 hjd
     go_wp2
     go_region
     go_wp2
     go_ret2
     exact ⟨⟨_, by rw [HE.out]; rfl⟩, by rw [HE.out]; exact HSW.out _⟩
end
section
set_option maxRecDepth 100000
open Go.RowKit
theorem qag {a b : Int} (h : a = b) : Ending.returned (.int .i64 a) = .returned (.int .i64 b) := by rw [h]
theorem order_any (a b : ByteArray) (w : World) : Calls Tryz.prog 94 #[.string a, .string b] w fun e w' => e = .returned (.int .i64 (ordS a b)) ∧ w = w' := by
 have HO : Hid (ordS a b = if Op.bytesLess a.toList b.toList = true then -1 else if (a.toList == b.toList) = true then 0 else 1) := Hj rfl
 cases h1 : Op.bytesLess a.toList b.toList with
 | true =>
   have H := Hj (HO.out.trans (by rw [h1]))
   clear HO
   go_enter Tryz.func94, Tryz.ntmps94
   go_wp2
   go_ret
   exact ⟨qag H.out.symm, rfl⟩
 | false =>
   cases h2 : (a.toList == b.toList) with
   | true =>
     have H := Hj (HO.out.trans (by rw [h1, h2]))
     clear HO
     go_enter Tryz.func94, Tryz.ntmps94
     go_wp2
     go_ret
     exact ⟨qag H.out.symm, rfl⟩
   | false =>
     have H := Hj (HO.out.trans (by rw [h1, h2]))
     clear HO
     go_enter Tryz.func94, Tryz.ntmps94
     go_wp2
     go_ret
     exact ⟨qag H.out.symm, rfl⟩
theorem nanS_any (a : ByteArray) (w : World) : Calls Tryz.prog 212 #[.string a] w fun e w' => e = .returned (.bool false) ∧ w = w' := by
 go_enter Tryz.func212, Tryz.ntmps212
 go_wp2
 go_ret
 exact ⟨rfl, rfl⟩
theorem qhs (a b : ByteArray) (w : World) : Calls Tryz.prog 178 #[.string a, .string b] w fun e w' => e = .returned (.int .i64 (ordS a b)) ∧ w = w' := by
 have HO : Hid (ordS a b = if Op.bytesLess a.toList b.toList = true then -1 else if (a.toList == b.toList) = true then 0 else 1) := Hj rfl
 cases h1 : Op.bytesLess a.toList b.toList with
 | true =>
   have H := Hj (HO.out.trans (by rw [h1]))
   clear HO
   go_enter Tryz.func178, Tryz.ntmps178
   go_wp2_with (go_at_call 212; refine (nanS_any _ _).mono ?_; rintro e w1 ⟨rfl, rfl⟩)
   go_ret
   exact ⟨qag H.out.symm, rfl⟩
 | false =>
   cases h2 : (a.toList == b.toList) with
   | true =>
     have H := Hj (HO.out.trans (by rw [h1, h2]))
     clear HO
     go_enter Tryz.func178, Tryz.ntmps178
     go_wp2_with (go_at_call 212; refine (nanS_any _ _).mono ?_; rintro e w1 ⟨rfl, rfl⟩)
     go_ret
     exact ⟨qag H.out.symm, rfl⟩
   | false =>
     have H := Hj (HO.out.trans (by rw [h1, h2]))
     clear HO
     go_enter Tryz.func178, Tryz.ntmps178
     go_wp2_with (go_at_call 212; refine (nanS_any _ _).mono ?_; rintro e w1 ⟨rfl, rfl⟩)
     go_ret
     exact ⟨qag H.out.symm, rfl⟩
theorem empty_iff (a : ByteArray) : a.toList.isEmpty = decide (a.size = 0) := by
 rw [Lib.toList_data]
 cases h : a.data.toList with
 | nil => have := Lib.size_eq a; rw [h] at this; simp [this]
 | cons x r => have := Lib.size_eq a; rw [h] at this; simp [this]
theorem single_any (x : Lab) (w : World) : Calls Tryz.prog 196 #[.agg #[.string x.1, .string x.2]] w fun e w' => e = .returned (.int .i64 (labE x)) ∧ Below w.heap.size w w' := by
 obtain ⟨a, b⟩ := x
 have HO : Hid (labE (a, b) = if a.size = 0 then 17 else if 65535 < a.size ∨ 65535 < b.size then 7 else 0) := Hj rfl
 have hb := (Below.refl w.heap.size w).alloc (Nat.le_refl _) (.cells #[.string a, .string b] 94)
 have HB := Hj hb
 have he := empty_iff a
 by_cases h0 : a.size = 0
 · have H := Hj (HO.out.trans (if_pos h0))
   have he2 : a.toList.isEmpty = true := by rw [he]; exact decide_eq_true h0
   clear HO hb he h0
   go_enter Tryz.func196, Tryz.ntmps196
   go_wp2
   all_goals
    go_ret
    exact ⟨qag H.out.symm, HB.out⟩
 · have he2 : a.toList.isEmpty = false := by rw [he]; exact decide_eq_false h0
   have HO2 := Hj (HO.out.trans (if_neg h0))
   clear HO hb he
   by_cases h1 : 65535 < a.size
   · have H := Hj (HO2.out.trans (if_pos (.inl h1)))
     have h1' : (65535 : Int) < (a.size : Int) := by omega
     have hm : (65535 : Int) < max (a.size : Int) (b.size : Int) := by omega
     clear HO2
     go_enter Tryz.func196, Tryz.ntmps196
     go_wp2
     all_goals
      go_ret
      exact ⟨qag H.out.symm, HB.out⟩
   · by_cases h2 : 65535 < b.size
     · have H := Hj (HO2.out.trans (if_pos (.inr h2)))
       have h1' : (a.size : Int) ≤ 65535 := by omega
       have h2' : (65535 : Int) < (b.size : Int) := by omega
       have hm : (65535 : Int) < max (a.size : Int) (b.size : Int) := by omega
       clear HO2 h1
       go_enter Tryz.func196, Tryz.ntmps196
       go_wp2
       all_goals
        go_ret
        exact ⟨qag H.out.symm, HB.out⟩
     · have H := Hj (HO2.out.trans (if_neg (by omega)))
       have h1' : (a.size : Int) ≤ 65535 := by omega
       have h2' : (b.size : Int) ≤ 65535 := by omega
       have hm : max (a.size : Int) (b.size : Int) ≤ 65535 := by omega
       clear HO2 h1 h2
       go_enter Tryz.func196, Tryz.ntmps196
       go_wp2
       all_goals
        go_ret
        exact ⟨qag H.out.symm, HB.out⟩
theorem lone_any (x : Lab) (w : World) : Calls Tryz.prog 113 #[.agg #[.string x.1, .string x.2]] w fun e w' => e = .returned (.int .i64 (labE x)) ∧ Below w.heap.size w w' := by
 obtain ⟨a, b⟩ := x
 have HO : Hid (labE (a, b) = if a.size = 0 then 17 else if 65535 < a.size ∨ 65535 < b.size then 7 else 0) := Hj rfl
 have hb := (Below.refl w.heap.size w).alloc (Nat.le_refl _) (.cells #[.string a, .string b] 94)
 have HB := Hj hb
 have he := empty_iff a
 by_cases h0 : a.size = 0
 · have H := Hj (HO.out.trans (if_pos h0))
   have he2 : a.toList.isEmpty = true := by rw [he]; exact decide_eq_true h0
   clear HO hb he h0
   go_enter Tryz.func113, Tryz.ntmps113
   go_wp2
   all_goals
    go_ret
    exact ⟨qag H.out.symm, HB.out⟩
 · have he2 : a.toList.isEmpty = false := by rw [he]; exact decide_eq_false h0
   have HO2 := Hj (HO.out.trans (if_neg h0))
   clear HO hb he
   by_cases h1 : 65535 < a.size
   · have H := Hj (HO2.out.trans (if_pos (.inl h1)))
     have h1' : (65535 : Int) < (a.size : Int) := by omega
     have hm : (65535 : Int) < max (a.size : Int) (b.size : Int) := by omega
     clear HO2
     go_enter Tryz.func113, Tryz.ntmps113
     go_wp2
     all_goals
      go_ret
      exact ⟨qag H.out.symm, HB.out⟩
   · by_cases h2 : 65535 < b.size
     · have H := Hj (HO2.out.trans (if_pos (.inr h2)))
       have h1' : (a.size : Int) ≤ 65535 := by omega
       have h2' : (65535 : Int) < (b.size : Int) := by omega
       have hm : (65535 : Int) < max (a.size : Int) (b.size : Int) := by omega
       clear HO2 h1
       go_enter Tryz.func113, Tryz.ntmps113
       go_wp2
       all_goals
        go_ret
        exact ⟨qag H.out.symm, HB.out⟩
     · have H := Hj (HO2.out.trans (if_neg (by omega)))
       have h1' : (a.size : Int) ≤ 65535 := by omega
       have h2' : (b.size : Int) ≤ 65535 := by omega
       have hm : max (a.size : Int) (b.size : Int) ≤ 65535 := by omega
       clear HO2 h1 h2
       go_enter Tryz.func113, Tryz.ntmps113
       go_wp2
       all_goals
        go_ret
        exact ⟨qag H.out.symm, HB.out⟩
theorem part1_any (x : Lab) (w : World) : Calls Tryz.prog 202 #[.agg #[.string x.1, .string x.2]] w fun e w' => e = .returned (.string x.1) ∧ Below w.heap.size w w' := by
 obtain ⟨a, b⟩ := x
 have hb := (Below.refl w.heap.size w).alloc (Nat.le_refl _) (.cells #[.string a, .string b] 94)
 have HB := Hj hb
 clear hb
 go_enter Tryz.func202, Tryz.ntmps202
 go_wp2
 go_ret
 exact ⟨rfl, HB.out⟩
theorem part2_any (x : Lab) (w : World) : Calls Tryz.prog 203 #[.agg #[.string x.1, .string x.2]] w fun e w' => e = .returned (.string x.2) ∧ Below w.heap.size w w' := by
 obtain ⟨a, b⟩ := x
 have hb := (Below.refl w.heap.size w).alloc (Nat.le_refl _) (.cells #[.string a, .string b] 94)
 have HB := Hj hb
 clear hb
 go_enter Tryz.func203, Tryz.ntmps203
 go_wp2
 go_ret
 exact ⟨rfl, HB.out⟩
end
section
set_option maxRecDepth 100000
open Go.RowKit
theorem qdq (w : World) (x1 x2 y1 y2 : ByteArray) : ∃ W0, W0 = (w.alloc (.cells #[.string x1, .string x2] 94)).alloc (.cells #[.string y1, .string y2] 94) ∧ Below w.heap.size w W0 ∧ W0.heap.size = w.heap.size + 2 ∧
 W0.cell? ⟨w.heap.size, 0, none⟩ = some (.string x1) ∧ W0.cell? ⟨w.heap.size, 1, none⟩ = some (.string x2) ∧ W0.cell? ⟨w.heap.size + 1, 0, none⟩ = some (.string y1) ∧ W0.cell? ⟨w.heap.size + 1, 1, none⟩ = some (.string y2) := by
 have h1 : ((w.alloc (.cells #[.string x1, .string x2] 94)).alloc (.cells #[.string y1, .string y2] 94)).heap[w.heap.size]? = some (.cells #[.string x1, .string x2] 94 (0, 0)) := by
  rw [Below.heap_alloc _ _ _ (by simp)]; exact heap_alloc_new w _
 have h2 : ((w.alloc (.cells #[.string x1, .string x2] 94)).alloc (.cells #[.string y1, .string y2] 94)).heap[w.heap.size + 1]? = some (.cells #[.string y1, .string y2] 94 (0, 0)) := by
  have := heap_alloc_new (w.alloc (.cells #[.string x1, .string x2] 94)) (.cells #[.string y1, .string y2] 94)
  simpa using this
 refine ⟨_, rfl, ((Below.refl _ w).alloc (Nat.le_refl _) _).alloc (by simp) _, by simp, ?_, ?_, ?_, ?_⟩
 · rw [cell_of_row _ _ _ _ _ _ h1]; rfl
 · rw [cell_of_row _ _ _ _ _ _ h1]; rfl
 · rw [cell_of_row _ _ _ _ _ _ h2]; rfl
 · rw [cell_of_row _ _ _ _ _ _ h2]; rfl
theorem by1_1 (x y : Lab) (B : Nat) (w : World) (hc : w.cell? ⟨B, 0, none⟩ = some (.func (.func 202) #[] #[])) :
 Calls Tryz.prog 225 #[.agg #[.string x.1, .string x.2], .agg #[.string y.1, .string y.2], .pointer (some ⟨B, 0, none⟩)] w fun e w' => e = .returned (.int .i64 (ordS x.1 y.1)) ∧ Below w.heap.size w w' := by
 obtain ⟨x1, x2⟩ := x
 obtain ⟨y1, y2⟩ := y
 obtain ⟨W0, hW0, hb, hs, c1, c2, c3, c4⟩ := qdq w x1 x2 y1 y2
 have c0 : W0.cell? ⟨B, 0, none⟩ = some (.func (.func 202) #[] #[]) := by rw [hb.cell (World.block_lt_of_cell? w _ hc)]; exact hc
 have CC : Hid (∀ wq, Below W0.heap.size W0 wq → wq.cell? ⟨B, 0, none⟩ = some (.func (.func 202) #[] #[]) ∧ wq.cell? ⟨w.heap.size, 0, none⟩ = some (.string x1) ∧ wq.cell? ⟨w.heap.size, 1, none⟩ = some (.string x2) ∧ wq.cell? ⟨w.heap.size + 1, 0, none⟩ = some (.string y1) ∧ wq.cell? ⟨w.heap.size + 1, 1, none⟩ = some (.string y2)) := Hj (fun wq h => by
  refine ⟨?_, ?_, ?_, ?_, ?_⟩
  · rw [h.cell (World.block_lt_of_cell? W0 _ c0)]; exact c0
  · rw [h.cell (World.block_lt_of_cell? W0 _ c1)]; exact c1
  · rw [h.cell (World.block_lt_of_cell? W0 _ c2)]; exact c2
  · rw [h.cell (World.block_lt_of_cell? W0 _ c3)]; exact c3
  · rw [h.cell (World.block_lt_of_cell? W0 _ c4)]; exact c4)
 have CP : Hid (∀ z1 z2 wq, Below W0.heap.size W0 wq → Calls Tryz.prog 202 #[.agg #[.string z1, .string z2]] wq fun e w' => e = .returned (.string z1) ∧ Below W0.heap.size W0 w') := Hj (fun z1 z2 wq h => (part1_any (z1, z2) wq).mono fun e w' ⟨he, hb⟩ => ⟨he, h.trans (hb.mono h.size)⟩)
 have CS : Hid (∀ a b wq, Below W0.heap.size W0 wq → Calls Tryz.prog 178 #[.string a, .string b] wq fun e w' => e = .returned (.int .i64 (ordS a b)) ∧ Below W0.heap.size W0 w') := Hj (fun a b wq h => (qhs a b wq).mono fun e w' ⟨he, hb⟩ => ⟨he, hb ▸ h⟩)
 have HB := Hj hb; have HS := Hj hs
 clear c0 c1 c2 c3 c4 hc hb hs
 go_enter Tryz.func225, Tryz.ntmps225
 go_wp2_with fail
 rw [← hW0]
 clear hW0
 refine qas (fun x => Below W0.heap.size W0 x) (by kernel_rfl) (by kernel_rfl) ((Below.refl _ _).drew) ?_
 repeat (
  refine wpQuiet_step (fun K hK => ?_)
  go_simp
  first
   | (refine hK _ ?_; clear hK K)
   | (refine ⟨_, fun _ _ => rfl, hK _ ?_⟩; clear hK K)
   | (apply Exists.intro
      refine ⟨fun wq hwq => ?_, hK _ ?_⟩
      (first
       | (go_at_call 202; exact CP.out _ _ _ hwq)
       | (go_at_call 178; exact CS.out _ _ _ hwq)
       | (have hc := CC.out _ hwq; go_simp; exact rfl)
       | (obtain ⟨hc0, hc1, hc2, hc3, hc4⟩ := CC.out _ hwq; go_simp; exact rfl))
      clear hK K))
 refine wpQuiet_nil ?_
 intro wq hwq
 go_wp2
 go_ret
 exact ⟨rfl, HB.out.trans (hwq.mono (by have := HS.out; omega))⟩
theorem by1_2 (x y : Lab) (B : Nat) (w : World) (hc : w.cell? ⟨B, 0, none⟩ = some (.func (.func 203) #[] #[])) :
 Calls Tryz.prog 225 #[.agg #[.string x.1, .string x.2], .agg #[.string y.1, .string y.2], .pointer (some ⟨B, 0, none⟩)] w fun e w' => e = .returned (.int .i64 (ordS x.2 y.2)) ∧ Below w.heap.size w w' := by
 obtain ⟨x1, x2⟩ := x
 obtain ⟨y1, y2⟩ := y
 obtain ⟨W0, hW0, hb, hs, c1, c2, c3, c4⟩ := qdq w x1 x2 y1 y2
 have c0 : W0.cell? ⟨B, 0, none⟩ = some (.func (.func 203) #[] #[]) := by rw [hb.cell (World.block_lt_of_cell? w _ hc)]; exact hc
 have CC : Hid (∀ wq, Below W0.heap.size W0 wq → wq.cell? ⟨B, 0, none⟩ = some (.func (.func 203) #[] #[]) ∧ wq.cell? ⟨w.heap.size, 0, none⟩ = some (.string x1) ∧ wq.cell? ⟨w.heap.size, 1, none⟩ = some (.string x2) ∧ wq.cell? ⟨w.heap.size + 1, 0, none⟩ = some (.string y1) ∧ wq.cell? ⟨w.heap.size + 1, 1, none⟩ = some (.string y2)) := Hj (fun wq h => by
  refine ⟨?_, ?_, ?_, ?_, ?_⟩
  · rw [h.cell (World.block_lt_of_cell? W0 _ c0)]; exact c0
  · rw [h.cell (World.block_lt_of_cell? W0 _ c1)]; exact c1
  · rw [h.cell (World.block_lt_of_cell? W0 _ c2)]; exact c2
  · rw [h.cell (World.block_lt_of_cell? W0 _ c3)]; exact c3
  · rw [h.cell (World.block_lt_of_cell? W0 _ c4)]; exact c4)
 have CP : Hid (∀ z1 z2 wq, Below W0.heap.size W0 wq → Calls Tryz.prog 203 #[.agg #[.string z1, .string z2]] wq fun e w' => e = .returned (.string z2) ∧ Below W0.heap.size W0 w') := Hj (fun z1 z2 wq h => (part2_any (z1, z2) wq).mono fun e w' ⟨he, hb⟩ => ⟨he, h.trans (hb.mono h.size)⟩)
 have CS : Hid (∀ a b wq, Below W0.heap.size W0 wq → Calls Tryz.prog 178 #[.string a, .string b] wq fun e w' => e = .returned (.int .i64 (ordS a b)) ∧ Below W0.heap.size W0 w') := Hj (fun a b wq h => (qhs a b wq).mono fun e w' ⟨he, hb⟩ => ⟨he, hb ▸ h⟩)
 have HB := Hj hb; have HS := Hj hs
 clear c0 c1 c2 c3 c4 hc hb hs
 go_enter Tryz.func225, Tryz.ntmps225
 go_wp2_with fail
 rw [← hW0]
 clear hW0
 refine qas (fun x => Below W0.heap.size W0 x) (by kernel_rfl) (by kernel_rfl) ((Below.refl _ _).drew) ?_
 repeat (
  refine wpQuiet_step (fun K hK => ?_)
  go_simp
  first
   | (refine hK _ ?_; clear hK K)
   | (refine ⟨_, fun _ _ => rfl, hK _ ?_⟩; clear hK K)
   | (apply Exists.intro
      refine ⟨fun wq hwq => ?_, hK _ ?_⟩
      (first
       | (go_at_call 203; exact CP.out _ _ _ hwq)
       | (go_at_call 178; exact CS.out _ _ _ hwq)
       | (have hc := CC.out _ hwq; go_simp; exact rfl)
       | (obtain ⟨hc0, hc1, hc2, hc3, hc4⟩ := CC.out _ hwq; go_simp; exact rfl))
      clear hK K))
 refine wpQuiet_nil ?_
 intro wq hwq
 go_wp2
 go_ret
 exact ⟨rfl, HB.out.trans (hwq.mono (by have := HS.out; omega))⟩
end
section
set_option maxHeartbeats 1000000
set_option maxRecDepth 100000
open Go.RowKit Go.Shelf
attribute [local go_sem] Oper.semAt_some
def encG (p : Nat × Bool) : Array Value := #[.int .u8 ((p.1 : Nat) : Int), .bool p.2]
def leftOf (w : World) (b : Nat) : Nat := match w.cell? ⟨b, 0, none⟩ with | some (.int _ y) => y.toNat | _ => 0
theorem leftOf_eq {w : World} {b y : Nat} {k : IntKind} (h : w.cell? ⟨b, 0, none⟩ = some (.int k (y : Nat))) : leftOf w b = y := by simp [leftOf, h]
theorem groupsF_small (n y : Nat) (h : y < 128) : qbm n y = [(y, true)] := by cases n <;> simp [qbm, h]
theorem groupsF_big (n y : Nat) (h : 128 ≤ y) (hn : y < 128 ^ (n + 1)) : ∃ m, n = m + 1 ∧ qbm n y = (y % 128, false) :: qbm m (y / 128) ∧ y / 128 < 128 ^ (m + 1) := by
 cases n with
 | zero => omega
 | succ m => exact ⟨m, rfl, by simp only [qbm]; rw [if_neg (by omega)], Nat.div_lt_of_lt_mul (by rw [Nat.pow_succ] at hn; omega)⟩
theorem groups_seq (Bn X : Nat) (w : World) (hX : X ≤ 18446744073709551615) (hc : w.cell? ⟨Bn, 0, none⟩ = some (.int .u64 (X : Nat))) (hf : w.frozen? ⟨Bn, 0, none⟩ = false) :
 SeqC Tryz.prog 207 #[.pointer (some ⟨Bn, 0, none⟩)] encG (fun k => k = Bn) (fun xs => xs = qbm 9 X) (fun pre => pre <+: qbm 9 X) w := by
 intro l J Jx W hW hJ hJx hY h0
 have hc1 : W.cell? ⟨Bn, 0, none⟩ = some (.int .u64 (X : Nat)) := hW.cell hc (fun h => h rfl)
 have hf1 : W.frozen? ⟨Bn, 0, none⟩ = false := (qbq hW hc (fun h => h rfl)).trans hf
 clear hc hf hW
 refine callsIn_of_wp Tryz.func207 rfl trivial ?_ rfl
 simp only [Tryz.ntmps207, List.size_toArray, List.length_cons, List.length_nil, Nat.reduceAdd, Nat.reduceSub, Array.replicate_succ, Array.replicate_zero, List.push_toArray, List.append_toArray, List.nil_append, List.cons_append]
 have HY := Hj hY
 have HJ := Hj hJ
 have HJx := Hj hJx
 clear hY hJ hJx
 gi_wp2
 gi_loopw [] (fun wr => ∃ (n y : Nat) (pre : List (Nat × Bool)), y < 128 ^ (n + 1) ∧ pre ++ qbm n y = qbm 9 X ∧ wr.cell? ⟨Bn, 0, none⟩ = some (.int .u64 (y : Nat)) ∧ wr.frozen? ⟨Bn, 0, none⟩ = false ∧ J pre wr)
  (fun wr => leftOf wr Bn)
 case atStart => exact ⟨9, X, [], by omega, rfl, hc1, hf1, h0⟩
 case round =>
  obtain ⟨n, y, pre, hy, hx, hcy, hfy, hJp⟩ := hrel
  by_cases hlt : 128 ≤ y
  · obtain ⟨m, rfl, hg, hym⟩ := groupsF_big n y hlt hy
    rw [hg] at hx
    have hpx : pre ++ [(y % 128, false)] <+: qbm 9 X := ⟨qbm m (y / 128), by rw [← hx]; simp⟩
    obtain ⟨fn, tmps, assign, body, hyy, hR⟩ := HY.out pre (y % 128, false) wr hJp hpx
    simp only [encG] at hyy
    have Hx := Hj hx; have Hpx := Hj hpx; have Hy := Hj hym; have HJp := Hj hJp
    obtain ⟨r, hr⟩ : ∃ r, r = y % 128 := ⟨_, rfl⟩
    rw [← hr] at hyy
    have hr1 : (y : Int) % 128 = r := by omega
    have hr2 : (y : Int).tmod 128 = r := by rw [Int.tmod_eq_emod_of_nonneg (by omega)]; omega
    have hr3 : IntKind.u8.wrap (r : Int) = r := IntWalk.u8_in _ (by omega)
    have Hr := Hj hr
    have hyb : (128 : Int) ≤ y := by omega
    clear hx hpx hym hJp hg hy hr
    gi_wp2
    refine ⟨rfl, hR.mono ?_⟩
    rintro e W3 (⟨rfl, hJ3, hk3⟩ | ⟨rfl, hJx3, hk3⟩)
    · have hc3 : W3.cell? ⟨Bn, 0, none⟩ = some (.int .u64 (y : Nat)) := hk3.cell hcy (fun h => h rfl)
      have hf3 : W3.frozen? ⟨Bn, 0, none⟩ = false := (qbq hk3 hcy (fun h => h rfl)).trans hfy
      have HJ3 := Hj hJ3
      clear hJ3 hk3
      obtain ⟨z, hz⟩ : ∃ z, z = y / 128 := ⟨_, rfl⟩
      have hz1 : (y : Int) / 128 = z := by omega
      have Hz := Hj hz
      clear hz
      gi_wp2
      have hk : Keeps (fun k => k = Bn) W3 (W3.setCell ⟨Bn, 0, none⟩ (.int .u64 (z : Nat))) := (Keeps.refl (fun k => k = Bn) W3).setCell (p := ⟨Bn, 0, none⟩) (fun _ => rfl) _
      have hcz : (W3.setCell ⟨Bn, 0, none⟩ (.int .u64 (z : Nat))).cell? ⟨Bn, 0, none⟩ = some (.int .u64 (z : Nat)) := World.cell?_setCell_same' _ _ _ (by rw [hc3]; rfl)
      refine ⟨⟨m, z, pre ++ [(y % 128, false)], by rw [Hz.out]; exact Hy.out, by rw [Hz.out, ← Hx.out]; simp, hcz, by rw [World.frozen?_setCell]; exact hf3, ?_⟩, ?_⟩
      · have := HJ3.out
        exact HJ.out _ _ _ this hk
      · rw [leftOf_eq hcz, leftOf_eq hcy, Hz.out]; omega
    · have HJx3 := Hj hJx3
      have hc3 : W3.cell? ⟨Bn, 0, none⟩ = some (.int .u64 (y : Nat)) := hk3.cell hcy (fun h => h rfl)
      clear hJx3 hk3
      have hyn : ¬ (y : Int) < 128 := by omega
      gi_wp2
      go_end0
      exact ⟨⟨_, rfl⟩, .inr ⟨_, Hpx.out, HJx3.out⟩⟩
  · have hg := groupsF_small n y (by omega)
    rw [hg] at hx
    obtain ⟨fn, tmps, assign, body, hyy, hR⟩ := HY.out pre (y, true) wr hJp ⟨[], by rw [← hx]; simp⟩
    simp only [encG] at hyy
    have Hx := Hj hx
    have hr3 : IntKind.u8.wrap (y : Int) = y := IntWalk.u8_in _ (by omega)
    have hyb : (y : Int) < 128 := by omega
    clear hx hJp hg hy
    gi_wp2
    refine ⟨fun _ h => (by cases h), ?_⟩
    gi_wp2
    refine ⟨rfl, hR.mono ?_⟩
    rintro e W3 (⟨rfl, hJ3, hk3⟩ | ⟨rfl, hJx3, hk3⟩)
    · have HJ3 := Hj hJ3
      clear hJ3 hk3
      gi_wp2
      go_end0
      exact ⟨⟨_, rfl⟩, .inl ⟨_, Hx.out, HJ3.out⟩⟩
    · have HJ3 := Hj hJx3
      clear hJx3 hk3
      gi_wp2
      go_end0
      exact ⟨⟨_, rfl⟩, .inr ⟨_, ⟨[], by rw [← Hx.out]; simp⟩, HJ3.out⟩⟩
theorem groups_any (X : Nat) (w : World) : Calls Tryz.prog 172 #[.int .u64 X] w fun e w' => e = .returned (.func (.func 207) #[] #[.pointer (some ⟨w.heap.size, 0, none⟩)]) ∧ w' = w.alloc (.cells #[.int .u64 X] 23) := by
 have hmf : ∀ (fn : Fn) (first cap : Array Value) (w : World), (Instr.makeFunc fn first cap).run Tryz.prog w = .ok (.func fn first cap) w := fun _ _ _ _ => rfl
 go_enter Tryz.func172, Tryz.ntmps172
 go_wp2
 go_ret
 exact ⟨rfl, rfl⟩
theorem qby (base : Nat) (v : Value) (l : List Nat) (X : Nat) (w : World) (h : w.ownsRow base 5 1 v (u8s l).length (u8s l)) (hX : X ≤ 18446744073709551615) (hl : l.length ≤ 1099511627776) (hb0 : base ≤ w.heap.size) :
 Calls Tryz.prog 125 #[v, .int .u64 X] w fun e w' => ∃ v', e = .returned v' ∧ RowTo 5 base v w v' (u8s (l ++ venc X)) w' := by
 obtain ⟨i0, hi, hz0, hz1, hz2⟩ := info_parts infoU8
 refine (callsIn_wide (n := 0)).1 ?_
 refine callsIn_of_wp_marks Tryz.func125 rfl trivial ?_ rfl
 simp only [Tryz.ntmps125, List.size_toArray, List.length_cons, List.length_nil, Nat.reduceAdd, Nat.reduceSub, Array.replicate_succ, Array.replicate_zero, List.push_toArray, List.append_toArray, List.nil_append, List.cons_append]
 obtain ⟨ad, cap, rfl⟩ := qac h
 gi_wp2
 refine ⟨trivial, rfl, (callsIn_wide.2 (groups_any X _)).mono ?_⟩
 rintro e w1 ⟨rfl, rfl⟩
 gi_wp2
 obtain ⟨W0, hW0⟩ : ∃ W0, W0 = (w.alloc (.cells #[.slice ad (u8s l).length cap] 29)).alloc (.cells #[.int .u64 (X : Nat)] 23) := ⟨_, rfl⟩
 have hsz : W0.heap.size = w.heap.size + 2 := by rw [hW0]; simp
 have hkW : ∀ S, Keeps S w W0 := fun S => by rw [hW0]; exact ((Keeps.refl S w).alloc _).alloc _
 have hbox : W0.heap[w.heap.size]? = some (.cells #[.slice ad (u8s l).length cap] 29 (0, 0)) := by
  rw [hW0]; exact (Below.heap_alloc _ _ _ (by simp)).trans (heap_alloc_new w _)
 have hx : W0.heap[w.heap.size + 1]? = some (.cells #[.int .u64 (X : Nat)] 23 (0, 0)) := by
  rw [hW0]; have := heap_alloc_new (w.alloc (.cells #[.slice ad (u8s l).length cap] 29)) (.cells #[.int .u64 (X : Nat)] 23); rwa [World.size_alloc] at this
 rw [← hW0]
 clear hW0
 refine qct (gf := 207) (lb := #[.pointer (some ⟨w.heap.size + 1, 0, none⟩)]) rfl (enters_of Tryz.func207 (by kernel_rfl) rfl)
  (groups_seq (w.heap.size + 1) X W0 hX (by rw [cell_of_row _ _ _ _ _ _ hx]; rfl) (frozen_of_row _ _ _ _ _ hx)) (T := fun k => k = w.heap.size ∨ own (.slice ad (u8s l).length cap) k ∨ w.heap.size + 4 ≤ k) (fun x => rfl)
  (fun k hk => by omega) ?hT ?hT2
  (fun pre W => ∃ v', W.heap[w.heap.size]? = some (.cells #[v'] 29 (0, 0)) ∧ RowTo 5 base (.slice ad (u8s l).length cap) w v' (u8s (l ++ pre.map byteOf)) W ∧
    ∀ g, v'.ownBlock = some g → own (.slice ad (u8s l).length cap) g ∨ w.heap.size + 4 ≤ g)
  (fun _ _ _ => False) ?hI (fun _ _ _ _ h _ => h) ?h0
  (fun x => { tmps := #[.slice ad (u8s l).length cap, .int .u64 (X : Nat), .pointer (some ⟨w.heap.size, 0, none⟩), undef, .slice none 0 0, .int .u8 ((x.1 : Nat) : Int), .bool x.2, .int .u64 (X : Nat), .func (.func 207) #[] #[.pointer (some ⟨w.heap.size + 1, 0, none⟩)], .int .u8 ((x.1 : Nat) : Int), .bool x.2, undef, undef, undef, undef, undef, undef, undef, undef, undef], defers := [] }) ?assign ?body ?done ?stop
 case hT =>
  rintro k (rfl | hk | hk) e
  · omega
  · have := (h.lt k hk).2; omega
  · omega
 case hT2 =>
  rintro k (rfl | hk | hk)
  · omega
  · have := (h.lt k hk).2; omega
  · omega
 case hI =>
  rintro pre A B ⟨v', h1, h2, h3⟩ hk
  refine ⟨v', hk.heap h1 (by omega), ⟨hk.row h2.row (fun g hg hs => ?_), h2.keeps.trans hk (fun k hk hs => by omega), h2.new⟩, h3⟩
  rcases h3 g hg with h' | h'
  · have := (h.lt g h').2; omega
  · omega
 case h0 => exact ⟨_, hbox, ⟨by simpa using hkW (fun _ => False) |>.row h (fun _ _ h => h), hkW _, fun g hg => .inl hg⟩, fun g hg => .inl hg⟩
 case assign =>
  intro lp x W K hK
  simp only [encG]
  gi_wp2
  exact hK
 case body =>
  rintro lp pre ⟨c, b⟩ W ⟨v', h1, h2, h3⟩ hsp hsz2
  have hb1 : base ≤ W.heap.size := by omega
  have hc0 : W.cell? ⟨w.heap.size, 0, none⟩ = some v' := by rw [cell_of_row _ _ _ _ _ _ h1]; rfl
  have hf0 : W.frozen? ⟨w.heap.size, 0, none⟩ = false := frozen_of_row _ _ _ _ _ h1
  have hrow := h2.row
  have hlen : (u8s (l ++ pre.map byteOf)).length ≤ 1099511627800 := by
   have h5 := hsp.length_le
   have h6 := qkf 9 X
   rw [qaa, List.length_append, List.length_map]
   simp at h5
   omega
  have hc128 : c < 128 := groupsF_lt 9 X (by omega) (c, b) (hsp.subset (by simp))
  have H1 := Hj h1; have H2 := Hj h2; have H3 := Hj h3
  have fin : ∀ (d : Nat) (v2 : Value) (w2 : World), d = byteOf (c, b) → w2.ownsRow base 5 1 v2 ((u8s (l ++ pre.map byteOf)).length + 1) (u8s (l ++ pre.map byteOf) ++ [.int .u8 (d : Nat)]) →
   (W.alloc (.cells #[.int .u8 (d : Nat)] 5)).grownBy w2 v'.ownBlock → (∀ g, v2.ownBlock = some g → v'.ownBlock = some g ∨ (W.alloc (.cells #[.int .u8 (d : Nat)] 5)).heap.size ≤ g) →
   bodyC (fun k => k = w.heap.size ∨ own (.slice ad (u8s l).length cap) k ∨ w.heap.size + 4 ≤ k)
    (fun pre W => ∃ v', W.heap[w.heap.size]? = some (.cells #[v'] 29 (0, 0)) ∧ RowTo 5 base (.slice ad (u8s l).length cap) w v' (u8s (l ++ pre.map byteOf)) W ∧
      ∀ g, v'.ownBlock = some g → own (.slice ad (u8s l).length cap) g ∨ w.heap.size + 4 ≤ g) (fun _ _ _ => False) (pre ++ [(c, b)]) W .normal { tmps := #[], defers := [] } (w2.setCell ⟨w.heap.size, 0, none⟩ v2) := by
   intro d v2 w2 hd hown' hgrow hnew
   have hk2 : Keeps (own v') W w2 := ((Keeps.refl (own v') W).alloc _).grown hgrow (fun k _ e => e)
   have hvb : ¬ own v' w.heap.size := fun e => by
    obtain ⟨c', hc'⟩ := qak H2.out.row e
    exact qaf hc' H1.out (by decide) rfl
   have hb2 := hk2.heap H1.out hvb
   have hR := H2.out.append (ys := u8s (l ++ pre.map byteOf) ++ [.int .u8 (d : Nat)]) (by simpa using hown') hgrow hnew
   have hset : Keeps (fun k => k = w.heap.size) w2 (w2.setCell ⟨w.heap.size, 0, none⟩ v2) := (Keeps.refl (fun k => k = w.heap.size) w2).setCell (p := ⟨w.heap.size, 0, none⟩) (fun _ => rfl) v2
   have hn2 : ∀ g, v2.ownBlock = some g → own (.slice ad (u8s l).length cap) g ∨ w.heap.size + 4 ≤ g := fun g hg => by
    rcases hnew g hg with h' | h'
    · exact H3.out g h'
    · simp at h'; omega
   refine ⟨?_, v2, ?_, ⟨?_, ?_, ?_⟩, hn2⟩
   · refine (hk2.mono (S' := fun k => k = w.heap.size ∨ own (.slice ad (u8s l).length cap) k ∨ w.heap.size + 4 ≤ k) (fun k _ e => ?_)).trans hset (fun k _ e => .inl e)
     rcases H3.out k e with h' | h'
     · exact .inr (.inl h')
     · exact .inr (.inr h')
   · have := heap_setCell_same w2 w.heap.size 0 _ _ v2 hb2
     simpa using this
   · have e1 : u8s (l ++ (pre ++ [(c, b)]).map byteOf) = u8s (l ++ pre.map byteOf) ++ [.int .u8 (d : Nat)] := by simp [u8s, hd]
     rw [e1]
     refine hset.row hR.row (fun g hg e => ?_)
     subst e
     rcases hn2 _ hg with h' | h'
     · have := (h.lt _ h').2; omega
     · omega
   · exact hR.keeps.trans hset (fun k hk e => by omega)
   · intro g hg
     exact hR.new g hg
  have Hfin := Hj fin
  have Hsp := Hj hsp
  clear h1 h2 h3 fin hsp
  cases b
  · have ho := or128 c hc128
    obtain ⟨d, hd⟩ : ∃ d, d = c + 128 := ⟨_, rfl⟩
    rw [← hd] at ho
    have Hd := Hj hd
    clear hd
    gi_wp2_with (gi_at_builtin; refine qcw _ rfl _ _ 29 rfl base 5 i0 (.int .u8 0) 1 1 Tryz.underlying29 hi hz0 hz1 hz2 rfl (by decide) _ _ _ rfl (hrow.alloc _) ⟨W.heap.size, 0, none⟩ 1 1 [.int .u8 (d : Nat)] rfl rfl ?c1 ?c2 ?c3 ?c4 ?c5 ?_)
    case c1 => exact cell_one_new _ _ _
    case c2 => simp [Value.oneCell']
    case c3 => unfold maxLen; omega
    case c4 => omega
    case c5 => simp; omega
    intro v2 w2 hown' hgrow hnew
    obtain ⟨ad2, cap2, rfl⟩ := qac hown'
    have hk2 : Keeps (own v') W w2 := ((Keeps.refl (own v') W).alloc _).grown hgrow (fun k _ e => e)
    have hvb : ¬ own v' w.heap.size := fun e => by
     obtain ⟨c', hc'⟩ := qak H2.out.row e
     exact qaf hc' H1.out (by decide) rfl
    have d0 : w2.cell? ⟨w.heap.size, 0, none⟩ = some v' := hk2.cell hc0 hvb
    have e0 : w2.frozen? ⟨w.heap.size, 0, none⟩ = false := (qbq hk2 hc0 hvb).trans hf0
    have HF := Hj (Hfin.out _ _ w2 (by rw [Hd.out]; rfl) hown' hgrow (by simpa using hnew))
    clear hown' hgrow hnew hk2 hvb hc0 hf0 hrow
    gi_wp2
    exact HF.out
  · gi_wp2_with (gi_at_builtin; refine qcw _ rfl _ _ 29 rfl base 5 i0 (.int .u8 0) 1 1 Tryz.underlying29 hi hz0 hz1 hz2 rfl (by decide) _ _ _ rfl (hrow.alloc _) ⟨W.heap.size, 0, none⟩ 1 1 [.int .u8 (c : Nat)] rfl rfl ?c1 ?c2 ?c3 ?c4 ?c5 ?_)
    case c1 => exact cell_one_new _ _ _
    case c2 => simp [Value.oneCell']
    case c3 => unfold maxLen; omega
    case c4 => omega
    case c5 => simp; omega
    intro v2 w2 hown' hgrow hnew
    obtain ⟨ad2, cap2, rfl⟩ := qac hown'
    have hk2 : Keeps (own v') W w2 := ((Keeps.refl (own v') W).alloc _).grown hgrow (fun k _ e => e)
    have hvb : ¬ own v' w.heap.size := fun e => by
     obtain ⟨c', hc'⟩ := qak H2.out.row e
     exact qaf hc' H1.out (by decide) rfl
    have d0 : w2.cell? ⟨w.heap.size, 0, none⟩ = some v' := hk2.cell hc0 hvb
    have e0 : w2.frozen? ⟨w.heap.size, 0, none⟩ = false := (qbq hk2 hc0 hvb).trans hf0
    have HF := Hj (Hfin.out _ _ w2 rfl hown' hgrow (by simpa using hnew))
    clear hown' hgrow hnew hk2 hvb hc0 hf0 hrow
    gi_wp2
    exact HF.out
 case done =>
  rintro D xs W rfl ⟨v', h1, h2, h3⟩ hD hK
  have hc0 : W.cell? ⟨w.heap.size, 0, none⟩ = some v' := by rw [cell_of_row _ _ _ _ _ _ h1]; rfl
  rw [venc_groups] at h2
  have H2 := Hj h2
  clear h1 h2 h3
  gi_wp2
  refine ⟨by simp, .inl ⟨_, _, rfl, run_takeDeferred hK, ?_⟩⟩
  refine ⟨_, results_tmp rfl _ _ _, ⟨_, rfl, ?_⟩⟩
  have hp : Keeps (fun k => k = D) W (W.putObj D (.deferred none)) := Keeps.putObj _ _ _ rfl
  refine ⟨hp.row H2.out.row (fun g hg e => ?_), H2.out.keeps.trans hp (fun k hk e => by omega), H2.out.new⟩
  obtain ⟨c', hc'⟩ := qak H2.out.row hg
  subst e
  rw [hK] at hc'
  cases hc'
 case stop => rintro D c pre W _ h; exact h.elim
end
section
open Go.RowKit
def ordI (a b : Int) : Int := if a < b then -1 else if b < a then 1 else 0
abbrev Smp := Int × Int
abbrev Ser := List Lab × List Smp
def smpF (x : Smp) : Value := .int .i64 x.1
def smpG (x : Smp) : Value := .int .u64 x.2
def smpC (l : List Smp) : List Value := cells2 smpF smpG l
def RdS (w : World) (v : Value) (l : List Smp) : Prop := Rd 2 w v l.length (smpC l)
theorem RdS.below {a b : World} {v : Value} {l : List Smp} (h : RdS a v l) (hb : Below a.heap.size a b) : RdS b v l := Rd.below h hb
theorem RdS.at {w : World} {ad : Option Addr} {cap : Nat} {l : List Smp} (h : RdS w (.slice ad l.length cap) l) {i : Nat} {x : Smp} (hx : l[i]? = some x) :
 ∃ b off, ad = some ⟨b, off, none⟩ ∧ w.cell? ⟨b, off + i * 2, none⟩ = some (.int .i64 x.1) ∧ w.cell? ⟨b, off + i * 2 + 1, none⟩ = some (.int .u64 x.2) := Rd.at2 (f := smpF) (g := smpG) h hx
structure Hdr where
 la : Option Addr
 ln : Nat
 lc : Nat
 sa : Option Addr
 sn : Nat
 sc : Nat
def Hdr.lv (h : Hdr) : Value := .slice h.la h.ln h.lc
def Hdr.sv (h : Hdr) : Value := .slice h.sa h.sn h.sc
def hdrC (hs : List Hdr) : List Value := cells2 Hdr.lv Hdr.sv hs
def RdH (w : World) (v : Value) (hs : List Hdr) : Prop := Rd 2 w v hs.length (hdrC hs)
def SerOk (w : World) (h : Hdr) (x : Ser) : Prop := RdL w h.lv x.1 ∧ RdS w h.sv x.2
def RdB (w : World) (v : Value) (hs : List Hdr) (b : List Ser) : Prop := hs.length = b.length ∧ RdH w v hs ∧ ∀ (i : Nat) (h : Hdr) (x : Ser), hs[i]? = some h → b[i]? = some x → SerOk w h x
theorem RdH.below {a b : World} {v : Value} {l : List Hdr} (h : RdH a v l) (hb : Below a.heap.size a b) : RdH b v l := Rd.below h hb
theorem SerOk.below {a b : World} {h : Hdr} {x : Ser} (hh : SerOk a h x) (hb : Below a.heap.size a b) : SerOk b h x := ⟨hh.1.below hb, hh.2.below hb⟩
theorem RdB.below {a b : World} {v : Value} {hs : List Hdr} {l : List Ser} (h : RdB a v hs l) (hb : Below a.heap.size a b) : RdB b v hs l := ⟨h.1, h.2.1.below hb, fun i x y h1 h2 => (h.2.2 i x y h1 h2).below hb⟩
theorem RdH.at {w : World} {ad : Option Addr} {cap : Nat} {l : List Hdr} (h : RdH w (.slice ad l.length cap) l) {i : Nat} {x : Hdr} (hx : l[i]? = some x) :
 ∃ b off, ad = some ⟨b, off, none⟩ ∧ w.cell? ⟨b, off + i * 2, none⟩ = some (.slice x.la x.ln x.lc) ∧ w.cell? ⟨b, off + i * 2 + 1, none⟩ = some (.slice x.sa x.sn x.sc) := Rd.at2 (f := Hdr.lv) (g := Hdr.sv) h hx
theorem SerOk.lens {w : World} {h : Hdr} {x : Ser} (hh : SerOk w h x) : h.ln = x.1.length ∧ h.sn = x.2.length := by
 obtain ⟨⟨_, a, c, e, _⟩, ⟨_, a', c', e', _⟩⟩ := hh
 simp only [Hdr.lv, Hdr.sv, Value.slice.injEq] at e e'
 exact ⟨e.2.1, e'.2.1⟩
def ascE {α : Type} (c : α → α → Int) (eq : Int) : List α → Int
 | [] => 0
 | [_] => 0
 | x :: y :: r => if c x y = 0 then eq else if 0 < c x y then 16 else ascE c eq (y :: r)
def cmpT (x y : Smp) : Int := ordI x.1 y.1
def serE (x : Ser) : Int := if chkE none x.1 ≠ 0 then chkE none x.1 else if x.2.length = 0 then 21 else ascE cmpT 20 x.2
def cmpB (x y : Ser) : Int := cmpL x.1 y.1
def bloE : Option Ser → List Ser → Int
 | _, [] => 0
 | p, x :: r =>
   if serE x ≠ 0 then serE x
   else match p with
    | none => bloE (some x) r
    | some q => if cmpB q x = 0 then 19 else if 0 < cmpB q x then 16 else bloE (some x) r
def qai : List Ser → Nat
 | [] => 0
 | x :: r => x.2.length + qai r
def modE (b : List Ser) : Int := if 1048576 < b.length ∨ 16777216 < qai b then 7 else bloE none b
theorem qeg (b : List Ser) : ∀ k, qai (b.take k) + qai (b.drop k) = qai b := by
 induction b with
 | nil => intro k; simp [qai]
 | cons x r ih =>
   intro k
   cases k with
   | zero => simp [qai]
   | succ k => simp only [List.take_succ_cons, List.drop_succ_cons, qai]; have := ih k; omega
theorem qgg (b : List Ser) (k : Nat) (x : Ser) (h : b[k]? = some x) : qai (b.take (k + 1)) = qai (b.take k) + x.2.length := by
 have h1 := qeg b k
 have h2 := qeg b (k + 1)
 obtain ⟨hk, e⟩ := List.getElem?_eq_some_iff.1 h
 rw [List.drop_eq_getElem_cons hk, e] at h1
 simp only [qai] at h1
 omega
theorem qiw (b : List Ser) (k : Nat) : qai (b.take k) ≤ qai b := by have := qeg b k; omega
end
end Go.Proofs.YtfpcgcbehdogjaaGreatDoor
