/-
  Lemmas on which LTopChunks rests, packed out of the texts SortA SortB SortC SortD SortE SortF SortG; each for all arguments under the hypotheses it names.
-/
import Derived.Test.YtfpcgcbehdogjaaGreatDoorT00
import Derived.Test.YtfpcgcbehdogjaaGreatDoorRows
import Derived.WalkKit
import Derived.Sort.Row
import Derived.Sort.AssemblyPlain
import Derived.Deep.QuietTactic
import Derived.BigQuiet
import Derived.BigRegion
import Derived.Lib.Hide
namespace Go.Proofs.YtfpcgcbehdogjaaGreatDoor
section
set_option maxHeartbeats 2000000
set_option maxRecDepth 100000
open Go.RowKit
def ltN (x y : Nat) : Bool := decide (x < y)
theorem ltN_swo : Go.Sort.SWO ltN where
 irrefl x := by simp [ltN]
 trans x y z := by simp [ltN]; omega
 ntrans x y z := by simp [ltN]; omega
def encN (x : Nat) : Value := .int .u64 ((x : Nat) : Int)
structure Arr (w0 w : World) (blk off : Nat) (d : Array Nat) : Prop where
 os : w.os = w0.os
 tape : w.tape = w0.tape
 output : w.output = w0.output
 size : w0.heap.size ≤ w.heap.size
 block : ∀ k, k < w0.heap.size → k ≠ blk → w.heap[k]? = w0.heap[k]?
 cell : ∀ j, j < d.size → w.cell? ⟨blk, off + j, none⟩ = some (.int .u64 ((d[j]! : Nat) : Int))
 fro : ∀ j, j < d.size → w.frozen? ⟨blk, off + j, none⟩ = false
theorem Arr.drewN {w0 w : World} {blk off : Nat} {d : Array Nat} (h : Arr w0 w blk off d) (n : Nat) : Arr w0 (w.drewN n) blk off d := ⟨h.os, h.tape, h.output, h.size, h.block, h.cell, h.fro⟩
theorem uNaN_any (x : Int) (w : World) : Calls Tryz.prog 194 #[.int .u64 x] w fun e w' => e = .returned (.bool false) ∧ w' = w := by
 go_enter Tryz.func194, Tryz.ntmps194
 go_wp2
 go_ret
 exact ⟨by simp, rfl⟩
theorem qai (x y : Nat) (w : World) : Calls Tryz.prog 158 #[.int .u64 (x : Int), .int .u64 (y : Int)] w fun e w' => e = .returned (.bool (ltN x y)) ∧ w' = w := by
 go_enter Tryz.func158, Tryz.ntmps158
 go_wp2_with (go_at_call 194; refine (uNaN_any _ _).mono ?_; rintro e w' ⟨rfl, rfl⟩)
 go_ret
 exact ⟨by simp [ltN], rfl⟩
theorem Arr.swap {w0 w : World} {blk off : Nat} {d : Array Nat} (h : Arr w0 w blk off d) {i j : Nat} (hi : i < d.size) (hj : j < d.size) {x y : Nat} (hx : d[j]! = x) (hy : d[i]! = y) :
 Arr w0 ((w.setCell ⟨blk, off + i, none⟩ (.int .u64 ((x : Nat) : Int))).setCell ⟨blk, off + j, none⟩ (.int .u64 ((y : Nat) : Int))) blk off (Go.Sort.swp d i j) := by
 subst hx hy
 have hH : Go.Sort.Holds encN w blk off d := fun k hk => ⟨h.cell k hk, h.fro k hk⟩
 have e := Go.Sort.putRow_swp encN w blk off d i j hi hj
 rw [Go.Sort.putRow_self encN w blk off d hH] at e
 have hs : (Go.Sort.swp d i j).size = d.size := Go.Sort.size_swp d i j
 have hh := Go.Sort.holds_putRow encN w blk off d (Go.Sort.swp d i j) hH hs
 show Arr w0 ((w.setCell ⟨blk, off + i, none⟩ (encN d[j]!)).setCell ⟨blk, off + j, none⟩ (encN d[i]!)) blk off (Go.Sort.swp d i j)
 rw [e]
 refine ⟨h.os, h.tape, h.output, ?_, fun k hk hn => ?_, fun k hk => (hh k hk).1, fun k hk => (hh k hk).2⟩
 · show _ ≤ (w.heap.modify blk _).size
   rw [Array.size_modify]; exact h.size
 · show (w.heap.modify blk _)[k]? = _
   rw [Array.getElem?_modify, if_neg (fun e => hn e.symm)]
   exact h.block k hk hn
theorem insIn_go (a q : Nat) (d : Array Nat) (hj : a < q + 1) (hl : ltN d[q + 1]! d[q]! = true) : Go.Sort.insInner ltN a (q + 1) d = Go.Sort.insInner ltN a q (Go.Sort.swp d (q + 1) q) := by
 rw [Go.Sort.insInner]
 simp [hj, hl]
theorem insIn_stop (a j : Nat) (d : Array Nat) (h : j ≤ a ∨ ∃ q, j = q + 1 ∧ ltN d[q + 1]! d[q]! = false) : Go.Sort.insInner ltN a j d = d := by
 cases j with
 | zero => rw [Go.Sort.insInner]
 | succ k =>
   rw [Go.Sort.insInner]
   rcases h with h | ⟨q, e, h⟩
   · rw [if_neg (by simp; omega)]
   · obtain rfl : k = q := by omega
     rw [h]; simp
theorem insOut_go (a b i : Nat) (d : Array Nat) (h : i < b) : Go.Sort.insOuter ltN a b i d = Go.Sort.insOuter ltN a b (i + 1) (Go.Sort.insInner ltN a i d) := by rw [Go.Sort.insOuter, if_pos h]
theorem insOut_stop (a b i : Nat) (d : Array Nat) (h : ¬ i < b) : Go.Sort.insOuter ltN a b i d = d := by rw [Go.Sort.insOuter, if_neg h]
theorem uIns_any (w0 w : World) (blk off cap a b : Nat) (d : Array Nat) (h : Arr w0 w blk off d) (hab : a ≤ b) (hb : b ≤ d.size) (hsz : d.size ≤ 1099511627776) :
 Calls Tryz.prog 217 #[.slice (some ⟨blk, off, none⟩) d.size cap, .int .i64 (a : Int), .int .i64 (b : Int)] w fun e w' => e = .returned (.tuple #[]) ∧ Arr w0 w' blk off (Go.Sort.insertionSort ltN d a b) := by
 have HH := Hj h
 clear h
 go_enter Tryz.func217, Tryz.ntmps217
 go_wp2
 go_loopw [6] (fun c wr => ∃ (i : Nat) (dk : Array Nat), c = .int .i64 (i : Int) ∧ a < i ∧ i ≤ b + 1 ∧ dk.size = d.size ∧ Hid (Arr w0 wr blk off dk) ∧ Hid (Go.Sort.insOuter ltN a b i dk = Go.Sort.insOuter ltN a b (a + 1) d)) (fun c _ => b + 1 - (intOf c).toNat)
 case atStart => exact ⟨a + 1, d, by go_num, by omega, by omega, rfl, HH, Hj rfl⟩
 case round =>
  obtain ⟨i, dk, rfl, hai, hib, hsk, HA, HO⟩ := hrel
  by_cases hlt : i < b
  · have hlti : (i : Int) < (b : Int) := by omega
    go_wp2
    go_loopw [7] (fun c wr => ∃ (j : Nat) (dj : Array Nat), c = .int .i64 (j : Int) ∧ a ≤ j ∧ j ≤ i ∧ dj.size = d.size ∧ Hid (Arr w0 wr blk off dj) ∧ Hid (Go.Sort.insInner ltN a j dj = Go.Sort.insInner ltN a i dk)) (fun c _ => (intOf c).toNat)
    case atStart => exact ⟨i, dk, rfl, by omega, Nat.le_refl _, hsk, HA, Hj rfl⟩
    case round =>
     obtain ⟨j, dj, rfl, haj, hji, hsj, HAj, HI⟩ := hrel
     by_cases hja : a < j
     · obtain ⟨q, rfl⟩ : ∃ q, j = q + 1 := ⟨j - 1, by omega⟩
       have hq1 : q + 1 < dj.size := by omega
       have c0 := HAj.out.cell (q + 1) hq1; have c1 := HAj.out.cell q (by omega)
       have f0 := HAj.out.fro (q + 1) hq1; have f1 := HAj.out.fro q (by omega)
       obtain ⟨x, hx⟩ : ∃ x, dj[q + 1]! = x := ⟨_, rfl⟩
       obtain ⟨y, hy⟩ : ∃ y, dj[q]! = y := ⟨_, rfl⟩
       rw [hx] at c0
       rw [hy] at c1
       have HX := Hj hx; have HY := Hj hy; have HQ := Hj hq1
       have hqi : (a : Int) < (q : Int) + 1 := by omega
       have hqs : (q : Int) + 1 < (d.size : Int) := by omega
       have hqb : (q : Int) ≤ 1099511627776 := by omega
       clear hx hy hq1
       cases hl : ltN x y with
       | true =>
         have HN : Hid (∀ wq, Arr w0 wq blk off (Go.Sort.swp dj (q + 1) q) → ∃ (j : Nat) (dj : Array Nat), Value.int .i64 (q : Int) = .int .i64 (j : Int) ∧ a ≤ j ∧ j ≤ i ∧ dj.size = d.size ∧ Hid (Arr w0 wq blk off dj) ∧ Hid (Go.Sort.insInner ltN a j dj = Go.Sort.insInner ltN a i dk)) := Hj (fun wq hq =>
          ⟨q, _, rfl, by omega, by omega, by rw [Go.Sort.size_swp, hsj], Hj hq, Hj (by rw [← HI.out, insIn_go a q dj (by omega) (by rw [HX.out, HY.out]; exact hl)])⟩)
         go_wp2
         go_quiet ((go_at_call 158; exact Calls.quiet_of_same (qai _ _ _)))
         go_wp2
         go_region
         go_wp2
         exact ⟨HN.out _ ((HAj.out.drewN _).swap HQ.out (by have := HQ.out; omega) HY.out HX.out), by simp [intOf]⟩
       | false =>
         have HF : Hid (Go.Sort.insInner ltN a i dk = dj) := Hj (by rw [← HI.out]; exact insIn_stop a (q + 1) dj (.inr ⟨q, rfl, by rw [HX.out, HY.out]; exact hl⟩))
         go_wp2
         go_quiet ((go_at_call 158; exact Calls.quiet_of_same (qai _ _ _)))
         go_wp2
         exact ⟨⟨i + 1, dj, by go_num, by omega, by omega, hsj, Hj (HAj.out.drewN _), Hj (by rw [← HO.out, insOut_go _ _ _ _ hlt, HF.out])⟩, by simp [intOf]; omega⟩
     · have HF : Hid (Go.Sort.insInner ltN a i dk = dj) := Hj (by rw [← HI.out]; exact insIn_stop a j dj (.inl (by omega)))
       have hja' : (decide ((a : Int) < (j : Int))) = false := by simp; omega
       go_wp2
       go_quiet (fail)
       go_wp2
       exact ⟨⟨i + 1, dj, by go_num, by omega, by omega, hsj, Hj (HAj.out.drewN _), Hj (by rw [← HO.out, insOut_go _ _ _ _ hlt, HF.out])⟩, by simp [intOf]; omega⟩
  · have hge : ¬ (i : Int) < (b : Int) := by omega
    go_wp2
    go_end0
    exact ⟨rfl, by unfold Go.Sort.insertionSort; rw [← HO.out, insOut_stop _ _ _ _ hlt]; exact HA.out⟩
end
section
set_option maxHeartbeats 4000000
set_option maxRecDepth 100000
open Go.RowKit
theorem sift_stop (hi f r : Nat) (d : Array Nat) (h : hi ≤ 2 * r + 1) : Go.Sort.siftDown ltN hi f r d = d := by
 rw [Go.Sort.siftDown, dif_pos h]
theorem sift_left (hi f r : Nat) (d : Array Nat) (h : 2 * r + 1 < hi) (h2 : ¬ 2 * r + 2 < hi ∨ ltN d[f + (2 * r + 1)]! d[f + (2 * r + 2)]! = false) :
 Go.Sort.siftDown ltN hi f r d = if ltN d[f + r]! d[f + (2 * r + 1)]! = true then Go.Sort.siftDown ltN hi f (2 * r + 1) (Go.Sort.swp d (f + r) (f + (2 * r + 1))) else d := by
 rw [Go.Sort.siftDown, dif_neg (by omega)]
 have e : (decide (2 * r + 1 + 1 < hi) && ltN d[f + (2 * r + 1)]! d[f + (2 * r + 1) + 1]!) = false := by
  rcases h2 with h2 | h2
  · rw [decide_eq_false (by omega)]; rfl
  · rw [show f + (2 * r + 1) + 1 = f + (2 * r + 2) by omega, h2, Bool.and_false]
 rw [if_neg (by rw [e]; decide)]
 cases ltN d[f + r]! d[f + (2 * r + 1)]! <;> simp
theorem sift_right (hi f r : Nat) (d : Array Nat) (h : 2 * r + 2 < hi) (h2 : ltN d[f + (2 * r + 1)]! d[f + (2 * r + 2)]! = true) :
 Go.Sort.siftDown ltN hi f r d = if ltN d[f + r]! d[f + (2 * r + 2)]! = true then Go.Sort.siftDown ltN hi f (2 * r + 2) (Go.Sort.swp d (f + r) (f + (2 * r + 2))) else d := by
 rw [Go.Sort.siftDown, dif_neg (by omega)]
 have e : (decide (2 * r + 1 + 1 < hi) && ltN d[f + (2 * r + 1)]! d[f + (2 * r + 1) + 1]!) = true := by
  rw [show f + (2 * r + 1) + 1 = f + (2 * r + 2) by omega, h2, decide_eq_true (by omega)]; rfl
 rw [if_pos e]
 cases ltN d[f + r]! d[f + (2 * r + 2)]!
 · simp
 · simp [h]
theorem uSift_any (w0 w : World) (blk off cap lo hi f : Nat) (d : Array Nat) (h : Arr w0 w blk off d) (hf : f + hi ≤ d.size) (hlo : lo ≤ hi) (hsz : d.size ≤ 1099511627776) :
 Calls Tryz.prog 237 #[.slice (some ⟨blk, off, none⟩) d.size cap, .int .i64 (lo : Int), .int .i64 (hi : Int), .int .i64 (f : Int)] w fun e w' => e = .returned (.tuple #[]) ∧ Arr w0 w' blk off (Go.Sort.siftDown ltN hi f lo d) := by
 have HH := Hj h
 clear h
 go_enter Tryz.func237, Tryz.ntmps237
 go_wp2
 go_loopw [8] (fun c wr => ∃ (r : Nat) (dk : Array Nat), c = .int .i64 (r : Int) ∧ r ≤ hi ∧ dk.size = d.size ∧ Hid (Arr w0 wr blk off dk) ∧ Hid (Go.Sort.siftDown ltN hi f r dk = Go.Sort.siftDown ltN hi f lo d)) (fun c _ => hi - (intOf c).toNat)
 case atStart => exact ⟨lo, d, rfl, hlo, rfl, HH, Hj rfl⟩
 case round =>
  obtain ⟨r, dk, rfl, hrh, hsk, HA, HO⟩ := hrel
  obtain ⟨c, hc⟩ : ∃ c, c = 2 * r + 1 := ⟨_, rfl⟩
  have ec : 2 * (r : Int) + 1 = (c : Int) := by omega
  by_cases hst : hi ≤ c
  · have hst' : (hi : Int) ≤ (c : Int) := by omega
    have HF : Hid (Go.Sort.siftDown ltN hi f lo d = dk) := Hj (by rw [← HO.out]; exact sift_stop hi f r dk (by omega))
    clear hst hc
    go_wp2
    go_end0
    exact ⟨rfl, by rw [HF.out]; exact HA.out⟩
  · have hst' : (c : Int) < (hi : Int) := by omega
    obtain ⟨I, hI⟩ : ∃ I, I = f + r := ⟨_, rfl⟩
    obtain ⟨J, hJ⟩ : ∃ J, J = f + c := ⟨_, rfl⟩
    have eI : (f : Int) + (r : Int) = (I : Int) := by omega
    have eJ : (f : Int) + (c : Int) = (J : Int) := by omega
    have hIs : (I : Int) < (d.size : Int) := by omega
    have hJs : (J : Int) < (d.size : Int) := by omega
    have hI2 : I < dk.size := by omega
    have hJ2 : J < dk.size := by omega
    have hbig : (d.size : Int) ≤ 1099511627776 := by omega
    have c0 := HA.out.cell I hI2; have c1 := HA.out.cell J hJ2
    have f0 := HA.out.fro I hI2; have f1 := HA.out.fro J hJ2
    obtain ⟨x, hx⟩ : ∃ x, dk[I]! = x := ⟨_, rfl⟩
    obtain ⟨y, hy⟩ : ∃ y, dk[J]! = y := ⟨_, rfl⟩
    rw [hx] at c0
    rw [hy] at c1
    have HX := Hj hx; have HY := Hj hy; have HI2 := Hj hI2; have HJ2 := Hj hJ2; have HI := Hj hI; have HJ := Hj hJ; have HC := Hj hc; have HST := Hj hst
    clear hx hy hI2 hJ2
    obtain ⟨e, he⟩ : ∃ e, e = c + 1 := ⟨_, rfl⟩
    have ee : (c : Int) + 1 = (e : Int) := by omega
    have hebig : (e : Int) ≤ 2199023255552 := by omega
    have he0 : (0 : Int) ≤ (e : Int) := by omega
    have HE := Hj he
    by_cases hg : e < hi
    · have hg1 : (e : Int) < (hi : Int) := by omega
      obtain ⟨K, hK⟩ : ∃ K, K = f + e := ⟨_, rfl⟩
      have eK : (f : Int) + (e : Int) = (K : Int) := by omega
      have eJK : (J : Int) + 1 = (K : Int) := by omega
      have hKs : (K : Int) < (d.size : Int) := by omega
      have hK2 : K < dk.size := by omega
      have c2 := HA.out.cell K hK2; have f2 := HA.out.fro K hK2
      obtain ⟨z, hz⟩ : ∃ z, dk[K]! = z := ⟨_, rfl⟩
      rw [hz] at c2
      have HZ := Hj hz; have HK2 := Hj hK2; have HK := Hj hK; have HG := Hj hg
      clear hz hK2 hg hK hI hJ hc he hst
      cases hyz : ltN y z with
      | true =>
        have HS : Hid (Go.Sort.siftDown ltN hi f lo d = if ltN x z = true then Go.Sort.siftDown ltN hi f e (Go.Sort.swp dk I K) else dk) := Hj (by
         have h := sift_right hi f r dk (by have := HG.out; have := HC.out; have := HE.out; omega) (by rw [show f + (2 * r + 1) = J by have := HJ.out; have := HC.out; omega, show f + (2 * r + 2) = K by have := HK.out; have := HC.out; have := HE.out; omega, HY.out, HZ.out]; exact hyz)
         rw [show f + (2 * r + 2) = K by have := HK.out; have := HC.out; have := HE.out; omega, show f + r = I from HI.out.symm, show 2 * r + 2 = e by have := HC.out; have := HE.out; omega, HX.out, HZ.out] at h
         rw [← HO.out, h])
        cases hl : ltN x z with
        | true =>
          have HN : Hid (Go.Sort.siftDown ltN hi f e (Go.Sort.swp dk I K) = Go.Sort.siftDown ltN hi f lo d) := Hj (by rw [HS.out, if_pos hl])
          clear HS
          go_wp2
          go_quiet ((go_at_call 158; exact Calls.quiet_of_same (qai _ _ _)))
          go_wp2
          have HAq := Hj (HA.out.drewN nq)
          have q0 := HAq.out.cell I HI2.out; have q1 := HAq.out.cell K HK2.out
          have g0 := HAq.out.fro I HI2.out; have g1 := HAq.out.fro K HK2.out
          rw [HX.out] at q0
          rw [HZ.out] at q1
          generalize wr.drewN nq = wq at *
          go_quiet ((go_at_call 158; exact Calls.quiet_of_same (qai _ _ _)))
          go_wp2
          go_region
          go_wp2
          exact ⟨⟨e, _, rfl, by have := HG.out; omega, by rw [Go.Sort.size_swp, hsk], Hj ((HAq.out.drewN _).swap HI2.out HK2.out HZ.out HX.out), HN⟩, by have := HC.out; have := HE.out; simp [intOf]; omega⟩
        | false =>
          have HF : Hid (Go.Sort.siftDown ltN hi f lo d = dk) := Hj (by rw [HS.out, if_neg (by rw [hl]; decide)])
          clear HS
          go_wp2
          go_quiet ((go_at_call 158; exact Calls.quiet_of_same (qai _ _ _)))
          go_wp2
          have HAq := Hj (HA.out.drewN nq)
          have q0 := HAq.out.cell I HI2.out; have q1 := HAq.out.cell K HK2.out
          have g0 := HAq.out.fro I HI2.out; have g1 := HAq.out.fro K HK2.out
          rw [HX.out] at q0
          rw [HZ.out] at q1
          generalize wr.drewN nq = wq at *
          go_quiet ((go_at_call 158; exact Calls.quiet_of_same (qai _ _ _)))
          go_wp2
          first | go_end0 | (refine bodyPost_ret (results_none rfl _ _ _) rfl ?_)
          exact ⟨rfl, by rw [HF.out]; exact HAq.out.drewN _⟩
      | false =>
        have HS : Hid (Go.Sort.siftDown ltN hi f lo d = if ltN x y = true then Go.Sort.siftDown ltN hi f c (Go.Sort.swp dk I J) else dk) := Hj (by
         have h := sift_left hi f r dk (by have := HST.out; have := HC.out; omega) (.inr (by rw [show f + (2 * r + 1) = J by have := HJ.out; have := HC.out; omega, show f + (2 * r + 2) = K by have := HK.out; have := HC.out; have := HE.out; omega, HY.out, HZ.out]; exact hyz))
         rw [show f + (2 * r + 1) = J by have := HJ.out; have := HC.out; omega, show f + r = I from HI.out.symm, show 2 * r + 1 = c from HC.out.symm, HX.out, HY.out] at h
         rw [← HO.out, h])
        cases hl : ltN x y with
        | true =>
          have HN : Hid (Go.Sort.siftDown ltN hi f c (Go.Sort.swp dk I J) = Go.Sort.siftDown ltN hi f lo d) := Hj (by rw [HS.out, if_pos hl])
          clear HS
          go_wp2
          go_quiet ((go_at_call 158; exact Calls.quiet_of_same (qai _ _ _)))
          go_wp2
          have HAq := Hj (HA.out.drewN nq)
          have q0 := HAq.out.cell I HI2.out; have q1 := HAq.out.cell J HJ2.out
          have g0 := HAq.out.fro I HI2.out; have g1 := HAq.out.fro J HJ2.out
          rw [HX.out] at q0
          rw [HY.out] at q1
          generalize wr.drewN nq = wq at *
          go_quiet ((go_at_call 158; exact Calls.quiet_of_same (qai _ _ _)))
          go_wp2
          go_region
          go_wp2
          exact ⟨⟨c, _, rfl, by have := HST.out; omega, by rw [Go.Sort.size_swp, hsk], Hj ((HAq.out.drewN _).swap HI2.out HJ2.out HY.out HX.out), HN⟩, by have := HC.out; simp [intOf]; omega⟩
        | false =>
          have HF : Hid (Go.Sort.siftDown ltN hi f lo d = dk) := Hj (by rw [HS.out, if_neg (by rw [hl]; decide)])
          clear HS
          go_wp2
          go_quiet ((go_at_call 158; exact Calls.quiet_of_same (qai _ _ _)))
          go_wp2
          have HAq := Hj (HA.out.drewN nq)
          have q0 := HAq.out.cell I HI2.out; have q1 := HAq.out.cell J HJ2.out
          have g0 := HAq.out.fro I HI2.out; have g1 := HAq.out.fro J HJ2.out
          rw [HX.out] at q0
          rw [HY.out] at q1
          generalize wr.drewN nq = wq at *
          go_quiet ((go_at_call 158; exact Calls.quiet_of_same (qai _ _ _)))
          go_wp2
          first | go_end0 | (refine bodyPost_ret (results_none rfl _ _ _) rfl ?_)
          exact ⟨rfl, by rw [HF.out]; exact HAq.out.drewN _⟩
    · have hg1 : (decide ((e : Int) < (hi : Int))) = false := by simp; omega
      have hwe : IntKind.i64.wrap (e : Int) = (e : Int) := by rw [IntKind.wrap_i64]; omega
      clear hI hJ hc hst
      have HS : Hid (Go.Sort.siftDown ltN hi f lo d = if ltN x y = true then Go.Sort.siftDown ltN hi f c (Go.Sort.swp dk I J) else dk) := Hj (by
       have h := sift_left hi f r dk (by have := HST.out; have := HC.out; omega) (.inl (by have := HC.out; omega))
       rw [show f + (2 * r + 1) = J by have := HJ.out; have := HC.out; omega, show f + r = I from HI.out.symm, show 2 * r + 1 = c from HC.out.symm, HX.out, HY.out] at h
       rw [← HO.out, h])
      have hg2 : (decide (e < hi)) = false := by simp; omega
      have hg2 : (decide (e < hi)) = false := by simp; omega
      clear hg he
      cases hl : ltN x y with
      | true =>
        have HN : Hid (Go.Sort.siftDown ltN hi f c (Go.Sort.swp dk I J) = Go.Sort.siftDown ltN hi f lo d) := Hj (by rw [HS.out, if_pos hl])
        clear HS
        go_wp2
        go_quiet (fail)
        go_wp2
        have HAq := Hj (HA.out.drewN nq)
        have q0 := HAq.out.cell I HI2.out; have q1 := HAq.out.cell J HJ2.out
        have g0 := HAq.out.fro I HI2.out; have g1 := HAq.out.fro J HJ2.out
        rw [HX.out] at q0
        rw [HY.out] at q1
        generalize wr.drewN nq = wq at *
        go_quiet ((go_at_call 158; exact Calls.quiet_of_same (qai _ _ _)))
        go_wp2
        go_region
        go_wp2
        exact ⟨⟨c, _, rfl, by have := HST.out; omega, by rw [Go.Sort.size_swp, hsk], Hj ((HAq.out.drewN _).swap HI2.out HJ2.out HY.out HX.out), HN⟩, by have := HC.out; simp [intOf]; omega⟩
      | false =>
        have HF : Hid (Go.Sort.siftDown ltN hi f lo d = dk) := Hj (by rw [HS.out, if_neg (by rw [hl]; decide)])
        clear HS
        go_wp2
        go_quiet (fail)
        go_wp2
        have HAq := Hj (HA.out.drewN nq)
        have q0 := HAq.out.cell I HI2.out; have q1 := HAq.out.cell J HJ2.out
        have g0 := HAq.out.fro I HI2.out; have g1 := HAq.out.fro J HJ2.out
        rw [HX.out] at q0
        rw [HY.out] at q1
        generalize wr.drewN nq = wq at *
        go_quiet ((go_at_call 158; exact Calls.quiet_of_same (qai _ _ _)))
        go_wp2
        first | go_end0 | (refine bodyPost_ret (results_none rfl _ _ _) rfl ?_)
        exact ⟨rfl, by rw [HF.out]; exact HAq.out.drewN _⟩
end
section
set_option maxHeartbeats 4000000
set_option maxRecDepth 100000
open Go.RowKit
theorem uSift_at (w0 w : World) (blk off cap sz lo hi f : Nat) (d : Array Nat) (h : Arr w0 w blk off d) (hs : d.size = sz) (hf : f + hi ≤ sz) (hlo : lo ≤ hi) (hsz : sz ≤ 1099511627776) :
 Calls Tryz.prog 237 #[.slice (some ⟨blk, off, none⟩) sz cap, .int .i64 (lo : Int), .int .i64 (hi : Int), .int .i64 (f : Int)] w fun e w' => e = .returned (.tuple #[]) ∧ Arr w0 w' blk off (Go.Sort.siftDown ltN hi f lo d) := by
 subst hs
 exact uSift_any w0 w blk off cap lo hi f d h hf hlo hsz
theorem sift_size (hi f : Nat) (d : Array Nat) (lo : Nat) : (Go.Sort.siftDown ltN hi f lo d).size = d.size := by
 fun_induction Go.Sort.siftDown ltN hi f lo d <;> simp_all [Go.Sort.size_swp]
theorem uHeap_any (w0 w : World) (blk off cap a b : Nat) (d : Array Nat) (h : Arr w0 w blk off d) (hab : a < b) (hb : b ≤ d.size) (hsz : d.size ≤ 1099511627776) :
 Calls Tryz.prog 218 #[.slice (some ⟨blk, off, none⟩) d.size cap, .int .i64 (a : Int), .int .i64 (b : Int)] w fun e w' => e = .returned (.tuple #[]) ∧ Arr w0 w' blk off (Go.Sort.heapSort ltN d a b) := by
 have HH := Hj h
 clear h
 obtain ⟨n1, rfl⟩ : ∃ n1, b = a + n1 + 1 := ⟨b - a - 1, by omega⟩
 obtain ⟨b, hbb⟩ : ∃ b, b = a + n1 + 1 := ⟨_, rfl⟩
 rw [← hbb] at hb ⊢
 obtain ⟨n, hn⟩ : ∃ n, n = n1 + 1 := ⟨_, rfl⟩
 obtain ⟨m, hm⟩ : ∃ m, m = n1 / 2 := ⟨_, rfl⟩
 have e1 : (b : Int) - (a : Int) = (n : Int) := by omega
 have e2 : (n : Int) - 1 = (n1 : Int) := by omega
 have e3 : (n1 : Int) / 2 = (m : Int) := by omega
 have HS : Hid (Go.Sort.heapSort ltN d a b = Go.Sort.heapPop ltN a n (Go.Sort.heapBuild ltN n a (m + 1) d)) := Hj (by
  unfold Go.Sort.heapSort
  rw [show b - a = n by omega, show (n - 1) / 2 + 1 = m + 1 by omega])
 have hbig : (n1 : Int) ≤ 1099511627776 := by omega
 have hmn : m ≤ n1 := by omega
 have HM := Hj hm; have HN := Hj hn; have HB := Hj hbb; have HAB := Hj hab
 clear hm hn hbb hab
 go_enter Tryz.func218, Tryz.ntmps218
 go_wp2
 go_loopw [9] (fun c wr => ∃ (i : Int) (k : Nat) (dk : Array Nat), c = .int .i64 i ∧ i + 1 = (k : Int) ∧ k ≤ m + 1 ∧ dk.size = d.size ∧ Hid (Arr w0 wr blk off dk) ∧ Hid (Go.Sort.heapBuild ltN n a k dk = Go.Sort.heapBuild ltN n a (m + 1) d)) (fun c _ => (intOf c + 1).toNat)
 case atStart => exact ⟨_, m + 1, d, rfl, by omega, Nat.le_refl _, rfl, HH, Hj rfl⟩
 case round =>
  obtain ⟨i, k, dk, rfl, hik, hkm, hsk, HA, HO⟩ := hrel
  cases k with
  | succ q =>
    obtain rfl : i = (q : Int) := by omega
    have HC := Hj (uSift_at w0 wr blk off cap d.size q n a dk HA.out hsk (by have := HN.out; have := HB.out; omega) (by have := HN.out; omega) hsz)
    have hq0 : (0 : Int) ≤ (q : Int) := by omega
    clear hik
    go_wp2_with (go_at_call 237; refine HC.out.mono ?_; rintro e w1 ⟨rfl, hA⟩)
    exact ⟨⟨_, q, _, rfl, by omega, by omega, by rw [sift_size, hsk], Hj hA, Hj (by rw [← HO.out]; rfl)⟩, by simp [intOf]⟩
  | zero =>
    obtain rfl : i = -1 := by omega
    have HD : Hid (Go.Sort.heapBuild ltN n a (m + 1) d = dk) := Hj (by rw [← HO.out]; rfl)
    clear hik
    go_wp2
    go_loopw [10] (fun c wr => ∃ (i : Int) (k : Nat) (dj : Array Nat), c = .int .i64 i ∧ i + 1 = (k : Int) ∧ k ≤ n ∧ dj.size = d.size ∧ Hid (Arr w0 wr blk off dj) ∧ Hid (Go.Sort.heapPop ltN a k dj = Go.Sort.heapPop ltN a n dk)) (fun c _ => (intOf c + 1).toNat)
    case atStart => exact ⟨_, n, dk, rfl, by omega, Nat.le_refl _, hsk, HA, Hj rfl⟩
    case round =>
     obtain ⟨i, k, dj, rfl, hik, hkm, hsj, HAj, HOj⟩ := hrel
     cases k with
     | succ q =>
       obtain rfl : i = (q : Int) := by omega
       have hq0 : (0 : Int) ≤ (q : Int) := by omega
       obtain ⟨J, hJ⟩ : ∃ J, J = a + q := ⟨_, rfl⟩
       have eJ : (a : Int) + (q : Int) = (J : Int) := by omega
       have ha1 : a < dj.size := by have := HN.out; have := HB.out; omega
       have hJ1 : J < dj.size := by have := HN.out; have := HB.out; omega
       have has : (a : Int) < (d.size : Int) := by omega
       have hJs : (J : Int) < (d.size : Int) := by omega
       have c0 := HAj.out.cell a ha1; have c1 := HAj.out.cell J hJ1
       have f0 := HAj.out.fro a ha1; have f1 := HAj.out.fro J hJ1
       obtain ⟨x, hx⟩ : ∃ x, dj[a]! = x := ⟨_, rfl⟩
       obtain ⟨y, hy⟩ : ∃ y, dj[J]! = y := ⟨_, rfl⟩
       rw [hx] at c0
       rw [hy] at c1
       have HX := Hj hx; have HY := Hj hy; have HA1 := Hj ha1; have HJ1 := Hj hJ1; have HJ := Hj hJ
       have HC := Hj (fun wq dq (hq : Arr w0 wq blk off dq) (hs : dq.size = d.size) => uSift_at w0 wq blk off cap d.size 0 q a dq hq hs (by have := HN.out; have := HB.out; omega) (Nat.zero_le _) hsz)
       clear hik hx hy ha1 hJ1 hJ
       have HNX : Hid (∀ wq, Arr w0 wq blk off (Go.Sort.siftDown ltN q a 0 (Go.Sort.swp dj a J)) → ∃ (i : Int) (k : Nat) (dj : Array Nat), Value.int .i64 ((q : Int) - 1) = .int .i64 i ∧ i + 1 = (k : Int) ∧ k ≤ n ∧ dj.size = d.size ∧ Hid (Arr w0 wq blk off dj) ∧ Hid (Go.Sort.heapPop ltN a k dj = Go.Sort.heapPop ltN a n dk)) := Hj (fun wq hq =>
        ⟨_, q, _, rfl, by omega, by omega, by rw [sift_size, Go.Sort.size_swp, hsj], Hj hq, Hj (by rw [← HOj.out, HJ.out]; rfl)⟩)
       have HSW : Hid (∀ m, Arr w0 (((wr.drewN m).setCell ⟨blk, off + a, none⟩ (.int .u64 (y : Int))).setCell ⟨blk, off + J, none⟩ (.int .u64 (x : Int))) blk off (Go.Sort.swp dj a J)) := Hj (fun m => (HAj.out.drewN m).swap HA1.out HJ1.out HY.out HX.out)
       by_cases hq : q = 0
       · obtain rfl : J = a := by have := HJ.out; omega
         obtain rfl : y = x := by rw [← HX.out, ← HY.out]
         clear hq c1 f1
         go_wp2
         go_region
         go_wp2_with (go_at_call 237; refine (HC.out _ _ (HSW.out 1) (by rw [Go.Sort.size_swp, hsj])).mono ?_; rintro e w1 ⟨rfl, hA⟩)
         exact ⟨HNX.out _ hA, by simp [intOf]⟩
       · have hne : a < J := by have := HJ.out; omega
         have hne2 : ¬ (off + J = off + a) := by omega
         clear hq
         go_wp2
         go_region
         go_wp2_with (go_at_call 237; refine (HC.out _ _ (HSW.out _) (by rw [Go.Sort.size_swp, hsj])).mono ?_; rintro e w1 ⟨rfl, hA⟩)
         exact ⟨HNX.out _ hA, by simp [intOf]⟩
     | zero =>
       obtain rfl : i = -1 := by omega
       clear hik
       go_wp2
       go_end0
       exact ⟨rfl, by rw [HS.out, HD.out, ← HOj.out]; exact HAj.out⟩
end
section
set_option maxHeartbeats 1000000
set_option maxRecDepth 100000
open Go.RowKit
structure Cnt (w0 w : World) (blk off : Nat) (d : Array Nat) (p : Nat) : Prop where
 arr : Arr w0 w blk off d
 cell : ∃ z : Int, w.cell? ⟨p, 0, none⟩ = some (.int .i64 z)
 fro : w.frozen? ⟨p, 0, none⟩ = false
theorem Cnt.drewN {w0 w : World} {blk off : Nat} {d : Array Nat} {p : Nat} (h : Cnt w0 w blk off d p) (n : Nat) : Cnt w0 (w.drewN n) blk off d p := ⟨h.arr.drewN n, h.cell, h.fro⟩
theorem qal (w : World) (p q : Addr) (v : Value) (h : q.block ≠ p.block) : (w.setCell p v).cell? q = w.cell? q := by
 simp [World.setCell, World.cell?, Array.getElem?_modify, Ne.symm h]
theorem qbi (w : World) (p q : Addr) (v : Value) : (w.setCell p v).frozen? q = w.frozen? q := by
 obtain ⟨b, o, s⟩ := p
 simp only [World.setCell, World.frozen?, Array.getElem?_modify]
 by_cases hk : b = q.block
 · simp only [hk, if_true]
   cases w.heap[q.block]? with
   | none => rfl
   | some o => cases o <;> rfl
 · simp [hk]
theorem Cnt.put {w0 w : World} {blk off : Nat} {d : Array Nat} {p : Nat} (h : Cnt w0 w blk off d p) (hp : w0.heap.size ≤ p) (hb : p ≠ blk) (z : Int) : Cnt w0 (w.setCell ⟨p, 0, none⟩ (.int .i64 z)) blk off d p := by
 obtain ⟨z0, hz⟩ := h.cell
 refine ⟨⟨h.arr.os, h.arr.tape, h.arr.output, ?_, fun k hk hn => ?_, fun j hj => ?_, fun j hj => ?_⟩, ⟨z, ?_⟩, ?_⟩
 · show _ ≤ (w.heap.modify p _).size
   rw [Array.size_modify]; exact h.arr.size
 · show (w.heap.modify p _)[k]? = _
   rw [Array.getElem?_modify, if_neg (by omega)]
   exact h.arr.block k hk hn
 · rw [qal _ _ _ _ (by simpa using Ne.symm hb)]; exact h.arr.cell j hj
 · rw [qbi]; exact h.arr.fro j hj
 · exact World.cell?_setCell_same _ _ _ hz
 · rw [qbi]; exact h.fro
theorem uOrd_any (w0 w : World) (blk off cap i j p : Nat) (d : Array Nat) (h : Cnt w0 w blk off d p) (hp : w0.heap.size ≤ p) (hb : p ≠ blk) (hi : i < d.size) (hj : j < d.size) :
 Calls Tryz.prog 253 #[.slice (some ⟨blk, off, none⟩) d.size cap, .int .i64 (i : Int), .int .i64 (j : Int), .pointer (some ⟨p, 0, none⟩)] w fun e w' =>
  (e = .returned (.tuple #[.int .i64 (i : Int), .int .i64 (j : Int)]) ∨ e = .returned (.tuple #[.int .i64 (j : Int), .int .i64 (i : Int)])) ∧ Cnt w0 w' blk off d p := by
 have HH := Hj h
 have c0 := h.arr.cell i hi; have c1 := h.arr.cell j hj
 generalize d[i]! = x at c0
 generalize d[j]! = y at c1
 have hi' : (i : Int) < (d.size : Int) := by omega
 have hj' : (j : Int) < (d.size : Int) := by omega
 clear h
 go_enter Tryz.func253, Tryz.ntmps253
 go_wp2
 go_quiet ((go_at_call 158; exact Calls.quiet_of_same (qai _ _ _)))
 have HQ := Hj (HH.out.drewN nq)
 obtain ⟨z, hz⟩ := HQ.out.cell
 have hf := HQ.out.fro
 generalize w.drewN nq = wq at *
 go_wp2
 · go_ret2
   exact ⟨.inr rfl, HQ.out.put hp hb _⟩
 · go_ret2
   exact ⟨.inl rfl, HQ.out⟩
theorem uOrd_at (w0 w : World) (blk off cap sz i j p : Nat) (d : Array Nat) (h : Cnt w0 w blk off d p) (hs : d.size = sz) (hp : w0.heap.size ≤ p) (hb : p ≠ blk) (hi : i < sz) (hj : j < sz) :
 Calls Tryz.prog 253 #[.slice (some ⟨blk, off, none⟩) sz cap, .int .i64 (i : Int), .int .i64 (j : Int), .pointer (some ⟨p, 0, none⟩)] w fun e w' =>
  (∃ r s : Nat, e = .returned (.tuple #[.int .i64 (r : Int), .int .i64 (s : Int)]) ∧ (r = i ∨ r = j) ∧ (s = i ∨ s = j)) ∧ Cnt w0 w' blk off d p := by
 subst hs
 refine (uOrd_any w0 w blk off cap i j p d h hp hb hi hj).mono ?_
 rintro e w' ⟨rfl | rfl, hc⟩
 · exact ⟨⟨i, j, rfl, .inl rfl, .inr rfl⟩, hc⟩
 · exact ⟨⟨j, i, rfl, .inr rfl, .inl rfl⟩, hc⟩
theorem uMed_any (w0 w : World) (blk off cap sz a b c p : Nat) (d : Array Nat) (h : Cnt w0 w blk off d p) (hs : d.size = sz) (hp : w0.heap.size ≤ p) (hb : p ≠ blk) (ha : a < sz) (hbb : b < sz) (hc : c < sz) :
 Calls Tryz.prog 241 #[.slice (some ⟨blk, off, none⟩) sz cap, .int .i64 (a : Int), .int .i64 (b : Int), .int .i64 (c : Int), .pointer (some ⟨p, 0, none⟩)] w fun e w' =>
  (∃ r : Nat, e = .returned (.int .i64 (r : Int)) ∧ (r = a ∨ r = b ∨ r = c)) ∧ Cnt w0 w' blk off d p := by
 have HC := Hj (fun wq i j (hq : Cnt w0 wq blk off d p) (hi : i < sz) (hj : j < sz) => uOrd_at w0 wq blk off cap sz i j p d hq hs hp hb hi hj)
 have HH := Hj h
 clear h
 go_enter Tryz.func241, Tryz.ntmps241
 go_wp2_with fail
 refine (HC.out _ _ _ HH.out ha hbb).mono ?_; rintro e w1 ⟨⟨r1, s1, rfl, hr1, hs1⟩, hc1⟩; have H1 := Hj hc1; have R1 := Hj hr1; have S1 := Hj hs1; have s1z : s1 < sz := (by omega); have r1z : r1 < sz := (by omega); clear hc1 hr1 hs1
 go_wp2_with fail
 refine (HC.out _ _ _ H1.out s1z hc).mono ?_; rintro e w2 ⟨⟨r2, s2, rfl, hr2, hs2⟩, hc2⟩; have H2 := Hj hc2; have R2 := Hj hr2; have S2 := Hj hs2; have s2z : s2 < sz := (by omega); have r2z : r2 < sz := (by omega); clear hc2 hr2 hs2
 go_wp2_with fail
 refine (HC.out _ _ _ H2.out r1z r2z).mono ?_; rintro e w3 ⟨⟨r3, s3, rfl, hr3, hs3⟩, hc3⟩; have H3 := Hj hc3; have S3 := Hj hs3; clear hc3 hr3 hs3
 go_wp2
 go_ret
 exact ⟨⟨s3, rfl, by have := R1.out; have := S1.out; have := R2.out; have := S3.out; omega⟩, H3.out⟩
end
section
set_option maxHeartbeats 2000000
set_option maxRecDepth 100000
open Go.RowKit
theorem uMeda_any (w0 w : World) (blk off cap sz x p : Nat) (d : Array Nat) (h : Cnt w0 w blk off d p) (hs : d.size = sz) (hp : w0.heap.size ≤ p) (hb : p ≠ blk) (hx : 1 ≤ x) (hx2 : x + 1 < sz) (hsz : sz ≤ 1099511627776) :
 Calls Tryz.prog 240 #[.slice (some ⟨blk, off, none⟩) sz cap, .int .i64 (x : Int), .pointer (some ⟨p, 0, none⟩)] w fun e w' =>
  (∃ r : Nat, e = .returned (.int .i64 (r : Int)) ∧ x ≤ r + 1 ∧ r ≤ x + 1) ∧ Cnt w0 w' blk off d p := by
 obtain ⟨y, hy⟩ : ∃ y, x = y + 1 := ⟨x - 1, by omega⟩
 obtain ⟨z, hz⟩ : ∃ z, z = x + 1 := ⟨_, rfl⟩
 have e1 : (x : Int) - 1 = (y : Int) := by omega
 have e2 : (x : Int) + 1 = (z : Int) := by omega
 have hxb : (z : Int) ≤ 1099511627776 := by omega
 have HC := Hj (uMed_any w0 w blk off cap sz y x z p d h hs hp hb (by omega) (by omega) (by omega))
 have HY := Hj hy; have HZ := Hj hz
 clear h hy hz
 go_enter Tryz.func240, Tryz.ntmps240
 go_wp2_with (go_at_call 241; refine HC.out.mono ?_; rintro e w1 ⟨⟨r, rfl, hr⟩, hc⟩)
 go_ret
 exact ⟨⟨r, rfl, by have := HY.out; have := HZ.out; omega, by have := HY.out; have := HZ.out; omega⟩, hc⟩
theorem Arr.count {w0 w : World} {blk off : Nat} {d : Array Nat} (h : Arr w0 w blk off d) (hd : 0 < d.size) : Cnt w0 (w.alloc (.cells #[.int .i64 0] 3)) blk off d w.heap.size ∧ w.heap.size ≠ blk := by
 have hlt : blk < w.heap.size := World.block_lt_of_cell? w _ (h.cell 0 hd)
 have hb : ∀ k, k < w.heap.size → (w.alloc (.cells #[.int .i64 0] 3)).heap[k]? = w.heap[k]? := fun k hk => Below.heap_alloc w _ k hk
 refine ⟨⟨⟨h.os, h.tape, h.output, by have := h.size; simp; omega, fun k hk hn => ?_, fun j hj => ?_, fun j hj => ?_⟩, ⟨0, by simp⟩, by simp⟩, by omega⟩
 · rw [hb k (by have := h.size; omega)]; exact h.block k hk hn
 · rw [← h.cell j hj]; simp only [World.cell?, hb blk hlt]
 · rw [← h.fro j hj]; simp only [World.frozen?, hb blk hlt]
theorem uPiv_any (w0 w : World) (blk off cap a b : Nat) (d : Array Nat) (h : Arr w0 w blk off d) (hab : a + 12 < b) (hb : b ≤ d.size) (hsz : d.size ≤ 1099511627776) :
 Calls Tryz.prog 220 #[.slice (some ⟨blk, off, none⟩) d.size cap, .int .i64 (a : Int), .int .i64 (b : Int)] w fun e w' =>
  (∃ r s : Nat, e = .returned (.tuple #[.int .i64 (r : Int), .int .i64 (s : Int)]) ∧ a ≤ r ∧ r < b ∧ s ≤ 2) ∧ Arr w0 w' blk off d := by
 obtain ⟨hc, hne⟩ := h.count (by omega)
 have hps : w0.heap.size ≤ w.heap.size := h.size
 obtain ⟨l, hl⟩ : ∃ l, l = b - a := ⟨_, rfl⟩
 obtain ⟨q, hq⟩ : ∃ q, q = l / 4 := ⟨_, rfl⟩
 obtain ⟨I, hI⟩ : ∃ I, I = a + q := ⟨_, rfl⟩
 obtain ⟨J, hJ⟩ : ∃ J, J = a + q * 2 := ⟨_, rfl⟩
 obtain ⟨K, hK⟩ : ∃ K, K = a + q * 3 := ⟨_, rfl⟩
 have e0 : (b : Int) - (a : Int) = (l : Int) := by omega
 have e1 : (l : Int) / 4 = (q : Int) := by omega
 have e2 : (a : Int) + (q : Int) = (I : Int) := by omega
 have e3 : (a : Int) + (q : Int) * 2 = (J : Int) := by omega
 have e4 : (a : Int) + (q : Int) * 3 = (K : Int) := by omega
 have h8 : (8 : Int) ≤ (l : Int) := by omega
 have hq0 : (q : Int) ≤ 1099511627776 := by omega
 have hK0 : (K : Int) ≤ 1099511627776 := by omega
 have HM := Hj (fun wq x y z (hq : Cnt w0 wq blk off d w.heap.size) (hx : x < d.size) (hy : y < d.size) (hz : z < d.size) => uMed_any w0 wq blk off cap d.size x y z w.heap.size d hq rfl hps hne hx hy hz)
 have HA := Hj (fun wq x (hq : Cnt w0 wq blk off d w.heap.size) (hx : 1 ≤ x) (hy : x + 1 < d.size) => uMeda_any w0 wq blk off cap d.size x w.heap.size d hq rfl hps hne hx hy hsz)
 have HC := Hj hc; have HL := Hj hl; have HQ := Hj hq; have HI := Hj hI; have HJ := Hj hJ; have HK := Hj hK; have HAB := Hj hab
 clear h hc hl hq hI hJ hK hab hps hne
 by_cases h50 : 50 ≤ l
 · have h50' : (50 : Int) ≤ (l : Int) := by omega
   have HR : Hid (3 ≤ I ∧ I + 1 < b ∧ 1 ≤ I ∧ 1 ≤ J ∧ J + 1 < b ∧ 1 ≤ K ∧ K + 1 < b ∧ a ≤ I - 1 ∧ a ≤ J - 1 ∧ a ≤ K - 1) := Hj (by have := HL.out; have := HQ.out; have := HI.out; have := HJ.out; have := HK.out; omega)
   clear h50
   go_enter Tryz.func220, Tryz.ntmps220
   go_wp2_with fail
   refine (HA.out _ I HC.out (by have := HR.out; omega) (by have := HR.out; omega)).mono ?_
   rintro e w1 ⟨⟨r1, rfl, hr1, hr1'⟩, hc1⟩
   have H1 := Hj hc1; clear hc1
   go_wp2_with fail
   refine (HA.out _ J H1.out (by have := HR.out; omega) (by have := HR.out; omega)).mono ?_
   rintro e w2 ⟨⟨r2, rfl, hr2, hr2'⟩, hc2⟩
   have H2 := Hj hc2; clear hc2
   go_wp2_with fail
   refine (HA.out _ K H2.out (by have := HR.out; omega) (by have := HR.out; omega)).mono ?_
   rintro e w3 ⟨⟨r3, rfl, hr3, hr3'⟩, hc3⟩
   have H3 := Hj hc3; clear hc3
   go_wp2_with fail
   refine (HM.out _ r1 r2 r3 H3.out (by have := HR.out; omega) (by have := HR.out; omega) (by have := HR.out; omega)).mono ?_
   rintro e w4 ⟨⟨r4, rfl, hr4⟩, hc4⟩
   obtain ⟨z, hz⟩ := hc4.cell
   have H4 := Hj hc4; clear hc4
   have hra : a ≤ r4 := by have := HR.out; omega
   have hrb : r4 < b := by have := HR.out; omega
   clear hr1 hr1' hr2 hr2' hr3 hr3' hr4
   go_wp2
   all_goals
    go_ret2
    first
     | exact ⟨⟨r4, 1, rfl, by omega, by omega, by omega⟩, H4.out.arr⟩
     | exact ⟨⟨r4, 2, rfl, by omega, by omega, by omega⟩, H4.out.arr⟩
     | exact ⟨⟨r4, 0, rfl, by omega, by omega, by omega⟩, H4.out.arr⟩
 · have h50' : (decide ((50 : Int) ≤ (l : Int))) = false := by simp; omega
   have h50'' : ¬ (50 : Int) ≤ (l : Int) := by omega
   have HR : Hid (a ≤ I ∧ a ≤ J ∧ a ≤ K ∧ I < b ∧ J < b ∧ K < b) := Hj (by have := HL.out; have := HQ.out; have := HI.out; have := HJ.out; have := HK.out; omega)
   clear h50
   go_enter Tryz.func220, Tryz.ntmps220
   go_wp2_with fail
   refine (HM.out _ I J K HC.out (by have := HR.out; omega) (by have := HR.out; omega) (by have := HR.out; omega)).mono ?_
   rintro e w4 ⟨⟨r4, rfl, hr4⟩, hc4⟩
   obtain ⟨z, hz⟩ := hc4.cell
   have H4 := Hj hc4; clear hc4
   have hra : a ≤ r4 := by have := HR.out; omega
   have hrb : r4 < b := by have := HR.out; omega
   clear hr4
   go_wp2
   all_goals
    go_ret2
    first
     | exact ⟨⟨r4, 1, rfl, by omega, by omega, by omega⟩, H4.out.arr⟩
     | exact ⟨⟨r4, 2, rfl, by omega, by omega, by omega⟩, H4.out.arr⟩
     | exact ⟨⟨r4, 0, rfl, by omega, by omega, by omega⟩, H4.out.arr⟩
end
section
set_option maxHeartbeats 2000000
set_option maxRecDepth 100000
open Go.RowKit
theorem scU_go (p : Nat → Bool) (d : Array Nat) (j i : Nat) (h : i ≤ j) (hp : p d[i]! = true) : Go.Sort.scanUp p d j i = Go.Sort.scanUp p d j (i + 1) := by
 rw [Go.Sort.scanUp, if_pos (by simp [h, hp])]
theorem scU_end (p : Nat → Bool) (d : Array Nat) (j i : Nat) (h : j < i ∨ p d[i]! = false) : Go.Sort.scanUp p d j i = i := by
 rw [Go.Sort.scanUp, if_neg (by rcases h with h | h <;> simp [h] <;> omega)]
theorem scD_go (p : Nat → Bool) (d : Array Nat) (i j : Nat) (h : i ≤ j + 1) (hp : p d[j + 1]! = true) : Go.Sort.scanDown p d i (j + 1) = Go.Sort.scanDown p d i j := by
 rw [Go.Sort.scanDown, if_pos (by simp [h, hp])]
theorem scD_end (p : Nat → Bool) (d : Array Nat) (i j : Nat) (h : j < i ∨ p d[j]! = false) : Go.Sort.scanDown p d i j = j := by
 cases j with
 | zero => rw [Go.Sort.scanDown]
 | succ k => rw [Go.Sort.scanDown, if_neg (by rcases h with h | h <;> simp [h] <;> omega)]
theorem rev_go (i j : Nat) (d : Array Nat) (h : i < j) : Go.Sort.reverseLoop i j d = Go.Sort.reverseLoop (i + 1) (j - 1) (Go.Sort.swp d i j) := by rw [Go.Sort.reverseLoop, if_pos h]
theorem rev_end (i j : Nat) (d : Array Nat) (h : ¬ i < j) : Go.Sort.reverseLoop i j d = d := by rw [Go.Sort.reverseLoop, if_neg h]
theorem uRev_any (w0 w : World) (blk off cap a b : Nat) (d : Array Nat) (h : Arr w0 w blk off d) (hab : a < b) (hb : b ≤ d.size) (hsz : d.size ≤ 1099511627776) :
 Calls Tryz.prog 221 #[.slice (some ⟨blk, off, none⟩) d.size cap, .int .i64 (a : Int), .int .i64 (b : Int)] w fun e w' => e = .returned (.tuple #[]) ∧ Arr w0 w' blk off (Go.Sort.reverseRange d a b) := by
 have HH := Hj h
 clear h
 obtain ⟨b1, rfl⟩ : ∃ b1, b = b1 + 1 := ⟨b - 1, by omega⟩
 go_enter Tryz.func221, Tryz.ntmps221
 go_wp2
 go_loopw [6, 7] (fun ci cj wr => ∃ (i j : Nat) (dk : Array Nat), ci = .int .i64 (i : Int) ∧ cj = .int .i64 (j : Int) ∧ a ≤ i ∧ i ≤ j + 1 ∧ j ≤ b1 ∧ dk.size = d.size ∧ Hid (Arr w0 wr blk off dk) ∧ Hid (Go.Sort.reverseLoop i j dk = Go.Sort.reverseRange d a (b1 + 1))) (fun ci cj _ => (intOf cj + 1 - intOf ci).toNat)
 case atStart => exact ⟨a, b1, d, rfl, by go_num, Nat.le_refl _, by omega, Nat.le_refl _, rfl, HH, Hj rfl⟩
 case round =>
  obtain ⟨i, j, dk, rfl, rfl, hai, hij, hjb, hsk, HA, HO⟩ := hrel
  by_cases hlt : i < j
  · have hlti : (i : Int) < (j : Int) := by omega
    obtain ⟨J, hJJ⟩ : ∃ J, J = j := ⟨_, rfl⟩
    subst hJJ
    obtain ⟨q, hJ⟩ : ∃ q, J = q + 1 := ⟨J - 1, by omega⟩
    have hi1 : i < dk.size := by omega
    have hj1 : J < dk.size := by omega
    have his : (i : Int) < (d.size : Int) := by omega
    have hjs : (J : Int) < (d.size : Int) := by omega
    have eJ : (J : Int) - 1 = (q : Int) := by omega
    have hJb : (J : Int) ≤ 1099511627776 := by omega
    have c0 := HA.out.cell i hi1; have c1 := HA.out.cell J hj1
    have f0 := HA.out.fro i hi1; have f1 := HA.out.fro J hj1
    obtain ⟨x, hx⟩ : ∃ x, dk[i]! = x := ⟨_, rfl⟩
    obtain ⟨y, hy⟩ : ∃ y, dk[J]! = y := ⟨_, rfl⟩
    rw [hx] at c0
    rw [hy] at c1
    have hne2 : ¬ (off + J = off + i) := by omega
    have HN : Hid (∀ wq, Arr w0 wq blk off (Go.Sort.swp dk i J) → ∃ (i2 j2 : Nat) (dj : Array Nat), Value.int .i64 ((i : Int) + 1) = .int .i64 (i2 : Int) ∧ Value.int .i64 (q : Int) = .int .i64 (j2 : Int) ∧ a ≤ i2 ∧ i2 ≤ j2 + 1 ∧ j2 ≤ b1 ∧ dj.size = d.size ∧ Hid (Arr w0 wq blk off dj) ∧ Hid (Go.Sort.reverseLoop i2 j2 dj = Go.Sort.reverseRange d a (b1 + 1))) := Hj (fun wq hq =>
     ⟨i + 1, q, _, by simp, rfl, by omega, by omega, by omega, by rw [Go.Sort.size_swp, hsk], Hj hq, Hj (by rw [← HO.out, rev_go i J dk hlt, hJ]; rfl)⟩)
    have HS : Hid (∀ m, Arr w0 (((wr.drewN m).setCell ⟨blk, off + i, none⟩ (.int .u64 (y : Int))).setCell ⟨blk, off + J, none⟩ (.int .u64 (x : Int))) blk off (Go.Sort.swp dk i J)) := Hj (fun m => (HA.out.drewN m).swap hi1 hj1 hy hx)
    clear hx hy hi1 hj1 hlt hJ
    go_wp2
    go_region
    go_wp2
    exact ⟨HN.out _ (HS.out _), by simp [intOf]; omega⟩
  · have hge : ¬ (i : Int) < (j : Int) := by omega
    go_wp2
    go_end0
    exact ⟨rfl, by rw [← HO.out, rev_end _ _ _ hlt]; exact HA.out⟩
end
section
set_option maxHeartbeats 4000000
set_option maxRecDepth 100000
open Go.RowKit
theorem Arr.two {w0 w : World} {blk off : Nat} {d : Array Nat} (h : Arr w0 w blk off d) {i j : Nat} (hi : i < d.size) (hj : j < d.size) (v : Value) :
 ∃ v', (w.setCell ⟨blk, off + i, none⟩ v).cell? ⟨blk, off + j, none⟩ = some v' := by
 by_cases e : i = j
 · subst e; exact ⟨v, World.cell?_setCell_same _ _ _ (h.cell i hi)⟩
 · refine ⟨.int .u64 ((d[j]! : Nat) : Int), ?_⟩
   rw [World.cell?_setCell_other _ _ _ _ (by simp)]
   exact h.cell j hj
theorem peq_end (a i j i2 j2 : Nat) (d : Array Nat) (hi : i2 = Go.Sort.scanUp (fun x => !ltN d[a]! x) d j i) (hj : j2 = Go.Sort.scanDown (fun x => ltN d[a]! x) d i2 j) (h : j2 < i2) : Go.Sort.partEqLoop ltN a i j d = (i2, d) := by
 subst hi; subst hj
 rw [Go.Sort.partEqLoop_eq, if_pos h]
theorem peq_go (a i j i2 j2 : Nat) (d : Array Nat) (hi : i2 = Go.Sort.scanUp (fun x => !ltN d[a]! x) d j i) (hj : j2 = Go.Sort.scanDown (fun x => ltN d[a]! x) d i2 j) (h : ¬ j2 < i2) :
 Go.Sort.partEqLoop ltN a i j d = Go.Sort.partEqLoop ltN a (i2 + 1) (j2 - 1) (Go.Sort.swp d i2 j2) := by
 subst hi; subst hj
 rw [Go.Sort.partEqLoop_eq, if_neg h]
theorem uPeq_any (w0 w : World) (blk off cap a b p : Nat) (d : Array Nat) (h : Arr w0 w blk off d) (hap : a ≤ p) (hpb : p < b) (hb : b ≤ d.size) (hsz : d.size ≤ 1099511627776) :
 Calls Tryz.prog 223 #[.slice (some ⟨blk, off, none⟩) d.size cap, .int .i64 (a : Int), .int .i64 (b : Int), .int .i64 (p : Int)] w fun e w' =>
  e = .returned (.int .i64 (((Go.Sort.partitionEqual ltN d a b p).1 : Nat) : Int)) ∧ Arr w0 w' blk off (Go.Sort.partitionEqual ltN d a b p).2 := by
 have HH := Hj h
 obtain ⟨b1, rfl⟩ : ∃ b1, b = b1 + 1 := ⟨b - 1, by omega⟩
 have ha1 : a < d.size := by omega
 have hp1 : p < d.size := by omega
 have has : (a : Int) < (d.size : Int) := by omega
 have hps : (p : Int) < (d.size : Int) := by omega
 have c0 := h.cell a ha1; have c1 := h.cell p hp1
 have f0 := h.fro a ha1; have f1 := h.fro p hp1
 obtain ⟨x, hx⟩ : ∃ x, d[a]! = x := ⟨_, rfl⟩
 obtain ⟨y, hy⟩ : ∃ y, d[p]! = y := ⟨_, rfl⟩
 rw [hx] at c0
 rw [hy] at c1
 obtain ⟨v2, h2⟩ := h.two ha1 hp1 (.int .u64 (y : Int))
 have HS : Hid (∀ m, Arr w0 (((w.drewN m).setCell ⟨blk, off + a, none⟩ (.int .u64 (y : Int))).setCell ⟨blk, off + p, none⟩ (.int .u64 (x : Int))) blk off (Go.Sort.swp d a p)) := Hj (fun m => (h.drewN m).swap ha1 hp1 hy hx)
 have HR : Hid (Go.Sort.partitionEqual ltN d a (b1 + 1) p = Go.Sort.partEqLoop ltN a (a + 1) b1 (Go.Sort.swp d a p)) := Hj rfl
 rw [HR.out]
 have HSZ := Hj (Go.Sort.size_swp d a p)
 generalize Go.Sort.swp d a p = d1 at HS HR HSZ ⊢
 clear h hx hy ha1 hp1
 go_enter Tryz.func223, Tryz.ntmps223
 go_wp2
 go_region
 go_wp2
 go_loopw [9, 10] (fun ci cj wr => ∃ (i j : Nat) (dk : Array Nat), ci = .int .i64 (i : Int) ∧ cj = .int .i64 (j : Int) ∧ a + 1 ≤ i ∧ i ≤ j + 1 ∧ j ≤ b1 ∧ dk.size = d.size ∧ Hid (Arr w0 wr blk off dk) ∧ Hid (Go.Sort.partEqLoop ltN a i j dk = Go.Sort.partEqLoop ltN a (a + 1) b1 d1)) (fun ci cj _ => (intOf cj + 1 - intOf ci).toNat)
 case atStart => exact ⟨a + 1, b1, d1, by simp, by go_num, Nat.le_refl _, by omega, Nat.le_refl _, HSZ.out, Hj (HS.out _), Hj rfl⟩
 case round =>
  clear c0 c1 f0 f1 h2
  obtain ⟨i, j, dk, rfl, rfl, hai, hij, hjb, hsk, HA, HO⟩ := hrel
  obtain ⟨x, hx⟩ : ∃ x, dk[a]! = x := ⟨_, rfl⟩
  have HX := Hj hx
  clear hx
  go_wp2
  go_loopw [9] (fun ci wr => ∃ (i2 : Nat), ci = .int .i64 (i2 : Int) ∧ i ≤ i2 ∧ i2 ≤ j + 1 ∧ Hid (Arr w0 wr blk off dk) ∧ Hid (Go.Sort.scanUp (fun x => !ltN dk[a]! x) dk j i2 = Go.Sort.scanUp (fun x => !ltN dk[a]! x) dk j i)) (fun ci _ => j + 1 - (intOf ci).toNat)
  case atStart => exact ⟨i, rfl, Nat.le_refl _, hij, HA, Hj rfl⟩
  case round =>
   obtain ⟨i2, rfl, hii, hij2, HA2, HU⟩ := hrel
   by_cases hle : i2 ≤ j
   · have hlei : (i2 : Int) ≤ (j : Int) := by omega
     have his : (i2 : Int) < (d.size : Int) := by omega
     have c0 := HA2.out.cell a (by omega); have c1 := HA2.out.cell i2 (by omega)
     obtain ⟨y, hy⟩ : ∃ y, dk[i2]! = y := ⟨_, rfl⟩
     rw [HX.out] at c0
     rw [hy] at c1
     have HY := Hj hy
     clear hy
     cases hl : ltN x y with
     | false =>
       have HN : Hid (Go.Sort.scanUp (fun x => !ltN dk[a]! x) dk j (i2 + 1) = Go.Sort.scanUp (fun x => !ltN dk[a]! x) dk j i) := Hj (by rw [← HU.out]; exact (scU_go _ dk j i2 hle (by show (!ltN _ _) = true; rw [HX.out, HY.out, hl]; rfl)).symm)
       go_wp2
       go_quiet ((go_at_call 158; exact Calls.quiet_of_same (qai _ _ _)))
       go_wp2
       exact ⟨⟨i2 + 1, by simp, by omega, by omega, Hj (HA2.out.drewN _), HN⟩, by simp [intOf]; omega⟩
     | true =>
       have HI : Hid (i2 = Go.Sort.scanUp (fun x => !ltN dk[a]! x) dk j i) := Hj (by rw [← HU.out]; exact (scU_end _ dk j i2 (.inr (by show (!ltN _ _) = false; rw [HX.out, HY.out, hl]; rfl))).symm)
       go_wp2
       go_quiet ((go_at_call 158; exact Calls.quiet_of_same (qai _ _ _)))
       have HA3 := Hj (HA2.out.drewN nq)
       generalize wr.drewN nq = wq at *
       have HL := Hj hl
       clear HA2 HU c0 c1 hl
       go_wp2
       go_loopw [10] (fun cj wr => ∃ (j2 : Nat), cj = .int .i64 (j2 : Int) ∧ j2 ≤ j ∧ i2 ≤ j2 + 1 ∧ Hid (Arr w0 wr blk off dk) ∧ Hid (Go.Sort.scanDown (fun x => ltN dk[a]! x) dk i2 j2 = Go.Sort.scanDown (fun x => ltN dk[a]! x) dk i2 j)) (fun cj _ => (intOf cj).toNat)
       case atStart => exact ⟨j, rfl, Nat.le_refl _, by omega, HA3, Hj rfl⟩
       case round =>
        obtain ⟨j2, rfl, hjj, hij3, HA4, HD⟩ := hrel
        by_cases hle2 : i2 ≤ j2
        · have hlei2 : (i2 : Int) ≤ (j2 : Int) := by omega
          have hjs : (j2 : Int) < (d.size : Int) := by omega
          obtain ⟨J, hJJ⟩ : ∃ J, J = j2 := ⟨_, rfl⟩
          subst hJJ
          obtain ⟨q, hJ⟩ : ∃ q, J = q + 1 := ⟨J - 1, by omega⟩
          have eJ : (J : Int) - 1 = (q : Int) := by omega
          have c0 := HA4.out.cell a (by omega); have c1 := HA4.out.cell J (by omega); have c2 := HA4.out.cell i2 (by omega)
          have f1 := HA4.out.fro J (by omega); have f2 := HA4.out.fro i2 (by omega)
          obtain ⟨z, hz⟩ : ∃ z, dk[J]! = z := ⟨_, rfl⟩
          rw [HX.out] at c0
          rw [hz] at c1
          rw [HY.out] at c2
          have HZ := Hj hz; have HJ := Hj hJ
          clear hz hJ
          cases hl : ltN x z with
          | true =>
            have HN : Hid (Go.Sort.scanDown (fun x => ltN dk[a]! x) dk i2 q = Go.Sort.scanDown (fun x => ltN dk[a]! x) dk i2 j) := Hj (by rw [← HD.out, HJ.out]; exact (scD_go _ dk i2 q (by have := HJ.out; omega) (by show ltN _ _ = true; rw [HX.out, ← HJ.out, HZ.out, hl])).symm)
            go_wp2
            go_quiet ((go_at_call 158; exact Calls.quiet_of_same (qai _ _ _)))
            go_wp2
            exact ⟨⟨q, rfl, by have := HJ.out; omega, by have := HJ.out; omega, Hj (HA4.out.drewN _), HN⟩, by have := HJ.out; simp [intOf]; omega⟩
          | false =>
            have HJ2 : Hid (J = Go.Sort.scanDown (fun x => ltN dk[a]! x) dk i2 j) := Hj (by rw [← HD.out]; exact (scD_end _ dk i2 J (.inr (by show ltN _ _ = false; rw [HX.out, HZ.out, hl]))).symm)
            have HG := Hj (peq_go a i j i2 J dk HI.out HJ2.out (by omega))
            have hne : ¬ J = i2 := fun e => by
             have h1 := HY.out; have h2 := HZ.out; have h3 := HL.out
             rw [e, h1] at h2
             rw [h2, hl] at h3
             exact absurd h3 (by decide)
            have hne2 : ¬ (off + J = off + i2) := by omega
            have hlt : i2 < J := by omega
            have HNX : Hid (∀ wq, Arr w0 wq blk off (Go.Sort.swp dk i2 J) → ∃ (i' j' : Nat) (dj : Array Nat), Value.int .i64 ((i2 : Int) + 1) = .int .i64 (i' : Int) ∧ Value.int .i64 (q : Int) = .int .i64 (j' : Int) ∧ a + 1 ≤ i' ∧ i' ≤ j' + 1 ∧ j' ≤ b1 ∧ dj.size = d.size ∧ Hid (Arr w0 wq blk off dj) ∧ Hid (Go.Sort.partEqLoop ltN a i' j' dj = Go.Sort.partEqLoop ltN a (a + 1) b1 d1)) := Hj (fun wq hq =>
             ⟨i2 + 1, q, _, by simp, rfl, by omega, by have := HJ.out; omega, by have := HJ.out; omega, by rw [Go.Sort.size_swp, hsk], Hj hq, Hj (by rw [← HO.out, HG.out, show J - 1 = q by have := HJ.out; omega])⟩)
            have hi3 : i2 < dk.size := by omega
            have hJ3 : J < dk.size := by omega
            have HSW : Hid (∀ wq m, Arr w0 wq blk off dk → Arr w0 (((wq.drewN m).setCell ⟨blk, off + i2, none⟩ (.int .u64 (z : Int))).setCell ⟨blk, off + J, none⟩ (.int .u64 (y : Int))) blk off (Go.Sort.swp dk i2 J)) := Hj (fun wq m hq => (hq.drewN m).swap hi3 hJ3 HZ.out HY.out)
            have hms : (j : Int) + 1 - i > (q : Int) + 1 - (i2 + 1) := by have := HJ.out; omega
            clear hne hi3 hJ3
            go_wp2
            go_quiet ((go_at_call 158; exact Calls.quiet_of_same (qai _ _ _)))
            have HA5 := Hj (HA4.out.drewN nq)
            generalize wr.drewN nq = wq at *
            have g1 := HA5.out.cell J (by omega); have g2 := HA5.out.cell i2 (by omega)
            have k1 := HA5.out.fro J (by omega); have k2 := HA5.out.fro i2 (by omega)
            rw [HZ.out] at g1
            rw [HY.out] at g2
            clear HA4 HD c0 c1 c2 f1 f2 hl
            go_wp2
            go_region
            go_wp2
            exact ⟨HNX.out _ (HSW.out _ _ HA5.out), by simp [intOf]; omega⟩
        · have hJ2 : Hid (j2 = Go.Sort.scanDown (fun x => ltN dk[a]! x) dk i2 j) := Hj (by rw [← HD.out]; exact (scD_end _ dk i2 j2 (.inl (by omega))).symm)
          have HE : Hid (Go.Sort.partEqLoop ltN a (a + 1) b1 d1 = (i2, dk)) := Hj (by rw [← HO.out]; exact peq_end a i j i2 j2 dk HI.out hJ2.out (by omega))
          have hle3 : (decide ((i2 : Int) ≤ (j2 : Int))) = false := by simp; omega
          have hgt : (j2 : Int) < (i2 : Int) := by omega
          clear HO hle3 hgt
          go_wp2
          go_quiet (fail)
          go_wp2
          go_ret
          exact ⟨by rw [HE.out]; rfl, by rw [HE.out]; exact HA4.out.drewN _⟩
   · have HI : Hid (i2 = Go.Sort.scanUp (fun x => !ltN dk[a]! x) dk j i) := Hj (by rw [← HU.out]; exact (scU_end _ dk j i2 (.inl (by omega))).symm)
     have hi2j : i2 = j + 1 := by omega
     have HIJ2 := Hj hi2j
     clear hi2j
     go_wp2
     go_quiet (fail)
     have HA3 := Hj (HA2.out.drewN nq)
     generalize wr.drewN nq = wq at *
     go_wp2
     go_loopw [10] (fun cj wr => ∃ (j2 : Nat), cj = .int .i64 (j2 : Int) ∧ j2 = j ∧ Hid (Arr w0 wr blk off dk)) (fun cj _ => (intOf cj).toNat)
     case atStart => exact ⟨j, rfl, rfl, HA3⟩
     case round =>
      obtain ⟨j2, rfl, hj2, HA4⟩ := hrel
      have hJ2 : Hid (j2 = Go.Sort.scanDown (fun x => ltN dk[a]! x) dk i2 j) := Hj (by rw [hj2]; exact (scD_end _ dk i2 j (.inl (by have := HIJ2.out; omega))).symm)
      have HE : Hid (Go.Sort.partEqLoop ltN a (a + 1) b1 d1 = (i2, dk)) := Hj (by rw [← HO.out]; exact peq_end a i j i2 j2 dk HI.out hJ2.out (by have := HIJ2.out; omega))
      have hle2 : ¬ i2 ≤ j2 := by have := HIJ2.out; omega
      clear HO hj2
      go_wp2
      go_quiet (fail)
      go_wp2
      go_ret
      exact ⟨by rw [HE.out]; rfl, by rw [HE.out]; exact HA4.out.drewN _⟩
end
end Go.Proofs.YtfpcgcbehdogjaaGreatDoor
