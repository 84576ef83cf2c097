/-
  Lemmas on which LTopTruncates rests, packed out of the texts PBits SortA PMem PApp SortB PRead SortC PArgs PQuiet; each for all arguments under the hypotheses it names.
-/
import Derived.Test.YtfpcgcbehdogjaaGreatDoorT00
import Derived.Lib.Hide
import Derived.WalkKit
import Derived.Test.YtfpcgcbehdogjaaGreatDoorRows
import Derived.Sort.Row
import Derived.Sort.AssemblyPlain
import Derived.Deep.QuietTactic
import Derived.BigQuiet
import Derived.BigRegion
import Derived.RangeFuncBox
import Derived.ProofKit
import Derived.OpenShut
import Derived.Deep.Slices
import Derived.Deep.Fields
import Derived.ChangeSame
import Derived.Lib.SmallJoins
namespace Go.Proofs.YtfpcgcbehdogjaaGreatDoor
section
def qab (x n : Nat) : List Bool := (List.range n).map fun i => x.testBit (n - 1 - i)
theorem qad (x n : Nat) : (qab x n).length = n := by simp [qab]
def qbo (x n k : Nat) : List Bool := (List.range k).map fun i => x.testBit (n - 1 - i)
theorem qhm (x n k : Nat) : (qbo x n k).length = k := by simp [qbo]
theorem qfk (x n : Nat) : qbo x n 0 = [] := rfl
theorem fieldTake_all (x n : Nat) : qbo x n n = qab x n := rfl
theorem qfl (x n k : Nat) : qbo x n (k + 1) = qbo x n k ++ [x.testBit (n - 1 - k)] := by
 simp [qbo, List.range_succ]
def bitAt (l : List Bool) (i : Nat) : Nat := (l.getD i false).toNat
def byteAt (l : List Bool) (j : Nat) : Nat :=
 ((((((((bitAt l (8 * j)) * 2 + bitAt l (8 * j + 1)) * 2 + bitAt l (8 * j + 2)) * 2 + bitAt l (8 * j + 3)) * 2 + bitAt l (8 * j + 4)) * 2 + bitAt l (8 * j + 5)) * 2 + bitAt l (8 * j + 6)) * 2 + bitAt l (8 * j + 7))
def packed (l : List Bool) : List Nat := (List.range ((l.length + 7) / 8)).map (byteAt l)
def qbv (l : List Bool) : List Nat := (List.range (l.length / 8 + 1)).map (byteAt l)
theorem qaw (l : List Bool) : (packed l).length = (l.length + 7) / 8 := by simp [packed]
theorem qer (l : List Bool) : (qbv l).length = l.length / 8 + 1 := by simp [qbv]
theorem qdh (l : List Bool) (i : Nat) : bitAt l i ≤ 1 := by unfold bitAt; cases l.getD i false <;> simp
theorem qbw (l : List Bool) (i : Nat) (h : l.length ≤ i) : bitAt l i = 0 := by simp [bitAt, h]
theorem byteAt_lt (l : List Bool) (j : Nat) : byteAt l j < 256 := by
 unfold byteAt
 have := qdh l (8 * j); have := qdh l (8 * j + 1); have := qdh l (8 * j + 2); have := qdh l (8 * j + 3)
 have := qdh l (8 * j + 4); have := qdh l (8 * j + 5); have := qdh l (8 * j + 6); have := qdh l (8 * j + 7)
 omega
theorem byteAt_past (l : List Bool) (j : Nat) (h : l.length ≤ 8 * j) : byteAt l j = 0 := by
 simp [byteAt, qbw l _ (show l.length ≤ 8 * j by omega), qbw l _ (show l.length ≤ 8 * j + 1 by omega), qbw l _ (show l.length ≤ 8 * j + 2 by omega), qbw l _ (show l.length ≤ 8 * j + 3 by omega),
  qbw l _ (show l.length ≤ 8 * j + 4 by omega), qbw l _ (show l.length ≤ 8 * j + 5 by omega), qbw l _ (show l.length ≤ 8 * j + 6 by omega), qbw l _ (show l.length ≤ 8 * j + 7 by omega)]
theorem qhn (l : List Bool) (h : l.length % 8 = 0) : qbv l = packed l ++ [0] := by
 unfold qbv packed
 rw [show (l.length + 7) / 8 = l.length / 8 by omega, List.range_succ, List.map_append]
 simp only [List.map_cons, List.map_nil]
 rw [byteAt_past l _ (by omega)]
theorem qka (l : List Bool) (h : ¬ l.length % 8 = 0) : qbv l = packed l := by
 unfold qbv packed
 rw [show (l.length + 7) / 8 = l.length / 8 + 1 by omega]
theorem qkh (l : List Bool) (b : Bool) (i : Nat) : bitAt (l ++ [b]) i = if i = l.length then b.toNat else bitAt l i := by
 unfold bitAt
 rcases Nat.lt_trichotomy i l.length with h | h | h
 · simp [List.getD_eq_getElem?_getD, List.getElem?_append_left h, Nat.ne_of_lt h]
 · subst h; simp
 · simp [show ¬ i = l.length by omega, show l.length ≤ i by omega, List.getD_eq_getElem?_getD, List.getElem?_append_right (Nat.le_of_lt h), List.getElem?_eq_none (show [b].length ≤ i - l.length by simp; omega)]
theorem or_bit : ∀ (b0 b1 b2 b3 b4 b5 b6 b7 b : Bool) (r : Fin 8),
 (let f : Nat → Bool → Nat := fun i x => if i < r.val then x.toNat else 0
  let g : Nat → Bool → Nat := fun i x => if i = r.val then b.toNat else f i x
  ((((((((g 0 b0) * 2 + g 1 b1) * 2 + g 2 b2) * 2 + g 3 b3) * 2 + g 4 b4) * 2 + g 5 b5) * 2 + g 6 b6) * 2 + g 7 b7) =
  (((((((((f 0 b0) * 2 + f 1 b1) * 2 + f 2 b2) * 2 + f 3 b3) * 2 + f 4 b4) * 2 + f 5 b5) * 2 + f 6 b6) * 2 + f 7 b7) ||| (b.toNat * 2 ^ (7 - r.val)))) := by
 decide +kernel
theorem qkb (l : List Bool) (b : Bool) : byteAt (l ++ [b]) (l.length / 8) = byteAt l (l.length / 8) ||| (b.toNat * 2 ^ (7 - l.length % 8)) := by
 have h := or_bit (l.getD (8 * (l.length / 8)) false) (l.getD (8 * (l.length / 8) + 1) false) (l.getD (8 * (l.length / 8) + 2) false) (l.getD (8 * (l.length / 8) + 3) false)
  (l.getD (8 * (l.length / 8) + 4) false) (l.getD (8 * (l.length / 8) + 5) false) (l.getD (8 * (l.length / 8) + 6) false) (l.getD (8 * (l.length / 8) + 7) false) b ⟨l.length % 8, Nat.mod_lt _ (by decide)⟩
 have e : ∀ k, k < 8 → (if k < l.length % 8 then (l.getD (8 * (l.length / 8) + k) false).toNat else 0) = bitAt l (8 * (l.length / 8) + k) := by
  intro k hk
  split
  · rfl
  · rw [qbw]; omega
 have e' : ∀ k, k < 8 → (if k = l.length % 8 then b.toNat else bitAt l (8 * (l.length / 8) + k)) = bitAt (l ++ [b]) (8 * (l.length / 8) + k) := by
  intro k hk
  rw [qkh]
  by_cases h : k = l.length % 8
  · rw [if_pos h, if_pos (by omega)]
  · rw [if_neg h, if_neg (by omega)]
 have e0 := e 0 (by decide)
 have e0' := e' 0 (by decide)
 simp only [Nat.add_zero] at e0 e0'
 simp only [e 1 (by decide), e 2 (by decide), e 3 (by decide), e 4 (by decide), e 5 (by decide), e 6 (by decide), e 7 (by decide), e0] at h
 simp only [e' 1 (by decide), e' 2 (by decide), e' 3 (by decide), e' 4 (by decide), e' 5 (by decide), e' 6 (by decide), e' 7 (by decide), e0'] at h
 exact h
theorem qkc (l : List Bool) (b : Bool) (j : Nat) (h : j < l.length / 8) : byteAt (l ++ [b]) j = byteAt l j := by
 unfold byteAt
 simp only [qkh]
 rw [if_neg (by omega), if_neg (by omega), if_neg (by omega), if_neg (by omega), if_neg (by omega), if_neg (by omega), if_neg (by omega), if_neg (by omega)]
theorem qic (l : List Bool) (b : Bool) :
 packed (l ++ [b]) = (qbv l).set (l.length / 8) (byteAt l (l.length / 8) ||| (b.toNat * 2 ^ (7 - l.length % 8))) := by
 apply List.ext_getElem
 · rw [qaw, List.length_set, qer, List.length_append, List.length_singleton]; omega
 · intro j h1 h2
   rw [qaw, List.length_append, List.length_singleton] at h1
   rw [List.getElem_set]
   split
   · rename_i hj
     subst hj
     simp only [packed, List.getElem_map, List.getElem_range]
     exact qkb l b
   · rename_i hj
     simp only [packed, qbv, List.getElem_map, List.getElem_range]
     exact qkc l b j (by omega)
theorem packed_getD (l : List Bool) (j : Nat) (h : j < (l.length + 7) / 8) : (packed l).getD j 0 = byteAt l j := by
 simp [packed, List.getD_eq_getElem?_getD, h]
theorem packedTo_at (l : List Bool) : (qbv l)[l.length / 8]? = some (byteAt l (l.length / 8)) := by
 simp [qbv]
theorem bit_and_one (x s : Nat) (hx : x < 18446744073709551616) : bits .and .u64 ((x : Int) / 2 ^ s) 1 = ((x.testBit s).toNat : Int) := by
 have e : ((x : Int) / 2 ^ s) = ((x / 2 ^ s : Nat) : Int) := by simp
 rw [e, show (1 : Int) = ((1 : Nat) : Int) from rfl, u64_and_nat _ _ (Nat.lt_of_le_of_lt (Nat.div_le_self _ _) hx) (by decide)]
 congr 1
 rw [Nat.and_one_is_mod, Nat.testBit_eq_decide_div_mod_eq]
 rcases Nat.mod_two_eq_zero_or_one (x / 2 ^ s) with h | h <;> simp [h]
theorem qfy (b : Bool) : b.toNat ≤ 1 := by cases b <;> simp
#print axioms qic
end
section
set_option maxHeartbeats 2000000
set_option maxRecDepth 100000
open Go.RowKit
def ltN (x y : Nat) : Bool := decide (x < y)
theorem qih : Go.Sort.SWO ltN where
 irrefl x := by simp [ltN]
 trans x y z := by simp [ltN]; omega
 ntrans x y z := by simp [ltN]; omega
def encN (x : Nat) : Value := .int .u64 ((x : Nat) : Int)
structure Arr (w0 w : World) (blk off : Nat) (d : Array Nat) : Prop where
 os : w.os = w0.os
 tape : w.tape = w0.tape
 output : w.output = w0.output
 size : w0.heap.size ≤ w.heap.size
 block : ∀ k, k < w0.heap.size → k ≠ blk → w.heap[k]? = w0.heap[k]?
 cell : ∀ j, j < d.size → w.cell? ⟨blk, off + j, none⟩ = some (.int .u64 ((d[j]! : Nat) : Int))
 fro : ∀ j, j < d.size → w.frozen? ⟨blk, off + j, none⟩ = false
theorem Arr.drewN {w0 w : World} {blk off : Nat} {d : Array Nat} (h : Arr w0 w blk off d) (n : Nat) : Arr w0 (w.drewN n) blk off d := ⟨h.os, h.tape, h.output, h.size, h.block, h.cell, h.fro⟩
theorem uNaN_any (x : Int) (w : World) : Calls Tryz.prog 194 #[.int .u64 x] w fun e w' => e = .returned (.bool false) ∧ w' = w := by
 go_enter Tryz.func194, Tryz.ntmps194
 go_wp2
 go_ret
 exact ⟨by simp, rfl⟩
theorem qah (x y : Nat) (w : World) : Calls Tryz.prog 158 #[.int .u64 (x : Int), .int .u64 (y : Int)] w fun e w' => e = .returned (.bool (ltN x y)) ∧ w' = w := by
 go_enter Tryz.func158, Tryz.ntmps158
 go_wp2_with (go_at_call 194; refine (uNaN_any _ _).mono ?_; rintro e w' ⟨rfl, rfl⟩)
 go_ret
 exact ⟨by simp [ltN], rfl⟩
theorem Arr.swap {w0 w : World} {blk off : Nat} {d : Array Nat} (h : Arr w0 w blk off d) {i j : Nat} (hi : i < d.size) (hj : j < d.size) {x y : Nat} (hx : d[j]! = x) (hy : d[i]! = y) :
 Arr w0 ((w.setCell ⟨blk, off + i, none⟩ (.int .u64 ((x : Nat) : Int))).setCell ⟨blk, off + j, none⟩ (.int .u64 ((y : Nat) : Int))) blk off (Go.Sort.swp d i j) := by
 subst hx hy
 have hH : Go.Sort.Holds encN w blk off d := fun k hk => ⟨h.cell k hk, h.fro k hk⟩
 have e := Go.Sort.putRow_swp encN w blk off d i j hi hj
 rw [Go.Sort.putRow_self encN w blk off d hH] at e
 have hs : (Go.Sort.swp d i j).size = d.size := Go.Sort.size_swp d i j
 have hh := Go.Sort.holds_putRow encN w blk off d (Go.Sort.swp d i j) hH hs
 show Arr w0 ((w.setCell ⟨blk, off + i, none⟩ (encN d[j]!)).setCell ⟨blk, off + j, none⟩ (encN d[i]!)) blk off (Go.Sort.swp d i j)
 rw [e]
 refine ⟨h.os, h.tape, h.output, ?_, fun k hk hn => ?_, fun k hk => (hh k hk).1, fun k hk => (hh k hk).2⟩
 · show _ ≤ (w.heap.modify blk _).size
   rw [Array.size_modify]; exact h.size
 · show (w.heap.modify blk _)[k]? = _
   rw [Array.getElem?_modify, if_neg (fun e => hn e.symm)]
   exact h.block k hk hn
theorem insIn_go (a q : Nat) (d : Array Nat) (hj : a < q + 1) (hl : ltN d[q + 1]! d[q]! = true) : Go.Sort.insInner ltN a (q + 1) d = Go.Sort.insInner ltN a q (Go.Sort.swp d (q + 1) q) := by
 rw [Go.Sort.insInner]
 simp [hj, hl]
theorem qkm (a j : Nat) (d : Array Nat) (h : j ≤ a ∨ ∃ q, j = q + 1 ∧ ltN d[q + 1]! d[q]! = false) : Go.Sort.insInner ltN a j d = d := by
 cases j with
 | zero => rw [Go.Sort.insInner]
 | succ k =>
   rw [Go.Sort.insInner]
   rcases h with h | ⟨q, e, h⟩
   · rw [if_neg (by simp; omega)]
   · obtain rfl : k = q := by omega
     rw [h]; simp
theorem insOut_go (a b i : Nat) (d : Array Nat) (h : i < b) : Go.Sort.insOuter ltN a b i d = Go.Sort.insOuter ltN a b (i + 1) (Go.Sort.insInner ltN a i d) := by rw [Go.Sort.insOuter, if_pos h]
theorem insOut_stop (a b i : Nat) (d : Array Nat) (h : ¬ i < b) : Go.Sort.insOuter ltN a b i d = d := by rw [Go.Sort.insOuter, if_neg h]
theorem uIns_any (w0 w : World) (blk off cap a b : Nat) (d : Array Nat) (h : Arr w0 w blk off d) (hab : a ≤ b) (hb : b ≤ d.size) (hsz : d.size ≤ 1099511627776) :
 Calls Tryz.prog 217 #[.slice (some ⟨blk, off, none⟩) d.size cap, .int .i64 (a : Int), .int .i64 (b : Int)] w fun e w' => e = .returned (.tuple #[]) ∧ Arr w0 w' blk off (Go.Sort.insertionSort ltN d a b) := by
 have HH := Hj h
 clear h
 go_enter Tryz.func217, Tryz.ntmps217
 go_wp2
 go_loopw [6] (fun c wr => ∃ (i : Nat) (dk : Array Nat), c = .int .i64 (i : Int) ∧ a < i ∧ i ≤ b + 1 ∧ dk.size = d.size ∧ Hid (Arr w0 wr blk off dk) ∧ Hid (Go.Sort.insOuter ltN a b i dk = Go.Sort.insOuter ltN a b (a + 1) d)) (fun c _ => b + 1 - (intOf c).toNat)
 case atStart => exact ⟨a + 1, d, by go_num, by omega, by omega, rfl, HH, Hj rfl⟩
 case round =>
  obtain ⟨i, dk, rfl, hai, hib, hsk, HA, HO⟩ := hrel
  by_cases hlt : i < b
  · have hlti : (i : Int) < (b : Int) := by omega
    go_wp2
    go_loopw [7] (fun c wr => ∃ (j : Nat) (dj : Array Nat), c = .int .i64 (j : Int) ∧ a ≤ j ∧ j ≤ i ∧ dj.size = d.size ∧ Hid (Arr w0 wr blk off dj) ∧ Hid (Go.Sort.insInner ltN a j dj = Go.Sort.insInner ltN a i dk)) (fun c _ => (intOf c).toNat)
    case atStart => exact ⟨i, dk, rfl, by omega, Nat.le_refl _, hsk, HA, Hj rfl⟩
    case round =>
     obtain ⟨j, dj, rfl, haj, hji, hsj, HAj, HI⟩ := hrel
     by_cases hja : a < j
     · obtain ⟨q, rfl⟩ : ∃ q, j = q + 1 := ⟨j - 1, by omega⟩
       have hq1 : q + 1 < dj.size := by omega
       have c0 := HAj.out.cell (q + 1) hq1; have c1 := HAj.out.cell q (by omega)
       have f0 := HAj.out.fro (q + 1) hq1; have f1 := HAj.out.fro q (by omega)
       obtain ⟨x, hx⟩ : ∃ x, dj[q + 1]! = x := ⟨_, rfl⟩
       obtain ⟨y, hy⟩ : ∃ y, dj[q]! = y := ⟨_, rfl⟩
       rw [hx] at c0
       rw [hy] at c1
       have HX := Hj hx; have HY := Hj hy; have HQ := Hj hq1
       have hqi : (a : Int) < (q : Int) + 1 := by omega
       have hqs : (q : Int) + 1 < (d.size : Int) := by omega
       have hqb : (q : Int) ≤ 1099511627776 := by omega
       clear hx hy hq1
       cases hl : ltN x y with
       | true =>
         have HN : Hid (∀ wq, Arr w0 wq blk off (Go.Sort.swp dj (q + 1) q) → ∃ (j : Nat) (dj : Array Nat), Value.int .i64 (q : Int) = .int .i64 (j : Int) ∧ a ≤ j ∧ j ≤ i ∧ dj.size = d.size ∧ Hid (Arr w0 wq blk off dj) ∧ Hid (Go.Sort.insInner ltN a j dj = Go.Sort.insInner ltN a i dk)) := Hj (fun wq hq =>
          ⟨q, _, rfl, by omega, by omega, by rw [Go.Sort.size_swp, hsj], Hj hq, Hj (by rw [← HI.out, insIn_go a q dj (by omega) (by rw [HX.out, HY.out]; exact hl)])⟩)
         go_wp2
         go_quiet ((go_at_call 158; exact Calls.quiet_of_same (qah _ _ _)))
         go_wp2
         go_region
         go_wp2
         exact ⟨HN.out _ ((HAj.out.drewN _).swap HQ.out (by have := HQ.out; omega) HY.out HX.out), by simp [intOf]⟩
       | false =>
         have HF : Hid (Go.Sort.insInner ltN a i dk = dj) := Hj (by rw [← HI.out]; exact qkm a (q + 1) dj (.inr ⟨q, rfl, by rw [HX.out, HY.out]; exact hl⟩))
         go_wp2
         go_quiet ((go_at_call 158; exact Calls.quiet_of_same (qah _ _ _)))
         go_wp2
         exact ⟨⟨i + 1, dj, by go_num, by omega, by omega, hsj, Hj (HAj.out.drewN _), Hj (by rw [← HO.out, insOut_go _ _ _ _ hlt, HF.out])⟩, by simp [intOf]; omega⟩
     · have HF : Hid (Go.Sort.insInner ltN a i dk = dj) := Hj (by rw [← HI.out]; exact qkm a j dj (.inl (by omega)))
       have hja' : (decide ((a : Int) < (j : Int))) = false := by simp; omega
       go_wp2
       go_quiet (fail)
       go_wp2
       exact ⟨⟨i + 1, dj, by go_num, by omega, by omega, hsj, Hj (HAj.out.drewN _), Hj (by rw [← HO.out, insOut_go _ _ _ _ hlt, HF.out])⟩, by simp [intOf]; omega⟩
  · have hge : ¬ (i : Int) < (b : Int) := by omega
    go_wp2
    go_end0
    exact ⟨rfl, by unfold Go.Sort.insertionSort; rw [← HO.out, insOut_stop _ _ _ _ hlt]; exact HA.out⟩
end
section
open Go.RowKit
structure Keeps (S : Nat → Prop) (w w' : World) : Prop where
 os : w'.os = w.os
 tape : w'.tape = w.tape
 output : w'.output = w.output
 size : w.heap.size ≤ w'.heap.size
 block : ∀ k, k < w.heap.size → ¬ S k → w'.heap[k]? = w.heap[k]?
theorem Keeps.refl (S : Nat → Prop) (w : World) : Keeps S w w := ⟨rfl, rfl, rfl, Nat.le_refl _, fun _ _ _ => rfl⟩
theorem Keeps.trans {S S' : Nat → Prop} {a b c : World} (h : Keeps S a b) (k : Keeps S' b c) (hS : ∀ k, k < a.heap.size → S' k → S k) : Keeps S a c :=
 ⟨k.os.trans h.os, k.tape.trans h.tape, k.output.trans h.output, Nat.le_trans h.size k.size,
   fun i hi hn => (k.block i (Nat.lt_of_lt_of_le hi h.size) (fun hs => hn (hS i hi hs))).trans (h.block i hi hn)⟩
theorem Keeps.mono {S S' : Nat → Prop} {a b : World} (h : Keeps S a b) (hS : ∀ k, k < a.heap.size → S k → S' k) : Keeps S' a b :=
 ⟨h.os, h.tape, h.output, h.size, fun i hi hn => h.block i hi (fun hs => hn (hS i hi hs))⟩
theorem Keeps.drew {S : Nat → Prop} {a b : World} (h : Keeps S a b) : Keeps S a b.drew := ⟨h.os, h.tape, h.output, h.size, h.block⟩
theorem Keeps.alloc {S : Nat → Prop} {a b : World} (h : Keeps S a b) (o : Obj) : Keeps S a (b.alloc o) :=
 h.trans (S' := fun _ => False) ⟨rfl, rfl, rfl, by simp, fun k hk _ => Below.heap_alloc b o k hk⟩ (fun _ _ hf => hf.elim)
theorem Keeps.setCell {S : Nat → Prop} {a b : World} (h : Keeps S a b) {p : Addr} (hp : p.block < a.heap.size → S p.block) (u : Value) : Keeps S a (b.setCell p u) :=
 h.trans (S' := fun k => k = p.block) ⟨rfl, rfl, rfl, by simp [World.setCell], fun k _ hk => heap_setCell_other b p k u hk⟩ (fun _ hk hf => by subst hf; exact hp hk)
theorem Keeps.grown {S : Nat → Prop} {a b c : World} {row : Option Nat} (h : Keeps S a b) (hg : b.grownBy c row) (hr : ∀ k, k < a.heap.size → row = some k → S k) : Keeps S a c :=
 h.trans (S' := fun k => row = some k) ⟨hg.os, hg.tape, hg.output, hg.size, fun k hk hn => hg.block k hk (fun e => hn e.symm)⟩ hr
theorem Keeps.below {S : Nat → Prop} {a b : World} {B : Nat} (h : Keeps S a b) (hB : B ≤ a.heap.size) (hS : ∀ k, k < a.heap.size → S k → B ≤ k) : Below B a b :=
 ⟨h.os, h.tape, h.output, h.size, fun k hk => h.block k (by omega) (fun hs => by have := hS k (by omega) hs; omega)⟩
theorem Keeps.cell {S : Nat → Prop} {a b : World} (h : Keeps S a b) {p : Addr} {v : Value} (hc : a.cell? p = some v) (hS : ¬ S p.block) : b.cell? p = some v :=
 (World.cell?_of_block (h.block p.block (World.block_lt_of_cell? a p hc) hS)).trans hc
theorem Keeps.heap {S : Nat → Prop} {a b : World} (h : Keeps S a b) {k : Nat} {o : Obj} (hk : a.heap[k]? = some o) (hS : ¬ S k) : b.heap[k]? = some o :=
 (h.block k (Array.getElem?_eq_some_iff.1 hk).1 hS).trans hk
theorem Keeps.row {S : Nat → Prop} {a b : World} (h : Keeps S a b) {base : Nat} {e : TypeId} {size : Nat} {v : Value} {n : Nat} {xs : List Value} (hr : a.ownsRow base e size v n xs)
 (hS : ∀ g, v.ownBlock = some g → ¬ S g) : b.ownsRow base e size v n xs := by
 refine ⟨hr.1, ?_⟩
 rcases hr.2 with hn | ⟨g, cap, cur, rfl, hb, hgg, rest⟩
 · exact .inl hn
 · exact .inr ⟨g, cap, cur, rfl, hb, h.heap hgg (hS g rfl), rest⟩
theorem qak {w : World} {base : Nat} {e : TypeId} {size : Nat} {v : Value} {n : Nat} {xs : List Value} (hr : w.ownsRow base e size v n xs) {g : Nat} (hg : v.ownBlock = some g) :
 ∃ cur, w.heap[g]? = some (.cells cur e (0, 0)) := by
 rcases hr.2 with ⟨rfl, _⟩ | ⟨g', cap, cur, rfl, hb, hgg, rest⟩
 · simp [Value.ownBlock] at hg
 · simp [Value.ownBlock] at hg; subst hg; exact ⟨cur, hgg⟩
theorem qao {w : World} {base base' : Nat} {e : TypeId} {size : Nat} {v : Value} {n : Nat} {xs : List Value} (hr : w.ownsRow base e size v n xs) (hb : ∀ g, v.ownBlock = some g → base' ≤ g) :
 w.ownsRow base' e size v n xs := by
 refine ⟨hr.1, ?_⟩
 rcases hr.2 with hn | ⟨g, cap, cur, rfl, _, hgg, rest⟩
 · exact .inl hn
 · exact .inr ⟨g, cap, cur, rfl, hb g rfl, hgg, rest⟩
theorem qaf {w : World} {g p : Nat} {c c' : Array Value} {t t' : TypeId} {fr fr' : Nat × Nat} (hg : w.heap[g]? = some (.cells c t fr)) (hp : w.heap[p]? = some (.cells c' t' fr')) (ht : t ≠ t') : g ≠ p := by
 intro e
 subst e
 rw [hg] at hp
 simp only [Option.some.injEq, Obj.cells.injEq] at hp
 exact ht hp.2.1
theorem qdp {w : World} {base : Nat} {e : TypeId} {size : Nat} {v : Value} {n : Nat} {xs : List Value} (hr : w.ownsRow base e size v n xs) (hn : n ≠ 0) :
 ∃ g cap cur, v = .slice (some ⟨g, 0, none⟩) n cap ∧ base ≤ g ∧ w.heap[g]? = some (.cells cur e (0, 0)) ∧ n ≤ cap ∧ cap ≤ maxLen ∧ cur.size = cap * size ∧ cur.toList.take (n * size) = xs := by
 rcases hr.2 with ⟨rfl, h0⟩ | ⟨g, cap, cur, rfl, hb, hgg, rest⟩
 · exact absurd h0 hn
 · exact ⟨g, cap, cur, rfl, hb, hgg, rest⟩
def foot (p : Nat) (v : Value) (k : Nat) : Prop := k = p ∨ v.ownBlock = some k
def u8s (l : List Nat) : List Value := l.map fun c => .int .u8 ((c : Nat) : Int)
theorem qaa (l : List Nat) : (u8s l).length = l.length := by simp [u8s]
structure IsW (w : World) (base p : Nat) (v : Value) (l : List Bool) : Prop where
 blk : w.heap[p]? = some (.cells #[v, .int .i64 l.length] 104 (0, 0))
 row : w.ownsRow base 5 1 v (packed l).length (u8s (packed l))
 base : base ≤ p
structure IsWmid (w : World) (base p : Nat) (v : Value) (l : List Bool) : Prop where
 blk : w.heap[p]? = some (.cells #[v, .int .i64 l.length] 104 (0, 0))
 row : w.ownsRow base 5 1 v (l.length / 8 + 1) (u8s (qbv l))
 base : base ≤ p
theorem IsW.keeps {S : Nat → Prop} {a b : World} {base p : Nat} {v : Value} {l : List Bool} (h : IsW a base p v l) (k : Keeps S a b) (hp : ¬ S p) (hv : ∀ g, v.ownBlock = some g → ¬ S g) : IsW b base p v l :=
 ⟨k.heap h.blk hp, k.row h.row hv, h.base⟩
theorem IsW.lt {a : World} {base p : Nat} {v : Value} {l : List Bool} (h : IsW a base p v l) : p < a.heap.size := (Array.getElem?_eq_some_iff.1 h.blk).1
theorem IsW.cell0 {a : World} {base p : Nat} {v : Value} {l : List Bool} (h : IsW a base p v l) : a.cell? ⟨p, 0, none⟩ = some v := by rw [cell_of_row a p 0 _ _ _ h.blk]; rfl
theorem IsW.cell1 {a : World} {base p : Nat} {v : Value} {l : List Bool} (h : IsW a base p v l) : a.cell? ⟨p, 1, none⟩ = some (.int .i64 l.length) := by rw [cell_of_row a p 1 _ _ _ h.blk]; rfl
theorem IsW.free {a : World} {base p : Nat} {v : Value} {l : List Bool} (h : IsW a base p v l) (j : Nat) : a.frozen? ⟨p, j, none⟩ = false := frozen_of_row a p j _ _ h.blk
theorem IsW.mid {a : World} {base p : Nat} {v : Value} {l : List Bool} (h : IsW a base p v l) (hr : ¬ l.length % 8 = 0) : IsWmid a base p v l :=
 ⟨h.blk, by have := h.row; rw [← qka l hr, qer] at this; exact this, h.base⟩
theorem IsW.grow {a b : World} {base p : Nat} {v v' : Value} {l : List Bool} (h : IsW a base p v l) (hr : l.length % 8 = 0)
 (hrow : b.ownsRow base 5 1 v' ((packed l).length + 1) (u8s (packed l) ++ [.int .u8 0])) (hg : Keeps (fun k => v.ownBlock = some k) a b) :
 IsWmid (b.setCell ⟨p, 0, none⟩ v') base p v' l := by
 have hb : b.heap[p]? = some (.cells #[v, .int .i64 l.length] 104 (0, 0)) := by
  refine hg.heap h.blk (fun e => ?_)
  obtain ⟨cur, hc⟩ := qak h.row e
  exact qaf hc h.blk (by decide) rfl
 refine ⟨?_, ?_, h.base⟩
 · have := heap_setCell_same b p 0 _ _ v' hb
   simpa using this
 · rw [qhn l hr, show l.length / 8 + 1 = (packed l).length + 1 by rw [qaw]; omega, show u8s (packed l ++ [0]) = u8s (packed l) ++ [.int .u8 0] by simp [u8s]]
   have k : Keeps (fun k => k = p) b (b.setCell ⟨p, 0, none⟩ v') := (Keeps.refl (fun k => k = p) b).setCell (p := ⟨p, 0, none⟩) (fun _ => rfl) v'
   refine k.row hrow (fun g hgv e => ?_)
   obtain ⟨cur, hc⟩ := qak hrow hgv
   exact qaf hc hb (by decide) e
theorem IsWmid.step {a : World} {base p g cap : Nat} {l : List Bool} {b : Bool} {n q : Nat} {c : Int} (h : IsWmid a base p (.slice (some ⟨g, 0, none⟩) n cap) l) (hq : q = l.length / 8)
 (hc : c = ((byteAt l q ||| (b.toNat * 2 ^ (7 - l.length % 8)) : Nat) : Int)) :
 IsW (((a.setCell ⟨g, q, none⟩ (.int .u8 c)).setCell ⟨p, 1, none⟩ (.int .i64 (l.length + 1))).drew) base p (.slice (some ⟨g, 0, none⟩) n cap) (l ++ [b]) := by
 subst hq
 have hn : n = l.length / 8 + 1 := by
  obtain ⟨g', cap', cur, hv, _⟩ := qdp h.row (by omega)
  simp only [Value.slice.injEq] at hv
  exact hv.2.1
 subst hn
 obtain ⟨cur, hcur⟩ := qak h.row (g := g) rfl
 have hne : g ≠ p := qaf hcur h.blk (by decide)
 obtain ⟨h1, h2⟩ := h.row.stored (l.length / 8) (.int .u8 c)
 have hb1 : (a.setCell ⟨g, l.length / 8, none⟩ (.int .u8 c)).heap[p]? = some (.cells #[.slice (some ⟨g, 0, none⟩) (l.length / 8 + 1) cap, .int .i64 l.length] 104 (0, 0)) := by
  rw [heap_setCell_other _ _ _ _ (Ne.symm hne)]; exact h.blk
 have k : Keeps (fun k => k = p) (a.setCell ⟨g, l.length / 8, none⟩ (.int .u8 c)) (((a.setCell ⟨g, l.length / 8, none⟩ (.int .u8 c)).setCell ⟨p, 1, none⟩ (.int .i64 (l.length + 1))).drew) := ((Keeps.refl (fun k => k = p) _).setCell (p := ⟨p, 1, none⟩) (fun _ => rfl) _).drew
 refine ⟨?_, ?_, h.base⟩
 · have := heap_setCell_same _ p 1 _ _ (.int .i64 (l.length + 1)) hb1
   simpa [World.drew] using this
 · have hrow := k.row h1 (fun g' hg' e => by simp only [Value.ownBlock, Option.some.injEq] at hg'; omega)
   have e1 : (packed (l ++ [b])).length = l.length / 8 + 1 := by rw [qaw]; simp; omega
   rw [e1, qic, show u8s ((qbv l).set (l.length / 8) (byteAt l (l.length / 8) ||| b.toNat * 2 ^ (7 - l.length % 8))) = (u8s (qbv l)).set (l.length / 8) (.int .u8 c) by
    simp [u8s, List.map_set, hc]]
   exact hrow
#print axioms IsWmid.step
end
section
open Go.RowKit
section
variable {P : Program} (w : World)
theorem qcr (base : Nat) (t ty e : TypeId) (i : TypeInfo) (z : Value) (size bytes : Nat) (ht : P.underlying t = some (.slice e)) (hi : P.info? e = some i) (hz : i.zero = some z)
 (hsize : i.size = size) (hby : i.bytes = bytes) (hzs : z.cells.size = size) (hsz : 0 < size)
 (v : Value) (n : Nat) (xs : List Value) (hown : w.ownsRow base e size v n xs)
 (a : Addr) (m c : Nat) (news : List Value) (hl : news.length = m * size) (hnews : ∀ j u, news[j]? = some u → w.cell? (a.add j) = some u) (h1 : ∀ u ∈ news, u.oneCell' = true)
 (h63 : n + m ≤ maxLen) (hbytes : (n + m) * bytes ≤ 140737488355328) (hbase : base ≤ w.heap.size) :
 ∃ v' w', (Builtin.append_ #[t, t] ty #[v, .slice (some a) m c]).run P w = .ok v' w' ∧ w'.ownsRow base e size v' (n + m) (xs ++ news) ∧ w.grownBy w' v.ownBlock ∧
  (v' = .slice none 0 0 ↔ v = .slice none 0 0 ∧ m = 0) ∧ (∀ g, v'.ownBlock = some g → v.ownBlock = some g ∨ w.heap.size ≤ g) := by
 obtain ⟨v', w', hr, ho, hg, hn⟩ := run_append_own (P := P) w base t ty e i z size bytes ht hi hz hsize hby hzs hsz v n xs hown a m c news hl hnews h1 h63 hbytes hbase
 refine ⟨v', w', hr, ho, hg, hn, fun g hgb => ?_⟩
 subst hsize
 subst hby
 rcases hown.2 with ⟨rfl, rfl⟩ | ⟨g0, cap, cur, rfl, hbg, hg0, hnc, hcm, hcs, htake⟩
 · obtain ⟨v2, w2, hr2, ho2, _⟩ := run_append_own (P := P) w w.heap.size t ty e i z i.size i.bytes ht hi hz rfl rfl hzs hsz (.slice none 0 0) 0 xs ⟨hown.1, .inl ⟨rfl, rfl⟩⟩ a m c news hl hnews h1 h63 hbytes (Nat.le_refl _)
   rw [hr] at hr2
   simp only [Result.ok.injEq] at hr2
   obtain ⟨rfl, rfl⟩ := hr2
   exact .inr (ho2.lt g hgb).1
 · by_cases hroom : n + m ≤ cap
   · have hfit : n * i.size + news.length ≤ cur.size := by rw [hl, hcs, ← Nat.add_mul]; exact Nat.mul_le_mul_right _ hroom
     have hr2 := run_append_room (P := P) w t ty e i ht hi g0 n cap cur hg0 a m c news hl hnews h1 hroom hfit
     rw [hr] at hr2
     simp only [Result.ok.injEq] at hr2
     obtain ⟨rfl, rfl⟩ := hr2
     exact .inl hgb
   · have holds : ∀ j u, xs[j]? = some u → w.cell? ((⟨g0, 0, none⟩ : Addr).add j) = some u := hown.cells (g := g0) rfl
     have h63' : n + m ≤ 9223372036854775807 := by simp only [maxLen] at h63; omega
     have hr2 := run_append_grow (P := P) w t ty e i z ht hi hz ⟨g0, 0, none⟩ n cap xs hown.1 holds a m c news hl hnews (by omega) (by omega) (growslice_fits (by omega) hbytes)
     rw [hr] at hr2
     simp only [Result.ok.injEq] at hr2
     obtain ⟨rfl, rfl⟩ := hr2
     simp only [Value.ownBlock, Option.some.injEq] at hgb
     exact .inr (Nat.le_of_eq hgb)
theorem qcm {ops : Array Oper} {rest : List Oper} {o : Oper} {a : Act} {Q : Exit → Act → World → Prop} (hgd : o.guard = none) (s x : Operand) (t : TypeId)
 (ho : o.op = .call { callee := .builtin .append, args := #[s, x], argTypes := #[t, t] })
 (base : Nat) (e : TypeId) (i : TypeInfo) (z : Value) (size bytes : Nat) (ht : P.underlying t = some (.slice e)) (hi : P.info? e = some i) (hz : i.zero = some z)
 (hsize : i.size = size) (hby : i.bytes = bytes) (hzs : z.cells.size = size) (hsz : 0 < size)
 (v : Value) (n : Nat) (xs : List Value) (hs : a.eval s = v) (hown : w.ownsRow base e size v n xs)
 (ad : Addr) (m c : Nat) (news : List Value) (hx : a.eval x = .slice (some ad) m c) (hl : news.length = m * size) (hnews : ∀ j u, news[j]? = some u → w.cell? (ad.add j) = some u) (h1 : ∀ u ∈ news, u.oneCell' = true)
 (h63 : n + m ≤ maxLen) (hbytes : (n + m) * bytes ≤ 140737488355328) (hbase : base ≤ w.heap.size)
 (h : ∀ v' w', w'.ownsRow base e size v' (n + m) (xs ++ news) → w.grownBy w' v.ownBlock → (∀ g, v'.ownBlock = some g → v.ownBlock = some g ∨ w.heap.size ≤ g) → wpList P ops Q rest (a.put o.dst v') w') : wpList P ops Q (o :: rest) a w := by
 obtain ⟨v', w', hr, h2, h3, _, h4⟩ := qcr (P := P) w base t o.type e i z size bytes ht hi hz hsize hby hzs hsz v n xs hown ad m c news hl hnews h1 h63 hbytes hbase
 refine wpList_plain hgd fun K hK => ?_
 unfold Oper.wp execOp
 simp only [ho, resolve, invoke, builtin, Sem.run_bind, Sem.run_pure, Result.andThen_ok, List.map_toArray, List.map_cons, List.map_nil, hs, hx, hr]
 exact hK _ _ (h v' w' h2 h3 h4)
end
#print axioms qcm
end
section
set_option maxHeartbeats 4000000
set_option maxRecDepth 100000
open Go.RowKit
theorem sift_stop (hi f r : Nat) (d : Array Nat) (h : hi ≤ 2 * r + 1) : Go.Sort.siftDown ltN hi f r d = d := by
 rw [Go.Sort.siftDown, dif_pos h]
theorem sift_left (hi f r : Nat) (d : Array Nat) (h : 2 * r + 1 < hi) (h2 : ¬ 2 * r + 2 < hi ∨ ltN d[f + (2 * r + 1)]! d[f + (2 * r + 2)]! = false) :
 Go.Sort.siftDown ltN hi f r d = if ltN d[f + r]! d[f + (2 * r + 1)]! = true then Go.Sort.siftDown ltN hi f (2 * r + 1) (Go.Sort.swp d (f + r) (f + (2 * r + 1))) else d := by
 rw [Go.Sort.siftDown, dif_neg (by omega)]
 have e : (decide (2 * r + 1 + 1 < hi) && ltN d[f + (2 * r + 1)]! d[f + (2 * r + 1) + 1]!) = false := by
  rcases h2 with h2 | h2
  · rw [decide_eq_false (by omega)]; rfl
  · rw [show f + (2 * r + 1) + 1 = f + (2 * r + 2) by omega, h2, Bool.and_false]
 rw [if_neg (by rw [e]; decide)]
 cases ltN d[f + r]! d[f + (2 * r + 1)]! <;> simp
theorem sift_right (hi f r : Nat) (d : Array Nat) (h : 2 * r + 2 < hi) (h2 : ltN d[f + (2 * r + 1)]! d[f + (2 * r + 2)]! = true) :
 Go.Sort.siftDown ltN hi f r d = if ltN d[f + r]! d[f + (2 * r + 2)]! = true then Go.Sort.siftDown ltN hi f (2 * r + 2) (Go.Sort.swp d (f + r) (f + (2 * r + 2))) else d := by
 rw [Go.Sort.siftDown, dif_neg (by omega)]
 have e : (decide (2 * r + 1 + 1 < hi) && ltN d[f + (2 * r + 1)]! d[f + (2 * r + 1) + 1]!) = true := by
  rw [show f + (2 * r + 1) + 1 = f + (2 * r + 2) by omega, h2, decide_eq_true (by omega)]; rfl
 rw [if_pos e]
 cases ltN d[f + r]! d[f + (2 * r + 2)]!
 · simp
 · simp [h]
theorem uSift_any (w0 w : World) (blk off cap lo hi f : Nat) (d : Array Nat) (h : Arr w0 w blk off d) (hf : f + hi ≤ d.size) (hlo : lo ≤ hi) (hsz : d.size ≤ 1099511627776) :
 Calls Tryz.prog 237 #[.slice (some ⟨blk, off, none⟩) d.size cap, .int .i64 (lo : Int), .int .i64 (hi : Int), .int .i64 (f : Int)] w fun e w' => e = .returned (.tuple #[]) ∧ Arr w0 w' blk off (Go.Sort.siftDown ltN hi f lo d) := by
 have HH := Hj h
 clear h
 go_enter Tryz.func237, Tryz.ntmps237
 go_wp2
 go_loopw [8] (fun c wr => ∃ (r : Nat) (dk : Array Nat), c = .int .i64 (r : Int) ∧ r ≤ hi ∧ dk.size = d.size ∧ Hid (Arr w0 wr blk off dk) ∧ Hid (Go.Sort.siftDown ltN hi f r dk = Go.Sort.siftDown ltN hi f lo d)) (fun c _ => hi - (intOf c).toNat)
 case atStart => exact ⟨lo, d, rfl, hlo, rfl, HH, Hj rfl⟩
 case round =>
  obtain ⟨r, dk, rfl, hrh, hsk, HA, HO⟩ := hrel
  obtain ⟨c, hc⟩ : ∃ c, c = 2 * r + 1 := ⟨_, rfl⟩
  have ec : 2 * (r : Int) + 1 = (c : Int) := by omega
  by_cases hst : hi ≤ c
  · have hst' : (hi : Int) ≤ (c : Int) := by omega
    have HF : Hid (Go.Sort.siftDown ltN hi f lo d = dk) := Hj (by rw [← HO.out]; exact sift_stop hi f r dk (by omega))
    clear hst hc
    go_wp2
    go_end0
    exact ⟨rfl, by rw [HF.out]; exact HA.out⟩
  · have hst' : (c : Int) < (hi : Int) := by omega
    obtain ⟨I, hI⟩ : ∃ I, I = f + r := ⟨_, rfl⟩
    obtain ⟨J, hJ⟩ : ∃ J, J = f + c := ⟨_, rfl⟩
    have eI : (f : Int) + (r : Int) = (I : Int) := by omega
    have eJ : (f : Int) + (c : Int) = (J : Int) := by omega
    have hIs : (I : Int) < (d.size : Int) := by omega
    have hJs : (J : Int) < (d.size : Int) := by omega
    have hI2 : I < dk.size := by omega
    have hJ2 : J < dk.size := by omega
    have hbig : (d.size : Int) ≤ 1099511627776 := by omega
    have c0 := HA.out.cell I hI2; have c1 := HA.out.cell J hJ2
    have f0 := HA.out.fro I hI2; have f1 := HA.out.fro J hJ2
    obtain ⟨x, hx⟩ : ∃ x, dk[I]! = x := ⟨_, rfl⟩
    obtain ⟨y, hy⟩ : ∃ y, dk[J]! = y := ⟨_, rfl⟩
    rw [hx] at c0
    rw [hy] at c1
    have HX := Hj hx; have HY := Hj hy; have HI2 := Hj hI2; have HJ2 := Hj hJ2; have HI := Hj hI; have HJ := Hj hJ; have HC := Hj hc; have HST := Hj hst
    clear hx hy hI2 hJ2
    obtain ⟨e, he⟩ : ∃ e, e = c + 1 := ⟨_, rfl⟩
    have ee : (c : Int) + 1 = (e : Int) := by omega
    have hebig : (e : Int) ≤ 2199023255552 := by omega
    have he0 : (0 : Int) ≤ (e : Int) := by omega
    have HE := Hj he
    by_cases hg : e < hi
    · have hg1 : (e : Int) < (hi : Int) := by omega
      obtain ⟨K, hK⟩ : ∃ K, K = f + e := ⟨_, rfl⟩
      have eK : (f : Int) + (e : Int) = (K : Int) := by omega
      have eJK : (J : Int) + 1 = (K : Int) := by omega
      have hKs : (K : Int) < (d.size : Int) := by omega
      have hK2 : K < dk.size := by omega
      have c2 := HA.out.cell K hK2; have f2 := HA.out.fro K hK2
      obtain ⟨z, hz⟩ : ∃ z, dk[K]! = z := ⟨_, rfl⟩
      rw [hz] at c2
      have HZ := Hj hz; have HK2 := Hj hK2; have HK := Hj hK; have HG := Hj hg
      clear hz hK2 hg hK hI hJ hc he hst
      cases hyz : ltN y z with
      | true =>
        have HS : Hid (Go.Sort.siftDown ltN hi f lo d = if ltN x z = true then Go.Sort.siftDown ltN hi f e (Go.Sort.swp dk I K) else dk) := Hj (by
         have h := sift_right hi f r dk (by have := HG.out; have := HC.out; have := HE.out; omega) (by rw [show f + (2 * r + 1) = J by have := HJ.out; have := HC.out; omega, show f + (2 * r + 2) = K by have := HK.out; have := HC.out; have := HE.out; omega, HY.out, HZ.out]; exact hyz)
         rw [show f + (2 * r + 2) = K by have := HK.out; have := HC.out; have := HE.out; omega, show f + r = I from HI.out.symm, show 2 * r + 2 = e by have := HC.out; have := HE.out; omega, HX.out, HZ.out] at h
         rw [← HO.out, h])
        cases hl : ltN x z with
        | true =>
          have HN : Hid (Go.Sort.siftDown ltN hi f e (Go.Sort.swp dk I K) = Go.Sort.siftDown ltN hi f lo d) := Hj (by rw [HS.out, if_pos hl])
          clear HS
          go_wp2
          go_quiet ((go_at_call 158; exact Calls.quiet_of_same (qah _ _ _)))
          go_wp2
          have HAq := Hj (HA.out.drewN nq)
          have q0 := HAq.out.cell I HI2.out; have q1 := HAq.out.cell K HK2.out
          have g0 := HAq.out.fro I HI2.out; have g1 := HAq.out.fro K HK2.out
          rw [HX.out] at q0
          rw [HZ.out] at q1
          generalize wr.drewN nq = wq at *
          go_quiet ((go_at_call 158; exact Calls.quiet_of_same (qah _ _ _)))
          go_wp2
          go_region
          go_wp2
          exact ⟨⟨e, _, rfl, by have := HG.out; omega, by rw [Go.Sort.size_swp, hsk], Hj ((HAq.out.drewN _).swap HI2.out HK2.out HZ.out HX.out), HN⟩, by have := HC.out; have := HE.out; simp [intOf]; omega⟩
        | false =>
          have HF : Hid (Go.Sort.siftDown ltN hi f lo d = dk) := Hj (by rw [HS.out, if_neg (by rw [hl]; decide)])
          clear HS
          go_wp2
          go_quiet ((go_at_call 158; exact Calls.quiet_of_same (qah _ _ _)))
          go_wp2
          have HAq := Hj (HA.out.drewN nq)
          have q0 := HAq.out.cell I HI2.out; have q1 := HAq.out.cell K HK2.out
          have g0 := HAq.out.fro I HI2.out; have g1 := HAq.out.fro K HK2.out
          rw [HX.out] at q0
          rw [HZ.out] at q1
          generalize wr.drewN nq = wq at *
          go_quiet ((go_at_call 158; exact Calls.quiet_of_same (qah _ _ _)))
          go_wp2
          first | go_end0 | (refine bodyPost_ret (results_none rfl _ _ _) rfl ?_)
          exact ⟨rfl, by rw [HF.out]; exact HAq.out.drewN _⟩
      | false =>
        have HS : Hid (Go.Sort.siftDown ltN hi f lo d = if ltN x y = true then Go.Sort.siftDown ltN hi f c (Go.Sort.swp dk I J) else dk) := Hj (by
         have h := sift_left hi f r dk (by have := HST.out; have := HC.out; omega) (.inr (by rw [show f + (2 * r + 1) = J by have := HJ.out; have := HC.out; omega, show f + (2 * r + 2) = K by have := HK.out; have := HC.out; have := HE.out; omega, HY.out, HZ.out]; exact hyz))
         rw [show f + (2 * r + 1) = J by have := HJ.out; have := HC.out; omega, show f + r = I from HI.out.symm, show 2 * r + 1 = c from HC.out.symm, HX.out, HY.out] at h
         rw [← HO.out, h])
        cases hl : ltN x y with
        | true =>
          have HN : Hid (Go.Sort.siftDown ltN hi f c (Go.Sort.swp dk I J) = Go.Sort.siftDown ltN hi f lo d) := Hj (by rw [HS.out, if_pos hl])
          clear HS
          go_wp2
          go_quiet ((go_at_call 158; exact Calls.quiet_of_same (qah _ _ _)))
          go_wp2
          have HAq := Hj (HA.out.drewN nq)
          have q0 := HAq.out.cell I HI2.out; have q1 := HAq.out.cell J HJ2.out
          have g0 := HAq.out.fro I HI2.out; have g1 := HAq.out.fro J HJ2.out
          rw [HX.out] at q0
          rw [HY.out] at q1
          generalize wr.drewN nq = wq at *
          go_quiet ((go_at_call 158; exact Calls.quiet_of_same (qah _ _ _)))
          go_wp2
          go_region
          go_wp2
          exact ⟨⟨c, _, rfl, by have := HST.out; omega, by rw [Go.Sort.size_swp, hsk], Hj ((HAq.out.drewN _).swap HI2.out HJ2.out HY.out HX.out), HN⟩, by have := HC.out; simp [intOf]; omega⟩
        | false =>
          have HF : Hid (Go.Sort.siftDown ltN hi f lo d = dk) := Hj (by rw [HS.out, if_neg (by rw [hl]; decide)])
          clear HS
          go_wp2
          go_quiet ((go_at_call 158; exact Calls.quiet_of_same (qah _ _ _)))
          go_wp2
          have HAq := Hj (HA.out.drewN nq)
          have q0 := HAq.out.cell I HI2.out; have q1 := HAq.out.cell J HJ2.out
          have g0 := HAq.out.fro I HI2.out; have g1 := HAq.out.fro J HJ2.out
          rw [HX.out] at q0
          rw [HY.out] at q1
          generalize wr.drewN nq = wq at *
          go_quiet ((go_at_call 158; exact Calls.quiet_of_same (qah _ _ _)))
          go_wp2
          first | go_end0 | (refine bodyPost_ret (results_none rfl _ _ _) rfl ?_)
          exact ⟨rfl, by rw [HF.out]; exact HAq.out.drewN _⟩
    · have hg1 : (decide ((e : Int) < (hi : Int))) = false := by simp; omega
      have hwe : IntKind.i64.wrap (e : Int) = (e : Int) := by rw [IntKind.wrap_i64]; omega
      clear hI hJ hc hst
      have HS : Hid (Go.Sort.siftDown ltN hi f lo d = if ltN x y = true then Go.Sort.siftDown ltN hi f c (Go.Sort.swp dk I J) else dk) := Hj (by
       have h := sift_left hi f r dk (by have := HST.out; have := HC.out; omega) (.inl (by have := HC.out; omega))
       rw [show f + (2 * r + 1) = J by have := HJ.out; have := HC.out; omega, show f + r = I from HI.out.symm, show 2 * r + 1 = c from HC.out.symm, HX.out, HY.out] at h
       rw [← HO.out, h])
      have hg2 : (decide (e < hi)) = false := by simp; omega
      have hg2 : (decide (e < hi)) = false := by simp; omega
      clear hg he
      cases hl : ltN x y with
      | true =>
        have HN : Hid (Go.Sort.siftDown ltN hi f c (Go.Sort.swp dk I J) = Go.Sort.siftDown ltN hi f lo d) := Hj (by rw [HS.out, if_pos hl])
        clear HS
        go_wp2
        go_quiet (fail)
        go_wp2
        have HAq := Hj (HA.out.drewN nq)
        have q0 := HAq.out.cell I HI2.out; have q1 := HAq.out.cell J HJ2.out
        have g0 := HAq.out.fro I HI2.out; have g1 := HAq.out.fro J HJ2.out
        rw [HX.out] at q0
        rw [HY.out] at q1
        generalize wr.drewN nq = wq at *
        go_quiet ((go_at_call 158; exact Calls.quiet_of_same (qah _ _ _)))
        go_wp2
        go_region
        go_wp2
        exact ⟨⟨c, _, rfl, by have := HST.out; omega, by rw [Go.Sort.size_swp, hsk], Hj ((HAq.out.drewN _).swap HI2.out HJ2.out HY.out HX.out), HN⟩, by have := HC.out; simp [intOf]; omega⟩
      | false =>
        have HF : Hid (Go.Sort.siftDown ltN hi f lo d = dk) := Hj (by rw [HS.out, if_neg (by rw [hl]; decide)])
        clear HS
        go_wp2
        go_quiet (fail)
        go_wp2
        have HAq := Hj (HA.out.drewN nq)
        have q0 := HAq.out.cell I HI2.out; have q1 := HAq.out.cell J HJ2.out
        have g0 := HAq.out.fro I HI2.out; have g1 := HAq.out.fro J HJ2.out
        rw [HX.out] at q0
        rw [HY.out] at q1
        generalize wr.drewN nq = wq at *
        go_quiet ((go_at_call 158; exact Calls.quiet_of_same (qah _ _ _)))
        go_wp2
        first | go_end0 | (refine bodyPost_ret (results_none rfl _ _ _) rfl ?_)
        exact ⟨rfl, by rw [HF.out]; exact HAq.out.drewN _⟩
end
section
open Go.RowKit
def Holds (w : World) (v : Value) (xs : List Value) : Prop :=
 ∃ a cap, v = .slice a xs.length cap ∧ xs.length ≤ cap ∧ (xs = [] ∨ ∃ b off, a = some ⟨b, off, none⟩ ∧ ∀ j u, xs[j]? = some u → w.cell? ⟨b, off + j, none⟩ = some u)
theorem Holds.nil (w : World) : Holds w (.slice none 0 0) [] := ⟨none, 0, rfl, Nat.le_refl _, .inl rfl⟩
theorem Holds.keeps {S : Nat → Prop} {a b : World} {v : Value} {xs : List Value} (h : Holds a v xs) (k : Keeps S a b) (hS : ∀ g, v.ownBlock = some g → ¬ S g) : Holds b v xs := by
 obtain ⟨ad, cap, rfl, hc, h | ⟨bl, off, rfl, hcell⟩⟩ := h
 · exact ⟨ad, cap, rfl, hc, .inl h⟩
 · exact ⟨_, cap, rfl, hc, .inr ⟨bl, off, rfl, fun j u hj => k.cell (hcell j u hj) (hS bl rfl)⟩⟩
theorem Holds.lt {a : World} {v : Value} {xs : List Value} (h : Holds a v xs) (hx : xs ≠ []) : ∃ g, v.ownBlock = some g ∧ g < a.heap.size := by
 obtain ⟨ad, cap, rfl, hc, h | ⟨bl, off, rfl, hcell⟩⟩ := h
 · exact absurd h hx
 · cases xs with
   | nil => exact absurd rfl hx
   | cons x xs => exact ⟨bl, rfl, World.block_lt_of_cell? a _ (hcell 0 x rfl)⟩
theorem Holds.fresh {a b : World} {v : Value} {xs : List Value} (h : Holds a v xs) (k : Keeps (fun k => a.heap.size ≤ k) a b) : Holds b v xs := by
 obtain ⟨ad, cap, rfl, hc, h | ⟨bl, off, rfl, hcell⟩⟩ := h
 · exact ⟨ad, cap, rfl, hc, .inl h⟩
 · refine ⟨_, cap, rfl, hc, .inr ⟨bl, off, rfl, fun j u hj => k.cell (hcell j u hj) (fun hs => ?_)⟩⟩
   have := World.block_lt_of_cell? a _ (hcell j u hj)
   simp only at hs this
   omega
theorem Holds.index {w : World} {v : Value} {xs : List Value} (h : Holds w v xs) {j : Nat} {u : Value} (hj : xs[j]? = some u) :
 ∃ b off cap, v = .slice (some ⟨b, off, none⟩) xs.length cap ∧ w.cell? ⟨b, off + j, none⟩ = some u := by
 obtain ⟨ad, cap, rfl, hc, h | ⟨bl, off, rfl, hcell⟩⟩ := h
 · subst h; simp at hj
 · exact ⟨bl, off, cap, rfl, hcell j u hj⟩
theorem qbn (b off j : Nat) : (⟨b, off, none⟩ : Addr).add j = ⟨b, off + j, none⟩ := by unfold Addr.add; split <;> simp_all
theorem qaq {w : World} {base : Nat} {e : TypeId} {v : Value} {n : Nat} {xs : List Value} (h : w.ownsRow base e 1 v n xs) : Holds w v xs := by
 have hl : xs.length = n := by have := h.1; omega
 rcases h.2 with ⟨rfl, h0⟩ | ⟨g, cap, cur, rfl, hb, hgg, hcap, _, hcs, htk⟩
 · refine ⟨none, 0, by rw [hl, h0], by omega, .inl ?_⟩
   exact List.eq_nil_of_length_eq_zero (by omega)
 · refine ⟨_, cap, by rw [hl], by omega, .inr ⟨g, 0, rfl, fun j u hj => ?_⟩⟩
   rw [Nat.zero_add, cell_of_row w g j _ _ _ hgg, ← Array.getElem?_toList]
   rw [← htk, List.getElem?_take] at hj
   split at hj
   · exact hj
   · cases hj
def bytesOf (l : List Nat) : ByteArray := ⟨(l.map UInt8.ofNat).toArray⟩
theorem bytesOf_inj {l l' : List Nat} (h : ∀ c ∈ l, c < 256) (h' : ∀ c ∈ l', c < 256) : ((bytesOf l).toList == (bytesOf l').toList) = decide (l = l') := by
 have e : ∀ l : List Nat, (bytesOf l).toList = l.map UInt8.ofNat := by
  intro l
  rw [bytesOf, ByteArray.toList_mk]
 rw [e, e]
 rw [Bool.eq_iff_iff, beq_iff_eq, decide_eq_true_iff]
 constructor
 · intro hm
   have inj : ∀ l : List Nat, (∀ c ∈ l, c < 256) → (l.map UInt8.ofNat).map UInt8.toNat = l := by
    intro l hl
    have h2 : (l.map UInt8.ofNat).map UInt8.toNat = l.map id := by
     rw [List.map_map]
     refine List.map_congr_left fun c hc => ?_
     have := hl c hc
     simp [UInt8.toNat_ofNat']; omega
    rw [h2, List.map_id]
   rw [← inj l h, ← inj l' h', hm]
 · intro hl; rw [hl]
section
variable {P : Program} (w : World)
theorem qcn (src e : TypeId) (hs : P.underlying src = some (.slice e)) (he : P.underlying e = some (.int .u8)) (v : Value) (l : List Nat) (h : Holds w v (u8s l)) :
 ∀ dst, P.underlying dst = some .string → (convert src dst v).run P w = .ok (.string (bytesOf l)) w := by
 intro dst hd
 obtain ⟨ad, cap, rfl, hc, h | ⟨bl, off, rfl, hcell⟩⟩ := h
 · have hl : l = [] := by cases l <;> simp_all [u8s]
   subst hl
   cases ad with
   | none => exact run_convert_bytes_nil w src e hs he _ _ dst hd
   | some a =>
     rw [run_convert_bytes_string w src dst e _ _ _ hs he hd]
     have := run_bytesToString (P := P) w a 0 cap [] (by simpa using run_loadCells_list (P := P) w a [] (by simp))
     have e : bytesOf [] = ByteArray.empty := rfl
     rw [e]
     simpa [u8s] using this
 · have hx := run_convert_bytes_arg (P := P) w src e hs he bl off (u8s l).length cap (l.map fun c => ((c : Nat) : Int)) (by simp [u8s]) (fun i hi => by
    have hi' : i < l.length := by simpa [u8s] using hi
    refine hcell i _ ?_
    simp [u8s, hi', List.getD_eq_getElem?_getD]) dst hd
   rw [hx]
   congr 2
   simp [strOfNums, bytesOf]
end
theorem packed_lt (l : List Bool) : ∀ c ∈ packed l, c < 256 := by
 intro c hc
 simp only [packed, List.mem_map] at hc
 obtain ⟨j, _, rfl⟩ := hc
 exact byteAt_lt l j
section
variable {P : Program} (w : World)
theorem qes {a : Option Addr} {len cap : Nat} {xs : List Value} (h : Holds w (.slice a len cap) xs) (lo hi : Nat) (h1 : lo ≤ hi) (h2 : hi ≤ xs.length) :
 ∃ a2 cap2, sliced a lo hi cap 1 = .slice a2 (hi - lo) cap2 ∧ Holds w (.slice a2 (hi - lo) cap2) ((xs.take hi).drop lo) ∧ (∀ g, (Value.slice a2 (hi - lo) cap2).ownBlock = some g → (Value.slice a len cap).ownBlock = some g) := by
 obtain ⟨ad, cap', hv, hc, h⟩ := h
 simp only [Value.slice.injEq] at hv
 obtain ⟨rfl, hl, rfl⟩ := hv
 have hlen : ((xs.take hi).drop lo).length = hi - lo := by rw [List.length_drop, List.length_take]; omega
 by_cases hm : cap = lo
 · refine ⟨a, cap - lo, by simp [sliced, hm], ⟨a, cap - lo, by rw [hlen], by rw [hlen]; omega, .inl (List.eq_nil_of_length_eq_zero (by rw [hlen]; omega))⟩, fun g hg => by cases a <;> simp [Value.ownBlock] at hg ⊢; exact hg⟩
 · refine ⟨a.map (·.add (lo * 1)), cap - lo, by simp [sliced, hm], ⟨a.map (·.add (lo * 1)), cap - lo, by rw [hlen], by rw [hlen]; omega, ?_⟩, ?_⟩
   · rcases h with h | ⟨b, off, rfl, hcell⟩
     · subst h; exact .inl (by simp)
     · refine .inr ⟨b, off + lo, by simp [qbn], fun j u hj => ?_⟩
       rw [List.getElem?_drop, List.getElem?_take] at hj
       split at hj
       · rw [Nat.add_assoc]; exact hcell _ _ hj
       · cases hj
   · intro g hg
     cases a with
     | none => simp [Value.ownBlock] at hg
     | some ad =>
       simp only [Option.map_some, Value.ownBlock, Option.some.injEq] at hg ⊢
       rw [← hg]
       unfold Addr.add
       split <;> rfl
theorem qff (t e : TypeId) (ht : P.underlying t = some (.slice e)) {i : TypeInfo} (hi : P.info? e = some i) (hz : i.size = 1) {a : Option Addr} {len cap : Nat} {xs : List Value} (h : Holds w (.slice a len cap) xs) (k : IntKind) (lo : Nat) (h1 : lo ≤ xs.length) :
 ∃ a2 cap2, (Instr.sliceAt t (.slice a len cap) (some (.int k (lo : Nat))) none none).run P w = .ok (.slice a2 (xs.length - lo) cap2) w ∧ Holds w (.slice a2 (xs.length - lo) cap2) (xs.drop lo) ∧ (∀ g, (Value.slice a2 (xs.length - lo) cap2).ownBlock = some g → (Value.slice a len cap).ownBlock = some g) := by
 have hlen : len = xs.length := by
  obtain ⟨ad, cap', hv, _⟩ := h
  simp only [Value.slice.injEq] at hv
  exact hv.2.1
 subst hlen
 obtain ⟨a2, cap2, e1, e2, e3⟩ := qes w h lo xs.length h1 (Nat.le_refl _)
 rw [List.take_length] at e2
 refine ⟨a2, cap2, ?_, e2, e3⟩
 have hel : P.elem t = e := by simp [Program.elem, ht]
 have ht' : P.underlying t = some (.slice (P.elem t)) := by rw [hel]; exact ht
 rw [run_sliceAt_slice (P := P) w t _ _ _ _ ht', run_slice_l (P := P) w t a xs.length cap ht' k lo (by omega) (by omega), hel]
 simp [sizeOf, typeInfo, hi, hz, e1, Result.andThen]
theorem run_to (t e : TypeId) (ht : P.underlying t = some (.slice e)) {i : TypeInfo} (hi : P.info? e = some i) (hz : i.size = 1) {a : Option Addr} {len cap : Nat} {xs : List Value} (h : Holds w (.slice a len cap) xs) (k : IntKind) (hi' : Nat) (h1 : hi' ≤ xs.length) :
 ∃ a2 cap2, (Instr.sliceAt t (.slice a len cap) none (some (.int k (hi' : Nat))) none).run P w = .ok (.slice a2 hi' cap2) w ∧ Holds w (.slice a2 hi' cap2) (xs.take hi') ∧ (∀ g, (Value.slice a2 hi' cap2).ownBlock = some g → (Value.slice a len cap).ownBlock = some g) := by
 obtain ⟨a2, cap2, e1, e2, e3⟩ := qes w h 0 hi' (Nat.zero_le _) h1
 rw [Nat.sub_zero] at e1 e2 e3
 rw [List.drop_zero] at e2
 have hcap : hi' ≤ cap := by
  obtain ⟨ad, cap', hv, hc, _⟩ := h
  simp only [Value.slice.injEq] at hv
  omega
 refine ⟨a2, cap2, ?_, e2, e3⟩
 have hel : P.elem t = e := by simp [Program.elem, ht]
 have ht' : P.underlying t = some (.slice (P.elem t)) := by rw [hel]; exact ht
 rw [run_sliceAt_slice (P := P) w t _ _ _ _ ht', run_slice_h (P := P) w t a len cap ht' k hi' (by omega) (by omega), hel]
 simp [sizeOf, typeInfo, hi, hz, e1, Result.andThen]
end
def own (v : Value) (k : Nat) : Prop := v.ownBlock = some k
structure RowTo (e : TypeId) (base : Nat) (v : Value) (w : World) (v' : Value) (xs : List Value) (w' : World) : Prop where
 row : w'.ownsRow base e 1 v' xs.length xs
 keeps : Keeps (own v) w w'
 new : ∀ g, v'.ownBlock = some g → v.ownBlock = some g ∨ w.heap.size ≤ g
theorem RowTo.refl {e : TypeId} {base : Nat} {v : Value} {w : World} {xs : List Value} (h : w.ownsRow base e 1 v xs.length xs) : RowTo e base v w v xs w := ⟨h, Keeps.refl _ _, fun _ h => .inl h⟩
theorem RowTo.append {e : TypeId} {base : Nat} {v v1 v2 : Value} {w w1 w2 : World} {o : Obj} {xs ys : List Value} (h : RowTo e base v w v1 xs w1)
 (hr : w2.ownsRow base e 1 v2 ys.length ys) (hg : (w1.alloc o).grownBy w2 v1.ownBlock) (hn : ∀ g, v2.ownBlock = some g → v1.ownBlock = some g ∨ (w1.alloc o).heap.size ≤ g) : RowTo e base v w v2 ys w2 := by
 refine ⟨hr, (h.keeps.alloc o).grown hg (fun k hk e => ?_), fun g hg' => ?_⟩
 · rcases h.new k e with h' | h'
   · exact h'
   · exact absurd hk (Nat.not_lt.2 h')
 · rcases hn g hg' with h' | h'
   · exact h.new g h'
   · exact .inr (Nat.le_trans h.keeps.size (Nat.le_trans (by simp) h'))
#print axioms qcn
end
section
set_option maxHeartbeats 4000000
set_option maxRecDepth 100000
open Go.RowKit
theorem uSift_at (w0 w : World) (blk off cap sz lo hi f : Nat) (d : Array Nat) (h : Arr w0 w blk off d) (hs : d.size = sz) (hf : f + hi ≤ sz) (hlo : lo ≤ hi) (hsz : sz ≤ 1099511627776) :
 Calls Tryz.prog 237 #[.slice (some ⟨blk, off, none⟩) sz cap, .int .i64 (lo : Int), .int .i64 (hi : Int), .int .i64 (f : Int)] w fun e w' => e = .returned (.tuple #[]) ∧ Arr w0 w' blk off (Go.Sort.siftDown ltN hi f lo d) := by
 subst hs
 exact uSift_any w0 w blk off cap lo hi f d h hf hlo hsz
theorem sift_size (hi f : Nat) (d : Array Nat) (lo : Nat) : (Go.Sort.siftDown ltN hi f lo d).size = d.size := by
 fun_induction Go.Sort.siftDown ltN hi f lo d <;> simp_all [Go.Sort.size_swp]
theorem uHeap_any (w0 w : World) (blk off cap a b : Nat) (d : Array Nat) (h : Arr w0 w blk off d) (hab : a < b) (hb : b ≤ d.size) (hsz : d.size ≤ 1099511627776) :
 Calls Tryz.prog 218 #[.slice (some ⟨blk, off, none⟩) d.size cap, .int .i64 (a : Int), .int .i64 (b : Int)] w fun e w' => e = .returned (.tuple #[]) ∧ Arr w0 w' blk off (Go.Sort.heapSort ltN d a b) := by
 have HH := Hj h
 clear h
 obtain ⟨n1, rfl⟩ : ∃ n1, b = a + n1 + 1 := ⟨b - a - 1, by omega⟩
 obtain ⟨b, hbb⟩ : ∃ b, b = a + n1 + 1 := ⟨_, rfl⟩
 rw [← hbb] at hb ⊢
 obtain ⟨n, hn⟩ : ∃ n, n = n1 + 1 := ⟨_, rfl⟩
 obtain ⟨m, hm⟩ : ∃ m, m = n1 / 2 := ⟨_, rfl⟩
 have e1 : (b : Int) - (a : Int) = (n : Int) := by omega
 have e2 : (n : Int) - 1 = (n1 : Int) := by omega
 have e3 : (n1 : Int) / 2 = (m : Int) := by omega
 have HS : Hid (Go.Sort.heapSort ltN d a b = Go.Sort.heapPop ltN a n (Go.Sort.heapBuild ltN n a (m + 1) d)) := Hj (by
  unfold Go.Sort.heapSort
  rw [show b - a = n by omega, show (n - 1) / 2 + 1 = m + 1 by omega])
 have hbig : (n1 : Int) ≤ 1099511627776 := by omega
 have hmn : m ≤ n1 := by omega
 have HM := Hj hm; have HN := Hj hn; have HB := Hj hbb; have HAB := Hj hab
 clear hm hn hbb hab
 go_enter Tryz.func218, Tryz.ntmps218
 go_wp2
 go_loopw [9] (fun c wr => ∃ (i : Int) (k : Nat) (dk : Array Nat), c = .int .i64 i ∧ i + 1 = (k : Int) ∧ k ≤ m + 1 ∧ dk.size = d.size ∧ Hid (Arr w0 wr blk off dk) ∧ Hid (Go.Sort.heapBuild ltN n a k dk = Go.Sort.heapBuild ltN n a (m + 1) d)) (fun c _ => (intOf c + 1).toNat)
 case atStart => exact ⟨_, m + 1, d, rfl, by omega, Nat.le_refl _, rfl, HH, Hj rfl⟩
 case round =>
  obtain ⟨i, k, dk, rfl, hik, hkm, hsk, HA, HO⟩ := hrel
  cases k with
  | succ q =>
    obtain rfl : i = (q : Int) := by omega
    have HC := Hj (uSift_at w0 wr blk off cap d.size q n a dk HA.out hsk (by have := HN.out; have := HB.out; omega) (by have := HN.out; omega) hsz)
    have hq0 : (0 : Int) ≤ (q : Int) := by omega
    clear hik
    go_wp2_with (go_at_call 237; refine HC.out.mono ?_; rintro e w1 ⟨rfl, hA⟩)
    exact ⟨⟨_, q, _, rfl, by omega, by omega, by rw [sift_size, hsk], Hj hA, Hj (by rw [← HO.out]; rfl)⟩, by simp [intOf]⟩
  | zero =>
    obtain rfl : i = -1 := by omega
    have HD : Hid (Go.Sort.heapBuild ltN n a (m + 1) d = dk) := Hj (by rw [← HO.out]; rfl)
    clear hik
    go_wp2
    go_loopw [10] (fun c wr => ∃ (i : Int) (k : Nat) (dj : Array Nat), c = .int .i64 i ∧ i + 1 = (k : Int) ∧ k ≤ n ∧ dj.size = d.size ∧ Hid (Arr w0 wr blk off dj) ∧ Hid (Go.Sort.heapPop ltN a k dj = Go.Sort.heapPop ltN a n dk)) (fun c _ => (intOf c + 1).toNat)
    case atStart => exact ⟨_, n, dk, rfl, by omega, Nat.le_refl _, hsk, HA, Hj rfl⟩
    case round =>
     obtain ⟨i, k, dj, rfl, hik, hkm, hsj, HAj, HOj⟩ := hrel
     cases k with
     | succ q =>
       obtain rfl : i = (q : Int) := by omega
       have hq0 : (0 : Int) ≤ (q : Int) := by omega
       obtain ⟨J, hJ⟩ : ∃ J, J = a + q := ⟨_, rfl⟩
       have eJ : (a : Int) + (q : Int) = (J : Int) := by omega
       have ha1 : a < dj.size := by have := HN.out; have := HB.out; omega
       have hJ1 : J < dj.size := by have := HN.out; have := HB.out; omega
       have has : (a : Int) < (d.size : Int) := by omega
       have hJs : (J : Int) < (d.size : Int) := by omega
       have c0 := HAj.out.cell a ha1; have c1 := HAj.out.cell J hJ1
       have f0 := HAj.out.fro a ha1; have f1 := HAj.out.fro J hJ1
       obtain ⟨x, hx⟩ : ∃ x, dj[a]! = x := ⟨_, rfl⟩
       obtain ⟨y, hy⟩ : ∃ y, dj[J]! = y := ⟨_, rfl⟩
       rw [hx] at c0
       rw [hy] at c1
       have HX := Hj hx; have HY := Hj hy; have HA1 := Hj ha1; have HJ1 := Hj hJ1; have HJ := Hj hJ
       have HC := Hj (fun wq dq (hq : Arr w0 wq blk off dq) (hs : dq.size = d.size) => uSift_at w0 wq blk off cap d.size 0 q a dq hq hs (by have := HN.out; have := HB.out; omega) (Nat.zero_le _) hsz)
       clear hik hx hy ha1 hJ1 hJ
       have HNX : Hid (∀ wq, Arr w0 wq blk off (Go.Sort.siftDown ltN q a 0 (Go.Sort.swp dj a J)) → ∃ (i : Int) (k : Nat) (dj : Array Nat), Value.int .i64 ((q : Int) - 1) = .int .i64 i ∧ i + 1 = (k : Int) ∧ k ≤ n ∧ dj.size = d.size ∧ Hid (Arr w0 wq blk off dj) ∧ Hid (Go.Sort.heapPop ltN a k dj = Go.Sort.heapPop ltN a n dk)) := Hj (fun wq hq =>
        ⟨_, q, _, rfl, by omega, by omega, by rw [sift_size, Go.Sort.size_swp, hsj], Hj hq, Hj (by rw [← HOj.out, HJ.out]; rfl)⟩)
       have HSW : Hid (∀ m, Arr w0 (((wr.drewN m).setCell ⟨blk, off + a, none⟩ (.int .u64 (y : Int))).setCell ⟨blk, off + J, none⟩ (.int .u64 (x : Int))) blk off (Go.Sort.swp dj a J)) := Hj (fun m => (HAj.out.drewN m).swap HA1.out HJ1.out HY.out HX.out)
       by_cases hq : q = 0
       · obtain rfl : J = a := by have := HJ.out; omega
         obtain rfl : y = x := by rw [← HX.out, ← HY.out]
         clear hq c1 f1
         go_wp2
         go_region
         go_wp2_with (go_at_call 237; refine (HC.out _ _ (HSW.out 1) (by rw [Go.Sort.size_swp, hsj])).mono ?_; rintro e w1 ⟨rfl, hA⟩)
         exact ⟨HNX.out _ hA, by simp [intOf]⟩
       · have hne : a < J := by have := HJ.out; omega
         have hne2 : ¬ (off + J = off + a) := by omega
         clear hq
         go_wp2
         go_region
         go_wp2_with (go_at_call 237; refine (HC.out _ _ (HSW.out _) (by rw [Go.Sort.size_swp, hsj])).mono ?_; rintro e w1 ⟨rfl, hA⟩)
         exact ⟨HNX.out _ hA, by simp [intOf]⟩
     | zero =>
       obtain rfl : i = -1 := by omega
       clear hik
       go_wp2
       go_end0
       exact ⟨rfl, by rw [HS.out, HD.out, ← HOj.out]; exact HAj.out⟩
end
section
open Go.ChangeShapes Go.WideShapes Go.Deep Go.RowKit
section
variable {H : Type} {enc : TypeId × Value → H} {P : Program} {w : World} {base : Nat} {spare : Nat → Bool} {held : Bool}
def u64s (l : List Nat) : List Value := l.map fun c => .int .u64 ((c : Nat) : Int)
theorem qcg (l : List Nat) : (u64s l).length = l.length := by simp [u64s]
def i64s (l : List Int) : List Value := l.map (Value.int .i64)
theorem qil (l : List Int) : (i64s l).length = l.length := by simp [i64s]
end
end
section
open Go.RowKit
theorem qas {P : Program} (C : World → Prop) {id : Nat} {Q : Exit → Act → World → Prop} {a : Act} {w : World} {l : List Oper} (hm : P.follows .mixedOrders = true) (hB : Region.lexB .any l.toArray = true) (hC : C { w with drawn := w.drawn + 1 })
 (h : wpQuiet P l.toArray C (fun a' => ∀ w', C w' → Q .normal a' w') l a) : (Code.region id l.toArray true).wp P Q a w :=
 wp_region_quiet (C := C) hm hB hC (by simpa using h)
end
end Go.Proofs.YtfpcgcbehdogjaaGreatDoor
