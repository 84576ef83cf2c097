/-
  Lemmas on which LTopChunks rests, packed out of the texts PBits PMem PApp PRead WBits PRange WSlices; each for all arguments under the hypotheses it names.
-/
import Derived.Test.YtfpcgcbehdogjaaGreatDoorT00
import Derived.Lib.Hide
import Derived.WalkKit
import Derived.Test.YtfpcgcbehdogjaaGreatDoorRows
import Derived.RangeFuncBox
import Derived.WalkSpells
import Derived.WalkLawsBesides
import Derived.StillTailTactics
import Derived.Handy
import Derived.RangeFuncNested
import Derived.RangeFuncBound
import Derived.RangeFuncCalls
import Derived.RangeFuncLeaves
import Derived.Shelf.Abstract
import Derived.OwnWalkIn
namespace Go.Proofs.YtfpcgcbehdogjaaGreatDoor
section
def qaa (x n : Nat) : List Bool := (List.range n).map fun i => x.testBit (n - 1 - i)
theorem qab (x n : Nat) : (qaa x n).length = n := by simp [qaa]
def qbr (x n k : Nat) : List Bool := (List.range k).map fun i => x.testBit (n - 1 - i)
theorem fieldTake_length (x n k : Nat) : (qbr x n k).length = k := by simp [qbr]
theorem fieldTake_zero (x n : Nat) : qbr x n 0 = [] := rfl
theorem fieldTake_all (x n : Nat) : qbr x n n = qaa x n := rfl
theorem qdl (x n k : Nat) : qbr x n (k + 1) = qbr x n k ++ [x.testBit (n - 1 - k)] := by
 simp [qbr, List.range_succ]
def bitAt (l : List Bool) (i : Nat) : Nat := (l.getD i false).toNat
def byteAt (l : List Bool) (j : Nat) : Nat :=
 ((((((((bitAt l (8 * j)) * 2 + bitAt l (8 * j + 1)) * 2 + bitAt l (8 * j + 2)) * 2 + bitAt l (8 * j + 3)) * 2 + bitAt l (8 * j + 4)) * 2 + bitAt l (8 * j + 5)) * 2 + bitAt l (8 * j + 6)) * 2 + bitAt l (8 * j + 7))
def packed (l : List Bool) : List Nat := (List.range ((l.length + 7) / 8)).map (byteAt l)
def qcd (l : List Bool) : List Nat := (List.range (l.length / 8 + 1)).map (byteAt l)
theorem qay (l : List Bool) : (packed l).length = (l.length + 7) / 8 := by simp [packed]
theorem packedTo_length (l : List Bool) : (qcd l).length = l.length / 8 + 1 := by simp [qcd]
theorem qdf (l : List Bool) (i : Nat) : bitAt l i ≤ 1 := by unfold bitAt; cases l.getD i false <;> simp
theorem qce (l : List Bool) (i : Nat) (h : l.length ≤ i) : bitAt l i = 0 := by simp [bitAt, h]
theorem byteAt_lt (l : List Bool) (j : Nat) : byteAt l j < 256 := by
 unfold byteAt
 have := qdf l (8 * j); have := qdf l (8 * j + 1); have := qdf l (8 * j + 2); have := qdf l (8 * j + 3)
 have := qdf l (8 * j + 4); have := qdf l (8 * j + 5); have := qdf l (8 * j + 6); have := qdf l (8 * j + 7)
 omega
theorem byteAt_past (l : List Bool) (j : Nat) (h : l.length ≤ 8 * j) : byteAt l j = 0 := by
 simp [byteAt, qce l _ (show l.length ≤ 8 * j by omega), qce l _ (show l.length ≤ 8 * j + 1 by omega), qce l _ (show l.length ≤ 8 * j + 2 by omega), qce l _ (show l.length ≤ 8 * j + 3 by omega),
  qce l _ (show l.length ≤ 8 * j + 4 by omega), qce l _ (show l.length ≤ 8 * j + 5 by omega), qce l _ (show l.length ≤ 8 * j + 6 by omega), qce l _ (show l.length ≤ 8 * j + 7 by omega)]
theorem packedTo_of_zero (l : List Bool) (h : l.length % 8 = 0) : qcd l = packed l ++ [0] := by
 unfold qcd packed
 rw [show (l.length + 7) / 8 = l.length / 8 by omega, List.range_succ, List.map_append]
 simp only [List.map_cons, List.map_nil]
 rw [byteAt_past l _ (by omega)]
theorem packedTo_of_ne (l : List Bool) (h : ¬ l.length % 8 = 0) : qcd l = packed l := by
 unfold qcd packed
 rw [show (l.length + 7) / 8 = l.length / 8 + 1 by omega]
theorem bitAt_snoc (l : List Bool) (b : Bool) (i : Nat) : bitAt (l ++ [b]) i = if i = l.length then b.toNat else bitAt l i := by
 unfold bitAt
 rcases Nat.lt_trichotomy i l.length with h | h | h
 · simp [List.getD_eq_getElem?_getD, List.getElem?_append_left h, Nat.ne_of_lt h]
 · subst h; simp
 · simp [show ¬ i = l.length by omega, show l.length ≤ i by omega, List.getD_eq_getElem?_getD, List.getElem?_append_right (Nat.le_of_lt h), List.getElem?_eq_none (show [b].length ≤ i - l.length by simp; omega)]
theorem or_bit : ∀ (b0 b1 b2 b3 b4 b5 b6 b7 b : Bool) (r : Fin 8),
 (let f : Nat → Bool → Nat := fun i x => if i < r.val then x.toNat else 0
  let g : Nat → Bool → Nat := fun i x => if i = r.val then b.toNat else f i x
  ((((((((g 0 b0) * 2 + g 1 b1) * 2 + g 2 b2) * 2 + g 3 b3) * 2 + g 4 b4) * 2 + g 5 b5) * 2 + g 6 b6) * 2 + g 7 b7) =
  (((((((((f 0 b0) * 2 + f 1 b1) * 2 + f 2 b2) * 2 + f 3 b3) * 2 + f 4 b4) * 2 + f 5 b5) * 2 + f 6 b6) * 2 + f 7 b7) ||| (b.toNat * 2 ^ (7 - r.val)))) := by
 decide +kernel
theorem byteAt_snoc_at (l : List Bool) (b : Bool) : byteAt (l ++ [b]) (l.length / 8) = byteAt l (l.length / 8) ||| (b.toNat * 2 ^ (7 - l.length % 8)) := by
 have h := or_bit (l.getD (8 * (l.length / 8)) false) (l.getD (8 * (l.length / 8) + 1) false) (l.getD (8 * (l.length / 8) + 2) false) (l.getD (8 * (l.length / 8) + 3) false)
  (l.getD (8 * (l.length / 8) + 4) false) (l.getD (8 * (l.length / 8) + 5) false) (l.getD (8 * (l.length / 8) + 6) false) (l.getD (8 * (l.length / 8) + 7) false) b ⟨l.length % 8, Nat.mod_lt _ (by decide)⟩
 have e : ∀ k, k < 8 → (if k < l.length % 8 then (l.getD (8 * (l.length / 8) + k) false).toNat else 0) = bitAt l (8 * (l.length / 8) + k) := by
  intro k hk
  split
  · rfl
  · rw [qce]; omega
 have e' : ∀ k, k < 8 → (if k = l.length % 8 then b.toNat else bitAt l (8 * (l.length / 8) + k)) = bitAt (l ++ [b]) (8 * (l.length / 8) + k) := by
  intro k hk
  rw [bitAt_snoc]
  by_cases h : k = l.length % 8
  · rw [if_pos h, if_pos (by omega)]
  · rw [if_neg h, if_neg (by omega)]
 have e0 := e 0 (by decide)
 have e0' := e' 0 (by decide)
 simp only [Nat.add_zero] at e0 e0'
 simp only [e 1 (by decide), e 2 (by decide), e 3 (by decide), e 4 (by decide), e 5 (by decide), e 6 (by decide), e 7 (by decide), e0] at h
 simp only [e' 1 (by decide), e' 2 (by decide), e' 3 (by decide), e' 4 (by decide), e' 5 (by decide), e' 6 (by decide), e' 7 (by decide), e0'] at h
 exact h
theorem byteAt_snoc_lt (l : List Bool) (b : Bool) (j : Nat) (h : j < l.length / 8) : byteAt (l ++ [b]) j = byteAt l j := by
 unfold byteAt
 simp only [bitAt_snoc]
 rw [if_neg (by omega), if_neg (by omega), if_neg (by omega), if_neg (by omega), if_neg (by omega), if_neg (by omega), if_neg (by omega), if_neg (by omega)]
theorem packed_snoc (l : List Bool) (b : Bool) :
 packed (l ++ [b]) = (qcd l).set (l.length / 8) (byteAt l (l.length / 8) ||| (b.toNat * 2 ^ (7 - l.length % 8))) := by
 apply List.ext_getElem
 · rw [qay, List.length_set, packedTo_length, List.length_append, List.length_singleton]; omega
 · intro j h1 h2
   rw [qay, List.length_append, List.length_singleton] at h1
   rw [List.getElem_set]
   split
   · rename_i hj
     subst hj
     simp only [packed, List.getElem_map, List.getElem_range]
     exact byteAt_snoc_at l b
   · rename_i hj
     simp only [packed, qcd, List.getElem_map, List.getElem_range]
     exact byteAt_snoc_lt l b j (by omega)
theorem packed_getD (l : List Bool) (j : Nat) (h : j < (l.length + 7) / 8) : (packed l).getD j 0 = byteAt l j := by
 simp [packed, List.getD_eq_getElem?_getD, h]
theorem packedTo_at (l : List Bool) : (qcd l)[l.length / 8]? = some (byteAt l (l.length / 8)) := by
 simp [qcd]
theorem bit_and_one (x s : Nat) (hx : x < 18446744073709551616) : bits .and .u64 ((x : Int) / 2 ^ s) 1 = ((x.testBit s).toNat : Int) := by
 have e : ((x : Int) / 2 ^ s) = ((x / 2 ^ s : Nat) : Int) := by simp
 rw [e, show (1 : Int) = ((1 : Nat) : Int) from rfl, u64_and_nat _ _ (Nat.lt_of_le_of_lt (Nat.div_le_self _ _) hx) (by decide)]
 congr 1
 rw [Nat.and_one_is_mod, Nat.testBit_eq_decide_div_mod_eq]
 rcases Nat.mod_two_eq_zero_or_one (x / 2 ^ s) with h | h <;> simp [h]
theorem bool_toNat_le (b : Bool) : b.toNat ≤ 1 := by cases b <;> simp
#print axioms packed_snoc
end
section
open Go.RowKit
structure Keeps (S : Nat → Prop) (w w' : World) : Prop where
 os : w'.os = w.os
 tape : w'.tape = w.tape
 output : w'.output = w.output
 size : w.heap.size ≤ w'.heap.size
 block : ∀ k, k < w.heap.size → ¬ S k → w'.heap[k]? = w.heap[k]?
theorem Keeps.refl (S : Nat → Prop) (w : World) : Keeps S w w := ⟨rfl, rfl, rfl, Nat.le_refl _, fun _ _ _ => rfl⟩
theorem Keeps.trans {S S' : Nat → Prop} {a b c : World} (h : Keeps S a b) (k : Keeps S' b c) (hS : ∀ k, k < a.heap.size → S' k → S k) : Keeps S a c :=
 ⟨k.os.trans h.os, k.tape.trans h.tape, k.output.trans h.output, Nat.le_trans h.size k.size,
   fun i hi hn => (k.block i (Nat.lt_of_lt_of_le hi h.size) (fun hs => hn (hS i hi hs))).trans (h.block i hi hn)⟩
theorem Keeps.mono {S S' : Nat → Prop} {a b : World} (h : Keeps S a b) (hS : ∀ k, k < a.heap.size → S k → S' k) : Keeps S' a b :=
 ⟨h.os, h.tape, h.output, h.size, fun i hi hn => h.block i hi (fun hs => hn (hS i hi hs))⟩
theorem Keeps.drew {S : Nat → Prop} {a b : World} (h : Keeps S a b) : Keeps S a b.drew := ⟨h.os, h.tape, h.output, h.size, h.block⟩
theorem Keeps.alloc {S : Nat → Prop} {a b : World} (h : Keeps S a b) (o : Obj) : Keeps S a (b.alloc o) :=
 h.trans (S' := fun _ => False) ⟨rfl, rfl, rfl, by simp, fun k hk _ => Below.heap_alloc b o k hk⟩ (fun _ _ hf => hf.elim)
theorem Keeps.setCell {S : Nat → Prop} {a b : World} (h : Keeps S a b) {p : Addr} (hp : p.block < a.heap.size → S p.block) (u : Value) : Keeps S a (b.setCell p u) :=
 h.trans (S' := fun k => k = p.block) ⟨rfl, rfl, rfl, by simp [World.setCell], fun k _ hk => heap_setCell_other b p k u hk⟩ (fun _ hk hf => by subst hf; exact hp hk)
theorem Keeps.grown {S : Nat → Prop} {a b c : World} {row : Option Nat} (h : Keeps S a b) (hg : b.grownBy c row) (hr : ∀ k, k < a.heap.size → row = some k → S k) : Keeps S a c :=
 h.trans (S' := fun k => row = some k) ⟨hg.os, hg.tape, hg.output, hg.size, fun k hk hn => hg.block k hk (fun e => hn e.symm)⟩ hr
theorem Keeps.below {S : Nat → Prop} {a b : World} {B : Nat} (h : Keeps S a b) (hB : B ≤ a.heap.size) (hS : ∀ k, k < a.heap.size → S k → B ≤ k) : Below B a b :=
 ⟨h.os, h.tape, h.output, h.size, fun k hk => h.block k (by omega) (fun hs => by have := hS k (by omega) hs; omega)⟩
theorem Keeps.cell {S : Nat → Prop} {a b : World} (h : Keeps S a b) {p : Addr} {v : Value} (hc : a.cell? p = some v) (hS : ¬ S p.block) : b.cell? p = some v :=
 (World.cell?_of_block (h.block p.block (World.block_lt_of_cell? a p hc) hS)).trans hc
theorem Keeps.heap {S : Nat → Prop} {a b : World} (h : Keeps S a b) {k : Nat} {o : Obj} (hk : a.heap[k]? = some o) (hS : ¬ S k) : b.heap[k]? = some o :=
 (h.block k (Array.getElem?_eq_some_iff.1 hk).1 hS).trans hk
theorem Keeps.row {S : Nat → Prop} {a b : World} (h : Keeps S a b) {base : Nat} {e : TypeId} {size : Nat} {v : Value} {n : Nat} {xs : List Value} (hr : a.ownsRow base e size v n xs)
 (hS : ∀ g, v.ownBlock = some g → ¬ S g) : b.ownsRow base e size v n xs := by
 refine ⟨hr.1, ?_⟩
 rcases hr.2 with hn | ⟨g, cap, cur, rfl, hb, hgg, rest⟩
 · exact .inl hn
 · exact .inr ⟨g, cap, cur, rfl, hb, h.heap hgg (hS g rfl), rest⟩
theorem qaj {w : World} {base : Nat} {e : TypeId} {size : Nat} {v : Value} {n : Nat} {xs : List Value} (hr : w.ownsRow base e size v n xs) {g : Nat} (hg : v.ownBlock = some g) :
 ∃ cur, w.heap[g]? = some (.cells cur e (0, 0)) := by
 rcases hr.2 with ⟨rfl, _⟩ | ⟨g', cap, cur, rfl, hb, hgg, rest⟩
 · simp [Value.ownBlock] at hg
 · simp [Value.ownBlock] at hg; subst hg; exact ⟨cur, hgg⟩
theorem qam {w : World} {base base' : Nat} {e : TypeId} {size : Nat} {v : Value} {n : Nat} {xs : List Value} (hr : w.ownsRow base e size v n xs) (hb : ∀ g, v.ownBlock = some g → base' ≤ g) :
 w.ownsRow base' e size v n xs := by
 refine ⟨hr.1, ?_⟩
 rcases hr.2 with hn | ⟨g, cap, cur, rfl, _, hgg, rest⟩
 · exact .inl hn
 · exact .inr ⟨g, cap, cur, rfl, hb g rfl, hgg, rest⟩
theorem qag {w : World} {g p : Nat} {c c' : Array Value} {t t' : TypeId} {fr fr' : Nat × Nat} (hg : w.heap[g]? = some (.cells c t fr)) (hp : w.heap[p]? = some (.cells c' t' fr')) (ht : t ≠ t') : g ≠ p := by
 intro e
 subst e
 rw [hg] at hp
 simp only [Option.some.injEq, Obj.cells.injEq] at hp
 exact ht hp.2.1
theorem qbw {w : World} {base : Nat} {e : TypeId} {size : Nat} {v : Value} {n : Nat} {xs : List Value} (hr : w.ownsRow base e size v n xs) (hn : n ≠ 0) :
 ∃ g cap cur, v = .slice (some ⟨g, 0, none⟩) n cap ∧ base ≤ g ∧ w.heap[g]? = some (.cells cur e (0, 0)) ∧ n ≤ cap ∧ cap ≤ maxLen ∧ cur.size = cap * size ∧ cur.toList.take (n * size) = xs := by
 rcases hr.2 with ⟨rfl, h0⟩ | ⟨g, cap, cur, rfl, hb, hgg, rest⟩
 · exact absurd h0 hn
 · exact ⟨g, cap, cur, rfl, hb, hgg, rest⟩
def foot (p : Nat) (v : Value) (k : Nat) : Prop := k = p ∨ v.ownBlock = some k
def u8s (l : List Nat) : List Value := l.map fun c => .int .u8 ((c : Nat) : Int)
theorem qac (l : List Nat) : (u8s l).length = l.length := by simp [u8s]
structure IsW (w : World) (base p : Nat) (v : Value) (l : List Bool) : Prop where
 blk : w.heap[p]? = some (.cells #[v, .int .i64 l.length] 104 (0, 0))
 row : w.ownsRow base 5 1 v (packed l).length (u8s (packed l))
 base : base ≤ p
structure IsWmid (w : World) (base p : Nat) (v : Value) (l : List Bool) : Prop where
 blk : w.heap[p]? = some (.cells #[v, .int .i64 l.length] 104 (0, 0))
 row : w.ownsRow base 5 1 v (l.length / 8 + 1) (u8s (qcd l))
 base : base ≤ p
theorem IsW.keeps {S : Nat → Prop} {a b : World} {base p : Nat} {v : Value} {l : List Bool} (h : IsW a base p v l) (k : Keeps S a b) (hp : ¬ S p) (hv : ∀ g, v.ownBlock = some g → ¬ S g) : IsW b base p v l :=
 ⟨k.heap h.blk hp, k.row h.row hv, h.base⟩
theorem IsW.lt {a : World} {base p : Nat} {v : Value} {l : List Bool} (h : IsW a base p v l) : p < a.heap.size := (Array.getElem?_eq_some_iff.1 h.blk).1
theorem IsW.cell0 {a : World} {base p : Nat} {v : Value} {l : List Bool} (h : IsW a base p v l) : a.cell? ⟨p, 0, none⟩ = some v := by rw [cell_of_row a p 0 _ _ _ h.blk]; rfl
theorem IsW.cell1 {a : World} {base p : Nat} {v : Value} {l : List Bool} (h : IsW a base p v l) : a.cell? ⟨p, 1, none⟩ = some (.int .i64 l.length) := by rw [cell_of_row a p 1 _ _ _ h.blk]; rfl
theorem IsW.free {a : World} {base p : Nat} {v : Value} {l : List Bool} (h : IsW a base p v l) (j : Nat) : a.frozen? ⟨p, j, none⟩ = false := frozen_of_row a p j _ _ h.blk
theorem IsW.mid {a : World} {base p : Nat} {v : Value} {l : List Bool} (h : IsW a base p v l) (hr : ¬ l.length % 8 = 0) : IsWmid a base p v l :=
 ⟨h.blk, by have := h.row; rw [← packedTo_of_ne l hr, packedTo_length] at this; exact this, h.base⟩
theorem IsW.grow {a b : World} {base p : Nat} {v v' : Value} {l : List Bool} (h : IsW a base p v l) (hr : l.length % 8 = 0)
 (hrow : b.ownsRow base 5 1 v' ((packed l).length + 1) (u8s (packed l) ++ [.int .u8 0])) (hg : Keeps (fun k => v.ownBlock = some k) a b) :
 IsWmid (b.setCell ⟨p, 0, none⟩ v') base p v' l := by
 have hb : b.heap[p]? = some (.cells #[v, .int .i64 l.length] 104 (0, 0)) := by
  refine hg.heap h.blk (fun e => ?_)
  obtain ⟨cur, hc⟩ := qaj h.row e
  exact qag hc h.blk (by decide) rfl
 refine ⟨?_, ?_, h.base⟩
 · have := heap_setCell_same b p 0 _ _ v' hb
   simpa using this
 · rw [packedTo_of_zero l hr, show l.length / 8 + 1 = (packed l).length + 1 by rw [qay]; omega, show u8s (packed l ++ [0]) = u8s (packed l) ++ [.int .u8 0] by simp [u8s]]
   have k : Keeps (fun k => k = p) b (b.setCell ⟨p, 0, none⟩ v') := (Keeps.refl (fun k => k = p) b).setCell (p := ⟨p, 0, none⟩) (fun _ => rfl) v'
   refine k.row hrow (fun g hgv e => ?_)
   obtain ⟨cur, hc⟩ := qaj hrow hgv
   exact qag hc hb (by decide) e
theorem IsWmid.step {a : World} {base p g cap : Nat} {l : List Bool} {b : Bool} {n q : Nat} {c : Int} (h : IsWmid a base p (.slice (some ⟨g, 0, none⟩) n cap) l) (hq : q = l.length / 8)
 (hc : c = ((byteAt l q ||| (b.toNat * 2 ^ (7 - l.length % 8)) : Nat) : Int)) :
 IsW (((a.setCell ⟨g, q, none⟩ (.int .u8 c)).setCell ⟨p, 1, none⟩ (.int .i64 (l.length + 1))).drew) base p (.slice (some ⟨g, 0, none⟩) n cap) (l ++ [b]) := by
 subst hq
 have hn : n = l.length / 8 + 1 := by
  obtain ⟨g', cap', cur, hv, _⟩ := qbw h.row (by omega)
  simp only [Value.slice.injEq] at hv
  exact hv.2.1
 subst hn
 obtain ⟨cur, hcur⟩ := qaj h.row (g := g) rfl
 have hne : g ≠ p := qag hcur h.blk (by decide)
 obtain ⟨h1, h2⟩ := h.row.stored (l.length / 8) (.int .u8 c)
 have hb1 : (a.setCell ⟨g, l.length / 8, none⟩ (.int .u8 c)).heap[p]? = some (.cells #[.slice (some ⟨g, 0, none⟩) (l.length / 8 + 1) cap, .int .i64 l.length] 104 (0, 0)) := by
  rw [heap_setCell_other _ _ _ _ (Ne.symm hne)]; exact h.blk
 have k : Keeps (fun k => k = p) (a.setCell ⟨g, l.length / 8, none⟩ (.int .u8 c)) (((a.setCell ⟨g, l.length / 8, none⟩ (.int .u8 c)).setCell ⟨p, 1, none⟩ (.int .i64 (l.length + 1))).drew) := ((Keeps.refl (fun k => k = p) _).setCell (p := ⟨p, 1, none⟩) (fun _ => rfl) _).drew
 refine ⟨?_, ?_, h.base⟩
 · have := heap_setCell_same _ p 1 _ _ (.int .i64 (l.length + 1)) hb1
   simpa [World.drew] using this
 · have hrow := k.row h1 (fun g' hg' e => by simp only [Value.ownBlock, Option.some.injEq] at hg'; omega)
   have e1 : (packed (l ++ [b])).length = l.length / 8 + 1 := by rw [qay]; simp; omega
   rw [e1, packed_snoc, show u8s ((qcd l).set (l.length / 8) (byteAt l (l.length / 8) ||| b.toNat * 2 ^ (7 - l.length % 8))) = (u8s (qcd l)).set (l.length / 8) (.int .u8 c) by
    simp [u8s, List.map_set, hc]]
   exact hrow
#print axioms IsWmid.step
end
section
open Go.RowKit
section
variable {P : Program} (w : World)
theorem qct (base : Nat) (t ty e : TypeId) (i : TypeInfo) (z : Value) (size bytes : Nat) (ht : P.underlying t = some (.slice e)) (hi : P.info? e = some i) (hz : i.zero = some z)
 (hsize : i.size = size) (hby : i.bytes = bytes) (hzs : z.cells.size = size) (hsz : 0 < size)
 (v : Value) (n : Nat) (xs : List Value) (hown : w.ownsRow base e size v n xs)
 (a : Addr) (m c : Nat) (news : List Value) (hl : news.length = m * size) (hnews : ∀ j u, news[j]? = some u → w.cell? (a.add j) = some u) (h1 : ∀ u ∈ news, u.oneCell' = true)
 (h63 : n + m ≤ maxLen) (hbytes : (n + m) * bytes ≤ 140737488355328) (hbase : base ≤ w.heap.size) :
 ∃ v' w', (Builtin.append_ #[t, t] ty #[v, .slice (some a) m c]).run P w = .ok v' w' ∧ w'.ownsRow base e size v' (n + m) (xs ++ news) ∧ w.grownBy w' v.ownBlock ∧
  (v' = .slice none 0 0 ↔ v = .slice none 0 0 ∧ m = 0) ∧ (∀ g, v'.ownBlock = some g → v.ownBlock = some g ∨ w.heap.size ≤ g) := by
 obtain ⟨v', w', hr, ho, hg, hn⟩ := run_append_own (P := P) w base t ty e i z size bytes ht hi hz hsize hby hzs hsz v n xs hown a m c news hl hnews h1 h63 hbytes hbase
 refine ⟨v', w', hr, ho, hg, hn, fun g hgb => ?_⟩
 subst hsize
 subst hby
 rcases hown.2 with ⟨rfl, rfl⟩ | ⟨g0, cap, cur, rfl, hbg, hg0, hnc, hcm, hcs, htake⟩
 · obtain ⟨v2, w2, hr2, ho2, _⟩ := run_append_own (P := P) w w.heap.size t ty e i z i.size i.bytes ht hi hz rfl rfl hzs hsz (.slice none 0 0) 0 xs ⟨hown.1, .inl ⟨rfl, rfl⟩⟩ a m c news hl hnews h1 h63 hbytes (Nat.le_refl _)
   rw [hr] at hr2
   simp only [Result.ok.injEq] at hr2
   obtain ⟨rfl, rfl⟩ := hr2
   exact .inr (ho2.lt g hgb).1
 · by_cases hroom : n + m ≤ cap
   · have hfit : n * i.size + news.length ≤ cur.size := by rw [hl, hcs, ← Nat.add_mul]; exact Nat.mul_le_mul_right _ hroom
     have hr2 := run_append_room (P := P) w t ty e i ht hi g0 n cap cur hg0 a m c news hl hnews h1 hroom hfit
     rw [hr] at hr2
     simp only [Result.ok.injEq] at hr2
     obtain ⟨rfl, rfl⟩ := hr2
     exact .inl hgb
   · have holds : ∀ j u, xs[j]? = some u → w.cell? ((⟨g0, 0, none⟩ : Addr).add j) = some u := hown.cells (g := g0) rfl
     have h63' : n + m ≤ 9223372036854775807 := by simp only [maxLen] at h63; omega
     have hr2 := run_append_grow (P := P) w t ty e i z ht hi hz ⟨g0, 0, none⟩ n cap xs hown.1 holds a m c news hl hnews (by omega) (by omega) (growslice_fits (by omega) hbytes)
     rw [hr] at hr2
     simp only [Result.ok.injEq] at hr2
     obtain ⟨rfl, rfl⟩ := hr2
     simp only [Value.ownBlock, Option.some.injEq] at hgb
     exact .inr (Nat.le_of_eq hgb)
theorem qbe {ops : Array Oper} {rest : List Oper} {o : Oper} {a : Act} {Q : Exit → Act → World → Prop} (hgd : o.guard = none) (s x : Operand) (t : TypeId)
 (ho : o.op = .call { callee := .builtin .append, args := #[s, x], argTypes := #[t, t] })
 (base : Nat) (e : TypeId) (i : TypeInfo) (z : Value) (size bytes : Nat) (ht : P.underlying t = some (.slice e)) (hi : P.info? e = some i) (hz : i.zero = some z)
 (hsize : i.size = size) (hby : i.bytes = bytes) (hzs : z.cells.size = size) (hsz : 0 < size)
 (v : Value) (n : Nat) (xs : List Value) (hs : a.eval s = v) (hown : w.ownsRow base e size v n xs)
 (ad : Addr) (m c : Nat) (news : List Value) (hx : a.eval x = .slice (some ad) m c) (hl : news.length = m * size) (hnews : ∀ j u, news[j]? = some u → w.cell? (ad.add j) = some u) (h1 : ∀ u ∈ news, u.oneCell' = true)
 (h63 : n + m ≤ maxLen) (hbytes : (n + m) * bytes ≤ 140737488355328) (hbase : base ≤ w.heap.size)
 (h : ∀ v' w', w'.ownsRow base e size v' (n + m) (xs ++ news) → w.grownBy w' v.ownBlock → (∀ g, v'.ownBlock = some g → v.ownBlock = some g ∨ w.heap.size ≤ g) → wpList P ops Q rest (a.put o.dst v') w') : wpList P ops Q (o :: rest) a w := by
 obtain ⟨v', w', hr, h2, h3, _, h4⟩ := qct (P := P) w base t o.type e i z size bytes ht hi hz hsize hby hzs hsz v n xs hown ad m c news hl hnews h1 h63 hbytes hbase
 refine wpList_plain hgd fun K hK => ?_
 unfold Oper.wp execOp
 simp only [ho, resolve, invoke, builtin, Sem.run_bind, Sem.run_pure, Result.andThen_ok, List.map_toArray, List.map_cons, List.map_nil, hs, hx, hr]
 exact hK _ _ (h v' w' h2 h3 h4)
end
#print axioms qbe
end
section
open Go.RowKit
def Holds (w : World) (v : Value) (xs : List Value) : Prop :=
 ∃ a cap, v = .slice a xs.length cap ∧ xs.length ≤ cap ∧ (xs = [] ∨ ∃ b off, a = some ⟨b, off, none⟩ ∧ ∀ j u, xs[j]? = some u → w.cell? ⟨b, off + j, none⟩ = some u)
theorem Holds.nil (w : World) : Holds w (.slice none 0 0) [] := ⟨none, 0, rfl, Nat.le_refl _, .inl rfl⟩
theorem Holds.keeps {S : Nat → Prop} {a b : World} {v : Value} {xs : List Value} (h : Holds a v xs) (k : Keeps S a b) (hS : ∀ g, v.ownBlock = some g → ¬ S g) : Holds b v xs := by
 obtain ⟨ad, cap, rfl, hc, h | ⟨bl, off, rfl, hcell⟩⟩ := h
 · exact ⟨ad, cap, rfl, hc, .inl h⟩
 · exact ⟨_, cap, rfl, hc, .inr ⟨bl, off, rfl, fun j u hj => k.cell (hcell j u hj) (hS bl rfl)⟩⟩
theorem Holds.lt {a : World} {v : Value} {xs : List Value} (h : Holds a v xs) (hx : xs ≠ []) : ∃ g, v.ownBlock = some g ∧ g < a.heap.size := by
 obtain ⟨ad, cap, rfl, hc, h | ⟨bl, off, rfl, hcell⟩⟩ := h
 · exact absurd h hx
 · cases xs with
   | nil => exact absurd rfl hx
   | cons x xs => exact ⟨bl, rfl, World.block_lt_of_cell? a _ (hcell 0 x rfl)⟩
theorem Holds.fresh {a b : World} {v : Value} {xs : List Value} (h : Holds a v xs) (k : Keeps (fun k => a.heap.size ≤ k) a b) : Holds b v xs := by
 obtain ⟨ad, cap, rfl, hc, h | ⟨bl, off, rfl, hcell⟩⟩ := h
 · exact ⟨ad, cap, rfl, hc, .inl h⟩
 · refine ⟨_, cap, rfl, hc, .inr ⟨bl, off, rfl, fun j u hj => k.cell (hcell j u hj) (fun hs => ?_)⟩⟩
   have := World.block_lt_of_cell? a _ (hcell j u hj)
   simp only at hs this
   omega
theorem Holds.index {w : World} {v : Value} {xs : List Value} (h : Holds w v xs) {j : Nat} {u : Value} (hj : xs[j]? = some u) :
 ∃ b off cap, v = .slice (some ⟨b, off, none⟩) xs.length cap ∧ w.cell? ⟨b, off + j, none⟩ = some u := by
 obtain ⟨ad, cap, rfl, hc, h | ⟨bl, off, rfl, hcell⟩⟩ := h
 · subst h; simp at hj
 · exact ⟨bl, off, cap, rfl, hcell j u hj⟩
theorem qbo (b off j : Nat) : (⟨b, off, none⟩ : Addr).add j = ⟨b, off + j, none⟩ := by unfold Addr.add; split <;> simp_all
theorem qaq {w : World} {base : Nat} {e : TypeId} {v : Value} {n : Nat} {xs : List Value} (h : w.ownsRow base e 1 v n xs) : Holds w v xs := by
 have hl : xs.length = n := by have := h.1; omega
 rcases h.2 with ⟨rfl, h0⟩ | ⟨g, cap, cur, rfl, hb, hgg, hcap, _, hcs, htk⟩
 · refine ⟨none, 0, by rw [hl, h0], by omega, .inl ?_⟩
   exact List.eq_nil_of_length_eq_zero (by omega)
 · refine ⟨_, cap, by rw [hl], by omega, .inr ⟨g, 0, rfl, fun j u hj => ?_⟩⟩
   rw [Nat.zero_add, cell_of_row w g j _ _ _ hgg, ← Array.getElem?_toList]
   rw [← htk, List.getElem?_take] at hj
   split at hj
   · exact hj
   · cases hj
def bytesOf (l : List Nat) : ByteArray := ⟨(l.map UInt8.ofNat).toArray⟩
theorem bytesOf_inj {l l' : List Nat} (h : ∀ c ∈ l, c < 256) (h' : ∀ c ∈ l', c < 256) : ((bytesOf l).toList == (bytesOf l').toList) = decide (l = l') := by
 have e : ∀ l : List Nat, (bytesOf l).toList = l.map UInt8.ofNat := by
  intro l
  rw [bytesOf, ByteArray.toList_mk]
 rw [e, e]
 rw [Bool.eq_iff_iff, beq_iff_eq, decide_eq_true_iff]
 constructor
 · intro hm
   have inj : ∀ l : List Nat, (∀ c ∈ l, c < 256) → (l.map UInt8.ofNat).map UInt8.toNat = l := by
    intro l hl
    have h2 : (l.map UInt8.ofNat).map UInt8.toNat = l.map id := by
     rw [List.map_map]
     refine List.map_congr_left fun c hc => ?_
     have := hl c hc
     simp [UInt8.toNat_ofNat']; omega
    rw [h2, List.map_id]
   rw [← inj l h, ← inj l' h', hm]
 · intro hl; rw [hl]
section
variable {P : Program} (w : World)
theorem qcs (src e : TypeId) (hs : P.underlying src = some (.slice e)) (he : P.underlying e = some (.int .u8)) (v : Value) (l : List Nat) (h : Holds w v (u8s l)) :
 ∀ dst, P.underlying dst = some .string → (convert src dst v).run P w = .ok (.string (bytesOf l)) w := by
 intro dst hd
 obtain ⟨ad, cap, rfl, hc, h | ⟨bl, off, rfl, hcell⟩⟩ := h
 · have hl : l = [] := by cases l <;> simp_all [u8s]
   subst hl
   cases ad with
   | none => exact run_convert_bytes_nil w src e hs he _ _ dst hd
   | some a =>
     rw [run_convert_bytes_string w src dst e _ _ _ hs he hd]
     have := run_bytesToString (P := P) w a 0 cap [] (by simpa using run_loadCells_list (P := P) w a [] (by simp))
     have e : bytesOf [] = ByteArray.empty := rfl
     rw [e]
     simpa [u8s] using this
 · have hx := run_convert_bytes_arg (P := P) w src e hs he bl off (u8s l).length cap (l.map fun c => ((c : Nat) : Int)) (by simp [u8s]) (fun i hi => by
    have hi' : i < l.length := by simpa [u8s] using hi
    refine hcell i _ ?_
    simp [u8s, hi', List.getD_eq_getElem?_getD]) dst hd
   rw [hx]
   congr 2
   simp [strOfNums, bytesOf]
end
theorem packed_lt (l : List Bool) : ∀ c ∈ packed l, c < 256 := by
 intro c hc
 simp only [packed, List.mem_map] at hc
 obtain ⟨j, _, rfl⟩ := hc
 exact byteAt_lt l j
section
variable {P : Program} (w : World)
theorem sliced_holds {a : Option Addr} {len cap : Nat} {xs : List Value} (h : Holds w (.slice a len cap) xs) (lo hi : Nat) (h1 : lo ≤ hi) (h2 : hi ≤ xs.length) :
 ∃ a2 cap2, sliced a lo hi cap 1 = .slice a2 (hi - lo) cap2 ∧ Holds w (.slice a2 (hi - lo) cap2) ((xs.take hi).drop lo) ∧ (∀ g, (Value.slice a2 (hi - lo) cap2).ownBlock = some g → (Value.slice a len cap).ownBlock = some g) := by
 obtain ⟨ad, cap', hv, hc, h⟩ := h
 simp only [Value.slice.injEq] at hv
 obtain ⟨rfl, hl, rfl⟩ := hv
 have hlen : ((xs.take hi).drop lo).length = hi - lo := by rw [List.length_drop, List.length_take]; omega
 by_cases hm : cap = lo
 · refine ⟨a, cap - lo, by simp [sliced, hm], ⟨a, cap - lo, by rw [hlen], by rw [hlen]; omega, .inl (List.eq_nil_of_length_eq_zero (by rw [hlen]; omega))⟩, fun g hg => by cases a <;> simp [Value.ownBlock] at hg ⊢; exact hg⟩
 · refine ⟨a.map (·.add (lo * 1)), cap - lo, by simp [sliced, hm], ⟨a.map (·.add (lo * 1)), cap - lo, by rw [hlen], by rw [hlen]; omega, ?_⟩, ?_⟩
   · rcases h with h | ⟨b, off, rfl, hcell⟩
     · subst h; exact .inl (by simp)
     · refine .inr ⟨b, off + lo, by simp [qbo], fun j u hj => ?_⟩
       rw [List.getElem?_drop, List.getElem?_take] at hj
       split at hj
       · rw [Nat.add_assoc]; exact hcell _ _ hj
       · cases hj
   · intro g hg
     cases a with
     | none => simp [Value.ownBlock] at hg
     | some ad =>
       simp only [Option.map_some, Value.ownBlock, Option.some.injEq] at hg ⊢
       rw [← hg]
       unfold Addr.add
       split <;> rfl
theorem run_from (t e : TypeId) (ht : P.underlying t = some (.slice e)) {i : TypeInfo} (hi : P.info? e = some i) (hz : i.size = 1) {a : Option Addr} {len cap : Nat} {xs : List Value} (h : Holds w (.slice a len cap) xs) (k : IntKind) (lo : Nat) (h1 : lo ≤ xs.length) :
 ∃ a2 cap2, (Instr.sliceAt t (.slice a len cap) (some (.int k (lo : Nat))) none none).run P w = .ok (.slice a2 (xs.length - lo) cap2) w ∧ Holds w (.slice a2 (xs.length - lo) cap2) (xs.drop lo) ∧ (∀ g, (Value.slice a2 (xs.length - lo) cap2).ownBlock = some g → (Value.slice a len cap).ownBlock = some g) := by
 have hlen : len = xs.length := by
  obtain ⟨ad, cap', hv, _⟩ := h
  simp only [Value.slice.injEq] at hv
  exact hv.2.1
 subst hlen
 obtain ⟨a2, cap2, e1, e2, e3⟩ := sliced_holds w h lo xs.length h1 (Nat.le_refl _)
 rw [List.take_length] at e2
 refine ⟨a2, cap2, ?_, e2, e3⟩
 have hel : P.elem t = e := by simp [Program.elem, ht]
 have ht' : P.underlying t = some (.slice (P.elem t)) := by rw [hel]; exact ht
 rw [run_sliceAt_slice (P := P) w t _ _ _ _ ht', run_slice_l (P := P) w t a xs.length cap ht' k lo (by omega) (by omega), hel]
 simp [sizeOf, typeInfo, hi, hz, e1, Result.andThen]
theorem run_to (t e : TypeId) (ht : P.underlying t = some (.slice e)) {i : TypeInfo} (hi : P.info? e = some i) (hz : i.size = 1) {a : Option Addr} {len cap : Nat} {xs : List Value} (h : Holds w (.slice a len cap) xs) (k : IntKind) (hi' : Nat) (h1 : hi' ≤ xs.length) :
 ∃ a2 cap2, (Instr.sliceAt t (.slice a len cap) none (some (.int k (hi' : Nat))) none).run P w = .ok (.slice a2 hi' cap2) w ∧ Holds w (.slice a2 hi' cap2) (xs.take hi') ∧ (∀ g, (Value.slice a2 hi' cap2).ownBlock = some g → (Value.slice a len cap).ownBlock = some g) := by
 obtain ⟨a2, cap2, e1, e2, e3⟩ := sliced_holds w h 0 hi' (Nat.zero_le _) h1
 rw [Nat.sub_zero] at e1 e2 e3
 rw [List.drop_zero] at e2
 have hcap : hi' ≤ cap := by
  obtain ⟨ad, cap', hv, hc, _⟩ := h
  simp only [Value.slice.injEq] at hv
  omega
 refine ⟨a2, cap2, ?_, e2, e3⟩
 have hel : P.elem t = e := by simp [Program.elem, ht]
 have ht' : P.underlying t = some (.slice (P.elem t)) := by rw [hel]; exact ht
 rw [run_sliceAt_slice (P := P) w t _ _ _ _ ht', run_slice_h (P := P) w t a len cap ht' k hi' (by omega) (by omega), hel]
 simp [sizeOf, typeInfo, hi, hz, e1, Result.andThen]
end
def own (v : Value) (k : Nat) : Prop := v.ownBlock = some k
structure RowTo (e : TypeId) (base : Nat) (v : Value) (w : World) (v' : Value) (xs : List Value) (w' : World) : Prop where
 row : w'.ownsRow base e 1 v' xs.length xs
 keeps : Keeps (own v) w w'
 new : ∀ g, v'.ownBlock = some g → v.ownBlock = some g ∨ w.heap.size ≤ g
theorem RowTo.refl {e : TypeId} {base : Nat} {v : Value} {w : World} {xs : List Value} (h : w.ownsRow base e 1 v xs.length xs) : RowTo e base v w v xs w := ⟨h, Keeps.refl _ _, fun _ h => .inl h⟩
theorem RowTo.append {e : TypeId} {base : Nat} {v v1 v2 : Value} {w w1 w2 : World} {o : Obj} {xs ys : List Value} (h : RowTo e base v w v1 xs w1)
 (hr : w2.ownsRow base e 1 v2 ys.length ys) (hg : (w1.alloc o).grownBy w2 v1.ownBlock) (hn : ∀ g, v2.ownBlock = some g → v1.ownBlock = some g ∨ (w1.alloc o).heap.size ≤ g) : RowTo e base v w v2 ys w2 := by
 refine ⟨hr, (h.keeps.alloc o).grown hg (fun k hk e => ?_), fun g hg' => ?_⟩
 · rcases h.new k e with h' | h'
   · exact h'
   · exact absurd hk (Nat.not_lt.2 h')
 · rcases hn g hg' with h' | h'
   · exact h.new g h'
   · exact .inr (Nat.le_trans h.keeps.size (Nat.le_trans (by simp) h'))
#print axioms qcs
end
section
set_option maxHeartbeats 1000000
set_option maxRecDepth 100000
open Go.RowKit
theorem infoU8 : (Tryz.prog.info? 5).map (fun i => (i.zero, i.size, i.bytes)) = some (some (.int .u8 0), 1, 1) := by kernel_rfl
theorem newWriter_any (w : World) :
 Calls Tryz.prog 21 #[] w fun e w' => e = .returned (.pointer (some ⟨w.heap.size, 0, none⟩)) ∧ w' = w.alloc (.cells #[.slice none 0 0, .int .i64 0] 104) := by
 go_enter Tryz.func21, Tryz.ntmps21
 go_wp2
 go_ret
 exact ⟨rfl, rfl⟩
theorem newWriter_is (w : World) (base : Nat) (h : base ≤ w.heap.size) : IsW (w.alloc (.cells #[.slice none 0 0, .int .i64 0] 104)) base w.heap.size (.slice none 0 0) [] :=
 ⟨heap_alloc_new w _, World.ownsRow_nil _ _ _ _, h⟩
def Wrote (base p : Nat) (v : Value) (l : List Bool) (w w' : World) : Prop :=
 ∃ v', IsW w' base p v' l ∧ Keeps (foot p v) w w' ∧ ∀ g, v'.ownBlock = some g → v.ownBlock = some g ∨ w.heap.size ≤ g
theorem Wrote.refl {base p : Nat} {v : Value} {l : List Bool} {w : World} (h : IsW w base p v l) : Wrote base p v l w w := ⟨v, h, Keeps.refl _ _, fun _ hg => .inl hg⟩
theorem qbk (n : Nat) (h : n ≤ 9223372036854775807) : IntKind.i64.wrap (n : Int) = n := IntWalk.i64_in _ (by omega)
theorem shl_byte (m t d : Nat) (hd : d = m * 2 ^ t) (h : d < 256) : IntKind.u8.wrap ((m : Int) * 2 ^ t) = d := by
 have e : ((m : Int) * 2 ^ t) = ((m * 2 ^ t : Nat) : Int) := by simp
 rw [e, ← hd]
 exact IntWalk.u8_in _ (by omega)
theorem u8s_get {xs : List Nat} {i c : Nat} (h : xs[i]? = some c) : (u8s xs)[i]? = some (.int .u8 c) := by simp [u8s, h]
theorem take_cell {w : World} {g q n : Nat} {cur : Array Value} {e : TypeId} {xs : List Value} {v : Value} (hg : w.heap[g]? = some (.cells cur e (0, 0))) (ht : cur.toList.take n = xs) (hx : xs[q]? = some v) : w.cell? ⟨g, q, none⟩ = some v := by
 rw [cell_of_row w g q _ _ _ hg, ← Array.getElem?_toList]
 rw [← ht, List.getElem?_take] at hx
 split at hx
 · exact hx
 · cases hx
theorem IsWmid.facts {w : World} {base p q c : Nat} {v : Value} {L : List Bool} (h : IsWmid w base p v L) (hq : q = L.length / 8) (hc : c = byteAt L q) :
 ∃ g cap, v = .slice (some ⟨g, 0, none⟩) (q + 1) cap ∧ w.cell? ⟨p, 0, none⟩ = some (.slice (some ⟨g, 0, none⟩) (q + 1) cap) ∧ w.cell? ⟨p, 1, none⟩ = some (.int .i64 L.length) ∧ w.frozen? ⟨p, 1, none⟩ = false ∧
  w.cell? ⟨g, q, none⟩ = some (.int .u8 c) ∧ w.frozen? ⟨g, q, none⟩ = false ∧ ¬ g = p ∧ ¬ p = g := by
 subst hq
 obtain ⟨g, cap, cur, rfl, hgb, hgh, hcap1, hcap2, hcs, htk⟩ := qbw h.row (by omega)
 have hgp : ¬ g = p := qag hgh h.blk (by decide)
 exact ⟨g, cap, rfl, by rw [cell_of_row w p 0 _ _ _ h.blk]; rfl, by rw [cell_of_row w p 1 _ _ _ h.blk]; rfl, frozen_of_row w p 1 _ _ h.blk, take_cell hgh htk (u8s_get (by rw [hc]; exact packedTo_at L)),
  frozen_of_row w g _ _ _ hgh, hgp, fun e => hgp e.symm⟩
theorem wrote_step {base p : Nat} {v0 : Value} {L : List Bool} {b : Bool} {w wr : World} {g cap n q r t c d : Nat} (hW : Keeps (foot p v0) w wr) (hnew : v0.ownBlock = some g ∨ w.heap.size ≤ g)
 (hm : IsWmid wr base p (.slice (some ⟨g, 0, none⟩) n cap) L) (hq : q = L.length / 8) (hr : r = L.length % 8) (ht : t = 7 - r) (hc : c = byteAt L q) (hd : d = b.toNat * 2 ^ t) :
 Wrote base p v0 (L ++ [b]) w (((wr.setCell ⟨g, q, none⟩ (.int .u8 ((c ||| d : Nat) : Int))).setCell ⟨p, 1, none⟩ (.int .i64 (L.length + 1))).drew) := by
 refine ⟨_, hm.step hq (by rw [hc, hd, ht, hr]), ?_, fun g' hg' => ?_⟩
 · refine ((hW.setCell (p := ⟨g, q, none⟩) (fun h => ?_) _).setCell (p := ⟨p, 1, none⟩) (fun _ => .inl rfl) _).drew
   rcases hnew with h' | h'
   · exact .inr h'
   · exact absurd h (Nat.not_lt.2 h')
 · simp only [Value.ownBlock, Option.some.injEq] at hg'
   subst hg'
   exact hnew
theorem qbx (base p : Nat) (v0 : Value) (l : List Bool) (X N : Nat) (w : World) (h : IsW w base p v0 l) (hX : X ≤ 18446744073709551615) (hN : N ≤ 64) (hl : l.length ≤ 1099511627776) (hb0 : base ≤ w.heap.size) :
 Calls Tryz.prog 22 #[.pointer (some ⟨p, 0, none⟩), .int .u64 X, .int .i64 N] w fun e w' => e = .returned (.int .i64 0) ∧ Wrote base p v0 (l ++ qaa X N) w w' := by
 obtain ⟨i0, hi, hz0, hz1, hz2⟩ := info_parts infoU8
 have hz1' : ¬ (N : Int) < 0 := by omega
 have hz2' : ¬ 64 < (N : Int) := by omega
 go_enter Tryz.func22, Tryz.ntmps22
 go_wp2
 go_loopw [19] (fun i wr => ∃ k : Nat, k ≤ N ∧ i = .int .i64 k ∧ Wrote base p v0 (l ++ qbr X N k) w wr) (fun i wr => N - (intOf i).toNat)
 case atStart => exact ⟨0, Nat.zero_le _, rfl, by rw [fieldTake_zero, List.append_nil]; exact Wrote.refl h⟩
 case round =>
  obtain ⟨k, hk, rfl, v, hI, hKp, hnew⟩ := hrel
  by_cases hlt : k < N
  · have hb1 : base ≤ wr.heap.size := Nat.le_trans hb0 hKp.size
    have hfs := qdl X N k
    generalize hL : l ++ qbr X N k = L at hI
    have hLl : L.length = l.length + k := by rw [← hL]; simp [fieldTake_length]
    have hend : l ++ qbr X N (k + 1) = L ++ [X.testBit (N - 1 - k)] := by rw [hfs, ← List.append_assoc, hL]
    clear hfs hL
    obtain ⟨q, hq⟩ : ∃ q, q = L.length / 8 := ⟨_, rfl⟩
    obtain ⟨r, hr⟩ : ∃ r, r = L.length % 8 := ⟨_, rfl⟩
    obtain ⟨s, hs⟩ : ∃ s, s = N - 1 - k := ⟨_, rfl⟩
    have hbit := bit_and_one X s (by omega)
    rw [← hs] at hend
    generalize hbb : X.testBit s = b at hbit hend
    have fr := bool_toNat_le b
    obtain ⟨t, ht⟩ : ∃ t, t = 7 - r := ⟨_, rfl⟩
    obtain ⟨c, hc⟩ : ∃ c, c = byteAt L q := ⟨_, rfl⟩
    obtain ⟨d, hd⟩ : ∃ d, d = b.toNat * 2 ^ t := ⟨_, rfl⟩
    have hd256 : d < 256 := by
     have h1 : t ≤ 7 := by omega
     have h2 : 2 ^ t ≤ 2 ^ 7 := Nat.pow_le_pow_right (by decide) h1
     have h3 : b.toNat * 2 ^ t ≤ 1 * 2 ^ 7 := Nat.mul_le_mul fr h2
     omega
    have hc256 : c < 256 := by rw [hc]; exact byteAt_lt _ _
    have hm8 : (L.length : Int) % 8 = r := by omega
    have hd8 : (L.length : Int) / 8 = q := by omega
    have htm : (L.length : Int).tmod 8 = r := by rw [Int.tmod_eq_emod_of_nonneg (by omega)]; omega
    have htd : (L.length : Int).tdiv 8 = q := by rw [Int.tdiv_eq_ediv_of_nonneg (by omega)]; omega
    have hw1 : IntKind.i64.wrap ((N : Int) - 1) = N - 1 := IntWalk.i64_in _ (by omega)
    have hs1 : (N : Int) - 1 - k = s := by omega
    have hw2 : IntKind.i64.wrap (s : Int) = s := qbk _ (by omega)
    have ht1 : (7 : Int) - r = t := by omega
    have hw3 : IntKind.i64.wrap (t : Int) = t := qbk _ (by omega)
    have hw4 : IntKind.i64.wrap (q : Int) = q := qbk _ (by omega)
    have hw5 : IntKind.u8.wrap (b.toNat : Int) = b.toNat := IntWalk.u8_in _ (by omega)
    have hw6 : IntKind.u8.wrap ((b.toNat : Int) * 2 ^ t) = d := shl_byte _ _ _ hd hd256
    have hw7 : IntKind.i64.wrap ((L.length : Int) + 1) = L.length + 1 := IntWalk.i64_in _ (by omega)
    have hor : bits .or .u8 (c : Int) (d : Int) = ((c ||| d : Nat) : Int) := u8_or_nat _ _ hc256 hd256
    have hq0 : (0 : Int) ≤ q := by omega
    have hq1 : (q : Int) < q + 1 := by omega
    have hs64 : s ≤ 64 := by omega
    have ht7 : t ≤ 7 := by omega
    have Hq := Hj hq; have Hr := Hj hr; have Hs := Hj hs; have Ht := Hj ht; have Hc := Hj hc; have Hd := Hj hd; have Hend := Hj hend; have HLl := Hj hLl
    have HI := Hj hI; have HKp := Hj hKp; have Hnew := Hj hnew
    clear hq hr hs ht hc hd hend hLl hI hKp hnew hbb
    by_cases hr0 : r = 0
    · have hI := HI.out
      have hr8 : L.length % 8 = 0 := by rw [← Hr.out]; exact hr0
      have c0 := hI.cell0
      have c1 := hI.cell1
      have f0 := hI.free 0
      have f1 := hI.free 1
      have hrow := hI.row
      have hrb : ((r : Int) == 0) = true := by simp [hr0]
      clear hI hr0
      have hpl : (packed L).length ≤ 1099511627776 := by rw [qay]; have := HLl.out; omega
      go_wp2_with (at_builtin; refine qbe _ rfl _ _ 29 rfl base 5 i0 (.int .u8 0) 1 1 Tryz.underlying29 hi hz0 hz1 hz2 rfl (by decide) _ _ _ rfl (hrow.alloc _) ⟨wr.heap.size, 0, none⟩ 1 1 [.int .u8 0] rfl rfl ?c1 ?c2 ?c3 ?c4 ?c5 ?_)
      case c1 => exact cell_one_new _ _ _
      case c2 => simp [Value.oneCell']
      case c3 => unfold maxLen; omega
      case c4 => omega
      case c5 => simp; omega
      intro v' w1 hown' hgrow hnewr
      have hmid := IsW.grow HI.out hr8 hown' ((((Keeps.refl (fun k => v.ownBlock = some k) wr).alloc _)).grown hgrow (fun k _ e => e))
      have hKw : Keeps (fun k => v.ownBlock = some k) wr w1 := ((Keeps.refl _ wr).alloc _).grown hgrow (fun k _ e => e)
      have hvp : ¬ v.ownBlock = some p := fun e => by
       obtain ⟨cur', hc'⟩ := qaj HI.out.row e
       exact qag hc' HI.out.blk (by decide) rfl
      have d0 : w1.cell? ⟨p, 0, none⟩ = some v := hKw.cell c0 hvp
      have e0 : w1.frozen? ⟨p, 0, none⟩ = false := frozen_of_row w1 p 0 _ _ (hKw.heap HI.out.blk hvp)
      have hng : ∀ g, v'.ownBlock = some g → v0.ownBlock = some g ∨ w.heap.size ≤ g := fun g hg => by
       rcases hnewr g hg with h' | h'
       · exact Hnew.out g h'
       · exact .inr (Nat.le_trans HKp.out.size (Nat.le_trans (by simp) h'))
      have hKA := (HKp.out.trans hKw (fun k hk e => (Hnew.out k e).elim .inr (fun h => absurd hk (Nat.not_lt.2 h)))).setCell (p := ⟨p, 0, none⟩) (fun _ => .inl rfl) v'
      obtain ⟨g, cap, rfl, m0, m1, m2, m3, m4, hgp, hpg⟩ := hmid.facts Hq.out Hc.out
      have HKA := Hj hKA
      have Hng := Hj hng
      have Hmid := Hj hmid
      clear hmid hng hKw hKA hown' hgrow hrow hr8 c0 c1 f0 f1 hvp
      go_wp2
      generalize w1.setCell ⟨p, 0, none⟩ (.slice (some ⟨g, 0, none⟩) (q + 1) cap) = w2 at *
      clear d0 e0
      go_still_tail 31, (by kernel_rfl)
      go_wp2
      have hx := wrote_step HKA.out (Hng.out g rfl) Hmid.out Hq.out Hr.out Ht.out Hc.out Hd.out
      exact ⟨⟨k + 1, by omega, by go_num, by rw [Hend.out]; exact hx⟩, by simp [intOf]; omega⟩
    · have hrb : ((r : Int) == 0) = false := by simp [hr0]
      have hmid := HI.out.mid (by rw [← Hr.out]; exact hr0)
      obtain ⟨g, cap, rfl, m0, m1, m2, m3, m4, hgp, hpg⟩ := hmid.facts Hq.out Hc.out
      have Hmid := Hj hmid
      clear hmid
      go_wp2
      go_still_tail 31, (by kernel_rfl)
      go_wp2
      have hx := wrote_step HKp.out (Hnew.out g rfl) Hmid.out Hq.out Hr.out Ht.out Hc.out Hd.out
      exact ⟨⟨k + 1, by omega, by go_num, by rw [Hend.out]; exact hx⟩, by simp [intOf]; omega⟩
  · go_wp2
    go_ret
    have : k = N := by omega
    subst this
    exact ⟨rfl, v, hI, hKp, hnew⟩
end
section
open Go.RowKit
theorem Keeps.putObj {S : Nat → Prop} (W : World) (l : Nat) (o : Obj) (hl : S l) : Keeps S W (W.putObj l o) :=
 ⟨rfl, rfl, rfl, by simp, fun k _ hk => World.putObj_heap_other (fun e => hk (by rw [e]; exact hl))⟩
def SeqC {α : Type} (P : Program) (g : Nat) (lb : Array Value) (encs : α → Array Value) (own : Nat → Prop) (S Sp : List α → Prop) (w : World) : Prop :=
 ∀ (l : Nat) (J Jx : List α → World → Prop) (W : World), Keeps (fun k => ¬ own k) w W →
  (∀ s A B, J s A → Keeps own A B → J s B) → (∀ s A B, Jx s A → Keeps own A B → Jx s B) →
  (∀ pre x W1, J pre W1 → Sp (pre ++ [x]) → YieldAt Fence.wide 0 P l (encs x) W1 fun e W' =>
    (e = .returned (.bool true) ∧ J (pre ++ [x]) W' ∧ Keeps (fun k => ¬ own k) W1 W') ∨ (e = .returned (.bool false) ∧ Jx (pre ++ [x]) W' ∧ Keeps (fun k => ¬ own k) W1 W')) →
  J [] W →
  CallsIn Fence.wide 0 P g (#[.func (.yield l) #[] #[]] ++ lb) W fun e W' => (∃ v, e = .returned v) ∧ ((∃ xs, S xs ∧ J xs W') ∨ (∃ pre, Sp pre ∧ Jx pre W'))
def bodyC {α : Type} (T : Nat → Prop) (I : List α → World → Prop) (Ix : Code → List α → World → Prop) (xs : List α) (W : World) : Exit → Act → World → Prop
 | .normal, _, W' => Keeps T W W' ∧ I xs W'
 | .ret, _, W' => Keeps T W W' ∧ Ix .ret xs W'
 | .exit id, _, W' => Keeps T W W' ∧ Ix (.exit id) xs W'
 | .goto t, _, W' => Keeps T W W' ∧ Ix (.goto t) xs W'
 | .panic _, _, _ => False
 | .outgrown, _, _ => False
variable {P : Program}
theorem qcv {α : Type} {g : Operand} {ps : Array Tmp} {assign body : Code} {Q : Exit → Act → World → Prop} {a : Act} {w : World}
 {gf : Nat} {lb : Array Value} (hg : a.eval g = .func (.func gf) #[] lb) (eg : ∀ args w, (callFunc gf args).run P w = .ok (.enter gf args) w)
 {encs : α → Array Value} {own T : Nat → Prop} {S Sp : List α → Prop} (hseq : SeqC P gf lb encs own S Sp w) (hps : ∀ x, (encs x).size = ps.size)
 (hown : ∀ k, own k → k < w.heap.size) (hT : ∀ k, T k → ¬ own k) (hT2 : ∀ k, T k → k < w.heap.size ∨ w.heap.size + 2 ≤ k)
 (I : List α → World → Prop) (Ix : Code → List α → World → Prop)
 (hI : ∀ s A B, I s A → Keeps (fun k => own k ∨ k = w.heap.size ∨ k = w.heap.size + 1) A B → I s B)
 (hIx : ∀ c s A B, Ix c s A → Keeps (fun k => own k ∨ k = w.heap.size ∨ k = w.heap.size + 1) A B → Ix c s B) (h0 : I [] w) (a₁ : α → Act)
 (hassign : ∀ (l : Nat) (x : α) (W : World) (K : Act → World → Prop), K (a₁ x) W →
   assign.wpIn (Fence.wide.inRound l) 0 P (Exit.then K (fun _ _ _ => False)) { tmps := (ps.zip (encs x)).foldl (fun t (p, v) => t.setIfInBounds p v) a.tmps, defers := [] } W)
 (hbody : ∀ (l : Nat) (pre : List α) (x : α) (W : World), I pre W → Sp (pre ++ [x]) → w.heap.size + 2 ≤ W.heap.size → body.wpIn (Fence.wide.inRound l) 0 P (bodyC T I Ix (pre ++ [x]) W) (a₁ x) W)
 (hdone : ∀ (D : Nat) (xs : List α) (W : World), S xs → I xs W → w.heap.size ≤ D → W.heap[D]? = some (.deferred (some [])) → Q .normal { a with defers := { target := .collected D, args := #[] } :: a.defers } W)
 (hstop : ∀ (D : Nat) (c : Code) (pre : List α) (W : World), Sp pre → Ix c pre W → w.heap.size ≤ D → W.heap[D]? = some (.deferred (some [])) → c.wpIn Fence.wide 0 P Q { a with defers := { target := .collected D, args := #[] } :: a.defers } W) :
 (Code.rangeFunc g ps assign body).wpIn Fence.wide 0 P Q a w := by
 refine wpIn_rangeFunc ?_
 intro fn hfn
 obtain ⟨rec, hrec⟩ : ∃ rec : LoopState → Option Code → Loop, rec = fun st pe => { state := st, pending := pe, fn, tmps := a.tmps, params := ps, assign, body, defers := w.heap.size } := ⟨_, rfl⟩
 obtain ⟨W1, hW1⟩ : ∃ W1, (w.alloc (.deferred (some []))).alloc (.loop (rec .ready none)) = W1 := ⟨_, rfl⟩
 have hL1 : W1.heap[w.heap.size + 1]? = some (.loop (rec .ready none)) := by
  rw [← hW1]; have := World.alloc_heap_new (w.alloc (.deferred (some []))) (.loop (rec .ready none)); rwa [World.size_alloc] at this
 have hK1 : W1.heap[w.heap.size]? = some (.deferred (some [])) := by
  rw [← hW1]; exact (Below.heap_alloc _ _ _ (by simp)).trans (World.alloc_heap_new w _)
 have hKW : ∀ S : Nat → Prop, Keeps S w W1 := fun S => by rw [← hW1]; exact ((Keeps.refl S w).alloc _).alloc _
 have hI1 : I [] W1 := hI _ _ _ h0 (hKW _)
 refine ⟨w.heap.size + 1, [{ target := .collected w.heap.size, args := #[] }], W1, { target := .fn (.func gf) lb, args := #[.func (.yield (w.heap.size + 1)) #[] #[]] }, W1, gf,
  #[.func (.yield (w.heap.size + 1)) #[] #[]] ++ lb, W1, ?_, ?_, ?_, ?_, (fun h => by cases h), ?_⟩
 · rw [← hW1, hrec]; exact run_enterLoop_outer _ _ _ _ _
 · simp only [resolve, hg]
   simp [go_sem]
 · intro f' _; exact trivial
 · simp [invoke, go_sem, eg]
 · have hDown : ¬ own w.heap.size := fun h => by have := hown _ h; omega
   have hLown : ¬ own (w.heap.size + 1) := fun h => by have := hown _ h; omega
   refine (hseq (w.heap.size + 1)
    (fun pre W => (I pre W ∧ w.heap.size + 2 ≤ W.heap.size) ∧ W.heap[w.heap.size + 1]? = some (.loop (rec .ready none)) ∧ W.heap[w.heap.size]? = some (.deferred (some [])))
    (fun pre W => ∃ c, Ix c pre W ∧ W.heap[w.heap.size + 1]? = some (.loop (rec .done (some c))) ∧ W.heap[w.heap.size]? = some (.deferred (some [])))
    W1 (hKW _)
    (fun s A B hs k => ⟨⟨hI s A B hs.1.1 (k.mono (fun _ _ h => .inl h)), Nat.le_trans hs.1.2 k.size⟩, k.heap hs.2.1 hLown, k.heap hs.2.2 hDown⟩)
    (fun s A B hs k => by
      obtain ⟨c, hc, hl, hk⟩ := hs
      exact ⟨c, hIx c s A B hc (k.mono (fun _ _ h => .inl h)), k.heap hl hLown, k.heap hk hDown⟩)
    ?_ ⟨⟨hI1, by have := (Array.getElem?_eq_some_iff.1 hL1).1; omega⟩, hL1, hK1⟩).mono ?_
   · rintro pre x W ⟨⟨hi, hsz⟩, hl, hk⟩ hsp
     have hlt : w.heap.size + 1 < W.heap.size := (Array.getElem?_eq_some_iff.1 hl).1
     have hy := run_yield (P := P) (args := encs x) hl (by rw [hrec]; exact hps x)
     rw [hrec] at hy
     refine ⟨fn, _, assign, body, hy, roundIn_of_wpIn hfn (hassign _ x W _ ⟨_, run_beginRound hl (by rw [hrec]), ?_⟩)⟩
     have hl2 : (W.putObj (w.heap.size + 1) (.loop { rec .ready none with state := .busy })).heap[w.heap.size + 1]? = some (.loop { rec .ready none with state := .busy }) := World.putObj_heap_same hlt
     have hk2 : (W.putObj (w.heap.size + 1) (.loop { rec .ready none with state := .busy })).heap[w.heap.size]? = some (.deferred (some [])) := (World.putObj_heap_other (by omega)).trans hk
     have hw2 : Keeps (fun k => ¬ own k) W (W.putObj (w.heap.size + 1) (.loop { rec .ready none with state := .busy })) := Keeps.putObj _ _ _ hLown
     have hi2 := hI _ _ _ hi (Keeps.putObj W (w.heap.size + 1) (.loop { rec .ready none with state := .busy }) (.inr (.inr rfl)))
     have hTn : ¬ T (w.heap.size + 1) := fun h => by rcases hT2 _ h with h | h <;> omega
     have hTd : ¬ T w.heap.size := fun h => by rcases hT2 _ h with h | h <;> omega
     refine wpIn_mono (hbody _ pre x _ hi2 hsp (by simpa using hsz)) ?_
     have fin : ∀ (jump : Option Code) (W3 : World), Keeps T (W.putObj (w.heap.size + 1) (.loop { rec .ready none with state := .busy })) W3 →
      (Instr.endRound (w.heap.size + 1) jump).run P W3 = .ok (.bool jump.isNone) (W3.putObj (w.heap.size + 1) (.loop (rec (if jump.isNone then .ready else .done) jump))) ∧
      w.heap.size + 2 ≤ W3.heap.size ∧
      (W3.putObj (w.heap.size + 1) (.loop (rec (if jump.isNone then .ready else .done) jump))).heap[w.heap.size + 1]? = some (.loop (rec (if jump.isNone then .ready else .done) jump)) ∧
      (W3.putObj (w.heap.size + 1) (.loop (rec (if jump.isNone then .ready else .done) jump))).heap[w.heap.size]? = some (.deferred (some [])) := fun jump W3 hk3 => by
      have hl3 := hk3.heap hl2 hTn
      have hr := run_endRound (P := P) jump hl3
      rw [hrec] at hr ⊢
      have hlt3 := (Array.getElem?_eq_some_iff.1 hl3).1
      exact ⟨hr, by omega, World.putObj_heap_same hlt3, (World.putObj_heap_other (by omega)).trans (hk3.heap hk2 hTd)⟩
     have put : ∀ (s : List α) (jump : Option Code) (W3 : World), I s W3 → I s (W3.putObj (w.heap.size + 1) (.loop (rec (if jump.isNone then .ready else .done) jump))) := fun s jump W3 h => hI _ _ _ h (Keeps.putObj _ _ _ (.inr (.inr rfl)))
     have putx : ∀ (c : Code) (s : List α) (jump : Option Code) (W3 : World), Ix c s W3 → Ix c s (W3.putObj (w.heap.size + 1) (.loop (rec (if jump.isNone then .ready else .done) jump))) := fun c s jump W3 h => hIx _ _ _ _ h (Keeps.putObj _ _ _ (.inr (.inr rfl)))
     rintro e a3 W3 hp
     cases e with
     | normal =>
       obtain ⟨hk3, hi3⟩ := hp
       obtain ⟨hr, hs3, hl4, hk4⟩ := fin none W3 hk3
       refine ⟨_, _, hr, .inl ⟨rfl, ⟨⟨put _ none _ hi3, by simpa using hs3⟩, hl4, hk4⟩, ?_⟩⟩
       exact (hw2.trans hk3 (fun k _ h => hT k h)).trans (Keeps.putObj (S := fun k => ¬ own k) _ _ _ hLown) (fun _ _ h => h)
     | ret =>
       obtain ⟨hk3, hi3⟩ := hp
       obtain ⟨hr, hs3, hl4, hk4⟩ := fin (some .ret) W3 hk3
       exact ⟨_, _, hr, .inr ⟨rfl, ⟨.ret, putx _ _ (some .ret) _ hi3, hl4, hk4⟩, (hw2.trans hk3 (fun k _ h => hT k h)).trans (Keeps.putObj (S := fun k => ¬ own k) _ _ _ hLown) (fun _ _ h => h)⟩⟩
     | exit id =>
       obtain ⟨hk3, hi3⟩ := hp
       obtain ⟨hr, hs3, hl4, hk4⟩ := fin (some (.exit id)) W3 hk3
       exact ⟨_, _, hr, .inr ⟨rfl, ⟨.exit id, putx _ _ (some (.exit id)) _ hi3, hl4, hk4⟩, (hw2.trans hk3 (fun k _ h => hT k h)).trans (Keeps.putObj (S := fun k => ¬ own k) _ _ _ hLown) (fun _ _ h => h)⟩⟩
     | goto t =>
       obtain ⟨hk3, hi3⟩ := hp
       obtain ⟨hr, hs3, hl4, hk4⟩ := fin (some (.goto t)) W3 hk3
       exact ⟨_, _, hr, .inr ⟨rfl, ⟨.goto t, putx _ _ (some (.goto t)) _ hi3, hl4, hk4⟩, (hw2.trans hk3 (fun k _ h => hT k h)).trans (Keeps.putObj (S := fun k => ¬ own k) _ _ _ hLown) (fun _ _ h => h)⟩⟩
     | panic ch => exact hp.elim
     | outgrown => exact hp.elim
   · rintro e W2 ⟨⟨v, rfl⟩, (⟨xs, hS, ⟨hi, _⟩, hl, hk⟩ | ⟨pre, hSp, c, hi, hl, hk⟩)⟩
     · exact ⟨none, _, by have := run_endLoop (P := P) hl (by rw [hrec]; simp); rw [hrec] at this; exact this, hdone _ xs _ hS (hI _ _ _ hi (Keeps.putObj _ _ _ (.inr (.inr rfl)))) (Nat.le_refl _) ((World.putObj_heap_other (by omega)).trans hk)⟩
     · exact ⟨some c, _, by have := run_endLoop (P := P) hl (by rw [hrec]; simp); rw [hrec] at this; exact this, hstop _ c pre _ hSp (hIx _ _ _ _ hi (Keeps.putObj _ _ _ (.inr (.inr rfl)))) (Nat.le_refl _) ((World.putObj_heap_other (by omega)).trans hk)⟩
theorem qcy {F : Fence} {n : Nat} (w : World) {ops : Array Oper} {rest : List Oper} {o : Oper} {a : Act} {Q : Exit → Act → World → Prop} (hgd : o.guard = none) (s x : Operand) (t : TypeId)
 (ho : o.op = .call { callee := .builtin .append, args := #[s, x], argTypes := #[t, t] })
 (base : Nat) (e : TypeId) (i : TypeInfo) (z : Value) (size bytes : Nat) (ht : P.underlying t = some (.slice e)) (hi : P.info? e = some i) (hz : i.zero = some z)
 (hsize : i.size = size) (hby : i.bytes = bytes) (hzs : z.cells.size = size) (hsz : 0 < size)
 (v : Value) (k : Nat) (xs : List Value) (hs : a.eval s = v) (hown : w.ownsRow base e size v k xs)
 (ad : Addr) (m c : Nat) (news : List Value) (hx : a.eval x = .slice (some ad) m c) (hl : news.length = m * size) (hnews : ∀ j u, news[j]? = some u → w.cell? (ad.add j) = some u) (h1 : ∀ u ∈ news, u.oneCell' = true)
 (h63 : k + m ≤ maxLen) (hbytes : (k + m) * bytes ≤ 140737488355328) (hbase : base ≤ w.heap.size)
 (h : ∀ v' w', w'.ownsRow base e size v' (k + m) (xs ++ news) → w.grownBy w' v.ownBlock → (∀ g, v'.ownBlock = some g → v.ownBlock = some g ∨ w.heap.size ≤ g) → wpListIn F n P ops Q rest (a.put o.dst v') w') : wpListIn F n P ops Q (o :: rest) a w := by
 refine wpListIn_plain hgd fun K hK => ?_
 obtain ⟨v', w', hr, h2, h3, _, h4⟩ := qct (P := P) w base t o.type e i z size bytes ht hi hz hsize hby hzs hsz v k xs hown ad m c news hl hnews h1 h63 hbytes hbase
 unfold Oper.wpIn
 refine ⟨by simp [Oper.about, ho, resolve, Target.leads, Sem.run_pure], ?_⟩
 rw [Oper.semAt_plain F _ _ (by rw [ho]; intro c hc'; cases hc')]
 simp [execOp, ho, resolve, invoke, builtin, hs, hx, hr, Result.andThen]
 exact hK _ _ (h v' w' h2 h3 h4)
#print axioms qcv
end
section
set_option maxHeartbeats 400000
set_option maxRecDepth 100000
open Go.RowKit
theorem Holds.source {w : World} {a : Addr} {len cap : Nat} {xs : List Value} (h : Holds w (.slice (some a) len cap) xs) : xs.length = len ∧ ∀ j u, xs[j]? = some u → w.cell? (a.add j) = some u := by
 obtain ⟨ad, cap', hv, hc, h | ⟨bl, off, rfl, hcell⟩⟩ := h
 · simp only [Value.slice.injEq] at hv
   exact ⟨hv.2.1.symm, by subst h; simp⟩
 · simp only [Value.slice.injEq, Option.some.injEq] at hv
   obtain ⟨rfl, h1, _⟩ := hv
   exact ⟨h1.symm, fun j u hj => by rw [qbo]; exact hcell j u hj⟩
theorem cell_alloc_old (w : World) (o : Obj) {p : Addr} (h : p.block < w.heap.size) : (w.alloc o).cell? p = w.cell? p :=
 World.cell?_of_block (Below.heap_alloc w o p.block h)
theorem u8s_one (l : List Nat) : ∀ u ∈ u8s l, u.oneCell' = true := by
 intro u hu
 simp only [u8s, List.mem_map] at hu
 obtain ⟨c, _, rfl⟩ := hu
 rfl
theorem bytesEqual_any (v v' : Value) (l l' : List Nat) (w : World) (h : Holds w v (u8s l)) (h' : Holds w v' (u8s l')) (hl : ∀ c ∈ l, c < 256) (hl' : ∀ c ∈ l', c < 256) :
 Calls Tryz.prog 89 #[v, v'] w fun e w' => e = .returned (.bool (decide (l = l'))) ∧ w = w' := by
 have h1 := qcs (P := Tryz.prog) w 29 5 Tryz.underlying29 Tryz.underlying5 v l h 9 Tryz.underlying9
 have h2 := qcs (P := Tryz.prog) w 29 5 Tryz.underlying29 Tryz.underlying5 v' l' h' 9 Tryz.underlying9
 have h3 := bytesOf_inj hl hl'
 clear h h'
 go_enter Tryz.func89, Tryz.ntmps89
 go_wp2
 go_ret
 exact ⟨rfl, rfl⟩
theorem cloneBytes_none (n c : Nat) (w : World) : Calls Tryz.prog 52 #[.slice none n c] w fun e w' => e = .returned (.slice none 0 0) ∧ w = w' := by
 have hn := fun (w : World) n c => Lib.run_eql_slice_nil (P := Tryz.prog) w 29 5 none n c 0 0 Tryz.underlying29
 go_enter Tryz.func52, Tryz.ntmps52
 go_wp2
 go_ret
 exact ⟨rfl, rfl⟩
theorem cloneBytes_some (a : Addr) (len cap : Nat) (xs : List Value) (w : World) (h : Holds w (.slice (some a) len cap) xs) (hx : xs.length ≤ 140737488351232) (hone : ∀ u ∈ xs, u.oneCell' = true) :
 Calls Tryz.prog 52 #[.slice (some a) len cap] w fun e w' => ∃ v, e = .returned v ∧ w'.ownsRow w.heap.size 5 1 v xs.length xs ∧ Keeps (fun _ => False) w w' := by
 obtain ⟨i0, hi, hz0, hz1, hz2⟩ := info_parts infoU8
 have hn := fun (w : World) n c => Lib.run_eql_slice_nil (P := Tryz.prog) w 29 5 (some a) n c 0 0 Tryz.underlying29
 go_enter Tryz.func52, Tryz.ntmps52
 obtain ⟨hlen, hnews⟩ := h.source
 go_wp2_with (at_builtin; refine qbe _ rfl _ _ 29 rfl w.heap.size 5 i0 (.int .u8 0) 1 1 Tryz.underlying29 hi hz0 hz1 hz2 rfl (by decide) _ 0 [] rfl (World.ownsRow_lit w #[] 0 (Nat.le_refl _) (by decide) rfl) a len cap xs rfl ?c1 ?c2 ?c3 ?c4 ?c5 ?c6 ?_)
 case c1 => omega
 case c2 =>
  intro j u hj
  rw [cell_alloc_old _ _ (World.block_lt_of_cell? w _ (hnews j u hj))]
  exact hnews j u hj
 case c3 => exact hone
 case c4 => unfold maxLen; omega
 case c5 => omega
 case c6 => simp
 intro v' w1 hown' hgrow hnew
 go_wp2
 go_ret
 exact ⟨v', rfl, by rw [hlen]; exact hown', ((Keeps.refl (fun _ => False) w).alloc _).grown hgrow (fun k hk e => by simp [Value.ownBlock] at e; omega)⟩
theorem qbp (v : Value) (l : List Nat) (w : World) (h : Holds w v (u8s l)) (hx : l.length ≤ 140737488351232) :
 Calls Tryz.prog 52 #[v] w fun e w' => ∃ v', e = .returned v' ∧ w'.ownsRow w.heap.size 5 1 v' l.length (u8s l) ∧ Keeps (fun _ => False) w w' := by
 have h0 := h
 obtain ⟨ad, cap, rfl, hc, h⟩ := h
 cases ad with
 | none =>
   have hl : l = [] := by
    rcases h with h | ⟨b, off, hb, _⟩
    · cases l <;> simp_all [u8s]
    · cases hb
   subst hl
   refine (cloneBytes_none 0 cap w).mono ?_
   rintro e w' ⟨rfl, rfl⟩
   exact ⟨_, rfl, World.ownsRow_nil _ _ _ _, Keeps.refl _ _⟩
 | some a =>
   refine (cloneBytes_some a _ cap (u8s l) w h0 (by rw [qac]; exact hx) (u8s_one l)).mono ?_
   rintro e w' ⟨v, rfl, h1, h2⟩
   rw [qac] at h1
   exact ⟨v, rfl, h1, h2⟩
theorem wbytes_any (base p : Nat) (v : Value) (l : List Bool) (w : World) (h : IsW w base p v l) (hl : l.length ≤ 1099511627776) :
 Calls Tryz.prog 25 #[.pointer (some ⟨p, 0, none⟩)] w fun e w' => ∃ v', e = .returned v' ∧ w'.ownsRow w.heap.size 5 1 v' (packed l).length (u8s (packed l)) ∧ Keeps (fun _ => False) w w' := by
 have hc := h.cell0
 have hh := qaq h.row
 go_enter Tryz.func25, Tryz.ntmps25
 go_wp2_with (go_at_call 52; refine (qbp v (packed l) _ hh (by rw [qay]; omega)).mono ?_; rintro e w' ⟨v', rfl, h1, h2⟩)
 go_ret
 exact ⟨v', rfl, h1, h2⟩
end
end Go.Proofs.YtfpcgcbehdogjaaGreatDoor
