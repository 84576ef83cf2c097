/-
  PLAIN: which blocks of a world may have turned ('Keeps'); rows that a slice owns; a bitio.Writer in memory. No walk here.
-/
import Derived.Test.YtdniaingipoggaaDoorPBits
import Derived.Test.YtdniaingipoggaaDoorRows
import Derived.WalkKit
import Derived.RangeFuncBox
namespace Go.Proofs.YtdniaingipoggaaDoor
open Go.RowKit

/-- of the blocks that were there only those of S may have turned; there may be new ones -/
structure Keeps (S : Nat → Prop) (w w' : World) : Prop where
  os : w'.os = w.os
  tape : w'.tape = w.tape
  output : w'.output = w.output
  size : w.heap.size ≤ w'.heap.size
  block : ∀ k, k < w.heap.size → ¬ S k → w'.heap[k]? = w.heap[k]?
theorem Keeps.refl (S : Nat → Prop) (w : World) : Keeps S w w := ⟨rfl, rfl, rfl, Nat.le_refl _, fun _ _ _ => rfl⟩
theorem Keeps.trans {S S' : Nat → Prop} {a b c : World} (h : Keeps S a b) (k : Keeps S' b c) (hS : ∀ k, k < a.heap.size → S' k → S k) : Keeps S a c :=
  ⟨k.os.trans h.os, k.tape.trans h.tape, k.output.trans h.output, Nat.le_trans h.size k.size,
    fun i hi hn => (k.block i (Nat.lt_of_lt_of_le hi h.size) (fun hs => hn (hS i hi hs))).trans (h.block i hi hn)⟩
theorem Keeps.mono {S S' : Nat → Prop} {a b : World} (h : Keeps S a b) (hS : ∀ k, k < a.heap.size → S k → S' k) : Keeps S' a b :=
  ⟨h.os, h.tape, h.output, h.size, fun i hi hn => h.block i hi (fun hs => hn (hS i hi hs))⟩
theorem Keeps.drew {S : Nat → Prop} {a b : World} (h : Keeps S a b) : Keeps S a b.drew := ⟨h.os, h.tape, h.output, h.size, h.block⟩
theorem Keeps.alloc {S : Nat → Prop} {a b : World} (h : Keeps S a b) (o : Obj) : Keeps S a (b.alloc o) :=
  h.trans (S' := fun _ => False) ⟨rfl, rfl, rfl, by simp, fun k hk _ => Below.heap_alloc b o k hk⟩ (fun _ _ hf => hf.elim)
theorem Keeps.setCell {S : Nat → Prop} {a b : World} (h : Keeps S a b) {p : Addr} (hp : p.block < a.heap.size → S p.block) (u : Value) : Keeps S a (b.setCell p u) :=
  h.trans (S' := fun k => k = p.block) ⟨rfl, rfl, rfl, by simp [World.setCell], fun k _ hk => heap_setCell_other b p k u hk⟩ (fun _ hk hf => by subst hf; exact hp hk)
theorem Keeps.grown {S : Nat → Prop} {a b c : World} {row : Option Nat} (h : Keeps S a b) (hg : b.grownBy c row) (hr : ∀ k, k < a.heap.size → row = some k → S k) : Keeps S a c :=
  h.trans (S' := fun k => row = some k) ⟨hg.os, hg.tape, hg.output, hg.size, fun k hk hn => hg.block k hk (fun e => hn e.symm)⟩ hr
theorem Keeps.below {S : Nat → Prop} {a b : World} {B : Nat} (h : Keeps S a b) (hB : B ≤ a.heap.size) (hS : ∀ k, k < a.heap.size → S k → B ≤ k) : Below B a b :=
  ⟨h.os, h.tape, h.output, h.size, fun k hk => h.block k (by omega) (fun hs => by have := hS k (by omega) hs; omega)⟩
theorem Keeps.of_below {a b : World} {B : Nat} (h : Below B a b) : Keeps (fun k => B ≤ k) a b :=
  ⟨h.os, h.tape, h.output, h.size, fun k _ hk => h.block k (by omega)⟩
theorem Keeps.cell {S : Nat → Prop} {a b : World} (h : Keeps S a b) {p : Addr} {v : Value} (hc : a.cell? p = some v) (hS : ¬ S p.block) : b.cell? p = some v :=
  (World.cell?_of_block (h.block p.block (World.block_lt_of_cell? a p hc) hS)).trans hc
theorem Keeps.heap {S : Nat → Prop} {a b : World} (h : Keeps S a b) {k : Nat} {o : Obj} (hk : a.heap[k]? = some o) (hS : ¬ S k) : b.heap[k]? = some o :=
  (h.block k (Array.getElem?_eq_some_iff.1 hk).1 hS).trans hk
theorem Keeps.row {S : Nat → Prop} {a b : World} (h : Keeps S a b) {base : Nat} {e : TypeId} {size : Nat} {v : Value} {n : Nat} {xs : List Value} (hr : a.ownsRow base e size v n xs)
    (hS : ∀ g, v.ownBlock = some g → ¬ S g) : b.ownsRow base e size v n xs := by
  refine ⟨hr.1, ?_⟩
  rcases hr.2 with hn | ⟨g, cap, cur, rfl, hb, hgg, rest⟩
  · exact .inl hn
  · exact .inr ⟨g, cap, cur, rfl, hb, h.heap hgg (hS g rfl), rest⟩
/-- a row's block bears the row's element type -/
theorem row_type {w : World} {base : Nat} {e : TypeId} {size : Nat} {v : Value} {n : Nat} {xs : List Value} (hr : w.ownsRow base e size v n xs) {g : Nat} (hg : v.ownBlock = some g) :
    ∃ cur, w.heap[g]? = some (.cells cur e (0, 0)) := by
  rcases hr.2 with ⟨rfl, _⟩ | ⟨g', cap, cur, rfl, hb, hgg, rest⟩
  · simp [Value.ownBlock] at hg
  · simp [Value.ownBlock] at hg; subst hg; exact ⟨cur, hgg⟩
theorem row_base {w : World} {base base' : Nat} {e : TypeId} {size : Nat} {v : Value} {n : Nat} {xs : List Value} (hr : w.ownsRow base e size v n xs) (hb : ∀ g, v.ownBlock = some g → base' ≤ g) :
    w.ownsRow base' e size v n xs := by
  refine ⟨hr.1, ?_⟩
  rcases hr.2 with hn | ⟨g, cap, cur, rfl, _, hgg, rest⟩
  · exact .inl hn
  · exact .inr ⟨g, cap, cur, rfl, hb g rfl, hgg, rest⟩
/-- blocks of two element types are two -/
theorem ne_of_types {w : World} {g p : Nat} {c c' : Array Value} {t t' : TypeId} {fr fr' : Nat × Nat} (hg : w.heap[g]? = some (.cells c t fr)) (hp : w.heap[p]? = some (.cells c' t' fr')) (ht : t ≠ t') : g ≠ p := by
  intro e
  subst e
  rw [hg] at hp
  simp only [Option.some.injEq, Obj.cells.injEq] at hp
  exact ht hp.2.1
theorem row_shape {w : World} {base : Nat} {e : TypeId} {size : Nat} {v : Value} {n : Nat} {xs : List Value} (hr : w.ownsRow base e size v n xs) (hn : n ≠ 0) :
    ∃ g cap cur, v = .slice (some ⟨g, 0, none⟩) n cap ∧ base ≤ g ∧ w.heap[g]? = some (.cells cur e (0, 0)) ∧ n ≤ cap ∧ cap ≤ maxLen ∧ cur.size = cap * size ∧ cur.toList.take (n * size) = xs := by
  rcases hr.2 with ⟨rfl, h0⟩ | ⟨g, cap, cur, rfl, hb, hgg, rest⟩
  · exact absurd h0 hn
  · exact ⟨g, cap, cur, rfl, hb, hgg, rest⟩

/-- the blocks of a writer -/
def foot (p : Nat) (v : Value) (k : Nat) : Prop := k = p ∨ v.ownBlock = some k
def u8s (l : List Nat) : List Value := l.map fun c => .int .u8 ((c : Nat) : Int)
theorem u8s_length (l : List Nat) : (u8s l).length = l.length := by simp [u8s]
/-- a bitio.Writer that holds the bits l -/
structure IsW (w : World) (base p : Nat) (v : Value) (l : List Bool) : Prop where
  blk : w.heap[p]? = some (.cells #[v, .int .i64 l.length] 95 (0, 0))
  row : w.ownsRow base 5 1 v (packed l).length (u8s (packed l))
  base : base ≤ p
/-- the same with room for one more bit -/
structure IsWmid (w : World) (base p : Nat) (v : Value) (l : List Bool) : Prop where
  blk : w.heap[p]? = some (.cells #[v, .int .i64 l.length] 95 (0, 0))
  row : w.ownsRow base 5 1 v (l.length / 8 + 1) (u8s (packedTo l))
  base : base ≤ p
theorem IsW.keeps {S : Nat → Prop} {a b : World} {base p : Nat} {v : Value} {l : List Bool} (h : IsW a base p v l) (k : Keeps S a b) (hp : ¬ S p) (hv : ∀ g, v.ownBlock = some g → ¬ S g) : IsW b base p v l :=
  ⟨k.heap h.blk hp, k.row h.row hv, h.base⟩
theorem IsW.lt {a : World} {base p : Nat} {v : Value} {l : List Bool} (h : IsW a base p v l) : p < a.heap.size := (Array.getElem?_eq_some_iff.1 h.blk).1
theorem IsW.cell0 {a : World} {base p : Nat} {v : Value} {l : List Bool} (h : IsW a base p v l) : a.cell? ⟨p, 0, none⟩ = some v := by rw [cell_of_row a p 0 _ _ _ h.blk]; rfl
theorem IsW.cell1 {a : World} {base p : Nat} {v : Value} {l : List Bool} (h : IsW a base p v l) : a.cell? ⟨p, 1, none⟩ = some (.int .i64 l.length) := by rw [cell_of_row a p 1 _ _ _ h.blk]; rfl
theorem IsW.free {a : World} {base p : Nat} {v : Value} {l : List Bool} (h : IsW a base p v l) (j : Nat) : a.frozen? ⟨p, j, none⟩ = false := frozen_of_row a p j _ _ h.blk
theorem IsW.mid {a : World} {base p : Nat} {v : Value} {l : List Bool} (h : IsW a base p v l) (hr : ¬ l.length % 8 = 0) : IsWmid a base p v l :=
  ⟨h.blk, by have := h.row; rw [← packedTo_of_ne l hr, packedTo_length] at this; exact this, h.base⟩
/-- behind the append of a byte and the store of the new slice -/
theorem IsW.grow {a b : World} {base p : Nat} {v v' : Value} {l : List Bool} (h : IsW a base p v l) (hr : l.length % 8 = 0)
    (hrow : b.ownsRow base 5 1 v' ((packed l).length + 1) (u8s (packed l) ++ [.int .u8 0])) (hg : Keeps (fun k => v.ownBlock = some k) a b) :
    IsWmid (b.setCell ⟨p, 0, none⟩ v') base p v' l := by
  have hb : b.heap[p]? = some (.cells #[v, .int .i64 l.length] 95 (0, 0)) := by
    refine hg.heap h.blk (fun e => ?_)
    obtain ⟨cur, hc⟩ := row_type h.row e
    exact ne_of_types hc h.blk (by decide) rfl
  refine ⟨?_, ?_, h.base⟩
  · have := heap_setCell_same b p 0 _ _ v' hb
    simpa using this
  · rw [packedTo_of_zero l hr, show l.length / 8 + 1 = (packed l).length + 1 by rw [packed_length]; omega, show u8s (packed l ++ [0]) = u8s (packed l) ++ [.int .u8 0] by simp [u8s]]
    have k : Keeps (fun k => k = p) b (b.setCell ⟨p, 0, none⟩ v') := (Keeps.refl (fun k => k = p) b).setCell (p := ⟨p, 0, none⟩) (fun _ => rfl) v'
    refine k.row hrow (fun g hgv e => ?_)
    obtain ⟨cur, hc⟩ := row_type hrow hgv
    exact ne_of_types hc hb (by decide) e
/-- behind the store of the bit and the new count -/
theorem IsWmid.step {a : World} {base p g cap : Nat} {l : List Bool} {b : Bool} {n q : Nat} {c : Int} (h : IsWmid a base p (.slice (some ⟨g, 0, none⟩) n cap) l) (hq : q = l.length / 8)
    (hc : c = ((byteAt l q ||| (b.toNat * 2 ^ (7 - l.length % 8)) : Nat) : Int)) :
    IsW (((a.setCell ⟨g, q, none⟩ (.int .u8 c)).setCell ⟨p, 1, none⟩ (.int .i64 (l.length + 1))).drew) base p (.slice (some ⟨g, 0, none⟩) n cap) (l ++ [b]) := by
  subst hq
  have hn : n = l.length / 8 + 1 := by
    obtain ⟨g', cap', cur, hv, _⟩ := row_shape h.row (by omega)
    simp only [Value.slice.injEq] at hv
    exact hv.2.1
  subst hn
  obtain ⟨cur, hcur⟩ := row_type h.row (g := g) rfl
  have hne : g ≠ p := ne_of_types hcur h.blk (by decide)
  obtain ⟨h1, h2⟩ := h.row.stored (l.length / 8) (.int .u8 c)
  have hb1 : (a.setCell ⟨g, l.length / 8, none⟩ (.int .u8 c)).heap[p]? = some (.cells #[.slice (some ⟨g, 0, none⟩) (l.length / 8 + 1) cap, .int .i64 l.length] 95 (0, 0)) := by
    rw [heap_setCell_other _ _ _ _ (Ne.symm hne)]; exact h.blk
  have k : Keeps (fun k => k = p) (a.setCell ⟨g, l.length / 8, none⟩ (.int .u8 c)) (((a.setCell ⟨g, l.length / 8, none⟩ (.int .u8 c)).setCell ⟨p, 1, none⟩ (.int .i64 (l.length + 1))).drew) := ((Keeps.refl (fun k => k = p) _).setCell (p := ⟨p, 1, none⟩) (fun _ => rfl) _).drew
  refine ⟨?_, ?_, h.base⟩
  · have := heap_setCell_same _ p 1 _ _ (.int .i64 (l.length + 1)) hb1
    simpa [World.drew] using this
  · have hrow := k.row h1 (fun g' hg' e => by simp only [Value.ownBlock, Option.some.injEq] at hg'; omega)
    have e1 : (packed (l ++ [b])).length = l.length / 8 + 1 := by rw [packed_length]; simp; omega
    rw [e1, packed_snoc, show u8s ((packedTo l).set (l.length / 8) (byteAt l (l.length / 8) ||| b.toNat * 2 ^ (7 - l.length % 8))) = (u8s (packedTo l)).set (l.length / 8) (.int .u8 c) by
      simp [u8s, List.map_set, hc]]
    exact hrow
#print axioms IsWmid.step
end Go.Proofs.YtdniaingipoggaaDoor
