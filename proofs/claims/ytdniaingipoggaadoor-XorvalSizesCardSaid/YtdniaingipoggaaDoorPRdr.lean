/-
  PLAIN: bytes as bits; a bitio.Reader in memory. No walk here.
-/
import Derived.Test.YtdniaingipoggaaDoorPRead
import Derived.WalkKit
namespace Go.Proofs.YtdniaingipoggaaDoor
open Go.RowKit

/-- bit i of bytes -/
def rbit (bs : List Nat) (i : Nat) : Bool := (bs.getD (i / 8) 0).testBit (7 - i % 8)
/-- the bits of bytes -/
def unpackB (bs : List Nat) : List Bool := (List.range (8 * bs.length)).map (rbit bs)
theorem unpackB_length (bs : List Nat) : (unpackB bs).length = 8 * bs.length := by simp [unpackB]
theorem unpackB_get (bs : List Nat) (i : Nat) (h : i < 8 * bs.length) : (unpackB bs)[i]? = some (rbit bs i) := by simp [unpackB, h]
/-- bits as a number, the highest first -/
def bitsNat (l : List Bool) : Nat := l.foldl (fun x b => x * 2 + b.toNat) 0
theorem bitsNat_nil : bitsNat [] = 0 := rfl
theorem bitsNat_snoc (l : List Bool) (b : Bool) : bitsNat (l ++ [b]) = bitsNat l * 2 + b.toNat := by simp [bitsNat]
theorem snoc_cases {α : Type} (l : List α) : l = [] ∨ ∃ l' x, l = l' ++ [x] := by
  rcases List.eq_nil_or_concat l with h | ⟨l', x, h⟩
  · exact .inl h
  · exact .inr ⟨l', x, by simpa using h⟩
theorem bitsNat_lt (l : List Bool) : bitsNat l < 2 ^ l.length := by
  have key : ∀ (n : Nat) (l : List Bool), l.length = n → bitsNat l < 2 ^ n := by
    intro n
    induction n with
    | zero => intro l hl; simp [List.eq_nil_of_length_eq_zero hl, bitsNat]
    | succ n ih =>
      intro l hl
      rcases snoc_cases l with rfl | ⟨l', b, rfl⟩
      · simp at hl
      · have := ih l' (by simpa using hl)
        rw [bitsNat_snoc, Nat.pow_succ]
        cases b <;> simp <;> omega
  exact key _ l rfl
/-- the n bits from i on -/
def bitsFrom (bs : List Nat) (i n : Nat) : List Bool := ((unpackB bs).drop i).take n
theorem bitsFrom_zero (bs : List Nat) (i : Nat) : bitsFrom bs i 0 = [] := by simp [bitsFrom]
theorem bitsFrom_succ (bs : List Nat) (i n : Nat) (h : i + n < 8 * bs.length) : bitsFrom bs i (n + 1) = bitsFrom bs i n ++ [rbit bs (i + n)] := by
  unfold bitsFrom
  rw [List.take_add_one, List.getElem?_drop, unpackB_get bs _ h]; rfl
theorem bitsFrom_length (bs : List Nat) (i n : Nat) (h : i + n ≤ 8 * bs.length) : (bitsFrom bs i n).length = n := by
  simp [bitsFrom, unpackB_length]; omega
theorem bitsFrom_lt (bs : List Nat) (i n : Nat) : bitsNat (bitsFrom bs i n) < 2 ^ n := by
  have h := bitsNat_lt (bitsFrom bs i n)
  have h2 : (bitsFrom bs i n).length ≤ n := List.length_take_le _ _
  exact Nat.lt_of_lt_of_le h (Nat.pow_le_pow_right (by decide) h2)
theorem or_bit_u64 (x : Nat) (b : Bool) (h : x * 2 + b.toNat < 18446744073709551616) : bits .or .u64 ((x * 2 : Nat) : Int) ((b.toNat : Nat) : Int) = ((x * 2 + b.toNat : Nat) : Int) := by
  rw [u64_or_nat _ _ (by omega) (by cases b <;> simp)]
  congr 1
  have := nat_join 1 (x * 2) b.toNat (by omega) (by cases b <;> simp)
  exact this
theorem and_one_u64 (x : Nat) (h : x < 18446744073709551616) : bits .and .u64 ((x : Nat) : Int) 1 = ((x % 2 : Nat) : Int) := by
  rw [show (1 : Int) = ((1 : Nat) : Int) from rfl, u64_and_nat _ _ h (by decide)]
  congr 1
  exact Nat.and_one_is_mod x
theorem testBit_toNat (c t : Nat) : (c / 2 ^ t) % 2 = (c.testBit t).toNat := by
  rw [Nat.testBit_eq_decide_div_mod_eq]
  rcases Nat.mod_two_eq_zero_or_one (c / 2 ^ t) with h | h <;> simp [h]

/-- a bitio.Reader of the bytes bs at bit i -/
structure IsR (w : World) (base p : Nat) (v : Value) (bs : List Nat) (i : Nat) : Prop where
  blk : w.heap[p]? = some (.cells #[v, .int .i64 (i : Nat)] 77 (0, 0))
  row : w.ownsRow base 5 1 v bs.length (u8s bs)
  base : base ≤ p
  bytes : ∀ c ∈ bs, c < 256
theorem IsR.keeps {S : Nat → Prop} {a b : World} {base p : Nat} {v : Value} {bs : List Nat} {i : Nat} (h : IsR a base p v bs i) (k : Keeps S a b) (hp : ¬ S p) (hv : ∀ g, v.ownBlock = some g → ¬ S g) : IsR b base p v bs i :=
  ⟨k.heap h.blk hp, k.row h.row hv, h.base, h.bytes⟩
theorem IsR.lt {a : World} {base p : Nat} {v : Value} {bs : List Nat} {i : Nat} (h : IsR a base p v bs i) : p < a.heap.size := (Array.getElem?_eq_some_iff.1 h.blk).1
theorem IsR.own_lt {a : World} {base p : Nat} {v : Value} {bs : List Nat} {i : Nat} (h : IsR a base p v bs i) {g : Nat} (hg : v.ownBlock = some g) : g < a.heap.size := (h.row.lt g hg).2
theorem IsR.cell0 {a : World} {base p : Nat} {v : Value} {bs : List Nat} {i : Nat} (h : IsR a base p v bs i) : a.cell? ⟨p, 0, none⟩ = some v := by rw [cell_of_row a p 0 _ _ _ h.blk]; rfl
theorem IsR.cell1 {a : World} {base p : Nat} {v : Value} {bs : List Nat} {i : Nat} (h : IsR a base p v bs i) : a.cell? ⟨p, 1, none⟩ = some (.int .i64 (i : Nat)) := by rw [cell_of_row a p 1 _ _ _ h.blk]; rfl
theorem IsR.free {a : World} {base p : Nat} {v : Value} {bs : List Nat} {i : Nat} (h : IsR a base p v bs i) (j : Nat) : a.frozen? ⟨p, j, none⟩ = false := frozen_of_row a p j _ _ h.blk
theorem IsR.shape {a : World} {base p : Nat} {v : Value} {bs : List Nat} {i : Nat} (h : IsR a base p v bs i) : ∃ ad cap, v = .slice ad bs.length cap := by
  obtain ⟨ad, cap, hv, _⟩ := holds_row h.row
  exact ⟨ad, cap, by rw [hv, u8s_length]⟩
/-- the byte of a bit -/
theorem IsR.byte {a : World} {base p : Nat} {v : Value} {bs : List Nat} {i : Nat} (h : IsR a base p v bs i) {j : Nat} (hj : j < bs.length) :
    ∃ b off cap, v = .slice (some ⟨b, off, none⟩) bs.length cap ∧ a.cell? ⟨b, off + j, none⟩ = some (.int .u8 ((bs.getD j 0 : Nat) : Int)) ∧ bs.getD j 0 < 256 := by
  obtain ⟨ad, cap, rfl, hc, h' | ⟨bl, off, rfl, hcell⟩⟩ := holds_row h.row
  · have : bs = [] := by cases bs <;> simp_all [u8s]
    subst this; simp at hj
  · refine ⟨bl, off, cap, by rw [u8s_length], hcell j _ (by simp [u8s, hj, List.getD_eq_getElem?_getD]), ?_⟩
    have e : bs.getD j 0 = bs[j] := by simp [List.getD_eq_getElem?_getD, hj]
    rw [e]; exact h.bytes _ (List.getElem_mem hj)
/-- behind a read -/
theorem IsR.step {a : World} {base p : Nat} {v : Value} {bs : List Nat} {i : Nat} (h : IsR a base p v bs i) : IsR (a.setCell ⟨p, 1, none⟩ (.int .i64 ((i : Int) + 1))) base p v bs (i + 1) := by
  have hs := heap_setCell_same a p 1 _ _ (.int .i64 ((i : Int) + 1)) h.blk
  refine ⟨by simpa using hs, ?_, h.base, h.bytes⟩
  have k : Keeps (fun k => k = p) a (a.setCell ⟨p, 1, none⟩ (.int .i64 ((i : Int) + 1))) := (Keeps.refl (fun k => k = p) a).setCell (p := ⟨p, 1, none⟩) (fun _ => rfl) _
  refine k.row h.row (fun g hg e => ?_)
  obtain ⟨c, hc⟩ := row_type h.row hg
  exact ne_of_types hc h.blk (by decide) e
end Go.Proofs.YtdniaingipoggaaDoor
