/-
  PLAIN: help for the second seat (lemmas of the first seat's texts; made by extract.py).
-/
import Derived.Test.YtdniaingipoggaaDoorPArgs
import Derived.Test.YtdniaingipoggaaDoorWBits
import Derived.Test.YtdniaingipoggaaDoorWReader
import Derived.Test.YtdniaingipoggaaDoorWRef01
import Derived.Test.YtdniaingipoggaaDoorPRange2
import Derived.Test.YtdniaingipoggaaDoorPApp2
namespace Go.Proofs.YtdniaingipoggaaDoor
open Go.RowKit
theorem IsW.alloc {a : World} {base p : Nat} {v : Value} {l : List Bool} (h : IsW a base p v l) (o : Obj) : IsW (a.alloc o) base p v l :=
  h.keeps (S := fun _ => False) ((Keeps.refl _ a).alloc o) (fun h => h) (fun _ _ h => h)
theorem IsW.own_lt {a : World} {base p : Nat} {v : Value} {l : List Bool} (h : IsW a base p v l) {g : Nat} (hg : v.ownBlock = some g) : g < a.heap.size := (h.row.lt g hg).2
/-- a writer is none of another type's rows -/
theorem IsW.other_row {a b : World} {base p : Nat} {v u : Value} {l : List Bool} (h : IsW a base p v l) {e : TypeId} {base' n : Nat} {size : Nat} {xs : List Value} (hr : a.ownsRow base' e size u n xs) (k : Keeps (own u) a b) (h1 : e ≠ 5) (h2 : e ≠ 95) : IsW b base p v l := by
  refine h.keeps k (fun hs => ?_) (fun g hg hs => ?_)
  · obtain ⟨c, hc⟩ := row_type hr hs
    exact ne_of_types hc h.blk h2 rfl
  · obtain ⟨c, hc⟩ := row_type hr hs
    obtain ⟨c', hc'⟩ := row_type h.row hg
    exact ne_of_types hc hc' h1 rfl
theorem row_of_foot {a b : World} {base p : Nat} {v u : Value} {l : List Bool} (h : IsW a base p v l) {e : TypeId} {base' n : Nat} {size : Nat} {xs : List Value} (hr : a.ownsRow base' e size u n xs) (k : Keeps (foot p v) a b) (h1 : e ≠ 5) (h2 : e ≠ 95) :
    b.ownsRow base' e size u n xs := by
  refine k.row hr (fun g hg hs => ?_)
  obtain ⟨c, hc⟩ := row_type hr hg
  rcases hs with rfl | hs
  · exact ne_of_types hc h.blk h2 rfl
  · obtain ⟨c', hc'⟩ := row_type h.row hs
    exact ne_of_types hc hc' h1 rfl
/-- two writes, one behind the other -/
theorem Wrote.trans {base p : Nat} {v0 v : Value} {l : List Bool} {w w1 w2 : World} (hK : Keeps (foot p v0) w w1) (hn : ∀ g, v.ownBlock = some g → v0.ownBlock = some g ∨ w.heap.size ≤ g) (h : Wrote base p v l w1 w2) : Wrote base p v0 l w w2 := by
  obtain ⟨v', h1, h2, h3⟩ := h
  refine ⟨v', h1, hK.trans h2 (fun k hk e => ?_), fun g hg => ?_⟩
  · rcases e with rfl | e
    · exact .inl rfl
    · rcases hn k e with h' | h'
      · exact .inr h'
      · exact absurd hk (Nat.not_lt.2 h')
  · rcases h3 g hg with h' | h'
    · exact hn g h'
    · exact .inr (Nat.le_trans hK.size h')
/-- a write, and then work on a row of one's own -/
theorem Wrote.beside {base p : Nat} {v0 u : Value} {l : List Bool} {w w1 w2 : World} (h : Wrote base p v0 l w w1) {e : TypeId} {n : Nat} {size : Nat} {xs : List Value} (hr : w1.ownsRow w.heap.size e size u n xs) (k : Keeps (own u) w1 w2) (h1 : e ≠ 5) (h2 : e ≠ 95) :
    Wrote base p v0 l w w2 := by
  obtain ⟨v', hI, hK, hn⟩ := h
  exact ⟨v', hI.other_row hr k h1 h2, hK.trans k (fun k hk e => absurd hk (Nat.not_lt.2 (hr.lt k e).1)), hn⟩
theorem rowTo_holds {e : TypeId} {base : Nat} {v v' : Value} {w w' : World} {xs : List Value} (h : RowTo e base v w v' xs w') : Holds w' v' xs := holds_row h.row
theorem Keeps.ofNil {S : Nat → Prop} {a b : World} (h : Keeps S a b) (hS : ∀ k, k < a.heap.size → ¬ S k) : Keeps (fun _ => False) a b := h.mono (fun k hk hs => hS k hk hs)
/-- a literal of bytes -/
theorem holds_lit (w : World) (l : List Nat) : Holds (w.alloc (.cells (u8s l).toArray 5)) (.slice (some ⟨w.heap.size, 0, none⟩) l.length l.length) (u8s l) := by
  refine ⟨_, l.length, by rw [u8s_length], by rw [u8s_length]; exact Nat.le_refl _, .inr ⟨_, 0, rfl, fun j u hj => ?_⟩⟩
  rw [cell_of_row _ _ _ _ _ _ (heap_alloc_new w _), Nat.zero_add]
  simpa using hj
theorem foot_nil {B k : Nat} {w : World} (hB : w.heap.size ≤ B) (hk : k < w.heap.size) (h : foot B (.slice none 0 0) k) : False := by
  rcases h with e | e
  · omega
  · simp [Value.ownBlock] at e
theorem Keeps.fseq {a b c : World} (h : Keeps (fun _ => False) a b) (k : Keeps (fun _ => False) b c) : Keeps (fun _ => False) a c := h.trans k (fun _ _ h => h)
theorem Keeps.draws {S : Nat → Prop} {a b : World} (h : ∃ n, b = a.drewN n) : Keeps S a b := by
  obtain ⟨n, rfl⟩ := h
  exact (Keeps.refl S a).drewN n
/-- what reading n bits of the rest answers: the number, the error, how many bits went -/
def stepB (n : Int) (rest : List Bool) : Nat × Nat × Nat :=
  if n < 0 ∨ 64 < n then (0, 2, 0) else if rest.length < n.toNat then (0, 3, 0) else (bitsNat (rest.take n.toNat), 0, n.toNat)
theorem stepB_le (n : Int) (rest : List Bool) : (stepB n rest).2.2 ≤ rest.length := by
  unfold stepB
  split
  · exact Nat.zero_le _
  · split
    · exact Nat.zero_le _
    · show n.toNat ≤ rest.length
      omega
theorem rbits_all (base p : Nat) (v : Value) (bs : List Nat) (i : Nat) (n : Int) (w : World) (h : IsR w base p v bs i) (hl : bs.length ≤ 140737488351232) (hi : i ≤ 8 * bs.length) :
    Calls Tryd.prog 44 #[.pointer (some ⟨p, 0, none⟩), .int .i64 n] w fun e w' => e = .returned (.tuple #[.int .u64 (((stepB n ((unpackB bs).drop i)).1 : Nat) : Int), .int .i64 (((stepB n ((unpackB bs).drop i)).2.1 : Nat) : Int)]) ∧
      IsR w' base p v bs (i + (stepB n ((unpackB bs).drop i)).2.2) ∧ Keeps (fun k => k = p) w w' := by
  have hlen : ((unpackB bs).drop i).length = 8 * bs.length - i := by rw [List.length_drop, unpackB_length]
  by_cases hn : n < 0 ∨ 64 < n
  · have e : stepB n ((unpackB bs).drop i) = (0, 2, 0) := by unfold stepB; rw [if_pos hn]
    rw [e]
    refine (rbits_bad p n w hn).mono ?_
    rintro e w' ⟨rfl, rfl⟩
    exact ⟨rfl, h, Keeps.refl _ _⟩
  · obtain ⟨N, rfl⟩ : ∃ N : Nat, n = N := ⟨n.toNat, by omega⟩
    by_cases hN : 8 * bs.length < i + N
    · have e : stepB (N : Int) ((unpackB bs).drop i) = (0, 3, 0) := by unfold stepB; rw [if_neg hn, if_pos (by rw [hlen]; omega)]
      rw [e]
      refine (rbits_eof base p v bs i N w h hl hi (by omega) hN).mono ?_
      rintro e w' ⟨rfl, m, rfl⟩
      exact ⟨rfl, h.drewN m, Keeps.draws ⟨m, rfl⟩⟩
    · have e : stepB (N : Int) ((unpackB bs).drop i) = (bitsNat (bitsFrom bs i N), 0, N) := by unfold stepB; rw [if_neg hn, if_neg (by rw [hlen]; omega)]; rfl
      rw [e]
      exact rbits_any base p v bs i N w h hl (by omega) (by omega)
theorem frozen_kept2 {S : Nat → Prop} {a b : World} (h : Keeps S a b) {p : Addr} {v : Value} (hc : a.cell? p = some v) (hS : ¬ S p.block) : b.frozen? p = a.frozen? p :=
  World.frozen?_of_block (h.block p.block (World.block_lt_of_cell? a p hc) hS)
/-- the block that a slice reads as xs from, if it reads anything -/
def ownH {α : Type} (v : Value) (l : List α) (k : Nat) : Prop := l ≠ [] ∧ v.ownBlock = some k
theorem Holds.keepsH {α : Type} {S : Nat → Prop} {a b : World} {v : Value} {xs : List Value} {l : List α} (h : Holds a v xs) (k : Keeps S a b) (he : l = [] → xs = []) (hS : ∀ g, ownH v l g → ¬ S g) : Holds b v xs := by
  by_cases hl : l = []
  · obtain ⟨ad, cap, hv, hc, _⟩ := h
    exact ⟨ad, cap, hv, hc, .inl (he hl)⟩
  · exact h.keeps k (fun g hg => hS g ⟨hl, hg⟩)
theorem u64s_nil {l : List Nat} (h : l = []) : u64s l = [] := by rw [h]; rfl
theorem ownH_lt {w : World} {v : Value} {l : List Nat} (h : Holds w v (u64s l)) {k : Nat} (hk : ownH v l k) : k < w.heap.size := by
  obtain ⟨g, hg, hlt⟩ := h.lt (fun e => hk.1 (by cases l <;> simp_all [u64s]))
  have h2 := hk.2
  rw [hg] at h2
  simp only [Option.some.injEq] at h2
  omega
theorem drop_cell {w : World} {ad : Option Addr} {cap : Nat} {l : List Nat} (h : Holds w (.slice ad l.length cap) (u64s l)) {j y : Nat} (hj : l[j]? = some y) :
    ∃ b off, ad = some ⟨b, off, none⟩ ∧ w.cell? ⟨b, off + j, none⟩ = some (.int .u64 (y : Nat)) := by
  obtain ⟨b, off, cap', hv, hc⟩ := h.index (j := j) (u := .int .u64 (y : Nat)) (by simp [u64s, hj])
  simp only [Value.slice.injEq] at hv
  exact ⟨b, off, hv.1, hc⟩
theorem infoU64 : (Tryd.prog.info? 48).map (fun i => (i.zero, i.size, i.bytes)) = some (some (.int .u64 0), 1, 8) := by kernel_rfl
theorem two_one (k k' : IntKind) (a b : Int) : ∀ u ∈ [Value.int k a, Value.int k' b], u.oneCell' = true := by
  intro u hu
  simp only [List.mem_cons, List.not_mem_nil, or_false] at hu
  rcases hu with rfl | rfl <;> rfl
theorem frozen_alloc_old (w : World) (o : Obj) (a : Addr) (h : a.block < w.heap.size) : (w.alloc o).frozen? a = w.frozen? a := World.frozen?_of_block (Below.heap_alloc w o a.block h)
theorem cell_alloc_below (w : World) (o : Obj) (a : Addr) (h : a.block < w.heap.size) : (w.alloc o).cell? a = w.cell? a := World.cell?_of_block (Below.heap_alloc w o a.block h)
theorem RowTo.later {e : TypeId} {base : Nat} {v v1 : Value} {w w1 w2 : World} {xs : List Value} (h : RowTo e base v w v1 xs w1) (k : Keeps (fun _ => False) w1 w2) : RowTo e base v w v1 xs w2 :=
  ⟨k.row h.row (fun _ _ h => h), h.keeps.trans k (fun _ _ h => h.elim), h.new⟩
theorem row_other {w w' : World} {b1 b2 : Nat} {e1 e2 : TypeId} {s1 s2 n m : Nat} {u v : Value} {xs ys : List Value} (hu : w.ownsRow b1 e1 s1 u n xs) (hv : w.ownsRow b2 e2 s2 v m ys) (k : Keeps (own v) w w') (hne : e1 ≠ e2) : w'.ownsRow b1 e1 s1 u n xs :=
  k.row hu (fun g hg e => by
    obtain ⟨c', hc'⟩ := row_type hu hg
    obtain ⟨c'', hc''⟩ := row_type hv e
    exact ne_of_types hc' hc'' hne rfl)
theorem row_cell {w : World} {base : Nat} {e : TypeId} {v : Value} {n : Nat} {xs : List Value} (h : w.ownsRow base e 1 v n xs) {i : Nat} {u : Value} (hi : xs[i]? = some u) :
    ∃ g cap, v = .slice (some ⟨g, 0, none⟩) n cap ∧ n ≤ cap ∧ i < n ∧ w.cell? ⟨g, i, none⟩ = some u ∧ w.frozen? ⟨g, i, none⟩ = false := by
  have hlt : i < xs.length := (List.getElem?_eq_some_iff.1 hi).1
  have hl : xs.length = n := by have := h.1; omega
  obtain ⟨g, cap, cur, rfl, hb, hg, hn1, _, hs1, ht1⟩ := row_shape h (by omega)
  exact ⟨g, cap, rfl, hn1, by omega, take_cell hg ht1 hi, frozen_of_row _ _ _ _ _ hg⟩
theorem infoInt : (Tryd.prog.info? 3).map (fun i => (i.zero, i.size, i.bytes)) = some (some (.int .i64 0), 1, 8) := by kernel_rfl
def natI (l : List Nat) : List Value := l.map fun c => .int .i64 ((c : Nat) : Int)
theorem natI_length (l : List Nat) : (natI l).length = l.length := by simp [natI]
/-- a literal of words -/
theorem holds_words (w : World) (l : List Nat) : Holds (w.alloc (.cells (u64s l).toArray 48)) (.slice (some ⟨w.heap.size, 0, none⟩) l.length l.length) (u64s l) := by
  refine ⟨_, l.length, by rw [u64s_length], by rw [u64s_length]; exact Nat.le_refl _, .inr ⟨_, 0, rfl, fun j u hj => ?_⟩⟩
  rw [cell_of_row _ _ _ _ _ _ (heap_alloc_new w _), Nat.zero_add]
  simpa using hj
theorem madeBools (n : Nat) : (madeCells (Value.bool false).cells (n * 1)).toList = bools (List.replicate n false) := by
  apply List.ext_getElem?
  intro i
  simp only [madeCells, bools, Value.cells, Nat.mul_one]
  by_cases h : i < n
  · simp [h, Nat.mod_one]
  · simp [h]
theorem fieldBits_zero (n : Nat) : fieldBits 0 n = List.replicate n false := by
  unfold fieldBits
  apply List.ext_getElem?
  intro i
  by_cases h : i < n
  · simp [h]
  · simp [h]
/-- the length of a row is a length -/
theorem row_shape_le {w : World} {base : Nat} {e : TypeId} {size : Nat} {v : Value} {n : Nat} {xs : List Value} (h : w.ownsRow base e size v n xs) : n ≤ maxLen := by
  rcases h.2 with ⟨_, rfl⟩ | ⟨g, cap, cur, rfl, hb, hgg, hcap, hm, _⟩
  · exact Nat.zero_le _
  · omega
theorem Holds.keepsS {a b : World} {v : Value} {xs : List Value} {P : Nat} (h : Holds a v xs) (k : Keeps (fun k => k = P) a b) (hne : xs ≠ [] → ∃ g, v.ownBlock = some g ∧ g ≠ P) : Holds b v xs := by
  by_cases hx : xs = []
  · obtain ⟨ad, cap, hv, hc, _⟩ := h
    exact ⟨ad, cap, hv, hc, .inl hx⟩
  · obtain ⟨g, hg, hgp⟩ := hne hx
    exact h.keeps k (fun g' hg' e => by rw [hg] at hg'; simp only [Option.some.injEq] at hg'; omega)
theorem row_cap {w : World} {base : Nat} {e : TypeId} {size : Nat} {a : Option Addr} {n cap : Nat} {xs : List Value} (h : w.ownsRow base e size (.slice a n cap) n xs) : n ≤ cap := by
  rcases h.2 with ⟨hv, rfl⟩ | ⟨g, cap', cur, hv, hb, hgg, hcap, hm, _⟩
  · exact Nat.zero_le _
  · simp only [Value.slice.injEq] at hv; omega
theorem run_to_all {P : Program} (w : World) (t e : TypeId) (ht : P.underlying t = some (.slice e)) {i : TypeInfo} (hi : P.info? e = some i) (hz : i.size = 1) {a : Option Addr} {len cap : Nat} {xs : List Value} (h : Holds w (.slice a len cap) xs) (k : IntKind) (hi' : Nat) (h1 : hi' ≤ xs.length) :
    ∃ a2 cap2, (∀ w, (Instr.sliceAt t (.slice a len cap) none (some (.int k (hi' : Nat))) none).run P w = .ok (.slice a2 hi' cap2) w) ∧ Holds w (.slice a2 hi' cap2) (xs.take hi') := by
  obtain ⟨a2, cap2, e1, e2, e3⟩ := sliced_holds w h 0 hi' (Nat.zero_le _) h1
  rw [Nat.sub_zero] at e1 e2 e3
  rw [List.drop_zero] at e2
  have hcap : hi' ≤ cap := by
    obtain ⟨ad, cap', hv, hc, _⟩ := h
    simp only [Value.slice.injEq] at hv
    omega
  refine ⟨a2, cap2, fun w' => ?_, e2⟩
  have hel : P.elem t = e := by simp [Program.elem, ht]
  have ht' : P.underlying t = some (.slice (P.elem t)) := by rw [hel]; exact ht
  rw [run_sliceAt_slice (P := P) w' t _ _ _ _ ht', run_slice_h (P := P) w' t a len cap ht' k hi' (by omega) (by omega), hel]
  simp [sizeOf, typeInfo, hi, hz, e1, Result.andThen]
end Go.Proofs.YtdniaingipoggaaDoor
