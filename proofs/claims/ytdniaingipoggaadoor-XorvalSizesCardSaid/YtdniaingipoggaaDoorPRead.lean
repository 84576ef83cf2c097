/-
  PLAIN: what a slice reads as ('Holds'), whoever owns it; bytes as a string. No walk here.
-/
import Derived.Test.YtdniaingipoggaaDoorPMem
import Derived.Test.YtdniaingipoggaaDoorPApp
import Derived.WalkKit
namespace Go.Proofs.YtdniaingipoggaaDoor
open Go.RowKit

/-- the slice v reads as xs (elements of one cell each) -/
def Holds (w : World) (v : Value) (xs : List Value) : Prop :=
  ∃ a cap, v = .slice a xs.length cap ∧ xs.length ≤ cap ∧ (xs = [] ∨ ∃ b off, a = some ⟨b, off, none⟩ ∧ ∀ j u, xs[j]? = some u → w.cell? ⟨b, off + j, none⟩ = some u)
theorem Holds.nil (w : World) : Holds w (.slice none 0 0) [] := ⟨none, 0, rfl, Nat.le_refl _, .inl rfl⟩
theorem Holds.keeps {S : Nat → Prop} {a b : World} {v : Value} {xs : List Value} (h : Holds a v xs) (k : Keeps S a b) (hS : ∀ g, v.ownBlock = some g → ¬ S g) : Holds b v xs := by
  obtain ⟨ad, cap, rfl, hc, h | ⟨bl, off, rfl, hcell⟩⟩ := h
  · exact ⟨ad, cap, rfl, hc, .inl h⟩
  · exact ⟨_, cap, rfl, hc, .inr ⟨bl, off, rfl, fun j u hj => k.cell (hcell j u hj) (hS bl rfl)⟩⟩
theorem Holds.lt {a : World} {v : Value} {xs : List Value} (h : Holds a v xs) (hx : xs ≠ []) : ∃ g, v.ownBlock = some g ∧ g < a.heap.size := by
  obtain ⟨ad, cap, rfl, hc, h | ⟨bl, off, rfl, hcell⟩⟩ := h
  · exact absurd h hx
  · cases xs with
    | nil => exact absurd rfl hx
    | cons x xs => exact ⟨bl, rfl, World.block_lt_of_cell? a _ (hcell 0 x rfl)⟩
/-- what was there before is read the same behind a call that writes only to new blocks -/
theorem Holds.fresh {a b : World} {v : Value} {xs : List Value} (h : Holds a v xs) (k : Keeps (fun k => a.heap.size ≤ k) a b) : Holds b v xs := by
  obtain ⟨ad, cap, rfl, hc, h | ⟨bl, off, rfl, hcell⟩⟩ := h
  · exact ⟨ad, cap, rfl, hc, .inl h⟩
  · refine ⟨_, cap, rfl, hc, .inr ⟨bl, off, rfl, fun j u hj => k.cell (hcell j u hj) (fun hs => ?_)⟩⟩
    have := World.block_lt_of_cell? a _ (hcell j u hj)
    simp only at hs this
    omega
/-- the cells of a slice that is read by an index, in the walk's spelling -/
theorem Holds.index {w : World} {v : Value} {xs : List Value} (h : Holds w v xs) {j : Nat} {u : Value} (hj : xs[j]? = some u) :
    ∃ b off cap, v = .slice (some ⟨b, off, none⟩) xs.length cap ∧ w.cell? ⟨b, off + j, none⟩ = some u := by
  obtain ⟨ad, cap, rfl, hc, h | ⟨bl, off, rfl, hcell⟩⟩ := h
  · subst h; simp at hj
  · exact ⟨bl, off, cap, rfl, hcell j u hj⟩
theorem addr_add (b off j : Nat) : (⟨b, off, none⟩ : Addr).add j = ⟨b, off + j, none⟩ := by unfold Addr.add; split <;> simp_all
theorem holds_row {w : World} {base : Nat} {e : TypeId} {v : Value} {n : Nat} {xs : List Value} (h : w.ownsRow base e 1 v n xs) : Holds w v xs := by
  have hl : xs.length = n := by have := h.1; omega
  rcases h.2 with ⟨rfl, h0⟩ | ⟨g, cap, cur, rfl, hb, hgg, hcap, _, hcs, htk⟩
  · refine ⟨none, 0, by rw [hl, h0], by omega, .inl ?_⟩
    exact List.eq_nil_of_length_eq_zero (by omega)
  · refine ⟨_, cap, by rw [hl], by omega, .inr ⟨g, 0, rfl, fun j u hj => ?_⟩⟩
    rw [Nat.zero_add, cell_of_row w g j _ _ _ hgg, ← Array.getElem?_toList]
    rw [← htk, List.getElem?_take] at hj
    split at hj
    · exact hj
    · cases hj
def bytesOf (l : List Nat) : ByteArray := ⟨(l.map UInt8.ofNat).toArray⟩
theorem bytesOf_inj {l l' : List Nat} (h : ∀ c ∈ l, c < 256) (h' : ∀ c ∈ l', c < 256) : ((bytesOf l).toList == (bytesOf l').toList) = decide (l = l') := by
  have e : ∀ l : List Nat, (bytesOf l).toList = l.map UInt8.ofNat := by
    intro l
    rw [bytesOf, ByteArray.toList_mk]
  rw [e, e]
  rw [Bool.eq_iff_iff, beq_iff_eq, decide_eq_true_iff]
  constructor
  · intro hm
    have inj : ∀ l : List Nat, (∀ c ∈ l, c < 256) → (l.map UInt8.ofNat).map UInt8.toNat = l := by
      intro l hl
      have h2 : (l.map UInt8.ofNat).map UInt8.toNat = l.map id := by
        rw [List.map_map]
        refine List.map_congr_left fun c hc => ?_
        have := hl c hc
        simp [UInt8.toNat_ofNat']; omega
      rw [h2, List.map_id]
    rw [← inj l h, ← inj l' h', hm]
  · intro hl; rw [hl]
section
variable {P : Program} (w : World)
theorem run_convert_holds (src e : TypeId) (hs : P.underlying src = some (.slice e)) (he : P.underlying e = some (.int .u8)) (v : Value) (l : List Nat) (h : Holds w v (u8s l)) :
    ∀ dst, P.underlying dst = some .string → (convert src dst v).run P w = .ok (.string (bytesOf l)) w := by
  intro dst hd
  obtain ⟨ad, cap, rfl, hc, h | ⟨bl, off, rfl, hcell⟩⟩ := h
  · have hl : l = [] := by cases l <;> simp_all [u8s]
    subst hl
    cases ad with
    | none => exact run_convert_bytes_nil w src e hs he _ _ dst hd
    | some a =>
      rw [run_convert_bytes_string w src dst e _ _ _ hs he hd]
      have := run_bytesToString (P := P) w a 0 cap [] (by simpa using run_loadCells_list (P := P) w a [] (by simp))
      have e : bytesOf [] = ByteArray.empty := rfl
      rw [e]
      simpa [u8s] using this
  · have hx := run_convert_bytes_arg (P := P) w src e hs he bl off (u8s l).length cap (l.map fun c => ((c : Nat) : Int)) (by simp [u8s]) (fun i hi => by
      have hi' : i < l.length := by simpa [u8s] using hi
      refine hcell i _ ?_
      simp [u8s, hi', List.getD_eq_getElem?_getD]) dst hd
    rw [hx]
    congr 2
    simp [strOfNums, bytesOf]
end
theorem packed_lt (l : List Bool) : ∀ c ∈ packed l, c < 256 := by
  intro c hc
  simp only [packed, List.mem_map] at hc
  obtain ⟨j, _, rfl⟩ := hc
  exact byteAt_lt l j
section
variable {P : Program} (w : World)
/-- a part of a slice reads as the part (elements of one cell each) -/
theorem sliced_holds {a : Option Addr} {len cap : Nat} {xs : List Value} (h : Holds w (.slice a len cap) xs) (lo hi : Nat) (h1 : lo ≤ hi) (h2 : hi ≤ xs.length) :
    ∃ a2 cap2, sliced a lo hi cap 1 = .slice a2 (hi - lo) cap2 ∧ Holds w (.slice a2 (hi - lo) cap2) ((xs.take hi).drop lo) ∧ (∀ g, (Value.slice a2 (hi - lo) cap2).ownBlock = some g → (Value.slice a len cap).ownBlock = some g) := by
  obtain ⟨ad, cap', hv, hc, h⟩ := h
  simp only [Value.slice.injEq] at hv
  obtain ⟨rfl, hl, rfl⟩ := hv
  have hlen : ((xs.take hi).drop lo).length = hi - lo := by rw [List.length_drop, List.length_take]; omega
  by_cases hm : cap = lo
  · refine ⟨a, cap - lo, by simp [sliced, hm], ⟨a, cap - lo, by rw [hlen], by rw [hlen]; omega, .inl (List.eq_nil_of_length_eq_zero (by rw [hlen]; omega))⟩, fun g hg => by cases a <;> simp [Value.ownBlock] at hg ⊢; exact hg⟩
  · refine ⟨a.map (·.add (lo * 1)), cap - lo, by simp [sliced, hm], ⟨a.map (·.add (lo * 1)), cap - lo, by rw [hlen], by rw [hlen]; omega, ?_⟩, ?_⟩
    · rcases h with h | ⟨b, off, rfl, hcell⟩
      · subst h; exact .inl (by simp)
      · refine .inr ⟨b, off + lo, by simp [addr_add], fun j u hj => ?_⟩
        rw [List.getElem?_drop, List.getElem?_take] at hj
        split at hj
        · rw [Nat.add_assoc]; exact hcell _ _ hj
        · cases hj
    · intro g hg
      cases a with
      | none => simp [Value.ownBlock] at hg
      | some ad =>
        simp only [Option.map_some, Value.ownBlock, Option.some.injEq] at hg ⊢
        rw [← hg]
        unfold Addr.add
        split <;> rfl
theorem run_from (t e : TypeId) (ht : P.underlying t = some (.slice e)) {i : TypeInfo} (hi : P.info? e = some i) (hz : i.size = 1) {a : Option Addr} {len cap : Nat} {xs : List Value} (h : Holds w (.slice a len cap) xs) (k : IntKind) (lo : Nat) (h1 : lo ≤ xs.length) :
    ∃ a2 cap2, (Instr.sliceAt t (.slice a len cap) (some (.int k (lo : Nat))) none none).run P w = .ok (.slice a2 (xs.length - lo) cap2) w ∧ Holds w (.slice a2 (xs.length - lo) cap2) (xs.drop lo) ∧ (∀ g, (Value.slice a2 (xs.length - lo) cap2).ownBlock = some g → (Value.slice a len cap).ownBlock = some g) := by
  have hlen : len = xs.length := by
    obtain ⟨ad, cap', hv, _⟩ := h
    simp only [Value.slice.injEq] at hv
    exact hv.2.1
  subst hlen
  obtain ⟨a2, cap2, e1, e2, e3⟩ := sliced_holds w h lo xs.length h1 (Nat.le_refl _)
  rw [List.take_length] at e2
  refine ⟨a2, cap2, ?_, e2, e3⟩
  have hel : P.elem t = e := by simp [Program.elem, ht]
  have ht' : P.underlying t = some (.slice (P.elem t)) := by rw [hel]; exact ht
  rw [run_sliceAt_slice (P := P) w t _ _ _ _ ht', run_slice_l (P := P) w t a xs.length cap ht' k lo (by omega) (by omega), hel]
  simp [sizeOf, typeInfo, hi, hz, e1, Result.andThen]
theorem run_to (t e : TypeId) (ht : P.underlying t = some (.slice e)) {i : TypeInfo} (hi : P.info? e = some i) (hz : i.size = 1) {a : Option Addr} {len cap : Nat} {xs : List Value} (h : Holds w (.slice a len cap) xs) (k : IntKind) (hi' : Nat) (h1 : hi' ≤ xs.length) :
    ∃ a2 cap2, (Instr.sliceAt t (.slice a len cap) none (some (.int k (hi' : Nat))) none).run P w = .ok (.slice a2 hi' cap2) w ∧ Holds w (.slice a2 hi' cap2) (xs.take hi') ∧ (∀ g, (Value.slice a2 hi' cap2).ownBlock = some g → (Value.slice a len cap).ownBlock = some g) := by
  obtain ⟨a2, cap2, e1, e2, e3⟩ := sliced_holds w h 0 hi' (Nat.zero_le _) h1
  rw [Nat.sub_zero] at e1 e2 e3
  rw [List.drop_zero] at e2
  have hcap : hi' ≤ cap := by
    obtain ⟨ad, cap', hv, hc, _⟩ := h
    simp only [Value.slice.injEq] at hv
    omega
  refine ⟨a2, cap2, ?_, e2, e3⟩
  have hel : P.elem t = e := by simp [Program.elem, ht]
  have ht' : P.underlying t = some (.slice (P.elem t)) := by rw [hel]; exact ht
  rw [run_sliceAt_slice (P := P) w t _ _ _ _ ht', run_slice_h (P := P) w t a len cap ht' k hi' (by omega) (by omega), hel]
  simp [sizeOf, typeInfo, hi, hz, e1, Result.andThen]
theorem run_part (t e : TypeId) (ht : P.underlying t = some (.slice e)) {i : TypeInfo} (hi : P.info? e = some i) (hz : i.size = 1) {a : Option Addr} {len cap : Nat} {xs : List Value} (h : Holds w (.slice a len cap) xs) (k k' : IntKind) (lo hi' : Nat) (h0 : lo ≤ hi') (h1 : hi' ≤ xs.length) :
    ∃ a2 cap2, (Instr.sliceAt t (.slice a len cap) (some (.int k (lo : Nat))) (some (.int k' (hi' : Nat))) none).run P w = .ok (.slice a2 (hi' - lo) cap2) w ∧ Holds w (.slice a2 (hi' - lo) cap2) ((xs.take hi').drop lo) ∧ (∀ g, (Value.slice a2 (hi' - lo) cap2).ownBlock = some g → (Value.slice a len cap).ownBlock = some g) := by
  obtain ⟨a2, cap2, e1, e2, e3⟩ := sliced_holds w h lo hi' h0 h1
  have hcap : hi' ≤ cap := by
    obtain ⟨ad, cap', hv, hc, _⟩ := h
    simp only [Value.slice.injEq] at hv
    omega
  refine ⟨a2, cap2, ?_, e2, e3⟩
  have hel : P.elem t = e := by simp [Program.elem, ht]
  have ht' : P.underlying t = some (.slice (P.elem t)) := by rw [hel]; exact ht
  rw [run_sliceAt_slice (P := P) w t _ _ _ _ ht', run_slice_lh (P := P) w t a len cap ht' k k' lo hi' (by omega) (by omega) (by omega), hel]
  simp [sizeOf, typeInfo, hi, hz, e1, Result.andThen]
end
/-- the blocks of a slice -/
def own (v : Value) (k : Nat) : Prop := v.ownBlock = some k
/-- v' owns xs in w'; but for v's block nothing has turned; v' lies in v's block or in a new one -/
structure RowTo (e : TypeId) (base : Nat) (v : Value) (w : World) (v' : Value) (xs : List Value) (w' : World) : Prop where
  row : w'.ownsRow base e 1 v' xs.length xs
  keeps : Keeps (own v) w w'
  new : ∀ g, v'.ownBlock = some g → v.ownBlock = some g ∨ w.heap.size ≤ g
theorem RowTo.refl {e : TypeId} {base : Nat} {v : Value} {w : World} {xs : List Value} (h : w.ownsRow base e 1 v xs.length xs) : RowTo e base v w v xs w := ⟨h, Keeps.refl _ _, fun _ h => .inl h⟩
/-- one step more: what was done before, then an append (behind a temporary of its own) -/
theorem RowTo.append {e : TypeId} {base : Nat} {v v1 v2 : Value} {w w1 w2 : World} {o : Obj} {xs ys : List Value} (h : RowTo e base v w v1 xs w1)
    (hr : w2.ownsRow base e 1 v2 ys.length ys) (hg : (w1.alloc o).grownBy w2 v1.ownBlock) (hn : ∀ g, v2.ownBlock = some g → v1.ownBlock = some g ∨ (w1.alloc o).heap.size ≤ g) : RowTo e base v w v2 ys w2 := by
  refine ⟨hr, (h.keeps.alloc o).grown hg (fun k hk e => ?_), fun g hg' => ?_⟩
  · rcases h.new k e with h' | h'
    · exact h'
    · exact absurd hk (Nat.not_lt.2 h')
  · rcases hn g hg' with h' | h'
    · exact h.new g h'
    · exact .inr (Nat.le_trans h.keeps.size (Nat.le_trans (by simp) h'))
theorem RowTo.trans {e : TypeId} {base : Nat} {v v1 v2 : Value} {w w1 w2 : World} {xs ys : List Value} (h : RowTo e base v w v1 xs w1) (h2 : RowTo e base v1 w1 v2 ys w2) : RowTo e base v w v2 ys w2 := by
  refine ⟨h2.row, h.keeps.trans h2.keeps (fun k hk e => ?_), fun g hg' => ?_⟩
  · rcases h.new k e with h' | h'
    · exact h'
    · exact absurd hk (Nat.not_lt.2 h')
  · rcases h2.new g hg' with h' | h'
    · exact h.new g h'
    · exact .inr (Nat.le_trans h.keeps.size h')
def bools (l : List Bool) : List Value := l.map Value.bool
theorem bools_length (l : List Bool) : (bools l).length = l.length := by simp [bools]
theorem bools_one (l : List Bool) : ∀ u ∈ bools l, u.oneCell' = true := by
  intro u hu
  simp only [bools, List.mem_map] at hu
  obtain ⟨c, _, rfl⟩ := hu
  rfl
#print axioms run_convert_holds
end Go.Proofs.YtdniaingipoggaaDoor
