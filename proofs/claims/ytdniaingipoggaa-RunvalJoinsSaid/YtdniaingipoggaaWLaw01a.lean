/-
  WALKS: tsblocklaw01.write.
-/
import Derived.Test.YtdniaingipoggaaWPack
import Derived.WalkKit
import Derived.WalkSpells
import Derived.WalkLawsBesides
import Derived.Lib.Hide
namespace Go.Proofs.Ytdniaingipoggaa
open Go.RowKit

/-- a slice of Fields below block base -/
def HoldsF (w : World) (base : Nat) (v : Value) (fs : List (Nat × Int)) : Prop :=
  ∃ a cap, v = .slice a fs.length cap ∧ (fs = [] ∨ ∃ b off, a = some ⟨b, off, none⟩ ∧ b < base ∧
    ∀ i X N, fs[i]? = some (X, N) → w.cell? ⟨b, off + i * 2, none⟩ = some (.int .u64 (X : Nat)) ∧ w.cell? ⟨b, off + i * 2 + 1, none⟩ = some (.int .i64 N))
theorem holdsF_open {w : World} {a0 : Option Addr} {len0 cap0 : Nat} (h : ∃ (a : Option Addr) (len cap : Nat) (xs : List (Int × Int)), (Value.slice a0 len0 cap0).cells.toList = [.slice a len cap] ∧ xs.length = len ∧ (xs = [] ∨ ∃ b off, a = some ⟨b, off, none⟩ ∧ b < w.heap.size ∧
      ∀ i p, xs[i]? = some p → w.cell? ⟨b, off + i * 2, none⟩ = some (.int .u64 p.1) ∧ w.cell? ⟨b, off + i * 2 + 1, none⟩ = some (.int .i64 p.2) ∧ (Lit.int .u64 p.1).wf = true ∧ (Lit.int .i64 p.2).wf = true)) :
    ∃ fs, HoldsF w w.heap.size (.slice a0 len0 cap0) fs ∧ ∀ f ∈ fs, f.1 ≤ 18446744073709551615 := by
  obtain ⟨a, len, cap, xs, hv, hl, h⟩ := h
  simp [Value.cells] at hv
  obtain ⟨rfl, rfl, rfl⟩ := hv
  rcases h with rfl | ⟨b, off, rfl, hb, h⟩
  · exact ⟨[], ⟨_, _, by rw [← hl]; rfl, .inl rfl⟩, by simp⟩
  · have hx : ∀ (i : Nat) (p : Int × Int), xs[i]? = some p → 0 ≤ p.1 ∧ p.1 ≤ 18446744073709551615 := fun i p hp => by
      have := (h i p hp).2.2.1
      simpa [Lit.wf, IntKind.min, IntKind.max, IntKind.signed, IntKind.bits] using this
    refine ⟨xs.map fun p => (p.1.toNat, p.2), ⟨_, _, by rw [List.length_map, hl], .inr ⟨b, off, rfl, hb, fun i X N hi => ?_⟩⟩, fun f hf => ?_⟩
    · rw [List.getElem?_map] at hi
      cases hp : xs[i]? with
      | none => rw [hp] at hi; cases hi
      | some p =>
        rw [hp] at hi
        simp only [Option.map_some, Option.some.injEq, Prod.mk.injEq] at hi
        obtain ⟨rfl, rfl⟩ := hi
        have := hx i p hp
        rw [show ((p.1.toNat : Nat) : Int) = p.1 by omega]
        exact ⟨(h i p hp).1, (h i p hp).2.1⟩
    · simp only [List.mem_map] at hf
      obtain ⟨p, hp, rfl⟩ := hf
      obtain ⟨i, hi⟩ := List.getElem?_of_mem hp
      have := hx i p hi
      simp only
      omega
def okN (N : Int) : Bool := decide (0 ≤ N ∧ N ≤ 64)
def bitsOfField (f : Nat × Int) : List Bool := if okN f.2 then fieldBits f.1 f.2.toNat else []
def bitsOfFields (fs : List (Nat × Int)) : List Bool := fs.flatMap bitsOfField
theorem bitsOfField_le (f : Nat × Int) : (bitsOfField f).length ≤ 64 := by
  unfold bitsOfField okN
  split
  · rename_i h
    simp only [decide_eq_true_eq] at h
    rw [fieldBits_length]; omega
  · simp
theorem bitsOfFields_le (fs : List (Nat × Int)) : (bitsOfFields fs).length ≤ 64 * fs.length := by
  induction fs with
  | nil => simp [bitsOfFields]
  | cons f fs ih => have := bitsOfField_le f; simp only [bitsOfFields, List.flatMap_cons, List.length_append, List.length_cons] at ih ⊢; omega
theorem bitsOfFields_snoc (fs : List (Nat × Int)) (f : Nat × Int) : bitsOfFields (fs ++ [f]) = bitsOfFields fs ++ bitsOfField f := by simp [bitsOfFields]

theorem IsW.alloc {a : World} {base p : Nat} {v : Value} {l : List Bool} (h : IsW a base p v l) (o : Obj) : IsW (a.alloc o) base p v l :=
  h.keeps (S := fun _ => False) ((Keeps.refl _ a).alloc o) (fun h => h) (fun _ _ h => h)
theorem IsW.own_lt {a : World} {base p : Nat} {v : Value} {l : List Bool} (h : IsW a base p v l) {g : Nat} (hg : v.ownBlock = some g) : g < a.heap.size := (h.row.lt g hg).2
/-- a writer is none of another type's rows -/
theorem IsW.other_row {a b : World} {base p : Nat} {v u : Value} {l : List Bool} (h : IsW a base p v l) {e : TypeId} {base' n : Nat} {size : Nat} {xs : List Value} (hr : a.ownsRow base' e size u n xs) (k : Keeps (own u) a b) (h1 : e ≠ 5) (h2 : e ≠ 102) : IsW b base p v l := by
  refine h.keeps k (fun hs => ?_) (fun g hg hs => ?_)
  · obtain ⟨c, hc⟩ := row_type hr hs
    exact ne_of_types hc h.blk h2 rfl
  · obtain ⟨c, hc⟩ := row_type hr hs
    obtain ⟨c', hc'⟩ := row_type h.row hg
    exact ne_of_types hc hc' h1 rfl
theorem row_of_foot {a b : World} {base p : Nat} {v u : Value} {l : List Bool} (h : IsW a base p v l) {e : TypeId} {base' n : Nat} {size : Nat} {xs : List Value} (hr : a.ownsRow base' e size u n xs) (k : Keeps (foot p v) a b) (h1 : e ≠ 5) (h2 : e ≠ 102) :
    b.ownsRow base' e size u n xs := by
  refine k.row hr (fun g hg hs => ?_)
  obtain ⟨c, hc⟩ := row_type hr hg
  rcases hs with rfl | hs
  · exact ne_of_types hc h.blk h2 rfl
  · obtain ⟨c', hc'⟩ := row_type h.row hs
    exact ne_of_types hc hc' h1 rfl
/-- two writes, one behind the other -/
theorem Wrote.trans {base p : Nat} {v0 v : Value} {l : List Bool} {w w1 w2 : World} (hK : Keeps (foot p v0) w w1) (hn : ∀ g, v.ownBlock = some g → v0.ownBlock = some g ∨ w.heap.size ≤ g) (h : Wrote base p v l w1 w2) : Wrote base p v0 l w w2 := by
  obtain ⟨v', h1, h2, h3⟩ := h
  refine ⟨v', h1, hK.trans h2 (fun k hk e => ?_), fun g hg => ?_⟩
  · rcases e with rfl | e
    · exact .inl rfl
    · rcases hn k e with h' | h'
      · exact .inr h'
      · exact absurd hk (Nat.not_lt.2 h')
  · rcases h3 g hg with h' | h'
    · exact hn g h'
    · exact .inr (Nat.le_trans hK.size h')
/-- a write, and then work on a row of one's own -/
theorem Wrote.beside {base p : Nat} {v0 u : Value} {l : List Bool} {w w1 w2 : World} (h : Wrote base p v0 l w w1) {e : TypeId} {n : Nat} {size : Nat} {xs : List Value} (hr : w1.ownsRow w.heap.size e size u n xs) (k : Keeps (own u) w1 w2) (h1 : e ≠ 5) (h2 : e ≠ 102) :
    Wrote base p v0 l w w2 := by
  obtain ⟨v', hI, hK, hn⟩ := h
  exact ⟨v', hI.other_row hr k h1 h2, hK.trans k (fun k hk e => absurd hk (Nat.not_lt.2 (hr.lt k e).1)), hn⟩
theorem u64_of_field {fs : List (Nat × Int)} (hfs : ∀ f ∈ fs, f.1 ≤ 18446744073709551615) {k X : Nat} {N : Int} (h : fs[k]? = some (X, N)) : X ≤ 18446744073709551615 := hfs (X, N) (List.mem_of_getElem? h)
theorem take_snoc_field {fs : List (Nat × Int)} {k : Nat} {f : Nat × Int} (h : fs[k]? = some f) : fs.take (k + 1) = fs.take k ++ [f] := by
  rw [List.take_add_one, h]; rfl

set_option maxRecDepth 100000 in
set_option maxHeartbeats 1000000 in
theorem lawWrite_any (base p : Nat) (vl : Value) (fs : List (Nat × Int)) (w : World) (h : IsW w base p (.slice none 0 0) []) (hf : HoldsF w base vl fs) (hfs : ∀ f ∈ fs, f.1 ≤ 18446744073709551615) (hl : fs.length ≤ 300) (hb0 : base ≤ w.heap.size) :
    Calls Try.prog 23 #[.pointer (some ⟨p, 0, none⟩), vl] w fun e w' => ∃ v', e = .returned (.tuple #[v', .int .i64 1]) ∧ w'.ownsRow w.heap.size 4 1 v' (bools (bitsOfFields fs)).length (bools (bitsOfFields fs)) ∧
      Wrote base p (.slice none 0 0) (bitsOfFields fs) w w' := by
  obtain ⟨ad, cap, rfl, hcells⟩ := hf
  have HC := Lib.hid hcells
  clear hcells
  go_enter Try.func23, Try.ntmps23
  go_wp2
  go_loopw [6, 12] (fun b i wr => ∃ (k : Nat) (v1 : Value), k ≤ fs.length ∧ b = v1 ∧ i = .int .i64 k ∧ wr.ownsRow w.heap.size 4 1 v1 (bools (bitsOfFields (fs.take k))).length (bools (bitsOfFields (fs.take k))) ∧
      Wrote base p (.slice none 0 0) (bitsOfFields (fs.take k)) w wr) (fun _ i wr => fs.length - (intOf i).toNat)
  case atStart => exact ⟨0, _, by omega, rfl, rfl, World.ownsRow_nil _ _ _ _, Wrote.refl h⟩
  case round =>
    obtain ⟨k, v1, hk, rfl, rfl, hrow, v, hI, hKp, hnew⟩ := hrel
    by_cases hlt : k < fs.length
    · obtain ⟨⟨X, N⟩, hfk⟩ : ∃ f, fs[k]? = some f := ⟨fs[k], by simp [hlt]⟩
      obtain ⟨b, off, rfl, hbb, hc1, hc2⟩ : ∃ b off, ad = some ⟨b, off, none⟩ ∧ b < base ∧ wr.cell? ⟨b, off + k * 2, none⟩ = some (.int .u64 (X : Nat)) ∧ wr.cell? ⟨b, off + k * 2 + 1, none⟩ = some (.int .i64 N) := by
        rcases HC.out with h0 | ⟨b, off, h1, h2, h3⟩
        · simp [h0] at hlt
        · obtain ⟨c1, c2⟩ := h3 k X N hfk
          have hk1 : b < w.heap.size := Nat.lt_of_lt_of_le h2 hb0
          have hne : ¬ foot p (.slice none 0 0) b := by
            rintro (e | e)
            · have := h.base; omega
            · simp [Value.ownBlock] at e
          exact ⟨b, off, h1, h2, hKp.cell c1 hne, hKp.cell c2 hne⟩
      have hX := u64_of_field hfs hfk
      have hacc : bitsOfFields (fs.take (k + 1)) = bitsOfFields (fs.take k) ++ bitsOfField (X, N) := by rw [take_snoc_field hfk, bitsOfFields_snoc]
      have hle := bitsOfFields_le (fs.take k)
      have htk : (fs.take k).length ≤ 300 := Nat.le_trans (List.length_take_le _ _) (by omega)
      generalize bitsOfFields (fs.take k) = acc at *
      have HI := Lib.hid hI; have HKp := Lib.hid hKp; have Hnew := Lib.hid hnew; have Hacc := Lib.hid hacc; have Hfk := Lib.hid hfk; have Hrow := Lib.hid hrow; have Hfs := Lib.hid hfs; have Hh := Lib.hid h
      have hws : w.heap.size ≤ wr.heap.size := hKp.size
      clear hI hKp hnew hacc hfk hrow hfs h
      by_cases hN : 0 ≤ N ∧ N ≤ 64
      · have hbf : bitsOfField (X, N) = fieldBits X N.toNat := by simp [bitsOfField, okN, hN]
        rw [hbf] at Hacc
        clear hbf
        obtain ⟨n, rfl⟩ := Int.eq_ofNat_of_zero_le hN.1
        have hn64 : n ≤ 64 := by omega
        have hnn : ¬ (n : Int) < 0 := by omega
        have hnn2 : ¬ 64 < (n : Int) := by omega
        rw [Int.toNat_natCast] at Hacc
        clear hN
        go_wp2_with fail
        refine (wbits_any base p v acc X n _ (HI.out.alloc _) hX hn64 (by omega) (by simp; omega)).mono ?_
        rintro e w1 ⟨rfl, v2, hI2, hK2, hn2⟩
        have d0 : w1.cell? ⟨wr.heap.size, 0, none⟩ = some (.int .u64 (X : Nat)) := by
          refine hK2.cell (World.cell?_alloc_at _ _ _ _ rfl) ?_
          rintro (e | e)
          · have := HI.out.lt; simp only at e; omega
          · have := HI.out.own_lt e; simp only at this; omega
        have d1 : w1.cell? ⟨wr.heap.size, 1, none⟩ = some (.int .i64 (n : Nat)) := by
          refine hK2.cell (World.cell?_alloc_at _ _ _ _ rfl) ?_
          rintro (e | e)
          · have := HI.out.lt; simp only at e; omega
          · have := HI.out.own_lt e; simp only at this; omega
        have hr2 := row_of_foot (HI.out.alloc (.cells #[.int .u64 X, .int .i64 n] 56)) (Hrow.out.alloc _) hK2 (by decide) (by decide)
        have hws1 : w.heap.size ≤ w1.heap.size := by have := hK2.size; simp at this; omega
        have HI2 := Lib.hid hI2; have HK2 := Lib.hid hK2; have Hn2 := Lib.hid hn2; have Hr2 := Lib.hid hr2
        clear hI2 hK2 hn2 hr2
        go_wp2_with fail
        refine (refWrite_any w.heap.size _ acc X n _ Hr2.out hX hn64 (by omega) hws1).mono ?_
        rintro e w2 ⟨v3, rfl, hR⟩
        have HR := Lib.hid hR
        clear hR
        go_wp2
        have hW := Wrote.trans ((HKp.out.alloc _)) Hnew.out ⟨v2, HI2.out, HK2.out, Hn2.out⟩
        have hW2 := hW.beside Hr2.out HR.out.keeps (by decide) (by decide)
        exact ⟨⟨k + 1, v3, by omega, rfl, by go_num, by rw [Hacc.out]; exact HR.out.row, by rw [Hacc.out]; exact hW2⟩, by simp [intOf]; omega⟩
      · have hbf : bitsOfField (X, N) = [] := by
          unfold bitsOfField okN
          rw [if_neg (by simpa using hN)]
        rw [hbf, List.append_nil] at Hacc
        clear hbf
        have hbad : N < 0 ∨ 64 < N := by omega
        clear hN
        have hW : Wrote base p (.slice none 0 0) acc w (wr.alloc (.cells #[.int .u64 X, .int .i64 N] 56)) := ⟨v, HI.out.alloc _, HKp.out.alloc _, Hnew.out⟩
        have HW := Lib.hid hW
        clear hW
        go_wp2_with fail
        refine (wbits_bad p X N _ hbad).mono ?_
        rintro e w1 ⟨rfl, rfl⟩
        rcases hbad with hbad | hbad
        · go_wp2
          exact ⟨⟨k + 1, _, by omega, rfl, by go_num, by rw [Hacc.out]; exact Hrow.out.alloc _, by rw [Hacc.out]; exact HW.out⟩, by simp [intOf]; omega⟩
        · have hbad' : ¬ N < 0 := by omega
          go_wp2
          exact ⟨⟨k + 1, _, by omega, rfl, by go_num, by rw [Hacc.out]; exact Hrow.out.alloc _, by rw [Hacc.out]; exact HW.out⟩, by simp [intOf]; omega⟩
    · obtain rfl : k = fs.length := by omega
      rw [List.take_length] at hrow hI
      go_wp2
      go_ret2
      exact ⟨_, rfl, hrow, v, hI, hKp, hnew⟩
end Go.Proofs.Ytdniaingipoggaa
