/-
  WALKS: tsblocklaw01.BitioSplits: two Writers beside each other.
-/
import Derived.Test.YtdniaingipoggaaWLaw01b
import Derived.WalkKit
import Derived.WalkSpells
import Derived.WalkLawsBesides
import Derived.Lib.Hide
namespace Go.Proofs.Ytdniaingipoggaa
open Go.RowKit

theorem fieldBits_split (x m i : Nat) (h : i ≤ m) : fieldBits (x / 2 ^ i) (m - i) ++ fieldBits x i = fieldBits x m := by
  apply List.ext_getElem?
  intro j
  by_cases h1 : j < m - i
  · rw [List.getElem?_append_left (by rw [fieldBits_length]; exact h1)]
    simp only [fieldBits, List.getElem?_map, List.getElem?_range h1, List.getElem?_range (show j < m by omega), Option.map_some, Option.some.injEq]
    rw [Nat.testBit_div_two_pow]
    congr 1; omega
  · rw [List.getElem?_append_right (by rw [fieldBits_length]; omega), fieldBits_length]
    by_cases h2 : j < m
    · simp only [fieldBits, List.getElem?_map, List.getElem?_range (show j - (m - i) < i by omega), List.getElem?_range h2, Option.map_some, Option.some.injEq]
      congr 1; omega
    · rw [List.getElem?_eq_none (by rw [fieldBits_length]; omega), List.getElem?_eq_none (by rw [fieldBits_length]; omega)]

/-- two writers of the call's own that share nothing -/
def TwoW (w : World) (a : Nat) (la : List Bool) (b : Nat) (lb : List Bool) (wr : World) : Prop :=
  ∃ va vb, IsW wr w.heap.size a va la ∧ IsW wr w.heap.size b vb lb ∧ a ≠ b ∧ (∀ g, va.ownBlock = some g → vb.ownBlock ≠ some g) ∧ Keeps (fun _ => False) w wr
theorem TwoW.symm {w wr : World} {a b : Nat} {la lb : List Bool} (h : TwoW w a la b lb wr) : TwoW w b lb a la wr := by
  obtain ⟨va, vb, h1, h2, h3, h4, h5⟩ := h
  exact ⟨vb, va, h2, h1, Ne.symm h3, fun g hg e => h4 g e hg, h5⟩
theorem TwoW.keeps {w wr w2 : World} {a b : Nat} {la lb : List Bool} (h : TwoW w a la b lb wr) (k : Keeps (fun _ => False) wr w2) : TwoW w a la b lb w2 := by
  obtain ⟨va, vb, h1, h2, h3, h4, h5⟩ := h
  exact ⟨va, vb, h1.keeps k (fun h => h) (fun _ _ h => h), h2.keeps k (fun h => h) (fun _ _ h => h), h3, h4, h5.trans k (fun _ _ h => h)⟩
theorem TwoW.wrote {w wr w2 : World} {a b : Nat} {va vb : Value} {la lb la' : List Bool} (h1 : IsW wr w.heap.size a va la) (h2 : IsW wr w.heap.size b vb lb) (h3 : a ≠ b) (h4 : ∀ g, va.ownBlock = some g → vb.ownBlock ≠ some g) (h5 : Keeps (fun _ => False) w wr)
    (h : Wrote w.heap.size a va la' wr w2) : TwoW w a la' b lb w2 := by
  obtain ⟨v', i1, k1, n1⟩ := h
  refine ⟨v', vb, i1, h2.keeps k1 ?_ ?_, h3, fun g hg e => ?_, h5.trans k1 (fun k hk e => ?_)⟩
  · rintro (e | e)
    · exact h3 e.symm
    · obtain ⟨c, hc⟩ := row_type h1.row e
      exact ne_of_types hc h2.blk (by decide) rfl
  · rintro g hg (e | e)
    · subst e
      obtain ⟨c, hc⟩ := row_type h2.row hg
      exact ne_of_types hc h1.blk (by decide) rfl
    · exact h4 g e hg
  · rcases n1 g hg with h' | h'
    · exact h4 g h' e
    · have := h2.own_lt e; omega
  · rcases e with e | e
    · have := h1.base; omega
    · have := (h1.row.lt k e).1; omega
theorem wbits_two (w : World) (a b : Nat) (la lb : List Bool) (X N : Nat) (wr : World) (h : TwoW w a la b lb wr) (hX : X ≤ 18446744073709551615) (hN : N ≤ 64) (hl : la.length ≤ 1099511627776) :
    Calls Try.prog 28 #[.pointer (some ⟨a, 0, none⟩), .int .u64 X, .int .i64 N] wr fun e w' => e = .returned (.int .i64 0) ∧ TwoW w a (la ++ fieldBits X N) b lb w' := by
  obtain ⟨va, vb, h1, h2, h3, h4, h5⟩ := h
  refine (wbits_any w.heap.size a va la X N wr h1 hX hN hl h5.size).mono ?_
  rintro e w' ⟨rfl, hW⟩
  exact ⟨rfl, TwoW.wrote h1 h2 h3 h4 h5 hW⟩
theorem twoW_new (w : World) : TwoW w w.heap.size [] (w.heap.size + 1) [] ((w.alloc (.cells #[.slice none 0 0, .int .i64 0] 102)).alloc (.cells #[.slice none 0 0, .int .i64 0] 102)) := by
  refine ⟨.slice none 0 0, .slice none 0 0, (newWriter_is w _ (Nat.le_refl _)).alloc _, ?_, by omega, fun g hg => by simp [Value.ownBlock] at hg, ((Keeps.refl _ _).alloc _).alloc _⟩
  have := newWriter_is (w.alloc (.cells #[.slice none 0 0, .int .i64 0] 102)) w.heap.size (by simp)
  simpa using this

set_option maxRecDepth 100000 in
set_option maxHeartbeats 2000000 in
theorem bitioSplits_any (f X n k : Nat) (w : World) (hf : f ≤ 255) (hX : X ≤ 18446744073709551615) (hn : n ≤ 255) (hk : k ≤ 255) :
    Calls Try.prog 4 #[.int .u8 f, .int .u64 X, .agg #[.int .u8 n, .int .u8 k]] w fun e w' => e = .returned (.bool true) ∧ Keeps (fun _ => False) w w' := by
  obtain ⟨m, hm⟩ : ∃ m, m = n % 65 := ⟨_, rfl⟩
  obtain ⟨i, hi⟩ : ∃ i, i = k % (m + 1) := ⟨_, rfl⟩
  obtain ⟨f', hf'⟩ : ∃ f', f' = f % 65 := ⟨_, rfl⟩
  have him : i ≤ m := by have := Nat.mod_lt k (show 0 < m + 1 by omega); omega
  have hm1 : (n : Int) % 65 = m := by omega
  have hi1 : (k : Int) % ((m : Int) + 1) = i := by rw [hi]; simp
  have hf1 : (f : Int) % 65 = f' := by omega
  have hf64 : f' ≤ 64 := by omega
  have hm64 : m ≤ 64 := by omega
  have hw1 : (m : Int) - i = ((m - i : Nat) : Int) := by omega
  have hsp := fieldBits_split X m i him
  obtain ⟨d, hd⟩ : ∃ d, d = m - i := ⟨_, rfl⟩
  rw [← hd] at hw1 hsp
  obtain ⟨Y, hY⟩ : ∃ Y, Y = X / 2 ^ i := ⟨_, rfl⟩
  rw [← hY] at hsp
  have hY1 : (X : Int) / 2 ^ i = Y := by rw [hY]; simp
  have hY2 : Y ≤ 18446744073709551615 := by rw [hY]; exact Nat.le_trans (Nat.div_le_self _ _) hX
  have hd64 : d ≤ 64 := by omega
  have hi64 : i ≤ 64 := by omega
  have hl0 : (fieldBits 0 f').length ≤ 64 := by rw [fieldBits_length]; exact hf64
  have hl1 : (fieldBits Y d).length ≤ 64 := by rw [fieldBits_length]; exact hd64
  have hl2 : (fieldBits X m).length ≤ 64 := by rw [fieldBits_length]; exact hm64
  have HSP := Lib.hid hsp
  clear hm hi hf' hd hY hsp
  go_enter Try.func4, Try.ntmps4
  go_wp2_with fail
  refine (newWriter_any _).mono ?_
  rintro e w1 ⟨rfl, rfl⟩
  go_wp2_with fail
  refine (newWriter_any _).mono ?_
  rintro e w2 ⟨rfl, hw2⟩
  have t2 := twoW_new (w.alloc (.cells #[.int .u8 n, .int .u8 k] 36))
  rw [← hw2] at t2
  have hsz : (w.alloc (.cells #[.int .u8 n, .int .u8 k] 36)).heap.size = w.heap.size + 1 := by simp
  have T2 := Lib.hid t2
  clear t2 hw2
  rw [hsz] at T2
  obtain ⟨w0, hw0⟩ : ∃ w0, w0 = w.alloc (.cells #[.int .u8 n, .int .u8 k] 36) := ⟨_, rfl⟩
  rw [← hw0] at T2
  have HW0 := Lib.hid hw0
  clear hw0 hsz
  go_wp2_with fail
  refine (wbits_two w0 _ _ _ _ 0 f' w2 T2.out (by omega) hf64 (by simp)).mono ?_
  rintro e w3 ⟨rfl, t3⟩
  have T3 := Lib.hid t3.symm
  clear t3
  go_wp2_with fail
  refine (wbits_two w0 _ _ _ _ 0 f' w3 T3.out (by omega) hf64 (by simp)).mono ?_
  rintro e w4 ⟨rfl, t4⟩
  have T4 := Lib.hid t4.symm
  clear t4
  go_wp2_with fail
  refine (wbits_two w0 _ _ _ _ X m w4 T4.out hX hm64 (by simp; omega)).mono ?_
  rintro e w5 ⟨rfl, t5⟩
  have T5 := Lib.hid t5.symm
  clear t5
  go_wp2_with fail
  refine (wbits_two w0 _ _ _ _ Y d w5 T5.out hY2 hd64 (by simp; omega)).mono ?_
  rintro e w6 ⟨rfl, t6⟩
  have T6 := Lib.hid t6
  clear t6
  go_wp2_with fail
  refine (wbits_two w0 _ _ _ _ X i w6 T6.out hX hi64 (by simp; omega)).mono ?_
  rintro e w7 ⟨rfl, t7⟩
  rw [List.append_assoc, HSP.out] at t7
  have T7 := Lib.hid t7
  clear t7
  go_wp2_with fail
  refine (alive01_any w7).mono ?_
  rintro e w8 ⟨rfl, k8⟩
  have T8 := Lib.hid (T7.out.keeps k8)
  clear k8
  have hLl : ([] ++ fieldBits 0 f' ++ fieldBits X m).length ≤ 128 := by simp; omega
  generalize [] ++ fieldBits 0 f' ++ fieldBits X m = L at *
  obtain ⟨va, vb, i1, i2, i3, i4, i5⟩ := T8.out.symm
  have I1 := Lib.hid i1; have I2 := Lib.hid i2; have I5 := Lib.hid i5
  clear i1 i2 i3 i4 i5
  go_wp2_with fail
  refine (wlen_any _ _ _ _ _ I1.out).mono ?_
  rintro e w9 ⟨rfl, rfl⟩
  go_wp2_with fail
  refine (wlen_any _ _ _ _ _ I2.out).mono ?_
  rintro e w9 ⟨rfl, rfl⟩
  go_wp2_with fail
  refine (wbytes_any _ _ _ _ _ I1.out (by omega)).mono ?_
  rintro e w9 ⟨v9, rfl, r9, k9⟩
  have I9 := Lib.hid (I2.out.keeps k9 (fun h => h) (fun _ _ h => h))
  have R9 := Lib.hid r9; have K9 := Lib.hid k9
  clear r9 k9
  go_wp2_with fail
  refine (wbytes_any _ _ _ _ _ I9.out (by omega)).mono ?_
  rintro e w10 ⟨v10, rfl, r10, k10⟩
  have H9 := Lib.hid (holds_row (k10.row R9.out (fun _ _ h => h)))
  have H10 := Lib.hid (holds_row r10); have K10 := Lib.hid k10
  clear r10 k10
  go_wp2_with fail
  refine (bytesEqual_any _ _ (packed L) (packed L) _ H9.out H10.out (packed_lt L) (packed_lt L)).mono ?_
  rintro e w11 ⟨rfl, rfl⟩
  go_wp2
  go_ret
  refine ⟨by simp, ?_⟩
  have c0 : Keeps (fun _ => False) w w0 := by rw [HW0.out]; exact (Keeps.refl _ _).alloc _
  exact ((c0.trans I5.out (fun _ _ h => h)).trans K9.out (fun _ _ h => h)).trans K10.out (fun _ _ h => h)
end Go.Proofs.Ytdniaingipoggaa
