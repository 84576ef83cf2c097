/-
  WALKS: tsblocklaw01.alive, BitioWrites.
-/
import Derived.Test.YtdniaingipoggaaWLaw01a
import Derived.Test.YtdniaingipoggaaWReader
import Derived.WalkKit
import Derived.WalkSpells
import Derived.WalkLawsBesides
import Derived.Lib.Hide
namespace Go.Proofs.Ytdniaingipoggaa
open Go.RowKit

theorem rowTo_holds {e : TypeId} {base : Nat} {v v' : Value} {w w' : World} {xs : List Value} (h : RowTo e base v w v' xs w') : Holds w' v' xs := holds_row h.row
theorem Keeps.ofNil {S : Nat → Prop} {a b : World} (h : Keeps S a b) (hS : ∀ k, k < a.heap.size → ¬ S k) : Keeps (fun _ => False) a b := h.mono (fun k hk hs => hS k hk hs)

/-- a literal of bytes -/
theorem holds_lit (w : World) (l : List Nat) : Holds (w.alloc (.cells (u8s l).toArray 5)) (.slice (some ⟨w.heap.size, 0, none⟩) l.length l.length) (u8s l) := by
  refine ⟨_, l.length, by rw [u8s_length], by rw [u8s_length]; exact Nat.le_refl _, .inr ⟨_, 0, rfl, fun j u hj => ?_⟩⟩
  rw [cell_of_row _ _ _ _ _ _ (heap_alloc_new w _), Nat.zero_add]
  simpa using hj
set_option maxRecDepth 100000 in
set_option maxHeartbeats 1000000 in
theorem alive01_any (w : World) : Calls Try.prog 21 #[] w fun e w' => e = .returned (.bool true) ∧ Keeps (fun _ => False) w w' := by
  go_enter Try.func21, Try.ntmps21
  go_wp2_with fail
  refine (newWriter_any w).mono ?_
  rintro e w1 ⟨rfl, hw1⟩
  have h1 := newWriter_is w w.heap.size (Nat.le_refl _)
  have k1 : Keeps (fun _ => False) w w1 := by rw [hw1]; exact (Keeps.refl _ _).alloc _
  rw [← hw1] at h1
  obtain ⟨B, hB⟩ : ∃ B, B = w.heap.size := ⟨_, rfl⟩
  rw [← hB] at h1 ⊢
  have HB := Lib.hid hB
  clear hB
  have H1 := Lib.hid h1; have K1 := Lib.hid k1
  clear h1 k1 hw1
  go_wp2_with fail
  refine (newReader_any w1.heap.size (.slice none 0 0) [] w1 (Holds.nil w1) (by decide) (by simp) (Nat.le_refl _)).mono ?_
  rintro e w2 ⟨q, v2, rfl, hq, _, _, k2⟩
  have H2 := Lib.hid (H1.out.keeps k2 (fun h => h) (fun _ _ h => h))
  have K2 := Lib.hid (K1.out.trans k2 (fun _ _ h => h))
  clear k2 hq
  go_wp2_with fail
  refine (wbits_any B B _ [] 5 3 _ H2.out (by decide) (by decide) (by decide) (by have := H2.out.lt; omega)).mono ?_
  rintro e w3 ⟨rfl, v3, h3, k3, n3⟩
  have H3 := Lib.hid h3; have K3 := Lib.hid k3; have N3 := Lib.hid n3
  clear h3 k3 n3
  go_wp2_with fail
  refine (wbits_any B B _ _ 1 2 _ H3.out (by decide) (by decide) (by decide) (by have := H3.out.lt; omega)).mono ?_
  rintro e w4 ⟨rfl, v4, h4, k4, n4⟩
  have H4 := Lib.hid h4; have K4 := Lib.hid k4; have N4 := Lib.hid n4
  clear h4 k4 n4
  go_wp2_with fail
  refine (wlen_any B B _ _ _ H4.out).mono ?_
  rintro e w5 ⟨rfl, rfl⟩
  have hpk : packed (([] ++ fieldBits 5 3) ++ fieldBits 1 2) = [168] := by decide
  go_wp2_with fail
  refine (wbytes_any B B _ _ _ H4.out (by decide)).mono ?_
  rintro e w6 ⟨v6, rfl, r6, k6⟩
  rw [hpk] at r6
  have hh := (holds_row r6).keeps ((Keeps.refl (fun _ => False) w6).alloc (.cells #[.int .u8 168] 5)) (fun _ _ h => h)
  have hl := holds_lit w6 [168]
  have K6 := Lib.hid k6
  have HH := Lib.hid hh; have HL := Lib.hid hl
  clear k6 r6 hpk hh hl
  go_wp2_with fail
  refine (bytesEqual_any _ _ [168] [168] _ HH.out HL.out (by decide) (by decide)).mono ?_
  rintro e w7 ⟨rfl, rfl⟩
  go_wp2
  go_ret
  refine ⟨rfl, ?_⟩
  have hB := HB.out
  have c1 : Keeps (fun _ => False) w w3 := K2.out.trans K3.out (fun k hk e => by
    rcases e with e | e
    · omega
    · simp [Value.ownBlock] at e)
  have c2 : Keeps (fun _ => False) w w4 := c1.trans K4.out (fun k hk e => by
    rcases e with e | e
    · omega
    · rcases N3.out k e with h | h
      · simp [Value.ownBlock] at h
      · have := K2.out.size; omega)
  exact (c2.trans K6.out (fun _ _ h => h)).alloc _

theorem foot_nil {B k : Nat} {w : World} (hB : w.heap.size ≤ B) (hk : k < w.heap.size) (h : foot B (.slice none 0 0) k) : False := by
  rcases h with e | e
  · omega
  · simp [Value.ownBlock] at e
theorem HoldsF.keeps {w w' : World} {base : Nat} {v : Value} {fs : List (Nat × Int)} (h : HoldsF w base v fs) (k : Keeps (fun _ => False) w w') : HoldsF w' base v fs := by
  obtain ⟨a, cap, rfl, h⟩ := h
  refine ⟨a, cap, rfl, ?_⟩
  rcases h with h | ⟨b, off, rfl, hb, h⟩
  · exact .inl h
  · exact .inr ⟨b, off, rfl, hb, fun i X N hi => ⟨k.cell (h i X N hi).1 (fun h => h), k.cell (h i X N hi).2 (fun h => h)⟩⟩

set_option maxRecDepth 100000 in
set_option maxHeartbeats 1000000 in
theorem bitioWrites_any (vl : Value) (fs : List (Nat × Int)) (w : World) (hf : HoldsF w w.heap.size vl fs) (hfs : ∀ f ∈ fs, f.1 ≤ 18446744073709551615) :
    Calls Try.prog 3 #[vl] w fun e w' => e = .returned (.bool true) ∧ Keeps (fun _ => False) w w' := by
  have hf0 := hf
  obtain ⟨ad, cap, rfl, _⟩ := hf
  by_cases hl : fs.length ≤ 300
  · have hl' : ¬ 300 < (fs.length : Int) := by omega
    go_enter Try.func3, Try.ntmps3
    go_wp2_with fail
    refine (newWriter_any w).mono ?_
    rintro e w1 ⟨rfl, hw1⟩
    have h1 := newWriter_is w w.heap.size (Nat.le_refl _)
    have k1 : Keeps (fun _ => False) w w1 := by rw [hw1]; exact (Keeps.refl _ _).alloc _
    rw [← hw1] at h1
    have hf1 := hf0.keeps k1
    obtain ⟨B, hB⟩ : ∃ B, B = w.heap.size := ⟨_, rfl⟩
    rw [← hB] at h1 hf1 ⊢
    have HB := Lib.hid hB; have H1 := Lib.hid h1; have K1 := Lib.hid k1; have HF1 := Lib.hid hf1
    clear hB h1 k1 hw1 hf1 hf0
    go_wp2_with fail
    refine (lawWrite_any B B _ fs w1 H1.out HF1.out hfs hl (by have := H1.out.lt; omega)).mono ?_
    rintro e w2 ⟨vb, rfl, hrow, v2, h2, k2, n2⟩
    obtain ⟨adb, capb, rfl⟩ := row_slice hrow
    have hL := bitsOfFields_le fs
    generalize bitsOfFields fs = L at *
    rw [bools_length] at hrow
    have hbl := bools_length L
    rw [hbl]
    have HR := Lib.hid hrow; have H2 := Lib.hid h2; have K2 := Lib.hid k2; have N2 := Lib.hid n2
    clear hrow h2 k2 n2 hbl hfs
    go_wp2_with fail
    refine (alive01_any w2).mono ?_
    rintro e w3 ⟨rfl, k3⟩
    have H3 := Lib.hid (H2.out.keeps k3 (fun h => h) (fun _ _ h => h))
    have HR3 := Lib.hid (k3.row HR.out (fun _ _ h => h))
    have K3 := Lib.hid k3
    clear k3
    go_wp2_with fail
    refine (wlen_any B B _ _ _ H3.out).mono ?_
    rintro e w4 ⟨rfl, rfl⟩
    go_wp2_with fail
    refine (wbytes_any B B _ _ _ H3.out (by omega)).mono ?_
    rintro e w5 ⟨v5, rfl, r5, k5⟩
    have HR5 := Lib.hid (k5.row HR3.out (fun _ _ h => h))
    have R5 := Lib.hid r5; have K5 := Lib.hid k5
    clear r5 k5
    go_wp2_with fail
    refine (refPack_any _ L w5 (holds_row HR5.out) (by omega)).mono ?_
    rintro e w6 ⟨v6, rfl, hP⟩
    have K6 : Hid (Keeps (fun _ => False) w5 w6) := Lib.hid (hP.keeps.mono (fun k hk e => by simp [own, Value.ownBlock] at e))
    have HH5 := Lib.hid ((holds_row R5.out).keeps K6.out (fun _ _ h => h))
    have HH6 := Lib.hid (rowTo_holds hP)
    clear hP
    go_wp2_with fail
    refine (bytesEqual_any _ _ (packed L) (packed L) _ HH5.out HH6.out (packed_lt L) (packed_lt L)).mono ?_
    rintro e w7 ⟨rfl, rfl⟩
    go_wp2
    go_ret
    refine ⟨by simp, ?_⟩
    have c2 : Keeps (fun _ => False) w w2 := K1.out.trans K2.out (fun k hk e => foot_nil (by rw [HB.out]; exact Nat.le_refl _) hk e)
    exact ((c2.trans K3.out (fun _ _ h => h)).trans K5.out (fun _ _ h => h)).trans K6.out (fun _ _ h => h)
  · have hl' : 300 < (fs.length : Int) := by omega
    go_enter Try.func3, Try.ntmps3
    go_wp2_with fail
    refine (alive01_any w).mono ?_
    rintro e w1 ⟨rfl, k1⟩
    go_wp2
    go_ret
    exact ⟨rfl, k1⟩
end Go.Proofs.Ytdniaingipoggaa
