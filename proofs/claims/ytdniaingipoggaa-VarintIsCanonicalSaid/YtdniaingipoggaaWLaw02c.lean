/-
  WALKS: VarintDecodes, VarintEncodes.
-/
import Derived.Test.YtdniaingipoggaaWLaw02a
import Derived.Test.YtdniaingipoggaaPVar2
import Derived.Test.YtdniaingipoggaaPApp2
import Derived.WalkKit
import Derived.WalkSpells
import Derived.WalkLawsBesides
import Derived.Lib.Hide
namespace Go.Proofs.Ytdniaingipoggaa
open Go.RowKit

theorem u8s_append (l l' : List Nat) : u8s (l ++ l') = u8s l ++ u8s l' := by simp [u8s]
set_option maxRecDepth 100000 in
set_option maxHeartbeats 1000000 in
theorem varintDecodes_any (v : Value) (l : List Nat) (j : Int) (w : World) (h : Holds w v (u8s l)) (hb : ∀ c ∈ l, c < 256) :
    Calls Try.prog 11 #[v, .int .i64 j] w fun e w' => e = .returned (.bool true) ∧ Keeps (fun _ => False) w w' := by
  have HH := Lib.hid h; have HB := Lib.hid hb
  obtain ⟨ad, cap, rfl, hc, hcells⟩ := h
  rw [u8s_length] at hc ⊢ HH
  clear hcells hb
  by_cases hl : l.length ≤ 5000
  · by_cases hj : 0 ≤ j ∧ j ≤ (l.length : Int)
    · obtain ⟨k, rfl⟩ : ∃ k : Nat, j = k := ⟨j.toNat, by omega⟩
      obtain ⟨N, q, er, k1, k2, k3⟩ : ∃ (N : Nat) (q er : Int), vres k (vgo 0 0 (l.drop k)) = .returned (.tuple #[.int .u64 (N : Nat), .int .i64 q, .int .i64 er]) ∧
          vresS k (vgo 0 0 (l.drop k)) = .returned (.tuple #[.int .i64 (unfoldI N), .int .i64 q, .int .i64 er]) ∧ N ≤ 18446744073709551615 := ⟨_, _, _, rfl, rfl, vgo_le _ 0 0 (by omega) (by omega)⟩
      have E1 := Lib.hid k1; have E2 := Lib.hid k2
      clear k1 k2
      go_enter Try.func11, Try.ntmps11
      go_wp2_with fail
      refine (vget_any _ l k w HH.out HB.out (by omega) (by omega)).mono ?_
      rw [E1.out]
      rintro e w1 ⟨rfl, rfl⟩
      go_wp2_with fail
      refine (rget_any _ l k w HH.out HB.out (by omega) (by omega)).mono ?_
      rw [E1.out]
      rintro e w1 ⟨rfl, rfl⟩
      go_wp2_with fail
      refine (getSigned_any _ l k w HH.out HB.out (by omega) (by omega)).mono ?_
      rw [E2.out]
      rintro e w1 ⟨rfl, rfl⟩
      go_wp2_with fail
      refine (alive02_any w).mono ?_
      rintro e w2 ⟨rfl, k2⟩
      have K2 := Lib.hid k2
      clear k2
      go_wp2_with fail
      refine (refUnfold_any N w2 k3).mono ?_
      rintro e w3 ⟨rfl, rfl⟩
      go_wp2
      go_ret
      exact ⟨by simp, K2.out⟩
    · have hj' : j < 0 ∨ (l.length : Int) < j := by omega
      have hz : unfoldI 0 = 0 := by decide
      have HZ := Lib.hid hz
      clear hz
      go_enter Try.func11, Try.ntmps11
      go_wp2_with fail
      refine (vget_bad _ l j w HH.out hj').mono ?_
      rintro e w1 ⟨rfl, rfl⟩
      go_wp2_with fail
      refine (rget_bad _ l j w HH.out hj').mono ?_
      rintro e w1 ⟨rfl, rfl⟩
      go_wp2_with fail
      refine (getSigned_bad _ l j w HH.out hj').mono ?_
      rintro e w1 ⟨rfl, rfl⟩
      go_wp2_with fail
      refine (alive02_any w).mono ?_
      rintro e w2 ⟨rfl, k2⟩
      have K2 := Lib.hid k2
      clear k2
      go_wp2_with fail
      refine (refUnfold_any 0 w2 (by decide)).mono ?_
      rw [HZ.out]
      rintro e w3 ⟨rfl, rfl⟩
      go_wp2
      go_ret
      exact ⟨by simp, K2.out⟩
  · have hl' : 5000 < (l.length : Int) := by omega
    go_enter Try.func11, Try.ntmps11
    go_wp2_with fail
    refine (alive02_any w).mono ?_
    rintro e w1 ⟨rfl, k1⟩
    go_wp2
    go_ret
    exact ⟨rfl, k1⟩

set_option maxRecDepth 100000 in
set_option maxHeartbeats 1000000 in
theorem varintEncodes_any (v : Value) (l : List Nat) (X : Nat) (w : World) (h : Holds w v (u8s l)) (hb : ∀ c ∈ l, c < 256) (hX : X ≤ 18446744073709551615) :
    Calls Try.prog 12 #[v, .int .u64 X] w fun e w' => e = .returned (.bool true) ∧ Keeps (fun _ => False) w w' := by
  obtain ⟨i0, hi, hz0, hz1, hz2⟩ := info_parts infoU8
  have HH := Lib.hid h
  obtain ⟨ad, cap, rfl, hc, hcells⟩ := h
  rw [u8s_length] at hc ⊢ HH
  clear hcells
  by_cases hl : l.length ≤ 5000
  · have hvl := venc_length_le X
    have hlt : ∀ c ∈ l ++ venc X, c < 256 := by
      intro c hc
      rcases List.mem_append.1 hc with h | h
      · exact hb c h
      · exact venc_lt X hX c h
    have HL := Lib.hid hlt
    clear hlt hb
    go_enter Try.func12, Try.ntmps12
    go_wp2_with fail
    refine (refEncode_any 9 X w (by omega) (by omega) hX).mono ?_
    rintro e w1 ⟨v1, rfl, h1, k1⟩
    have h1' : w1.ownsRow w.heap.size 5 1 v1 (venc X).length (u8s (venc X)) := h1
    obtain ⟨ad1, cap1, rfl⟩ := row_slice h1'
    have R1 := Lib.hid (holds_row h1'); have K1 := Lib.hid k1
    clear h1 h1' k1
    go_wp2_with fail
    refine (alive02_any w1).mono ?_
    rintro e w2 ⟨rfl, k2⟩
    have K2 := Lib.hid (K1.out.false_trans k2)
    have R2 := Lib.hid (R1.out.keeps k2 (fun _ _ h => h))
    clear k2
    go_wp2_with fail
    refine (bclone_any _ l w2 (HH.out.keeps K2.out (fun _ _ h => h)) (by omega)).mono ?_
    rintro e w3 ⟨v3, rfl, h3, k3⟩
    have HC3 := Lib.hid h3; have K3 := Lib.hid k3
    clear h3 k3
    go_wp2_with fail
    refine (append_any w2.heap.size v3 l X w3 HC3.out hX (by omega) K3.out.size).mono ?_
    rintro e w4 ⟨v4, rfl, h4⟩
    have K4 := Lib.hid (RowTo.onClone K3.out HC3.out h4)
    have R4 := Lib.hid (holds_row h4.row)
    have Q4 := Lib.hid (R2.out.keeps K4.out (fun _ _ h => h))
    have H4 := Lib.hid (HH.out.keeps (K2.out.false_trans K4.out) (fun _ _ h => h))
    clear h4
    go_wp2_with fail
    refine (bclone_any _ l w4 H4.out (by omega)).mono ?_
    rintro e w5 ⟨v5, rfl, h5, k5⟩
    have HC5 := Lib.hid h5; have K5 := Lib.hid k5
    have Q5 := Lib.hid (Q4.out.keeps k5 (fun _ _ h => h))
    clear h5 k5
    go_wp2_with (at_builtin; refine wpList_append_holds _ rfl _ _ 31 rfl w4.heap.size 5 i0 (.int .u8 0) 1 Try.underlying31 hi hz0 hz1 hz2 rfl _ _ (u8s l) (u8s (venc X)) rfl rfl HC5.out Q5.out (u8s_one _) (by rw [u8s_length, u8s_length]; unfold maxLen; omega) (by rw [u8s_length, u8s_length]; omega) K5.out.size ?_)
    intro v6 w6 h6
    have K6 := Lib.hid (RowTo.onClone K5.out HC5.out h6)
    have Q6 : Hid (Holds w6 v6 (u8s (l ++ venc X))) := Lib.hid (by rw [u8s_append]; exact holds_row h6.row)
    have P6 := Lib.hid (R4.out.keeps K6.out (fun _ _ h => h))
    clear h6
    go_wp2_with fail
    refine (bytesEqual_any _ _ (l ++ venc X) (l ++ venc X) w6 P6.out Q6.out HL.out HL.out).mono ?_
    rintro e w7 ⟨rfl, rfl⟩
    go_wp2_with fail
    refine (size_any X w6 hX).mono ?_
    rintro e w7 ⟨rfl, rfl⟩
    go_wp2
    go_ret
    exact ⟨by simp, (K2.out.false_trans K4.out).false_trans K6.out⟩
  · have hl' : 5000 < (l.length : Int) := by omega
    go_enter Try.func12, Try.ntmps12
    go_wp2_with fail
    refine (alive02_any w).mono ?_
    rintro e w1 ⟨rfl, k1⟩
    go_wp2
    go_ret
    exact ⟨rfl, k1⟩
end Go.Proofs.Ytdniaingipoggaa
