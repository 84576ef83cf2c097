/-
  WALKS: VarintEncodesSigned, VarintRoundTrip.
-/
import Derived.Test.YtdniaingipoggaaWLaw02c
import Derived.WalkKit
import Derived.WalkSpells
import Derived.WalkLawsBesides
import Derived.Lib.Hide
namespace Go.Proofs.Ytdniaingipoggaa
open Go.RowKit

theorem vgo_behind (l r : List Nat) (X : Nat) (hX : X ≤ 18446744073709551615) : vgo 0 0 ((l ++ (venc X ++ r)).drop l.length) = (X, (venc X).length, 0) := by
  rw [List.drop_left]; exact vgo_venc X hX r

set_option maxRecDepth 100000 in
set_option maxHeartbeats 1000000 in
theorem varintEncodesSigned_any (v : Value) (l : List Nat) (x : Int) (w : World) (h : Holds w v (u8s l)) (hb : ∀ c ∈ l, c < 256) (hx : -9223372036854775808 ≤ x ∧ x ≤ 9223372036854775807) :
    Calls Try.prog 14 #[v, .int .i64 x] w fun e w' => e = .returned (.bool true) ∧ Keeps (fun _ => False) w w' := by
  obtain ⟨i0, hi, hz0, hz1, hz2⟩ := info_parts infoU8
  have HH := Lib.hid h
  obtain ⟨ad, cap, rfl, hc, hcells⟩ := h
  rw [u8s_length] at hc ⊢ HH
  clear hcells
  by_cases hl : l.length ≤ 5000
  · have hX := foldN_le x hx.1 hx.2
    obtain ⟨X, hXe⟩ : ∃ X, X = foldN x := ⟨_, rfl⟩
    have hu : unfoldI X = x := by rw [hXe]; exact unfold_fold x
    have hvg : vresS l.length (vgo 0 0 ((l ++ venc X).drop l.length)) = .returned (.tuple #[.int .i64 x, .int .i64 ((l.length + (venc X).length : Nat) : Int), .int .i64 0]) := by
      have := vgo_behind l [] X (by rw [hXe]; exact hX)
      rw [List.append_nil] at this
      rw [this]
      simp only [vresS, hu, if_true]
      rfl
    have HU := Lib.hid hvg; have HXE := Lib.hid hXe
    rw [← hXe] at hX
    clear hvg hu hXe
    have hvl := venc_length_le X
    have hlt : ∀ c ∈ l ++ venc X, c < 256 := by
      intro c hc
      rcases List.mem_append.1 hc with h | h
      · exact hb c h
      · exact venc_lt X hX c h
    have HL := Lib.hid hlt
    clear hlt hb
    go_enter Try.func14, Try.ntmps14
    go_wp2_with fail
    refine (bclone_any _ l w HH.out (by omega)).mono ?_
    rintro e w3 ⟨v3, rfl, h3, k3⟩
    have HC3 := Lib.hid h3; have K3 := Lib.hid k3
    clear h3 k3
    go_wp2_with fail
    refine (appendSigned_any w.heap.size v3 l x w3 HC3.out hx.1 hx.2 (by omega) K3.out.size).mono ?_
    rw [← HXE.out]
    rintro e w4 ⟨v4, rfl, h4⟩
    have K4 := Lib.hid (RowTo.onClone K3.out HC3.out h4)
    have R4 := Lib.hid (holds_row h4.row)
    have H4 := Lib.hid (HH.out.keeps K4.out (fun _ _ h => h))
    obtain ⟨ad4, cap4, rfl⟩ := row_slice h4.row
    rw [u8s_length, List.length_append] at R4 ⊢
    clear h4
    go_wp2_with fail
    refine (bclone_any _ l w4 H4.out (by omega)).mono ?_
    rintro e w5 ⟨v5, rfl, h5, k5⟩
    have HC5 := Lib.hid h5; have K5 := Lib.hid k5
    clear h5 k5
    go_wp2_with fail
    refine (refFold_any x w5 hx.1 hx.2).mono ?_
    rw [← HXE.out]
    rintro e w6 ⟨rfl, rfl⟩
    go_wp2_with fail
    refine (refEncode_any 9 X w5 (by omega) (by omega) hX).mono ?_
    rintro e w6 ⟨v6, rfl, h6, k6⟩
    have h6' : w6.ownsRow w5.heap.size 5 1 v6 (venc X).length (u8s (venc X)) := h6
    obtain ⟨ad6, cap6, rfl⟩ := row_slice h6'
    have R6 := Lib.hid (holds_row h6'); have K6 := Lib.hid k6
    have HC6 := Lib.hid (k6.row HC5.out (fun _ _ h => h))
    have K56 := Lib.hid (K5.out.false_trans k6)
    clear h6 h6' k6
    go_wp2_with (at_builtin; refine wpList_append_holds _ rfl _ _ 31 rfl w4.heap.size 5 i0 (.int .u8 0) 1 Try.underlying31 hi hz0 hz1 hz2 rfl _ _ (u8s l) (u8s (venc X)) rfl rfl HC6.out R6.out (u8s_one _) (by rw [u8s_length, u8s_length]; unfold maxLen; omega) (by rw [u8s_length, u8s_length]; omega) K56.out.size ?_)
    intro v7 w7 h7
    have K7 := Lib.hid (RowTo.onClone K56.out HC6.out h7)
    have Q7 : Hid (Holds w7 v7 (u8s (l ++ venc X))) := Lib.hid (by rw [u8s_append]; exact holds_row h7.row)
    have P7 := Lib.hid (R4.out.keeps K7.out (fun _ _ h => h))
    clear h7
    go_wp2_with fail
    refine (bytesEqual_any _ _ (l ++ venc X) (l ++ venc X) w7 P7.out Q7.out HL.out HL.out).mono ?_
    rintro e w8 ⟨rfl, rfl⟩
    rw [decide_eq_true rfl]
    go_wp2_with fail
    refine (getSigned_any _ (l ++ venc X) l.length w7 P7.out HL.out (by simp) (by simp; omega)).mono ?_
    rw [HU.out]
    rintro e w8 ⟨rfl, rfl⟩
    go_wp2_with fail
    refine (alive02_any w7).mono ?_
    rintro e w8 ⟨rfl, k8⟩
    go_wp2
    go_ret
    exact ⟨by simp, (K4.out.false_trans K7.out).false_trans k8⟩
  · have hl' : 5000 < (l.length : Int) := by omega
    go_enter Try.func14, Try.ntmps14
    go_wp2_with fail
    refine (alive02_any w).mono ?_
    rintro e w1 ⟨rfl, k1⟩
    go_wp2
    go_ret
    exact ⟨rfl, k1⟩

set_option maxRecDepth 100000 in
set_option maxHeartbeats 1000000 in
theorem varintRoundTrip_any (v v' : Value) (l r : List Nat) (X : Nat) (w : World) (h : Holds w v (u8s l)) (hb : ∀ c ∈ l, c < 256) (hX : X ≤ 18446744073709551615) (h' : Holds w v' (u8s r)) (hb' : ∀ c ∈ r, c < 256)
    (hr0 : r.length ≤ 140737488355328) (hl0 : l.length ≤ 140737488355328) :
    Calls Try.prog 13 #[v, .int .u64 X, v'] w fun e w' => e = .returned (.bool true) ∧ Keeps (fun _ => False) w w' := by
  obtain ⟨i0, hi, hz0, hz1, hz2⟩ := info_parts infoU8
  have HH := Lib.hid h; have HR := Lib.hid h'
  obtain ⟨ad, cap, rfl, hc, hcells⟩ := h
  obtain ⟨ad', cap', rfl, hc', hcells'⟩ := h'
  rw [u8s_length] at hc ⊢ HH
  rw [u8s_length] at hc' ⊢ HR
  clear hcells hcells'
  have e1 : IntKind.i64.wrap ((l.length : Int) + (r.length : Int)) = ((l.length + r.length : Nat) : Int) := by rw [IntWalk.i64_in] <;> omega
  by_cases hl : l.length + r.length ≤ 5000
  · have hvg : vres l.length (vgo 0 0 ((l ++ (venc X ++ r)).drop l.length)) = .returned (.tuple #[.int .u64 (X : Nat), .int .i64 ((l.length + (venc X).length : Nat) : Int), .int .i64 0]) := by
      rw [vgo_behind l r X hX]
      simp only [vres, if_true]
      rfl
    have HU := Lib.hid hvg
    clear hvg
    have hvl := venc_length_le X
    have hlt : ∀ c ∈ l ++ (venc X ++ r), c < 256 := by
      intro c hc
      rcases List.mem_append.1 hc with h | h
      · exact hb c h
      · rcases List.mem_append.1 h with h | h
        · exact venc_lt X hX c h
        · exact hb' c h
    have HL := Lib.hid hlt
    clear hlt hb hb'
    go_enter Try.func13, Try.ntmps13
    go_wp2_with fail
    refine (bclone_any _ l w HH.out (by omega)).mono ?_
    rintro e w3 ⟨v3, rfl, h3, k3⟩
    have HC3 := Lib.hid h3; have K3 := Lib.hid k3
    clear h3 k3
    go_wp2_with fail
    refine (append_any w.heap.size v3 l X w3 HC3.out hX (by omega) K3.out.size).mono ?_
    rintro e w4 ⟨v4, rfl, h4⟩
    have K4 := Lib.hid (RowTo.onClone K3.out HC3.out h4)
    have R4 := Lib.hid h4.row
    have H4 := Lib.hid (HR.out.keeps K4.out (fun _ _ h => h))
    obtain ⟨ad4, cap4, rfl⟩ := row_slice h4.row
    clear h4
    have hln : (u8s (l ++ venc X)).length = l.length + (venc X).length := by rw [u8s_length, List.length_append]
    rw [hln] at R4 ⊢
    have HLN := Lib.hid hln
    clear hln
    go_wp2_with (at_builtin; refine wpList_append_holds _ rfl _ _ 31 rfl w.heap.size 5 i0 (.int .u8 0) 1 Try.underlying31 hi hz0 hz1 hz2 rfl _ _ (u8s (l ++ venc X)) (u8s r) rfl rfl (by rw [HLN.out]; exact R4.out) H4.out (u8s_one _) (by rw [HLN.out, u8s_length]; unfold maxLen; omega) (by rw [HLN.out, u8s_length]; omega) K4.out.size ?_)
    intro v7 w7 h7
    have K7 := Lib.hid (RowTo.onClone K4.out R4.out h7)
    have Q7 : Hid (Holds w7 v7 (u8s (l ++ (venc X ++ r)))) := Lib.hid (by rw [← List.append_assoc, u8s_append]; exact holds_row h7.row)
    clear h7
    go_wp2_with fail
    refine (vget_any _ (l ++ (venc X ++ r)) l.length w7 Q7.out HL.out (by simp) (by simp; omega)).mono ?_
    rw [HU.out]
    rintro e w8 ⟨rfl, rfl⟩
    go_wp2_with fail
    refine (alive02_any w7).mono ?_
    rintro e w8 ⟨rfl, k8⟩
    go_wp2
    go_ret
    exact ⟨by simp, K7.out.false_trans k8⟩
  · have hl' : 5000 < ((l.length + r.length : Nat) : Int) := by omega
    go_enter Try.func13, Try.ntmps13
    go_wp2_with fail
    refine (alive02_any w).mono ?_
    rintro e w1 ⟨rfl, k1⟩
    go_wp2
    go_ret
    exact ⟨rfl, k1⟩
end Go.Proofs.Ytdniaingipoggaa
