/-
  WALKS: EscapeNumbers, EscapeWrites.
-/
import Derived.Test.YtgleiicielmnmaaDoorWLaw22a
import Derived.Test.YtgleiicielmnmaaDoorWEscI
import Derived.Test.YtgleiicielmnmaaDoorWEscJ
import Derived.Test.YtgleiicielmnmaaDoorWEscK
import Derived.Test.YtgleiicielmnmaaDoorWEscL
namespace Go.Proofs.YtgleiicielmnmaaDoor
open Go.RowKit
attribute [local go_sem ↓] Go.wp_at_zero Go.wp_at_succ

theorem TabsN.tabD {w : World} (h : TabsN w) : TabD w := h.a.tabD
theorem int_same (t : ByteArray) (a : Int) (hs : t.size ≤ 3000) : ∃ (x n e : Int),
    (∀ w, TabsN w → Calls Tryd.prog 15 #[.string t, .int .i64 a] w fun r w' => r = .returned (.tuple #[.int .i64 x, .int .i64 n, .int .i64 e]) ∧ Below w.heap.size w w') ∧
    (∀ w, Calls Tryd.prog 16 #[.string t, .int .i64 a] w fun r w' => r = .returned (.tuple #[.int .i64 x, .int .i64 n, .int .i64 e]) ∧ w = w') := by
  by_cases h : a < 0 ∨ (t.size : Int) < a
  · exact ⟨_, _, _, fun w _ => int_bad t a w h, fun w => refInt_bad t a w h⟩
  · obtain ⟨k, rfl⟩ : ∃ k : Nat, a = k := ⟨a.toNat, by omega⟩
    have h1 := fun w hT => int_any t k w (by omega) (by omega) hT
    have h2 := fun w => refInt_any t k w (by omega) (by omega)
    cases hS : intV t k with
    | none => rw [hS] at h1 h2; exact ⟨_, _, _, h1, h2⟩
    | some p => rw [hS] at h1 h2; exact ⟨_, _, _, h1, h2⟩
theorem word_same (t : ByteArray) (a : Int) (hs : t.size ≤ 3000) : ∃ (x n e : Int),
    (∀ w, TabD w → Calls Tryd.prog 17 #[.string t, .int .i64 a] w fun r w' => r = .returned (.tuple #[.int .u64 x, .int .i64 n, .int .i64 e]) ∧ Below w.heap.size w w') ∧
    (∀ w, Calls Tryd.prog 18 #[.string t, .int .i64 a] w fun r w' => r = .returned (.tuple #[.int .u64 x, .int .i64 n, .int .i64 e]) ∧ w = w') := by
  by_cases h : a < 0 ∨ (t.size : Int) < a
  · exact ⟨_, _, _, fun w _ => word_bad t a w h, fun w => refWord_bad t a w h⟩
  · obtain ⟨k, rfl⟩ : ∃ k : Nat, a = k := ⟨a.toNat, by omega⟩
    have h1 := fun w hT => word_any t k w (by omega) (by omega) hT
    have h2 := fun w => refWord_any t k w (by omega) (by omega)
    cases hS : wordV t k with
    | none => rw [hS] at h1 h2; exact ⟨_, _, _, h1, h2⟩
    | some p => rw [hS] at h1 h2; exact ⟨_, _, _, h1, h2⟩
set_option maxHeartbeats 1000000 in
set_option maxRecDepth 100000 in
theorem escapeNumbers_any (t : ByteArray) (a : Int) (w : World) (hT : TabsN w) :
    Calls Tryd.prog 7 #[.string t, .int .i64 a] w fun e w' => e = .returned (.bool true) ∧ Below w.heap.size w w' := by
  have HT := Lib.hid hT
  clear hT
  by_cases hs : t.size ≤ 3000
  · obtain ⟨x, n, e, h1, h2⟩ := int_same t a hs
    obtain ⟨x2, n2, e2, h3, h4⟩ := word_same t a hs
    have H1 := Lib.hid h1; have H2 := Lib.hid h2; have H3 := Lib.hid h3; have H4 := Lib.hid h4
    clear h1 h2 h3 h4
    go_enter Tryd.func7, Tryd.ntmps7
    go_wp2_with (go_at_call 15; ((with_reducible refine (H1.out _ HT.out).mono ?_); rintro r w1 ⟨rfl, hb1⟩))
    have HT1 := Lib.hid (HT.out.below hb1)
    go_wp2_with (go_at_call 16; ((with_reducible refine (H2.out _).mono ?_); rintro r w2 ⟨rfl, rfl⟩))
    go_wp2_with (go_at_call 17; ((with_reducible refine (H3.out _ HT1.out.tabD).mono ?_); rintro r w3 ⟨rfl, hb3⟩))
    have HT3 := Lib.hid (HT1.out.below hb3)
    go_wp2_with (go_at_call 18; ((with_reducible refine (H4.out _).mono ?_); rintro r w4 ⟨rfl, rfl⟩))
    go_wp2_with (go_at_call 9; ((with_reducible refine (alive22_any _ HT3.out.a).mono ?_); rintro r w5 ⟨rfl, hb5⟩))
    go_ret
    have h13 := hb1.trans (hb3.mono hb1.size)
    exact ⟨by first | rfl | simp, h13.trans (hb5.mono h13.size)⟩
  · have hs' : 3000 < t.size := by omega
    clear hs
    go_enter Tryd.func7, Tryd.ntmps7
    go_wp2_with (go_at_call 9; ((with_reducible refine (alive22_any _ HT.out.a).mono ?_); rintro r w1 ⟨rfl, hb1⟩))
    go_ret
    exact ⟨rfl, hb1⟩
theorem word_writes (x : Nat) (hx : x < 18446744073709551616) (r : ByteArray) : wordV (strOf (hexTail x 16) ++ r) 0 = some (x, 16) := by
  have hl : (strOf (hexTail x 16) ++ r).data.toList = u8L (hexTail x 16) ++ r.data.toList := by simp [strOf, ByteArray.data_append]
  have hsz : 16 ≤ (strOf (hexTail x 16) ++ r).size := by
    rw [← list_len, hl, List.length_append, u8L_length, hexTail_length]; omega
  have hb : ∀ j, j < 16 → bAt (strOf (hexTail x 16) ++ r) (0 + j) = hexB (x / 16 ^ (15 - j) % 16) := by
    intro j hj
    have hc : (u8L (hexTail x 16) ++ r.data.toList)[j]? = some (UInt8.ofNat (hexB (x / 16 ^ (15 - j) % 16))) := by
      rw [List.getElem?_append_left (by rw [u8L_length, hexTail_length]; exact hj)]
      simp [u8L, hexTail, hj]
    rw [Nat.zero_add, bAt_list _ _ hl j _ hc]
    exact ofNat_toNat' _ (hexB_lt _ (Nat.mod_lt _ (by decide)))
  have hok : hexOk (strOf (hexTail x 16) ++ r) 0 = true := (hexOk_iff _ _).2 ⟨by omega, fun j hj => by
    rw [hb j hj, digitI_hexB _ (Nat.mod_lt _ (by decide))]
    omega⟩
  unfold wordV
  rw [if_pos hok, hexAcc_tail _ 0 x (by rw [show (16 : Nat) ^ 16 = 18446744073709551616 by decide]; exact hx) hb 16 (Nat.le_refl _)]
  simp
theorem int_writes (n : Int) (h0 : -9223372036854775808 ≤ n) (h1 : n ≤ 9223372036854775807) (r : ByteArray) :
    intV ((⟨(Lib.itoa n).toArray⟩ : ByteArray) ++ ({ data := #[32] } : ByteArray) ++ r) 0 = some (n, (⟨(Lib.itoa n).toArray⟩ : ByteArray).size) := by
  obtain ⟨neg, D, e, hd, hv⟩ := intS_dec n h0 h1
  rw [intV_dec _ neg D n r.data.toList hd hv (by simp [ByteArray.data_append, e])]
  have : (⟨(Lib.itoa n).toArray⟩ : ByteArray).size = (signed neg D).length := by
    rw [← list_len, e]
    simp [u8L]
  rw [this]
theorem itoa_size (n : Int) (h0 : -9223372036854775808 ≤ n) (h1 : n ≤ 9223372036854775807) : (⟨(Lib.itoa n).toArray⟩ : ByteArray).size ≤ 20 := by
  rw [← list_len]
  show (Lib.itoa n).length ≤ 20
  unfold Lib.itoa
  split
  · have := dec_len n.natAbs (by omega)
    rw [List.length_cons]; omega
  · have := dec_len n.toNat (by omega)
    omega
set_option maxHeartbeats 1000000 in
set_option maxRecDepth 100000 in
theorem escapeWrites_any (x : Nat) (n : Int) (r : ByteArray) (w : World) (hx : x < 18446744073709551616) (h0 : -9223372036854775808 ≤ n) (h1 : n ≤ 9223372036854775807) (hT : TabsN w) :
    Calls Tryd.prog 8 #[.int .u64 (x : Nat), .int .i64 n, .string r] w fun e w' => e = .returned (.bool true) ∧ Below w.heap.size w w' := by
  have HT := Lib.hid hT
  clear hT
  by_cases hs : r.size ≤ 3000
  · have H1 := Lib.hid (fun w hT => hex_any x w hx hT)
    have H2 := Lib.hid (fun w => refDec_any n w h0 h1)
    have H5 := Lib.hid (fun w => refHex_any x w hx)
    have hdl := itoa_size n h0 h1
    have hhl : (strOf (hexTail x 16)).size = 16 := by rw [strOf_size, hexTail_length]
    have hls : (strOf (hexTail x 16) ++ r).size ≤ 1099511627776 := by rw [ByteArray.size_append]; omega
    have hld : ((⟨(Lib.itoa n).toArray⟩ : ByteArray) ++ ({ data := #[32] } : ByteArray) ++ r).size ≤ 1099511627776 := by
      rw [ByteArray.size_append, ByteArray.size_append]
      have : ({ data := #[32] } : ByteArray).size = 1 := rfl
      omega
    have H3 : Hid (∀ w, TabD w → Calls Tryd.prog 17 #[.string (strOf (hexTail x 16) ++ r), .int .i64 0] w fun e w' => e = .returned (.tuple #[.int .u64 (x : Nat), .int .i64 16, .int .i64 0]) ∧ Below w.heap.size w w') := Lib.hid (fun w hT => by
      have h := word_any (strOf (hexTail x 16) ++ r) 0 w (by omega) hls hT
      rw [word_writes x hx r] at h
      exact h)
    have H4 : Hid (∀ w, TabsN w → Calls Tryd.prog 15 #[.string ((⟨(Lib.itoa n).toArray⟩ : ByteArray) ++ ({ data := #[32] } : ByteArray) ++ r), .int .i64 0] w fun e w' => e = .returned (.tuple #[.int .i64 n, .int .i64 ((⟨(Lib.itoa n).toArray⟩ : ByteArray).size : Nat), .int .i64 0]) ∧ Below w.heap.size w w') := Lib.hid (fun w hT => by
      have h := int_any ((⟨(Lib.itoa n).toArray⟩ : ByteArray) ++ ({ data := #[32] } : ByteArray) ++ r) 0 w (by omega) hld hT
      rw [int_writes n h0 h1 r] at h
      exact h)
    obtain ⟨d, hd⟩ : ∃ d : ByteArray, d = ⟨(Lib.itoa n).toArray⟩ := ⟨_, rfl⟩
    obtain ⟨h, hh⟩ : ∃ h, h = strOf (hexTail x 16) := ⟨_, rfl⟩
    rw [← hd] at H2 H4 hdl
    rw [← hh] at H1 H3 H5 hhl
    have hh16 : h.size ≤ 16 := by omega
    clear hd hh hls hld hx h0 h1 hhl
    go_enter Tryd.func8, Tryd.ntmps8
    go_wp2_with (go_at_call 19; ((with_reducible refine (H1.out _ HT.out.tabD).mono ?_); rintro e w1 ⟨rfl, hb1⟩))
    have HT1 := Lib.hid (HT.out.below hb1)
    go_wp2_with (go_at_call 20; ((with_reducible refine (H2.out _).mono ?_); rintro e w2 ⟨rfl, rfl⟩))
    go_wp2_with (go_at_call 17; ((with_reducible refine (H3.out _ HT1.out.tabD).mono ?_); rintro e w3 ⟨rfl, hb3⟩))
    have HT3 := Lib.hid (HT1.out.below hb3)
    go_wp2_with (go_at_call 15; ((with_reducible refine (H4.out _ HT3.out).mono ?_); rintro e w4 ⟨rfl, hb4⟩))
    have HT4 := Lib.hid (HT3.out.below hb4)
    go_wp2_with (first
      | (go_at_call 9; ((with_reducible refine (alive22_any _ HT4.out.a).mono ?_); rintro e w5 ⟨rfl, hb5⟩))
      | (go_at_call 21; ((with_reducible refine (H5.out _).mono ?_); rintro e w6 ⟨rfl, rfl⟩)))
    go_ret
    have h13 := hb1.trans (hb3.mono hb1.size)
    have h14 := h13.trans (hb4.mono h13.size)
    exact ⟨by first | rfl | simp, h14.trans (hb5.mono h14.size)⟩
  · have hs' : 3000 < r.size := by omega
    clear hs
    go_enter Tryd.func8, Tryd.ntmps8
    go_wp2_with (go_at_call 9; ((with_reducible refine (alive22_any _ HT.out.a).mono ?_); rintro r w1 ⟨rfl, hb1⟩))
    go_ret
    exact ⟨rfl, hb1⟩
end Go.Proofs.YtgleiicielmnmaaDoor
