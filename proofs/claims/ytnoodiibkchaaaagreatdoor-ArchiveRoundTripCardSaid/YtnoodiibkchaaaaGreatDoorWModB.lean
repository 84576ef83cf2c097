/-
  WALKS: the reference's times; counting samples; the limits (printed by gen_mod2.py).
-/
import Derived.Test.YtnoodiibkchaaaaGreatDoorWModA
namespace Go.Proofs.YtnoodiibkchaaaaGreatDoor
open Go.RowKit
attribute [local go_sem ↓] Go.wp_at_zero Go.wp_at_succ

theorem cell_new2 (w : World) (u v : Value) (t : TypeId) : (w.alloc (.cells #[u, v] t)).cell? ⟨w.heap.size, 0, none⟩ = some u ∧ (w.alloc (.cells #[u, v] t)).cell? ⟨w.heap.size, 1, none⟩ = some v := by
  constructor <;> (rw [cell_of_row _ _ _ _ _ _ (heap_alloc_new w _)]; rfl)
theorem ordI_ways (a b : Int) : (ordI a b = -1 ∧ a < b) ∨ (ordI a b = 0 ∧ a = b) ∨ (ordI a b = 1 ∧ b < a) := by
  unfold ordI
  rcases Int.lt_trichotomy a b with h | h | h
  · rw [if_pos h]; exact .inl ⟨rfl, h⟩
  · rw [if_neg (by omega), if_neg (by omega)]; exact .inr (.inl ⟨rfl, h⟩)
  · rw [if_neg (by omega), if_pos h]; exact .inr (.inr ⟨rfl, h⟩)
set_option maxHeartbeats 2000000 in
set_option maxRecDepth 100000 in
theorem times_any (v : Value) (l : List Smp) (w : World) (h : RdS w v l) (hl : l.length ≤ 1099511627776) :
    Calls Tryz.prog 50 #[v] w fun e w' => e = .returned (.int .i64 (ascE cmpT 20 l)) ∧ Below w.heap.size w w' := by
  have HH := Lib.hid h
  obtain ⟨ad, cap, rfl, hcap⟩ := Rd.slice h
  clear h
  go_enter Tryz.func50, Tryz.ntmps50
  go_wp2
  go_loopw [3] (fun i wr => ∃ j : Nat, (j + 1 ≤ l.length ∨ j = 0) ∧ i = .int .i64 ((j : Int) + 1) ∧ Hid (ascE cmpT 20 l = ascE cmpT 20 (l.drop j)) ∧ Below w.heap.size w wr) (fun i _ => l.length + 1 - (intOf i).toNat)
  case atStart => exact ⟨0, .inr rfl, rfl, Lib.hid rfl, Below.refl _ _⟩
  case round =>
    obtain ⟨j, hj, rfl, HE, hbr⟩ := hrel
    by_cases hjl : j + 1 < l.length
    · obtain ⟨⟨x1, x2⟩, hx⟩ := at_some (l := l) (k := j) (by omega)
      obtain ⟨⟨y1, y2⟩, hy⟩ := at_some hjl
      have hrd := HH.out.below hbr
      obtain ⟨b, off, rfl, c1, c2⟩ := RdS.at hrd hx
      obtain ⟨b', off', hbb, c3, c4⟩ := RdS.at hrd hy
      simp only [Option.some.injEq, Addr.mk.injEq, and_true] at hbb
      obtain ⟨rfl, rfl⟩ := hbb
      have HST : Hid (ascE cmpT 20 l = if ordI x1 y1 = 0 then 20 else if 0 < ordI x1 y1 then 16 else ascE cmpT 20 (l.drop (j + 1))) := Lib.hid (by rw [HE.out, asc_step cmpT 20 hx hy]; rfl)
      have HBR := Lib.hid hbr
      have hj0 : (0 : Int) ≤ (j : Int) := by omega
      have hj1 : (0 : Int) ≤ (j : Int) + 1 := by omega
      have hjl1 : (j : Int) < (l.length : Int) := by omega
      have hjl2 : (j : Int) + 1 < (l.length : Int) := by omega
      have hjw : IntKind.i64.wrap (j : Int) = (j : Int) := by rw [IntKind.wrap_i64]; omega
      clear hx hy hrd c2 c4 hjl HE hj hbr
      rcases ordI_ways x1 y1 with ⟨hD, hc⟩ | ⟨hD, hc⟩ | ⟨hD, hc⟩
      · have he : (y1 == x1) = false := by rw [beq_eq_false_iff_ne]; omega
        have hg : x1 ≤ y1 := by omega
        have HF : Hid (ascE cmpT 20 l = ascE cmpT 20 (l.drop (j + 1))) := Lib.hid (HST.out.trans (by rw [hD]; rfl))
        clear HST hD hc
        go_wp2_with fail
        go_quiet (fail)
        go_wp2
        go_quiet (fail)
        go_wp2
        exact ⟨⟨j + 1, .inl (by omega), rfl, HF, lbelow_drewN HBR.out _⟩, by simp [intOf]; omega⟩
      · have he : (y1 == x1) = true := by rw [beq_iff_eq]; omega
        have HF : Hid (ascE cmpT 20 l = 20) := Lib.hid (HST.out.trans (by rw [hD]; rfl))
        clear HST hD hc
        go_wp2_with fail
        go_quiet (fail)
        go_wp2
        go_ret
        exact ⟨ret_i64 HF.out.symm, by first | exact lbelow_drewN HBR.out _ | exact lbelow_drewN (lbelow_drewN HBR.out _) _⟩
      · have he : (y1 == x1) = false := by rw [beq_eq_false_iff_ne]; omega
        have HF : Hid (ascE cmpT 20 l = 16) := Lib.hid (HST.out.trans (by rw [hD]; rfl))
        clear HST hD
        go_wp2_with fail
        go_quiet (fail)
        go_wp2
        go_quiet (fail)
        go_wp2
        go_ret
        exact ⟨ret_i64 HF.out.symm, by first | exact lbelow_drewN HBR.out _ | exact lbelow_drewN (lbelow_drewN HBR.out _) _⟩
    · have HF : Hid (ascE cmpT 20 l = 0) := Lib.hid (by rw [HE.out]; exact asc_end cmpT 20 (by omega))
      have hjl2 : (l.length : Int) ≤ (j : Int) + 1 := by omega
      clear HE hj
      go_wp2
      go_ret
      exact ⟨ret_i64 HF.out.symm, hbr⟩
set_option maxHeartbeats 2000000 in
set_option maxRecDepth 100000 in
theorem samples_any (v : Value) (hs : List Hdr) (b : List Ser) (w : World) (h : RdB w v hs b) (hl : hs.length ≤ 1099511627776) (hN : samplesN b ≤ 1099511627776) :
    Calls Tryz.prog 80 #[v] w fun e w' => e = .returned (.int .i64 ((samplesN b : Nat) : Int)) ∧ Below w.heap.size w w' := by
  have HH := Lib.hid h
  have HLN := Lib.hid h.1
  have HN := Lib.hid hN
  obtain ⟨ad, cap, rfl, hcap⟩ := Rd.slice h.2.1
  clear h hN
  go_enter Tryz.func80, Tryz.ntmps80
  go_wp2
  go_loopw [3, 8] (fun n i wr => ∃ k : Nat, k ≤ hs.length ∧ n = .int .i64 ((samplesN (b.take k) : Nat) : Int) ∧ i = .int .i64 (k : Nat) ∧ Below w.heap.size w wr) (fun _ i _ => hs.length - (intOf i).toNat)
  case atStart => exact ⟨0, by omega, by simp [samplesN], rfl, Below.refl _ _⟩
  case round =>
    obtain ⟨k, hk, rfl, rfl, hbr⟩ := hrel
    by_cases hkl : k < hs.length
    · obtain ⟨x, hx⟩ := at_some hkl
      obtain ⟨p, hp⟩ := at_some (l := b) (k := k) (by have := HLN.out; omega)
      have hrd := HH.out.below hbr
      have s1 := hrd.2.2 _ _ _ hx hp
      obtain ⟨bb, off, rfl, c1, c2⟩ := RdH.at hrd.2.1 hx
      obtain ⟨e1, e2⟩ := s1.lens
      obtain ⟨xa, xn, xc, xsa, xsn, xsc⟩ := x
      simp only at e1 e2
      subst e1 e2
      have hkl' : (k : Int) < (hs.length : Int) := by omega
      have hk0 : (0 : Int) ≤ (k : Int) := by omega
      have hst := samplesN_take b k p hp
      have hle := samplesN_le b (k + 1)
      have hN := HN.out
      obtain ⟨N, hNN⟩ : ∃ N, N = samplesN (b.take k) := ⟨_, rfl⟩
      obtain ⟨M, hM⟩ : ∃ M, M = p.2.length := ⟨_, rfl⟩
      rw [← hNN, ← hM] at hst
      rw [← hM] at c2
      rw [← hNN]
      have hw : IntKind.i64.wrap ((N : Int) + (M : Int)) = (N : Int) + (M : Int) := by rw [IntKind.wrap_i64]; omega
      have HST : Hid (((samplesN (b.take (k + 1)) : Nat) : Int) = (N : Int) + (M : Int)) := Lib.hid (by omega)
      have HB1 := Lib.hid (hbr.alloc hbr.size (.cells #[.slice xa p.1.length xc, .slice xsa M xsc] 53))
      obtain ⟨n1, n2⟩ := cell_new2 wr (.slice xa p.1.length xc) (.slice xsa M xsc) 53
      have HBR := Lib.hid hbr
      clear hst hle hN hNN hM hx hp hrd s1 hkl hbr
      go_wp2
      exact ⟨⟨k + 1, by omega, by rw [HST.out], rfl, HB1.out⟩, by simp [intOf]; omega⟩
    · obtain rfl : k = hs.length := by omega
      have HF : Hid (samplesN (b.take hs.length) = samplesN b) := Lib.hid (by rw [HLN.out, List.take_length])
      rw [HF.out]
      clear hk
      go_wp2
      go_ret
      exact ⟨rfl, hbr⟩
set_option maxHeartbeats 2000000 in
set_option maxRecDepth 100000 in
theorem refSamples_any (v : Value) (hs : List Hdr) (b : List Ser) (w : World) (h : RdB w v hs b) (hl : hs.length ≤ 1099511627776) (hN : samplesN b ≤ 1099511627776) :
    Calls Tryz.prog 25 #[v] w fun e w' => e = .returned (.int .i64 ((samplesN b : Nat) : Int)) ∧ Below w.heap.size w w' := by
  have HH := Lib.hid h
  have HLN := Lib.hid h.1
  have HN := Lib.hid hN
  obtain ⟨ad, cap, rfl, hcap⟩ := Rd.slice h.2.1
  clear h hN
  go_enter Tryz.func25, Tryz.ntmps25
  go_wp2
  go_loopw [3, 4] (fun n i wr => ∃ k : Nat, k ≤ hs.length ∧ n = .int .i64 ((samplesN (b.take k) : Nat) : Int) ∧ i = .int .i64 (k : Nat) ∧ Below w.heap.size w wr) (fun _ i _ => hs.length - (intOf i).toNat)
  case atStart => exact ⟨0, by omega, by simp [samplesN], rfl, Below.refl _ _⟩
  case round =>
    obtain ⟨k, hk, rfl, rfl, hbr⟩ := hrel
    by_cases hkl : k < hs.length
    · obtain ⟨x, hx⟩ := at_some hkl
      obtain ⟨p, hp⟩ := at_some (l := b) (k := k) (by have := HLN.out; omega)
      have hrd := HH.out.below hbr
      have s1 := hrd.2.2 _ _ _ hx hp
      obtain ⟨bb, off, rfl, c1, c2⟩ := RdH.at hrd.2.1 hx
      obtain ⟨e1, e2⟩ := s1.lens
      obtain ⟨xa, xn, xc, xsa, xsn, xsc⟩ := x
      simp only at e1 e2
      subst e1 e2
      have hkl' : (k : Int) < (hs.length : Int) := by omega
      have hk0 : (0 : Int) ≤ (k : Int) := by omega
      have hst := samplesN_take b k p hp
      have hle := samplesN_le b (k + 1)
      have hN := HN.out
      obtain ⟨N, hNN⟩ : ∃ N, N = samplesN (b.take k) := ⟨_, rfl⟩
      obtain ⟨M, hM⟩ : ∃ M, M = p.2.length := ⟨_, rfl⟩
      rw [← hNN, ← hM] at hst
      rw [← hM] at c2
      rw [← hNN]
      have hw : IntKind.i64.wrap ((N : Int) + (M : Int)) = (N : Int) + (M : Int) := by rw [IntKind.wrap_i64]; omega
      have HST : Hid (((samplesN (b.take (k + 1)) : Nat) : Int) = (N : Int) + (M : Int)) := Lib.hid (by omega)
      have HB1 := Lib.hid (hbr.alloc hbr.size (.cells #[.slice xa p.1.length xc, .slice xsa M xsc] 53))
      obtain ⟨n1, n2⟩ := cell_new2 wr (.slice xa p.1.length xc) (.slice xsa M xsc) 53
      have HBR := Lib.hid hbr
      clear hst hle hN hNN hM hx hp hrd s1 hkl hbr
      go_wp2
      exact ⟨⟨k + 1, by omega, by rw [HST.out], rfl, HBR.out⟩, by simp [intOf]; omega⟩
    · obtain rfl : k = hs.length := by omega
      have HF : Hid (samplesN (b.take hs.length) = samplesN b) := Lib.hid (by rw [HLN.out, List.take_length])
      rw [HF.out]
      clear hk
      go_wp2
      go_ret
      exact ⟨rfl, hbr⟩
theorem mcheck0_any (v : Value) (hs : List Hdr) (b : List Ser) (w : World) (h : RdB w v hs b) (hl : hs.length ≤ 1099511627776) (hN : samplesN b ≤ 1099511627776) :
    Calls Tryz.prog 54 #[v] w fun e w' => e = .returned (if 1048576 < b.length ∨ 16777216 < samplesN b then .int .i64 7 else .int .i64 0) ∧ Below w.heap.size w w' := by
  have H := Lib.hid (samples_any v hs b w h hl hN)
  have HLN := Lib.hid h.1
  obtain ⟨ad, cap, rfl, hcap⟩ := Rd.slice h.2.1
  obtain ⟨M, hM⟩ : ∃ M, M = samplesN b := ⟨_, rfl⟩
  rw [← hM] at H hN ⊢
  rw [← HLN.out]
  clear hM h
  by_cases h1 : 1048576 < hs.length
  · rw [if_pos (.inl h1)]
    have h1' : (1048576 : Int) < (hs.length : Int) := by omega
    clear h1
    go_enter Tryz.func54, Tryz.ntmps54
    go_wp2
    go_ret
    exact ⟨rfl, Below.refl _ _⟩
  · have h1' : (hs.length : Int) ≤ 1048576 := by omega
    by_cases h2 : 16777216 < M
    · rw [if_pos (.inr h2)]
      have h2' : (16777216 : Int) < (M : Int) := by omega
      clear h1 h2
      go_enter Tryz.func54, Tryz.ntmps54
      go_wp2_with (go_at_call 80; refine H.out.mono ?_; rintro e w1 ⟨rfl, hb1⟩)
      go_ret
      exact ⟨rfl, hb1⟩
    · rw [if_neg (by omega)]
      have h2' : (M : Int) ≤ 16777216 := by omega
      clear h1 h2
      go_enter Tryz.func54, Tryz.ntmps54
      go_wp2_with (go_at_call 80; refine H.out.mono ?_; rintro e w1 ⟨rfl, hb1⟩)
      go_ret
      exact ⟨by first | rfl | (simp; done) | (simp; omega), hb1⟩
theorem rlarge_any (v : Value) (hs : List Hdr) (b : List Ser) (w : World) (h : RdB w v hs b) (hl : hs.length ≤ 1099511627776) (hN : samplesN b ≤ 1099511627776) :
    Calls Tryz.prog 48 #[v] w fun e w' => e = .returned (if 1048576 < b.length ∨ 16777216 < samplesN b then .bool true else .bool false) ∧ Below w.heap.size w w' := by
  have H := Lib.hid (refSamples_any v hs b w h hl hN)
  have HLN := Lib.hid h.1
  obtain ⟨ad, cap, rfl, hcap⟩ := Rd.slice h.2.1
  obtain ⟨M, hM⟩ : ∃ M, M = samplesN b := ⟨_, rfl⟩
  rw [← hM] at H hN ⊢
  rw [← HLN.out]
  clear hM h
  by_cases h1 : 1048576 < hs.length
  · rw [if_pos (.inl h1)]
    have h1' : (1048576 : Int) < (hs.length : Int) := by omega
    clear h1
    go_enter Tryz.func48, Tryz.ntmps48
    go_wp2
    go_ret
    exact ⟨rfl, Below.refl _ _⟩
  · have h1' : (hs.length : Int) ≤ 1048576 := by omega
    by_cases h2 : 16777216 < M
    · rw [if_pos (.inr h2)]
      have h2' : (16777216 : Int) < (M : Int) := by omega
      clear h1 h2
      go_enter Tryz.func48, Tryz.ntmps48
      go_wp2_with (go_at_call 25; refine H.out.mono ?_; rintro e w1 ⟨rfl, hb1⟩)
      go_ret
      exact ⟨rfl, hb1⟩
    · rw [if_neg (by omega)]
      have h2' : (M : Int) ≤ 16777216 := by omega
      clear h1 h2
      go_enter Tryz.func48, Tryz.ntmps48
      go_wp2_with (go_at_call 25; refine H.out.mono ?_; rintro e w1 ⟨rfl, hb1⟩)
      go_ret
      exact ⟨by first | rfl | (simp; done) | (simp; omega), hb1⟩
end Go.Proofs.YtnoodiibkchaaaaGreatDoor
