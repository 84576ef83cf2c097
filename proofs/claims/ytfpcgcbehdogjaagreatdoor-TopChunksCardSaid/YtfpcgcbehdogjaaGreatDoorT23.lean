/-
  Lemmas on which LTopChunks rests, packed out of the texts XSec XEnc XRdA; each for all arguments under the hypotheses it names.
-/
import Derived.Test.YtfpcgcbehdogjaaGreatDoorT21
import Derived.Deep.WholeRow
namespace Go.Proofs.YtfpcgcbehdogjaaGreatDoor
section
set_option maxHeartbeats 8000000
set_option maxRecDepth 100000
open Go.RowKit Go.Shelf
attribute [local go_sem] Oper.semAt_some
theorem makeR1 (w : World) : (Instr.makeSlice 123 (.int .i64 1) (.int .i64 1)).run Tryz.prog w = .ok (.slice (some ⟨w.heap.size, 0, none⟩) 1 1) (w.alloc (.cells #[.slice none 0 0, .slice none 0 0] 127)) := by
 obtain ⟨i0, hi, hz0, hz1, hz2⟩ := info_parts infoRc
 have := run_makeSlice (P := Tryz.prog) (w := w) 123 127 i0 (.agg #[.slice none 0 0, .slice none 0 0]) Tryz.underlying123 hi hz0 .i64 .i64 1 1 (by omega) (by omega) (by rw [hz1]; simp) (by rw [hz2]; omega) (by omega)
 rw [hz1, show madeCells (Value.agg #[.slice none 0 0, .slice none 0 0]).cells (Int.toNat 1 * 2) = #[.slice none 0 0, .slice none 0 0] by kernel_rfl] at this
 exact this
theorem makeL1 (w : World) : (Instr.makeSlice 124 (.int .i64 1) (.int .i64 1)).run Tryz.prog w = .ok (.slice (some ⟨w.heap.size, 0, none⟩) 1 1) (w.alloc (.cells #[.slice none 0 0] 95)) := by
 obtain ⟨i0, hi, hz0, hz1, hz2⟩ := info_parts infoLs
 have := run_makeSlice (P := Tryz.prog) (w := w) 124 95 i0 (.slice none 0 0) Tryz.underlying124 hi hz0 .i64 .i64 1 1 (by omega) (by omega) (by rw [hz1]; simp) (by rw [hz2]; omega) (by omega)
 rw [hz1, show madeCells (Value.slice none 0 0).cells (Int.toNat 1 * 1) = #[.slice none 0 0] by kernel_rfl] at this
 exact this
theorem sections_one (pos : ByteArray → Nat) (tb : List ByteArray) (ad : Option Addr) (cap : Nat) (hd : Hdr) (x : Lab) (kl : Lit) (smps : List Smp) (w : World) (h : RdB w (.slice ad 1 cap) [hd] [([x], smps)]) (hC : modE [([x], smps)] = 0) (h1 : smps ≠ []) (h2 : smps.length ≤ 120) (hf : FitS smps)
 (hT : TabZ w) (hF : TabF w) (hk : keyOf Tryz.prog 94 (oneL x) = some kl) (htb : tabO (symsL [([x], smps)]) = strB tb) (hts : ∀ s ∈ tb, s.size ≤ 65535) (htl : tb.length ≤ 1000000) (hA : Asc tb) (hP : Pos tb x.1 (pos x.1) ∧ Pos tb x.2 (pos x.2)) (hN1 : (symO tb).length ≤ 1000000) (hN2 : (chunkC smps).length ≤ 1000000) (hN3 : 1 ≤ (chunkC smps).length) (hN4 : (recO pos [([x], [(chunkC smps).length])]).length ≤ 1000000000) (hN5 : (postO pos [(x, [0])]).length ≤ 1000000000) :
 Calls Tryz.prog 31 #[.slice ad 1 cap] w fun e w' => ∃ v0 v1 v2 v3, e = .returned (.tuple #[.agg #[v0, v1, v2, v3], .int .i64 0]) ∧ Holds w' v0 (u8s (symO tb)) ∧ Holds w' v1 (u8s (recO pos [([x], [(chunkC smps).length])])) ∧ Holds w' v2 (u8s (chunkC smps)) ∧ Holds w' v3 (u8s (postO pos [(x, [0])])) ∧ Keeps (fun _ => False) w w' := by
 have s1 := h.2.2 0 hd _ rfl rfl
 obtain ⟨b0, o0, rfl, c1, c2⟩ := RdH.at (cap := cap) (l := [hd]) h.2.1 (i := 0) rfl
 simp only [Nat.zero_mul, Nat.add_zero] at c1 c2
 obtain ⟨la, ln, lc, sa, sn, sc⟩ := hd
 have e1 : ln = 1 := by obtain ⟨_, _, _, hv, _⟩ := s1.1; simp only [Hdr.lv, Value.slice.injEq] at hv; exact hv.2.1
 have e2 : sn = smps.length := by obtain ⟨_, _, _, hv, _⟩ := s1.2; simp only [Hdr.sv, Value.slice.injEq] at hv; exact hv.2.1
 subst e1 e2
 have c1' : w.cell? ⟨b0, o0, none⟩ = some (.slice la 1 lc) := c1
 have c2' : w.cell? ⟨b0, o0 + 1, none⟩ = some (.slice sa smps.length sc) := c2
 obtain ⟨Wa, hWa⟩ : ∃ Wa, Wa = w.alloc (.cells #[.slice none 0 0, .slice none 0 0, .slice none 0 0, .slice none 0 0] 75) := ⟨_, rfl⟩
 have hka : Below w.heap.size w Wa := by rw [hWa]; exact (Below.refl _ _).alloc (Nat.le_refl _) _
 have ha0 : Wa.heap[w.heap.size]? = some (.cells #[.slice none 0 0, .slice none 0 0, .slice none 0 0, .slice none 0 0] 75 (0, 0)) := by rw [hWa]; exact heap_alloc_new w _
 have hck := mCheck_any (.slice (some ⟨b0, o0, none⟩) 1 cap) [⟨la, 1, lc, sa, smps.length, sc⟩] [([x], smps)] Wa (h.below hka) (by simp) (by simp [qat]; omega) (fun y hy => by
  simp only [List.mem_singleton] at hy
  subst hy
  exact ⟨by simp, by show smps.length ≤ _; omega⟩)
 rw [hC] at hck
 have HCK := Hj hck; have HWa := Hj hWa; have HKa := Hj hka; have HA0 := Hj ha0; have HH := Hj h
 have HC1 := Hj c1'; have HC2 := Hj c2'
 have HTZ := Hj hT; have HTF := Hj hF; have HKY := Hj hk; have HTB := Hj htb; have HTS := Hj hts; have HASC := Hj hA; have HPO := Hj hP; have HFS := Hj hf; have HNE := Hj h1
 clear h s1 c1 c2 c1' c2' hWa hka ha0 hck hT hF hk htb hts hA hP hf h1 hC
 refine (callsIn_wide (n := 0)).1 ?_
 refine callsIn_of_wp_marks Tryz.func31 rfl trivial ?_ rfl
 simp only [Tryz.ntmps31, List.size_toArray, List.length_cons, List.length_nil, Nat.reduceAdd, Nat.reduceSub, Array.replicate_succ, Array.replicate_zero, List.push_toArray, List.append_toArray, List.nil_append, List.cons_append]
 gi_wp2
 rw [← HWa.out]
 refine ⟨trivial, rfl, (callsIn_wide.2 HCK.out).mono ?_⟩
 rintro e w1 ⟨rfl, hb1⟩
 have hmr := makeR1
 have hml := makeL1
 have HB1 := Hj hb1
 clear hb1
 gi_wp2
 clear hmr hml
 obtain ⟨W5, hW5⟩ : ∃ W5, W5 = (((w1.alloc (.cells #[.slice none 0 0] 29)).alloc (.cells #[.slice none 0 0, .slice none 0 0] 127)).alloc (.cells #[.slice (some ⟨w1.heap.size + 1, 0, none⟩) 1 1] 123)).alloc (.cells #[.slice none 0 0] 95) := ⟨_, rfl⟩
 have hk5 : Keeps (fun _ => False) w1 W5 := by rw [hW5]; exact ((((Keeps.refl _ _).alloc _).alloc _).alloc _).alloc _
 have hs5 : W5.heap.size = w1.heap.size + 4 := by rw [hW5]; simp
 have hD5 : W5.heap[w1.heap.size]? = some (.cells #[.slice none 0 0] 29 (0, 0)) := by rw [hW5]; exact heap_alloc _ (heap_alloc _ (heap_alloc _ (heap_alloc_new w1 _)))
 have hR5 : W5.heap[w1.heap.size + 1]? = some (.cells #[.slice none 0 0, .slice none 0 0] 127 (0, 0)) := by
  rw [hW5]
  have := heap_alloc_new (w1.alloc (.cells #[.slice none 0 0] 29)) (.cells #[.slice none 0 0, .slice none 0 0] 127)
  rw [World.size_alloc] at this
  exact heap_alloc _ (heap_alloc _ this)
 have hL5 : W5.heap[w1.heap.size + 2]? = some (.cells #[.slice (some ⟨w1.heap.size + 1, 0, none⟩) 1 1] 123 (0, 0)) := by
  rw [hW5]
  have := heap_alloc_new ((w1.alloc (.cells #[.slice none 0 0] 29)).alloc (.cells #[.slice none 0 0, .slice none 0 0] 127)) (.cells #[.slice (some ⟨w1.heap.size + 1, 0, none⟩) 1 1] 123)
  rw [World.size_alloc, World.size_alloc] at this
  exact heap_alloc _ this
 have hS5 : W5.heap[w1.heap.size + 3]? = some (.cells #[.slice none 0 0] 95 (0, 0)) := by
  rw [hW5]
  have := heap_alloc_new (((w1.alloc (.cells #[.slice none 0 0] 29)).alloc (.cells #[.slice none 0 0, .slice none 0 0] 127)).alloc (.cells #[.slice (some ⟨w1.heap.size + 1, 0, none⟩) 1 1] 123)) (.cells #[.slice none 0 0] 95)
  rw [World.size_alloc, World.size_alloc, World.size_alloc] at this
  exact this
 rw [← hW5]
 have hkw5 : Keeps (fun _ => False) w W5 := by
  have k1 : Keeps (fun _ => False) w w1 := (Keeps.ofBelow (HB1.out)).mono (fun _ _ e => e) |> fun k => (Keeps.trans (S' := fun _ => False) (Keeps.ofBelow HKa.out) k (fun _ _ e => e))
  exact k1.trans hk5 (fun _ _ e => e)
 have HD5 := Hj hD5; have HR5 := Hj hR5; have HL5 := Hj hL5; have HS5 := Hj hS5; have HK5 := Hj hkw5; have HZ5 := Hj hs5
 have HA5 : Hid (W5.heap[w.heap.size]? = some (.cells #[.slice none 0 0, .slice none 0 0, .slice none 0 0, .slice none 0 0] 75 (0, 0))) := Hj (hk5.heap (heap_below HB1.out HA0.out) (fun e => e))
 have HWW : Hid (w.heap.size + 1 ≤ w1.heap.size) := Hj (by have := HB1.out.size; have := qap HA0.out; omega)
 clear hW5 hk5 hs5 hD5 hR5 hL5 hS5 hkw5
 gi_loopw [32] (fun i wr => (i = .int .i64 0 ∧ wr = W5) ∨ (i = .int .i64 1 ∧ Hid (wr.heap[w1.heap.size]? = some (.cells #[.slice none 0 0] 29 (0, 0))) ∧ Hid (wr.heap[w1.heap.size + 1]? = some (.cells #[.slice la 1 lc, .slice none 0 0] 127 (0, 0))) ∧ Hid (wr.heap[w1.heap.size + 2]? = some (.cells #[.slice (some ⟨w1.heap.size + 1, 0, none⟩) 1 1] 123 (0, 0))) ∧ Hid (wr.heap[w1.heap.size + 3]? = some (.cells #[.slice la 1 lc] 95 (0, 0))) ∧ Hid (wr.heap[w.heap.size]? = some (.cells #[.slice none 0 0, .slice none 0 0, .slice none 0 0, .slice none 0 0] 75 (0, 0))) ∧ Hid (Keeps (fun _ => False) w wr))) (fun i _ => 1 - (intOf i).toNat)
 case atStart => exact .inl ⟨rfl, rfl⟩
 case round =>
  rcases hrel with ⟨rfl, hwr⟩ | ⟨rfl, HD, HR, HL, HS, HA, HK⟩
  · obtain rfl := hwr.symm
    have x1 := HK5.out.cell HC1.out (fun e => e)
    have x2 := HK5.out.cell HC2.out (fun e => e)
    gi_upto_region 10 with fail
    obtain ⟨W6, hW6⟩ : ∃ W6, W6 = W5.alloc (.cells #[.slice la 1 lc, .slice sa smps.length sc] 97) := ⟨_, rfl⟩
    have hk6 : Keeps (fun _ => False) W5 W6 := by rw [hW6]; exact (Keeps.refl _ _).alloc _
    have hr6 : W6.heap[W5.heap.size]? = some (.cells #[.slice la 1 lc, .slice sa smps.length sc] 97 (0, 0)) := by rw [hW6]; exact heap_alloc_new W5 _
    have hR6 := hk6.heap HR5.out (fun e => e); have hL6 := hk6.heap HL5.out (fun e => e); have hS6 := hk6.heap HS5.out (fun e => e); have hD6 := hk6.heap HD5.out (fun e => e)
    have q1 : W6.cell? ⟨W5.heap.size, 0, none⟩ = some (.slice la 1 lc) := by rw [cell_of_row _ _ _ _ _ _ hr6]; rfl
    have q2 : W6.cell? ⟨w1.heap.size + 1 + 1, 0, none⟩ = some (.slice (some ⟨w1.heap.size + 1, 0, none⟩) 1 1) := by rw [cell_of_row _ _ _ _ _ _ hL6]; rfl
    have q3 : W6.cell? ⟨w1.heap.size + 1, 0, none⟩ = some (.slice none 0 0) := by rw [cell_of_row _ _ _ _ _ _ hR6]; rfl
    have q4 : W6.frozen? ⟨w1.heap.size + 1, 0, none⟩ = false := frozen_of_row _ _ _ _ _ hR6
    have q5 : W6.cell? ⟨w1.heap.size + 1 + 1 + 1, 0, none⟩ = some (.slice none 0 0) := by rw [cell_of_row _ _ _ _ _ _ hS6]; rfl
    have q6 : W6.frozen? ⟨w1.heap.size + 1 + 1 + 1, 0, none⟩ = false := frozen_of_row _ _ _ _ _ hS6
    rw [← hW6]
    have HR6 := Hj hR6; have HL6 := Hj hL6; have HS6 := Hj hS6; have HD6 := Hj hD6; have HA6 := Hj (hk6.heap HA5.out (fun e => e)); have HK6 := Hj (HK5.out.trans hk6 (fun _ _ e => e)); have HZ6 := Hj (show W5.heap.size < W6.heap.size from qap hr6)
    obtain ⟨WR, hWR⟩ : ∃ WR, WR = W6.setCell ⟨w1.heap.size + 1, 0, none⟩ (.slice la 1 lc) := ⟨_, rfl⟩
    obtain ⟨WS, hWS⟩ : ∃ WS, WS = W6.setCell ⟨w1.heap.size + 1 + 1 + 1, 0, none⟩ (.slice la 1 lc) := ⟨_, rfl⟩
    have kR : Keeps (fun k => k = w1.heap.size + 1 ∨ k = w1.heap.size + 3) W6 WR := by rw [hWR]; exact (Keeps.refl _ W6).setCell (p := ⟨w1.heap.size + 1, 0, none⟩) (fun _ => .inl rfl) _
    have kS : Keeps (fun k => k = w1.heap.size + 1 ∨ k = w1.heap.size + 3) W6 WS := by rw [hWS]; exact (Keeps.refl _ W6).setCell (p := ⟨w1.heap.size + 1 + 1 + 1, 0, none⟩) (fun _ => .inr rfl) _
    have gR : WR.heap[w1.heap.size + 3]? = some (.cells #[.slice none 0 0] 95 (0, 0)) := by rw [hWR]; exact (heap_setCell_other _ _ _ _ (by simp only; omega)).trans hS6
    have gS : WS.heap[w1.heap.size + 1]? = some (.cells #[.slice none 0 0, .slice none 0 0] 127 (0, 0)) := by rw [hWS]; exact (heap_setCell_other _ _ _ _ (by simp only; omega)).trans hR6
    have t5 : WR.cell? ⟨w1.heap.size + 1 + 1 + 1, 0, none⟩ = some (.slice none 0 0) := by rw [cell_of_row _ _ _ _ _ _ gR]; rfl
    have t6 : WR.frozen? ⟨w1.heap.size + 1 + 1 + 1, 0, none⟩ = false := frozen_of_row _ _ _ _ _ gR
    have u3 : WS.cell? ⟨w1.heap.size + 1, 0, none⟩ = some (.slice none 0 0) := by rw [cell_of_row _ _ _ _ _ _ gS]; rfl
    have u4 : WS.frozen? ⟨w1.heap.size + 1, 0, none⟩ = false := frozen_of_row _ _ _ _ _ gS
    rw [hWR] at t5 t6 kR
    rw [hWS] at u3 u4 kS
    have CC : Hid (∀ q, Keeps (fun k => k = w1.heap.size + 1 ∨ k = w1.heap.size + 3) W6 q → q.cell? ⟨W5.heap.size, 0, none⟩ = some (.slice la 1 lc) ∧ q.cell? ⟨w1.heap.size + 1 + 1, 0, none⟩ = some (.slice (some ⟨w1.heap.size + 1, 0, none⟩) 1 1)) := Hj (fun q hq => ⟨hq.cell q1 (by have := HZ5.out; simp only; omega), hq.cell q2 (by simp only; omega)⟩)
    have K0 : Hid (Keeps (fun k => k = w1.heap.size + 1 ∨ k = w1.heap.size + 3) W6 W6.drew) := Hj (Keeps.refl _ _).drew
    have K1 := Hj kR.drew; have K2 := Hj kS.drew
    have K3 := Hj (kR.setCell (p := ⟨w1.heap.size + 1 + 1 + 1, 0, none⟩) (fun _ => .inr rfl) (.slice la 1 lc)).drew
    have K4 := Hj (kS.setCell (p := ⟨w1.heap.size + 1, 0, none⟩) (fun _ => .inl rfl) (.slice la 1 lc)).drew
    clear hWR hWS kR kS hr6 hR6 hL6 hS6 hD6 hW6 hk6 x1 x2 gR gS
    refine wpIn_wide.2 ?_
    go_region_held3 (fun q => q.cell? ⟨W5.heap.size, 0, none⟩ = some (.slice la 1 lc) ∧ q.cell? ⟨w1.heap.size + 1 + 1, 0, none⟩ = some (.slice (some ⟨w1.heap.size + 1, 0, none⟩) 1 1)) (first | exact CC.out _ K0.out | exact CC.out _ K1.out | exact CC.out _ K2.out | exact CC.out _ K3.out | exact CC.out _ K4.out) (first | skip)
    clear t5 t6 u3 u4 q1 q2 q3 q4 q5 q6
    obtain ⟨W7, hW7⟩ : ∃ W7, W7 = ((W6.setCell ⟨w1.heap.size + 1, 0, none⟩ (.slice la 1 lc)).setCell ⟨w1.heap.size + 1 + 1 + 1, 0, none⟩ (.slice la 1 lc)).drew := ⟨_, rfl⟩
    rw [← hW7]
    have k7 : Keeps (fun k => k = w1.heap.size + 1 ∨ k = w1.heap.size + 3) W6 W7 := by rw [hW7]; exact K3.out
    have r7 : W7.heap[w1.heap.size + 1]? = some (.cells #[.slice la 1 lc, .slice none 0 0] 127 (0, 0)) := by
     rw [hW7]
     have := heap_setCell_same W6 (w1.heap.size + 1) 0 _ _ (.slice la 1 lc) HR6.out
     exact ((heap_setCell_other (W6.setCell ⟨w1.heap.size + 1, 0, none⟩ (.slice la 1 lc)) ⟨w1.heap.size + 1 + 1 + 1, 0, none⟩ _ _ (by simp only; omega)).trans this).trans rfl
    have s7 : W7.heap[w1.heap.size + 3]? = some (.cells #[.slice la 1 lc] 95 (0, 0)) := by
     rw [hW7]
     have := heap_setCell_same (W6.setCell ⟨w1.heap.size + 1, 0, none⟩ (.slice la 1 lc)) (w1.heap.size + 1 + 1 + 1) 0 _ _ (.slice la 1 lc) ((heap_setCell_other _ _ _ _ (by simp only; omega)).trans HS6.out)
     exact this.trans rfl
    have HR7 := Hj r7; have HS7 := Hj s7
    have HD7 := Hj (k7.heap HD6.out (by omega)); have HL7 := Hj (k7.heap HL6.out (by omega)); have HA7 := Hj (k7.heap HA6.out (by have := HWW.out; omega)); have HK7 := Hj (HK6.out.trans k7 (fun k hk e => by have := HWW.out; omega))
    clear hW7 k7 r7 s7
    gi_wp2
    exact ⟨.inr ⟨rfl, HD7, HR7, HL7, HS7, HA7, HK7⟩, by simp [intOf]⟩
  · clear HD5 HR5 HL5 HS5 HK5 HA5 HZ5
    obtain ⟨W8, hW8⟩ : ∃ W8, W8 = wr.alloc (.cells #[.func (.func 62) #[] #[.pointer (some ⟨w1.heap.size, 0, none⟩), .pointer (some ⟨w1.heap.size + 2, 0, none⟩)]] 128) := ⟨_, rfl⟩
    have hk8 : Keeps (fun _ => False) wr W8 := by rw [hW8]; exact (Keeps.refl _ _).alloc _
    have hf8 : W8.heap[wr.heap.size]? = some (.cells #[.func (.func 62) #[] #[.pointer (some ⟨w1.heap.size, 0, none⟩), .pointer (some ⟨w1.heap.size + 2, 0, none⟩)]] 128 (0, 0)) := by rw [hW8]; exact heap_alloc_new wr _
    have HW8 := Hj hW8; have HK8 := Hj hk8; have HF8 := Hj hf8
    clear hW8 hk8 hf8
    gi_wp2
    rw [← HW8.out]
    refine ⟨trivial, rfl, (callsIn_wide.2 (chunks_any (some ⟨b0, o0, none⟩) 1 cap _)).mono ?_⟩
    rintro e w9 ⟨rfl, hw9⟩
    have hk9 : Keeps (fun _ => False) W8 w9 := by rw [hw9]; exact (Keeps.refl _ _).alloc _
    have hs9 : w9.heap.size = W8.heap.size + 1 := by rw [hw9]; simp
    have hb9 : w9.cell? ⟨W8.heap.size, 0, none⟩ = some (.slice (some ⟨b0, o0, none⟩) 1 cap) := by rw [hw9, cell_of_row _ _ _ _ _ _ (heap_alloc_new W8 _)]; rfl
    have hkw : Keeps (fun _ => False) w w9 := (HK.out.trans HK8.out (fun _ _ e => e)).trans hk9 (fun _ _ e => e)
    have HK9 := Hj hkw
    have HD9 := Hj (hk9.heap (HK8.out.heap HD.out (fun e => e)) (fun e => e)); have HR9 := Hj (hk9.heap (HK8.out.heap HR.out (fun e => e)) (fun e => e)); have HL9 := Hj (hk9.heap (HK8.out.heap HL.out (fun e => e)) (fun e => e)); have HS9 := Hj (hk9.heap (HK8.out.heap HS.out (fun e => e)) (fun e => e)); have HA9 := Hj (hk9.heap (HK8.out.heap HA.out (fun e => e)) (fun e => e)); have HF9 := Hj (hk9.heap HF8.out (fun e => e))
    have HB9 := Hj hb9; have HZ9 := Hj hs9
    have HWR : Hid (w1.heap.size + 4 ≤ wr.heap.size ∧ wr.heap.size < W8.heap.size) := Hj ⟨by have := qap HS.out; omega, qap HF8.out⟩
    clear hw9 hk9 hs9 hb9 hkw HD HR HL HS HA HK HF8 HK8 HW8
    gi_wp2
    obtain ⟨N, hN⟩ : ∃ N, N = (chunkC smps).length := ⟨_, rfl⟩
    have HN := Hj hN
    refine' wpIn_rangeFunc_q (gf := 118) (lb := #[.pointer (some ⟨W8.heap.size, 0, none⟩)]) (w := w9) rfl (enters_of Tryz.func118 (by kernel_rfl) rfl)
     (encs := encK (chunkC smps).length) (own := fun _ => False) (tr := fun _ => False) (T := fun k => k = w1.heap.size ∨ k = w1.heap.size + 1) (S := fun xs => ∃ x, xs = [x]) (Sp := fun pre => pre.length ≤ 1)
     (Qx := fun x W1 => W1.ownsRow (w9.heap.size + 2) 5 1 (.slice x.1 (chunkC smps).length x.2) (chunkC smps).length (u8s (chunkC smps)) ∧ Keeps (fun _ => False) w9 W1)
     ?hseq ?hQx (fun x => rfl) (fun _ h => h) (fun _ h => h.elim) (fun _ _ h => h) ?hT2
     (fun pre W => (pre = [] ∧ Hid (Keeps (fun _ => False) w9 W)) ∨ (∃ x, pre = [x] ∧ ∃ dv cv, Hid (W.heap[w1.heap.size]? = some (.cells #[dv] 29 (0, 0))) ∧ Hid (W.ownsRow (w9.heap.size + 2) 5 1 dv (chunkC smps).length (u8s (chunkC smps))) ∧ Hid (W.heap[w1.heap.size + 1]? = some (.cells #[.slice la 1 lc, cv] 127 (0, 0))) ∧ Hid (W.ownsRow (w9.heap.size + 2) 3 1 cv 1 [.int .i64 ((chunkC smps).length : Int)]) ∧ Hid (Keeps (fun k => k = w1.heap.size ∨ k = w1.heap.size + 1) w9 W)))
     (fun _ _ _ => False) ?hI (fun _ _ _ _ h _ => h) ?h0 _ ?assign ?body ?done ?stop
    case assign =>
     intro lp x W K hK
     simp only [encK]
     gi_wp2
     exact hK
    case hseq =>
     intro W hs hk
     have := chs_at W8.heap.size (some ⟨b0, o0, none⟩) cap ⟨la, 1, lc, sa, smps.length, sc⟩ [x] smps W (hk.cell HB9.out (fun e => e)) (HH.out.below (HK9.out.trans hk (fun _ _ e => e)).toBelow) HNE.out h2 HFS.out (HTZ.out.keeps (HK9.out.trans hk (fun _ _ e => e)) (fun e => e)) (HTF.out.keeps (HK9.out.trans hk (fun _ _ e => e)) (fun e => e))
     intro l J Jx p1 p2 p3 p4
     exact this l J Jx p1 p2 (fun pre y W1 q1 q2 q3 => p3 pre y W1 q1 q2 ⟨by rw [← hs]; exact q3.1, hk.trans q3.2 (fun _ _ e => e)⟩) p4
    case hQx =>
     rintro y A B ⟨q1, q2⟩ hk
     exact ⟨hk.row q1 (fun g hg e => by have := (q1.lt g hg).1; omega), q2.trans hk (fun k hk e => by omega)⟩
    case hT2 =>
     rintro k hk
     have h1 := qap HD9.out; have h2 := qap HR9.out
     left
     rcases hk with rfl | rfl <;> omega
    case hI =>
     rintro pre A B h hk
     have hW := HWR.out; have hZ := HZ9.out
     have hkk : ∀ k, k < w9.heap.size → ¬ (False ∨ k = w9.heap.size ∨ k = w9.heap.size + 1) := fun k hk e => by rcases e with e | e | e <;> first | exact e | omega
     have h1 := qap HD9.out; have h2 := qap HR9.out
     rcases h with ⟨rfl, hh⟩ | ⟨y, rfl, dv, cv, q1, q2, q3, q4, q5⟩
     · exact .inl ⟨rfl, Hj (hh.out.trans hk (fun k hk e => (hkk k hk e).elim))⟩
     · have hn : ∀ k, k ≠ w9.heap.size → k ≠ w9.heap.size + 1 → ¬ (False ∨ k = w9.heap.size ∨ k = w9.heap.size + 1) := fun k a b e => by rcases e with e | e | e <;> first | exact e | omega
       exact .inr ⟨y, rfl, dv, cv, Hj (hk.heap q1.out (hn _ (by omega) (by omega))), Hj (hk.row q2.out (fun g hg => by have := (q2.out.lt g hg).1; exact hn _ (by omega) (by omega))), Hj (hk.heap q3.out (hn _ (by omega) (by omega))), Hj (hk.row q4.out (fun g hg => by have := (q4.out.lt g hg).1; exact hn _ (by omega) (by omega))), Hj (q5.out.trans hk (fun k hk e => (hkk k hk e).elim))⟩
    case h0 => exact .inl ⟨rfl, Hj (Keeps.refl _ _)⟩
    case body =>
     rintro lp pre y W hI hsp ⟨hq1, hq2⟩ hsz
     have h5 : (pre ++ [y]).length ≤ 1 := hsp
     rw [List.length_append, List.length_singleton] at h5
     have hp0 : pre = [] := List.eq_nil_of_length_eq_zero (by omega)
     subst hp0
     have hW := HWR.out
     have hD := hq2.heap HD9.out (fun e => e); have hR := hq2.heap HR9.out (fun e => e); have hL := hq2.heap HL9.out (fun e => e)
     have hF : W.cell? ⟨wr.heap.size, 0, none⟩ = some (.func (.func 62) #[] #[.pointer (some ⟨w1.heap.size, 0, none⟩), .pointer (some ⟨w1.heap.size + 2, 0, none⟩)]) := by rw [cell_of_row _ _ _ _ _ _ (hq2.heap HF9.out (fun e => e))]; rfl
     have HADD := Hj (add_one w1.heap.size (w1.heap.size + 2) (w1.heap.size + 1) (.slice la 1 lc) y.1 y.2 (chunkC smps) W hD hL hR (by have := rd_row hq1; exact this) (by omega))
     have HQ2 := Hj hq2; have HSZ := Hj hsz
     clear hI hsp h5 hq1 hq2 hD hR hL hsz
     gi_wp2
     refine ⟨trivial, rfl, ((callsIn_wide.2 HADD.out).inRound lp).mono ?_⟩
     rintro e W2 ⟨dv, cv, rfl, a1, a2, a3, a4, a5, a6⟩
     have A1 := Hj a1; have A2 := Hj a2; have A4 := Hj a4; have A5 := Hj a5; have A6 := Hj a6
     clear a1 a2 a3 a4 a5 a6 hF
     gi_wp2
     have h9 := HQ2.out.size
     exact ⟨A6.out, .inr ⟨y, rfl, dv, cv, A1, Hj (qam A2.out (fun g hg => by have := (A2.out.lt g hg).1; have := HSZ.out; omega)), A4, Hj (qam A5.out (fun g hg => by have := (A5.out.lt g hg).1; have := HSZ.out; omega)), Hj ((HQ2.out.mono (S' := fun k => k = w1.heap.size ∨ k = w1.heap.size + 1) (fun _ _ e => e.elim)).trans A6.out (fun k hk e => e))⟩⟩
    case stop => rintro D c pre W _ h; exact h.elim
    case done =>
     rintro D xs W ⟨y0, rfl⟩ hI hD hK
     rcases hI with ⟨hh, _⟩ | ⟨y, _, dv, cv, q1, q2, q3, q4, q5⟩
     · cases hh
     have HK := Hj hK
     have hkW : Keeps (fun _ => False) w W := HK9.out.trans q5.out (fun k hk e => by have := HWW.out; omega)
     have HKW := Hj hkW
     have HS9W := Hj (q5.out.heap HS9.out (by omega)); have HL9W := Hj (q5.out.heap HL9.out (by omega)); have HA9W := Hj (q5.out.heap HA9.out (by have := HWW.out; omega))
     have hsy := symbols_any (.slice (some ⟨b0, o0, none⟩) 1 cap) [⟨la, 1, lc, sa, smps.length, sc⟩] [([x], smps)] W (HH.out.below hkW.toBelow) (by simp) (fun y hy => by simp only [List.mem_singleton] at hy; subst hy; simp) (by simp [symsL, strsL])
     have hlen : (tabO (symsL [([x], smps)])).length = tb.length := by rw [HTB.out]; simp [strB]
     rw [hlen, HTB.out, encB_strB] at hsy
     have HSY := Hj hsy
     clear hK hkW hsy hlen
     gi_wp2
     refine ⟨trivial, rfl, (callsIn_wide.2 HSY.out).mono ?_⟩
     rintro e X1 ⟨ta, tc, rfl, hrt, hbt⟩
     have HRT := Hj (show RdT X1 (.slice ta tb.length tc) tb from hrt); have HBT := Hj hbt.toKeeps
     clear hrt hbt HSY
     obtain ⟨a2, c2, rfl⟩ := qaf q2.out
     obtain ⟨ca, cc, rfl⟩ := qaf q4.out
     have HDV := Hj (HBT.out.row q2.out (fun _ _ e => e)); have HCV := Hj (HBT.out.row q4.out (fun _ _ e => e))
     have HDb := Hj (HBT.out.heap q1.out (fun e => e)); have HRb := Hj (HBT.out.heap q3.out (fun e => e)); have HLb := Hj (HBT.out.heap HL9W.out (fun e => e)); have HSb := Hj (HBT.out.heap HS9W.out (fun e => e)); have HAb := Hj (HBT.out.heap HA9W.out (fun e => e)); have HKb := Hj (HBT.out.heap HK.out (fun e => e))
     have HKX := Hj (HKW.out.trans HBT.out (fun _ _ e => e))
     have hz9 : w9.heap.size + 2 ≤ X1.heap.size := by have := q5.out.size; have := (q2.out.lt); have := qap HK.out; have := HBT.out.size; obtain ⟨g, cp, cur, e1, e2, e3, _⟩ := qbw q2.out (by omega); have := qap e3; omega
     have HZX := Hj hz9
     clear hz9 q1 q2 q3 q4 q5 HL9W HS9W HA9W HK HD9 HR9 HL9 HS9 HA9 HF9 HB9
     obtain ⟨Y0, hY0⟩ : ∃ Y0, Y0 = (X1.alloc (.cells #[.slice none 0 0, .slice none 0 0, .slice none 0 0, .slice none 0 0] 75)).alloc (.cells #[.int .i64 0, .int .i64 0, .int .i64 0] 134) := ⟨_, rfl⟩
     have hky : Keeps (fun _ => False) X1 Y0 := by rw [hY0]; exact ((Keeps.refl _ _).alloc _).alloc _
     have hsy : Y0.heap.size = X1.heap.size + 2 := by rw [hY0]; simp
     have hs0 : Y0.heap[X1.heap.size]? = some (.cells #[.slice none 0 0, .slice none 0 0, .slice none 0 0, .slice none 0 0] 75 (0, 0)) := by rw [hY0]; exact heap_alloc _ (heap_alloc_new X1 _)
     have he0 : Y0.heap[X1.heap.size + 1]? = some (.cells #[.int .i64 0, .int .i64 0, .int .i64 0] 134 (0, 0)) := by
      rw [hY0]
      have := heap_alloc_new (X1.alloc (.cells #[.slice none 0 0, .slice none 0 0, .slice none 0 0, .slice none 0 0] 75)) (.cells #[.int .i64 0, .int .i64 0, .int .i64 0] 134)
      rwa [World.size_alloc] at this
     have HYS := Hj hsy
     have HRT0 : Hid (∀ q, Keeps (fun k => k = X1.heap.size ∨ k = X1.heap.size + 1) X1 q → RdT q (.slice ta tb.length tc) tb) := Hj (fun q hq => Rd.below HRT.out (hq.toFresh (fun k hk e => by omega)).toBelow)
     have HEN := Hj (symenc_any (.slice ta tb.length tc) tb Y0 (Rd.keeps HRT.out hky (fun _ _ e => e)) HTS.out htl HASC.out (by omega))
     have HY0 := Hj hY0; have HS0' := Hj hs0; have HE0' := Hj he0; have HKY0 := Hj hky
     clear hY0 hky hsy hs0 he0
     gi_upto_region 20 with fail
     rw [← HY0.out]
     gi_wp2
     refine ⟨trivial, rfl, (callsIn_wide.2 HEN.out).mono ?_⟩
     rintro e Y1 ⟨v0, rfl, hr0, hk0⟩
     obtain ⟨a0, c0, rfl⟩ := qaf hr0
     have HV0 := Hj hr0
     have HKr : Hid (Keeps (fun k => k = X1.heap.size ∨ k = X1.heap.size + 1) X1 Y1) := Hj ((HKY0.out.trans hk0 (fun _ _ e => e)).mono (fun _ _ e => e.elim))
     have HSr := Hj (hk0.heap HS0'.out (fun e => e)); have HEr := Hj (hk0.heap HE0'.out (fun e => e))
     clear hr0 hk0 HEN HS0' HE0' HKY0
     have g1 : Y1.cell? ⟨X1.heap.size, 0, none⟩ = some (.slice none 0 0) := by rw [cell_of_row _ _ _ _ _ _ HSr.out]; rfl
     have g2 : Y1.frozen? ⟨X1.heap.size, 0, none⟩ = false := frozen_of_row _ _ _ _ _ HSr.out
     have g3 : Y1.cell? ⟨X1.heap.size + 1, 0, none⟩ = some (.int .i64 0) := by rw [cell_of_row _ _ _ _ _ _ HEr.out]; rfl
     have g4 : Y1.frozen? ⟨X1.heap.size + 1, 0, none⟩ = false := frozen_of_row _ _ _ _ _ HEr.out
     gi_upto_region 21 with fail
     clear g1 g2 g3 g4
     obtain ⟨Z1, hZ1⟩ : ∃ Z1, Z1 = (Y1.setCell ⟨X1.heap.size, 0, none⟩ (.slice a0 (symO tb).length c0)).setCell ⟨X1.heap.size + 1, 0, none⟩ (.int .i64 0) := ⟨_, rfl⟩
     have kZ1 : Keeps (fun k => k = X1.heap.size ∨ k = X1.heap.size + 1) Y1 Z1 := by rw [hZ1]; exact ((Keeps.refl _ Y1).setCell (p := ⟨X1.heap.size, 0, none⟩) (fun _ => .inl rfl) _).setCell (p := ⟨X1.heap.size + 1, 0, none⟩) (fun _ => .inr rfl) _
     have sZ1 : Z1.heap[X1.heap.size]? = some (.cells #[.slice a0 (symO tb).length c0, .slice none 0 0, .slice none 0 0, .slice none 0 0] 75 (0, 0)) := by
      rw [hZ1, heap_setCell_other _ _ _ _ (by simp)]
      exact (heap_setCell_same Y1 X1.heap.size 0 _ _ (.slice a0 (symO tb).length c0) HSr.out).trans rfl
     have eZ1 : Z1.heap[X1.heap.size + 1]? = some (.cells #[.int .i64 0, .int .i64 0, .int .i64 0] 134 (0, 0)) := by
      rw [hZ1]
      exact (heap_setCell_same (Y1.setCell ⟨X1.heap.size, 0, none⟩ (.slice a0 (symO tb).length c0)) (X1.heap.size + 1) 0 _ _ (.int .i64 0) ((heap_setCell_other Y1 _ _ _ (by simp)).trans HEr.out)).trans rfl
     rw [← hZ1]
     have HKs := Hj (HKr.out.trans kZ1 (fun k hk e => e)); have HSn := Hj sZ1; have HEn := Hj eZ1; have HKn := Hj kZ1
     clear hZ1 kZ1 sZ1 eZ1 HKr HSr HEr
     have HKr := HKs; have HSr := HSn; have HEr := HEn
     clear HKs HSn HEn
     have hz1 : X1.heap.size + 2 ≤ Z1.heap.size := qap HEr.out
     have HDK : Hid (∀ g, (Value.slice a2 (chunkC smps).length c2).ownBlock = some g → w.heap.size < g ∧ g < X1.heap.size ∧ g ≠ D) := Hj (fun g hg => ⟨by have := (HDV.out.lt g hg).1; have := HWR.out; have := HWW.out; have := HZ9.out; omega, (HDV.out.lt g hg).2, fun e => by subst e; obtain ⟨cur, hc⟩ := qaj HDV.out hg; rw [HKb.out] at hc; cases hc⟩)
     have HDD : Hid (w.heap.size < D ∧ D < X1.heap.size) := Hj ⟨by have := HWR.out; have := HWW.out; have := HZ9.out; omega, qap HKb.out⟩
     have hLl := qap HLb.out; have hRl := qap HRb.out; have hSl := qap HSb.out; have hDl := qap HDb.out
     have NS : ∀ k, k < X1.heap.size → ¬ (k = X1.heap.size ∨ k = X1.heap.size + 1) := fun k hk e => by omega
     refine wpIn_wide.2 ?_
     have hRdR : RdR Z1 (.slice (some ⟨w1.heap.size + 1, 0, none⟩) 1 1) [⟨la, 1, lc, ca, 1, cc⟩] [([x], [(chunkC smps).length])] := by
      have hR1 := HKr.out.heap HRb.out (NS _ hRl)
      refine ⟨rfl, ⟨rfl, _, _, rfl, Nat.le_refl _, .inr ⟨_, _, rfl, fun j u hj => ?_⟩⟩, fun i h r hi hr => ?_⟩
      · rw [Nat.zero_add, cell_of_row _ _ _ _ _ _ hR1]; simpa [hdrC, cells2, Hdr.lv, Hdr.sv] using hj
      · cases i with
        | zero =>
          simp only [List.getElem?_cons_zero, Option.some.injEq] at hi hr
          subst hi hr
          exact ⟨(HH.out.2.2 0 _ _ rfl rfl).1.below ((HKX.out.trans HKr.out (fun k hk e => by have := HKX.out.size; omega))).toBelow, rd_row (HKr.out.row HCV.out (fun g hg => NS g (HCV.out.lt g hg).2))⟩
        | succ i => simp at hi
     have HREC := Hj (recenc_any pos ta tc tb _ _ _ Z1 hRdR (by simp) (HRT0.out _ HKr.out) (by omega) (fun r hr => by simp only [List.mem_singleton] at hr; subst hr; simp) (fun r hr => by simp only [List.mem_singleton] at hr; subst hr; intro s hs; simp [strsL] at hs; rcases hs with rfl | rfl <;> first | exact HPO.out.1 | exact HPO.out.2) (fun r hr => by simp only [List.mem_singleton] at hr; subst hr; intro n hn; simp only [List.mem_singleton] at hn; subst hn; exact ⟨hN3, by omega⟩) hN4)
     clear hRdR
     have l1 : Z1.cell? ⟨w1.heap.size + 1 + 1, 0, none⟩ = some (.slice (some ⟨w1.heap.size + 1, 0, none⟩) 1 1) := by rw [cell_of_row _ _ _ _ _ _ (HKr.out.heap HLb.out (NS _ hLl))]; rfl
     go_upto_region 22 with (
      go_at_call 66
      refine HREC.out.mono ?_
      rintro e Y2 ⟨v1, rfl, hv1⟩
      obtain ⟨a1, c1, rfl⟩ := hv1.slice
      rw [qac] at hv1 ⊢
      have HV1 := Hj hv1.1; have hk2 := hv1.2.toKeeps
      have HKq : Hid (Keeps (fun k => k = X1.heap.size ∨ k = X1.heap.size + 1) X1 Y2) := Hj (HKr.out.trans (hk2.mono (fun _ _ e => e.elim)) (fun k hk e => e))
      have HSq := Hj (hk2.heap HSr.out (fun e => e)); have HEq := Hj (hk2.heap HEr.out (fun e => e)); have HKz2 := Hj hk2
      clear hv1 hk2 HREC l1 HKr HSr HEr
      have g1 : Y2.cell? ⟨X1.heap.size, 1, none⟩ = some (.slice none 0 0) := by rw [cell_of_row _ _ _ _ _ _ HSq.out]; rfl
      have g2 : Y2.frozen? ⟨X1.heap.size, 1, none⟩ = false := frozen_of_row _ _ _ _ _ HSq.out
      have g3 : Y2.cell? ⟨X1.heap.size + 1, 1, none⟩ = some (.int .i64 0) := by rw [cell_of_row _ _ _ _ _ _ HEq.out]; rfl
      have g4 : Y2.frozen? ⟨X1.heap.size + 1, 1, none⟩ = false := frozen_of_row _ _ _ _ _ HEq.out)
     clear g1 g2 g3 g4
     obtain ⟨Z2, hZ2⟩ : ∃ Z2, Z2 = ((Y2.setCell ⟨X1.heap.size, 1, none⟩ (.slice a1 (recO pos [([x], [(chunkC smps).length])]).length c1)).setCell ⟨X1.heap.size + 1, 1, none⟩ (.int .i64 0)) := ⟨_, rfl⟩
     have kZ2 : Keeps (fun k => k = X1.heap.size ∨ k = X1.heap.size + 1) Y2 Z2 := by rw [hZ2]; exact ((Keeps.refl _ Y2).setCell (p := ⟨X1.heap.size, 1, none⟩) (fun _ => .inl rfl) _).setCell (p := ⟨X1.heap.size + 1, 1, none⟩) (fun _ => .inr rfl) _
     have sZ2 : Z2.heap[X1.heap.size]? = some (.cells #[(.slice a0 (symO tb).length c0), (.slice a1 (recO pos [([x], [(chunkC smps).length])]).length c1), Value.slice none 0 0, Value.slice none 0 0] 75 (0, 0)) := by
      rw [hZ2, heap_setCell_other _ _ _ _ (by simp)]
      exact (heap_setCell_same Y2 X1.heap.size 1 _ _ (.slice a1 (recO pos [([x], [(chunkC smps).length])]).length c1) HSq.out).trans rfl
     have eZ2 : Z2.heap[X1.heap.size + 1]? = some (.cells #[.int .i64 0, .int .i64 0, .int .i64 0] 134 (0, 0)) := by
      rw [hZ2]
      exact (heap_setCell_same (Y2.setCell ⟨X1.heap.size, 1, none⟩ (.slice a1 (recO pos [([x], [(chunkC smps).length])]).length c1)) (X1.heap.size + 1) 1 _ _ (.int .i64 0) ((heap_setCell_other Y2 _ _ _ (by simp)).trans HEq.out)).trans rfl
     rw [← hZ2]
     have HKr := Hj (HKq.out.trans kZ2 (fun k hk e => e)); have HSr := Hj sZ2; have HEr := Hj eZ2; have HTZ2 := Hj kZ2
     clear hZ2 kZ2 sZ2 eZ2 HKq HSq HEq
     have l5 : Z2.cell? ⟨w1.heap.size, 0, none⟩ = some (.slice a2 (chunkC smps).length c2) := by rw [cell_of_row _ _ _ _ _ _ (HKr.out.heap HDb.out (NS _ hDl))]; rfl
     have HKq := HKr; have HSq := HSr; have HEq := HEr
     clear HKr HSr HEr
     have g1 : Z2.cell? ⟨X1.heap.size, 2, none⟩ = some (.slice none 0 0) := by rw [cell_of_row _ _ _ _ _ _ HSq.out]; rfl
     have g2 : Z2.frozen? ⟨X1.heap.size, 2, none⟩ = false := frozen_of_row _ _ _ _ _ HSq.out
     refine wpIn_wide.2 ?_
     go_upto_region 23 with fail
     clear g1 g2 l5
     obtain ⟨Z3, hZ3⟩ : ∃ Z3, Z3 = Z2.setCell ⟨X1.heap.size, 2, none⟩ (.slice a2 (chunkC smps).length c2) := ⟨_, rfl⟩
     have kZ3 : Keeps (fun k => k = X1.heap.size ∨ k = X1.heap.size + 1) Z2 Z3 := by rw [hZ3]; exact (Keeps.refl _ Z2).setCell (p := ⟨X1.heap.size, 2, none⟩) (fun _ => .inl rfl) _
     have sZ3 : Z3.heap[X1.heap.size]? = some (.cells #[(.slice a0 (symO tb).length c0), (.slice a1 (recO pos [([x], [(chunkC smps).length])]).length c1), (.slice a2 (chunkC smps).length c2), Value.slice none 0 0] 75 (0, 0)) := by
      rw [hZ3]
      exact (heap_setCell_same Z2 X1.heap.size 2 _ _ (.slice a2 (chunkC smps).length c2) HSq.out).trans rfl
     have eZ3 : Z3.heap[X1.heap.size + 1]? = some (.cells #[.int .i64 0, .int .i64 0, .int .i64 0] 134 (0, 0)) := by
      rw [hZ3]
      exact (heap_setCell_other Z2 _ _ _ (by simp)).trans HEq.out
     rw [← hZ3]
     have HKr := Hj (HKq.out.trans kZ3 (fun k hk e => e)); have HSr := Hj sZ3; have HEr := Hj eZ3; have HTZ3 := Hj kZ3
     clear hZ3 kZ3 sZ3 eZ3 HKq HSq HEq
     have HBL := Hj (build_one (some ⟨w1.heap.size + 1 + 1 + 1, 0, none⟩) la 1 lc x kl Z3 HKY.out ⟨rfl, _, _, rfl, Nat.le_refl _, .inr ⟨_, _, rfl, fun j u hj => by rw [Nat.zero_add, cell_of_row _ _ _ _ _ _ (HKr.out.heap HSb.out (NS _ hSl))]; simpa using hj⟩⟩ ((HH.out.2.2 0 _ _ rfl rfl).1.below ((HKX.out.trans HKr.out (fun k hk e => by have := HKX.out.size; omega))).toBelow))
     have hz3 : X1.heap.size + 2 ≤ Z3.heap.size := qap HEr.out
     go_upto_region 24 with (first
      | (go_at_call 68
         refine HBL.out.mono ?_
         rintro e B3 ⟨vb, hdb, rfl, hrb, hkb⟩
         have hbq := HKr.out.trans (hkb.mono (fun _ _ e => e.elim)) (fun k hk e => e)
         have HPE := Hj (postenc_any pos ta tc tb vb [hdb] [(x, [0])] B3 hrb (by simp) (HRT0.out _ hbq) (by omega) (fun e he => by simp only [List.mem_singleton] at he; subst he; exact HPO.out) (fun e he => by simp only [List.mem_singleton] at he; subst he; exact ⟨by simp, by simp [Mono, prevN], by simp⟩) hN5)
         have HKb3 := Hj hkb; have HBQ := Hj hbq
         clear hrb hkb hbq)
      | (go_at_call 67
         refine HPE.out.mono ?_
         rintro e Y4 ⟨v3, rfl, hv3⟩
         obtain ⟨a3, c3, rfl⟩ := hv3.slice
         rw [qac] at hv3 ⊢
         have HV3 := Hj hv3.1; have hk4 := HKb3.out.trans hv3.2.toKeeps (fun _ _ e => e)
         have HKq : Hid (Keeps (fun k => k = X1.heap.size ∨ k = X1.heap.size + 1) X1 Y4) := Hj (HKr.out.trans (hk4.mono (fun _ _ e => e.elim)) (fun k hk e => e))
         have HSq := Hj (hk4.heap HSr.out (fun e => e)); have HEq := Hj (hk4.heap HEr.out (fun e => e)); have HKz4 := Hj hk4
         clear hv3 hk4 HKr HSr HEr HBL HPE
         have g1 : Y4.cell? ⟨X1.heap.size, 3, none⟩ = some (.slice none 0 0) := by rw [cell_of_row _ _ _ _ _ _ HSq.out]; rfl
         have g2 : Y4.frozen? ⟨X1.heap.size, 3, none⟩ = false := frozen_of_row _ _ _ _ _ HSq.out
         have g3 : Y4.cell? ⟨X1.heap.size + 1, 2, none⟩ = some (.int .i64 0) := by rw [cell_of_row _ _ _ _ _ _ HEq.out]; rfl
         have g4 : Y4.frozen? ⟨X1.heap.size + 1, 2, none⟩ = false := frozen_of_row _ _ _ _ _ HEq.out))
     clear g1 g2 g3 g4
     obtain ⟨Z4, hZ4⟩ : ∃ Z4, Z4 = ((Y4.setCell ⟨X1.heap.size, 3, none⟩ (.slice a3 (postO pos [(x, [0])]).length c3)).setCell ⟨X1.heap.size + 1, 2, none⟩ (.int .i64 0)) := ⟨_, rfl⟩
     have kZ4 : Keeps (fun k => k = X1.heap.size ∨ k = X1.heap.size + 1) Y4 Z4 := by rw [hZ4]; exact ((Keeps.refl _ Y4).setCell (p := ⟨X1.heap.size, 3, none⟩) (fun _ => .inl rfl) _).setCell (p := ⟨X1.heap.size + 1, 2, none⟩) (fun _ => .inr rfl) _
     have sZ4 : Z4.heap[X1.heap.size]? = some (.cells #[(.slice a0 (symO tb).length c0), (.slice a1 (recO pos [([x], [(chunkC smps).length])]).length c1), (.slice a2 (chunkC smps).length c2), (.slice a3 (postO pos [(x, [0])]).length c3)] 75 (0, 0)) := by
      rw [hZ4, heap_setCell_other _ _ _ _ (by simp)]
      exact (heap_setCell_same Y4 X1.heap.size 3 _ _ (.slice a3 (postO pos [(x, [0])]).length c3) HSq.out).trans rfl
     have eZ4 : Z4.heap[X1.heap.size + 1]? = some (.cells #[.int .i64 0, .int .i64 0, .int .i64 0] 134 (0, 0)) := by
      rw [hZ4]
      exact (heap_setCell_same (Y4.setCell ⟨X1.heap.size, 3, none⟩ (.slice a3 (postO pos [(x, [0])]).length c3)) (X1.heap.size + 1) 2 _ _ (.int .i64 0) ((heap_setCell_other Y4 _ _ _ (by simp)).trans HEq.out)).trans rfl
     rw [← hZ4]
     have HKr := Hj (HKq.out.trans kZ4 (fun k hk e => e)); have HSr := Hj sZ4; have HEr := Hj eZ4; have HTZ4 := Hj kZ4
     clear hZ4 kZ4 sZ4 eZ4 HKq HSq HEq
     have hAb := HKr.out.heap HAb.out (NS _ (qap HAb.out))
     have hKb := HKr.out.heap HKb.out (NS _ (qap HKb.out))
     have HA4 := Hj hAb; have HK4 := Hj hKb
     clear hAb hKb
     go_wp2_with (refine wpList_load_row rfl 134 _ rfl (X1.heap.size + 1) rfl 134 #[.int .i64 0, .int .i64 0, .int .i64 0] (0, 0) _ HEr.out Tryz.underlying134 rfl (by kernel_rfl) ?_)
     go_loopw [87] (fun i wr => wr = Z4 ∧ (i = .int .i64 0 ∨ i = .int .i64 1 ∨ i = .int .i64 2 ∨ i = .int .i64 3)) (fun i _ => 3 - (intOf i).toNat)
     case atStart => exact ⟨rfl, .inl rfl⟩
     case round =>
      obtain ⟨hwr, hi⟩ := hrel
      obtain rfl := hwr.symm
      rcases hi with rfl | rfl | rfl | rfl
      · go_wp2_with (refine qah _ rfl 134 _ _ rfl _ _ (.int .i64 0) rfl rfl rfl ?_)
        exact ⟨⟨by simp, .inr (.inl rfl)⟩, by simp [intOf]⟩
      · go_wp2_with (refine qah _ rfl 134 _ _ rfl _ _ (.int .i64 0) rfl rfl rfl ?_)
        exact ⟨⟨by simp, .inr (.inr (.inl rfl))⟩, by simp [intOf]⟩
      · go_wp2_with (refine qah _ rfl 134 _ _ rfl _ _ (.int .i64 0) rfl rfl rfl ?_)
        exact ⟨⟨by simp, .inr (.inr (.inr rfl))⟩, by simp [intOf]⟩
      · go_wp2_with (first
         | (refine wpList_load_row rfl 75 _ rfl X1.heap.size rfl 75 #[.slice a0 (symO tb).length c0, .slice a1 (recO pos [([x], [(chunkC smps).length])]).length c1, .slice a2 (chunkC smps).length c2, .slice a3 (postO pos [(x, [0])]).length c3] (0, 0) _ HSr.out Tryz.underlying75 rfl (by kernel_rfl) ?_)
         | (refine wpList_store_row rfl 75 _ _ rfl w.heap.size #[.slice a0 (symO tb).length c0, .slice a1 (recO pos [([x], [(chunkC smps).length])]).length c1, .slice a2 (chunkC smps).length c2, .slice a3 (postO pos [(x, [0])]).length c3] rfl rfl 75 _ HA4.out (by kernel_rfl) rfl (by simp [Value.oneCell']) ?_))
        obtain ⟨W9, hW9⟩ : ∃ W9, W9 = Z4.setRow w.heap.size #[.slice a0 (symO tb).length c0, .slice a1 (recO pos [([x], [(chunkC smps).length])]).length c1, .slice a2 (chunkC smps).length c2, .slice a3 (postO pos [(x, [0])]).length c3] := ⟨_, rfl⟩
        rw [← hW9]
        have k9 : Keeps (fun k => k = w.heap.size) Z4 W9 := by rw [hW9]; exact qbc (Keeps.refl _ _) _ _ (fun _ => rfl)
        have r9 : W9.heap[w.heap.size]? = some (.cells #[.slice a0 (symO tb).length c0, .slice a1 (recO pos [([x], [(chunkC smps).length])]).length c1, .slice a2 (chunkC smps).length c2, .slice a3 (postO pos [(x, [0])]).length c3] 75 (0, 0)) := by rw [hW9]; exact setRow_heap _ _ _ _ _ _ HA4.out
        have hDD := HDD.out
        have d9 := k9.heap HK4.out (by omega)
        clear hW9
        refine ⟨by simp, .inl ⟨_, _, rfl, run_takeDeferred d9, ?_⟩⟩
        have hp : Keeps (fun k => k = D) W9 (W9.putObj D (.deferred none)) := Keeps.putObj _ _ _ rfl
        have k4 := k9.trans (S' := fun k => k = D) hp
        have fin : ∀ (v : Value) (b n : Nat) (xs : List Value), Z4.ownsRow b 5 1 v n xs → (∀ g, v.ownBlock = some g → g ≠ w.heap.size ∧ g ≠ D) → Holds (W9.putObj D (.deferred none)) v xs := fun v b n xs hr hg => qaq (hp.row (k9.row hr (fun g h e => (hg g h).1 e)) (fun g h e => (hg g h).2 e))
        have kA : Keeps (fun k => k = X1.heap.size ∨ k = X1.heap.size + 1) Y2 Z4 := ((HTZ2.out.trans HTZ3.out (fun _ _ e => e)).trans HKz4.out (fun _ _ e => e.elim)).trans HTZ4.out (fun _ _ e => e)
        have kB : Keeps (fun k => k = X1.heap.size ∨ k = X1.heap.size + 1) Y1 Z4 := (HKn.out.trans HKz2.out (fun _ _ e => e.elim)).trans kA (fun _ _ e => e)
        refine ⟨.tuple #[.agg #[.slice a0 (symO tb).length c0, .slice a1 (recO pos [([x], [(chunkC smps).length])]).length c1, .slice a2 (chunkC smps).length c2, .slice a3 (postO pos [(x, [0])]).length c3], .int .i64 0], qcz Tryz.results31 _ _ w.heap.size 75 #[.slice a0 (symO tb).length c0, .slice a1 (recO pos [([x], [(chunkC smps).length])]).length c1, .slice a2 (chunkC smps).length c2, .slice a3 (postO pos [(x, [0])]).length c3] (0, 0) _ rfl (hp.heap r9 (by omega)) Tryz.underlying75 rfl (by kernel_rfl), _, _, _, _, rfl, ?_, ?_, ?_, ?_, ?_⟩
        · exact fin _ _ _ _ (kB.row HV0.out (fun g hg => by have := (HV0.out.lt g hg).1; have := HYS.out; omega)) (fun g hg => by have := (HV0.out.lt g hg).1; have := HYS.out; omega)
        · exact fin _ _ _ _ (kA.row HV1.out (fun g hg => by have := (HV1.out.lt g hg).1; omega)) (fun g hg => by have := (HV1.out.lt g hg).1; omega)
        · exact fin _ _ _ _ (HKr.out.row HDV.out (fun g hg => NS g (HDK.out g hg).2.1)) (fun g hg => ⟨by have := (HDK.out g hg).1; omega, (HDK.out g hg).2.2⟩)
        · have hb3 := HKb3.out.size
          exact fin _ _ _ _ (HTZ4.out.row HV3.out (fun g hg => by have := (HV3.out.lt g hg).1; omega)) (fun g hg => by have := (HV3.out.lt g hg).1; omega)
        · have hwx := HKX.out.size
          exact ((HKX.out.trans HKr.out (fun k hk e => by omega)).trans k9 (fun k hk e => by omega)).trans hp (fun k hk e => by omega)
end
section
set_option maxHeartbeats 2000000
set_option maxRecDepth 100000
open Go.RowKit
theorem encode_one (pos : ByteArray → Nat) (tb : List ByteArray) (ad : Option Addr) (cap : Nat) (hd : Hdr) (x : Lab) (kl : Lit) (smps : List Smp) (w : World) (h : RdB w (.slice ad 1 cap) [hd] [([x], smps)]) (hC : modE [([x], smps)] = 0) (h1 : smps ≠ []) (h2 : smps.length ≤ 120) (hf : FitS smps)
 (hT : TabZ w) (hF : TabF w) (hTC : TabC w) (hk : keyOf Tryz.prog 94 (oneL x) = some kl) (htb : tabO (symsL [([x], smps)]) = strB tb) (hts : ∀ s ∈ tb, s.size ≤ 65535) (htl : tb.length ≤ 1000000) (hA : Asc tb) (hP : Pos tb x.1 (pos x.1) ∧ Pos tb x.2 (pos x.2)) (hN1 : (symO tb).length ≤ 1000000) (hN2 : (chunkC smps).length ≤ 1000000) (hN3 : 1 ≤ (chunkC smps).length)
 (hN4 : (recO pos [([x], [(chunkC smps).length])]).length ≤ 1000000) (hN5 : (postO pos [(x, [0])]).length ≤ 1000000)
 (b0 : ∀ c ∈ symO tb, c < 256) (b1 : ∀ c ∈ recO pos [([x], [(chunkC smps).length])], c < 256) (b2 : ∀ c ∈ chunkC smps, c < 256) (b3 : ∀ c ∈ postO pos [(x, [0])], c < 256) :
 Calls Tryz.prog 11 #[.slice ad 1 cap] w fun e w' => ∃ v, e = .returned (.tuple #[v, .int .i64 0]) ∧ w'.ownsRow w.heap.size 5 1 v (fileO (symO tb) (recO pos [([x], [(chunkC smps).length])]) (chunkC smps) (postO pos [(x, [0])])).length (u8s (fileO (symO tb) (recO pos [([x], [(chunkC smps).length])]) (chunkC smps) (postO pos [(x, [0])]))) ∧ Keeps (fun _ => False) w w' := by
 have HS := Hj (sections_one pos tb ad cap hd x kl smps w h hC h1 h2 hf hT hF hk htb hts htl hA hP hN1 hN2 hN3 (by omega) (by omega))
 have HTC := Hj hTC
 generalize hs0 : symO tb = s0 at *
 generalize hs1 : recO pos [([x], [(chunkC smps).length])] = s1 at *
 generalize hs3 : postO pos [(x, [0])] = s3 at *
 generalize hs2 : chunkC smps = s2 at *
 clear h hC hf hT hF hk htb hts hA hP hTC hs0 hs1 hs3 hs2
 go_enter Tryz.func11, Tryz.ntmps11
 have hcat : ∀ (q : World), Keeps (fun _ => False) w q → TabC q := fun q hq => HTC.out.keeps hq (fun e => e)
 have HCAT := Hj hcat
 clear hcat
 go_wp2_with (first
  | (go_at_call 31
     refine HS.out.mono ?_
     rintro e w1 ⟨v0, v1, v2, v3, rfl, r0, r1, r2, r3, k1⟩
     obtain ⟨a0, n0, c0, rfl⟩ : ∃ d n p, v0 = .slice d n p := by obtain ⟨d, p, h, _⟩ := r0; exact ⟨d, _, p, h⟩
     obtain ⟨a1, n1, c1, rfl⟩ : ∃ d n p, v1 = .slice d n p := by obtain ⟨d, p, h, _⟩ := r1; exact ⟨d, _, p, h⟩
     obtain ⟨a2, n2, c2, rfl⟩ : ∃ d n p, v2 = .slice d n p := by obtain ⟨d, p, h, _⟩ := r2; exact ⟨d, _, p, h⟩
     obtain ⟨a3, n3, c3, rfl⟩ : ∃ d n p, v3 = .slice d n p := by obtain ⟨d, p, h, _⟩ := r3; exact ⟨d, _, p, h⟩
     have R0 := Hj r0; have R1 := Hj r1; have R2 := Hj r2; have R3 := Hj r3; have K1 := Hj k1
     have hrow := heap_alloc_new w1 (.cells #[.slice a0 n0 c0, .slice a1 n1 c1, .slice a2 n2 c2, .slice a3 n3 c3] 75)
     have HROW := Hj hrow
     have hkk := (Keeps.refl (fun _ => False) w1).alloc (.cells #[.slice a0 n0 c0, .slice a1 n1 c1, .slice a2 n2 c2, .slice a3 n3 c3] 75)
     have HKK := Hj hkk
     have HASM := Hj (asm_any _ _ _ _ s0 s1 s2 s3 _ (r0.keeps hkk (fun _ _ e => e)) (r1.keeps hkk (fun _ _ e => e)) (r2.keeps hkk (fun _ _ e => e)) (r3.keeps hkk (fun _ _ e => e)) (by omega) (by omega) (by omega) (by omega) b0 b1 b2 b3 ((HCAT.out _ k1).keeps hkk (fun e => e)))
     clear r0 r1 r2 r3 k1 hrow hkk)
  | (refine wpList_store_row rfl 75 _ _ rfl w1.heap.size #[.slice a0 n0 c0, .slice a1 n1 c1, .slice a2 n2 c2, .slice a3 n3 c3] rfl rfl 75 _ (heap_alloc_new w1 _) (by kernel_rfl) rfl (by simp [Value.oneCell']) ?_
     rw [World.setRow_alloc_new])
  | (refine wpList_load_row rfl 75 _ rfl w1.heap.size rfl 75 _ (0, 0) _ HROW.out Tryz.underlying75 rfl (by kernel_rfl) ?_)
  | (go_at_call 32
     refine HASM.out.mono ?_
     rintro e w2 ⟨v, rfl, hr, k2⟩
     obtain ⟨av, cv, rfl⟩ := qaf hr
     have HR := Hj hr; have K2 := Hj k2
     clear hr k2))
 go_ret2
 exact ⟨_, rfl, qam HR.out (fun g hg => by have := (HR.out.lt g hg).1; have := K1.out.size; have := HKK.out.size; omega), (K1.out.trans HKK.out (fun _ _ e => e)).trans K2.out (fun _ _ e => e)⟩
theorem need_ok (w : World) : Calls Tryz.prog 79 #[.int .i64 0] w fun e w' => e = .returned (.tuple #[]) ∧ w' = w := by
 go_enter Tryz.func79, Tryz.ntmps79
 go_wp2_with fail
 go_end0
 exact ⟨rfl, rfl⟩
theorem mustT_ok (v : Value) (w : World) : Calls Tryz.prog 74 #[v, .int .i64 0] w fun e w' => e = .returned v ∧ w' = w := by
 have hn := fun w => need_ok w
 go_enter Tryz.func74, Tryz.ntmps74
 go_wp2_with (go_at_call 79; refine (hn _).mono ?_; rintro e w1 ⟨rfl, rfl⟩)
 go_ret
 exact ⟨rfl, rfl⟩
theorem mustR_ok (v : Value) (w : World) : Calls Tryz.prog 76 #[v, .int .i64 0] w fun e w' => e = .returned v ∧ w' = w := by
 have hn := fun w => need_ok w
 go_enter Tryz.func76, Tryz.ntmps76
 go_wp2_with (go_at_call 79; refine (hn _).mono ?_; rintro e w1 ⟨rfl, rfl⟩)
 go_ret
 exact ⟨rfl, rfl⟩
theorem mustS_ok (v : Value) (w : World) : Calls Tryz.prog 80 #[v, .int .i64 0] w fun e w' => e = .returned v ∧ w' = w := by
 have hn := fun w => need_ok w
 go_enter Tryz.func80, Tryz.ntmps80
 go_wp2_with (go_at_call 79; refine (hn _).mono ?_; rintro e w1 ⟨rfl, rfl⟩)
 go_ret
 exact ⟨rfl, rfl⟩
theorem mustP_ok (v : Value) (w : World) : Calls Tryz.prog 83 #[v, .int .i64 0] w fun e w' => e = .returned v ∧ w' = w := by
 have hn := fun w => need_ok w
 go_enter Tryz.func83, Tryz.ntmps83
 go_wp2_with (go_at_call 79; refine (hn _).mono ?_; rintro e w1 ⟨rfl, rfl⟩)
 go_ret
 exact ⟨rfl, rfl⟩
theorem caught_ok (p q : Value) (w : World) : Calls Tryz.prog 73 #[.nilIface, p, q] w fun e w' => e = .returned (.tuple #[]) ∧ w' = w := by
 go_enter Tryz.func73, Tryz.ntmps73
 go_wp2_with fail
 first | go_end0 | (refine bodyPost_ret (results_none rfl _ _ _) rfl ?_)
 exact ⟨rfl, rfl⟩
end
section
set_option maxHeartbeats 2000000
set_option maxRecDepth 100000
open Go.RowKit
theorem qbq (w : World) (n : Nat) : Keeps (fun _ => False) w (w.drewN n) := ⟨rfl, rfl, rfl, Nat.le_refl _, fun _ _ _ => rfl⟩
def RRd (w : World) (q p : Nat) (tv : Value) (n : Nat) : Prop := w.heap[q]? = some (.cells #[.pointer (some ⟨p, 0, none⟩), tv, .int .i64 (n : Int)] 246 (0, 0))
theorem RRd.c0 {w : World} {q p : Nat} {tv : Value} {n : Nat} (h : RRd w q p tv n) : w.cell? ⟨q, 0, none⟩ = some (.pointer (some ⟨p, 0, none⟩)) := by rw [cell_of_row _ _ _ _ _ _ h]; rfl
theorem RRd.c1 {w : World} {q p : Nat} {tv : Value} {n : Nat} (h : RRd w q p tv n) : w.cell? ⟨q, 1, none⟩ = some tv := by rw [cell_of_row _ _ _ _ _ _ h]; rfl
theorem RRd.c2 {w : World} {q p : Nat} {tv : Value} {n : Nat} (h : RRd w q p tv n) : w.cell? ⟨q, 2, none⟩ = some (.int .i64 (n : Int)) := by rw [cell_of_row _ _ _ _ _ _ h]; rfl
theorem RRd.ne {w : World} {q p : Nat} {tv v : Value} {n i e : Nat} {l : List Nat} (h : RRd w q p tv n) (hr : IsRd w p v l i e) : q ≠ p := qag h hr.blk (by decide)
theorem RRd.keeps {S : Nat → Prop} {a b : World} {q p : Nat} {tv : Value} {n : Nat} (h : RRd a q p tv n) (k : Keeps S a b) (hS : ¬ S q) : RRd b q p tv n := k.heap h hS
theorem rcount_ok {q p : Nat} {tv v : Value} {l : List Nat} {i n j : Nat} {w : World} (hq : RRd w q p tv l.length) (h : IsRd w p v l i 0) (hr : rdUint l i 0 18446744073709551615 = (n, j, 0)) (hn : n ≤ l.length - j) (hl : l.length ≤ 1000000000) :
 Calls Tryz.prog 182 #[.pointer (some ⟨q, 0, none⟩)] w fun e w' => e = .returned (.int .i64 (n : Int)) ∧ IsRd w' p v l j 0 ∧ Keeps (fun k => k = p) w w' := by
 have c0 := hq.c0
 have hne := hq.ne h
 have HU := Hj (qdp h 18446744073709551615)
 rw [hr] at HU
 have HQ := Hj hq
 clear h hr hq
 go_enter Tryz.func182, Tryz.ntmps182
 go_upto_region 2 with (go_at_call 188; refine HU.out.mono ?_; rintro e w1 ⟨rfl, hrd, hk⟩)
 have c0' := (HQ.out.keeps hk hne).c0
 have c2' := (HQ.out.keeps hk hne).c2
 have hjl := hrd.le
 have hat := fun k => wat_any (hrd.keep (qbq w1 k))
 have her := fun k => qch (hrd.keep (qbq w1 k))
 have hw1 : IntKind.i64.wrap ((l.length : Int) - (j : Int)) = ((l.length - j : Nat) : Int) := by rw [IntWalk.i64_in _ (by omega)]; omega
 have hw2 : IntKind.u64.wrap ((l.length - j : Nat) : Int) = ((l.length - j : Nat) : Int) := by rw [IntWalk.u64_in _ (by omega)]
 have hw3 : decide (l.length - j < n) = false := by simp; omega
 have HRD := Hj hrd; have HK := Hj hk
 obtain ⟨L, hL⟩ : ∃ L, L = l.length - j := ⟨_, rfl⟩
 rw [← hL] at hw1 hw2 hw3
 clear hrd hk c0 hL
 go_quiet (first | (go_at_call 134; exact Calls.quiet_of_same (her _)) | (go_at_call 87; exact Calls.quiet_of_same (hat _)))
 have hw4 : IntKind.i64.wrap (n : Int) = n := by rw [IntWalk.i64_in _ (by omega)]
 go_wp2_with (go_at_call 134; refine (her _).mono ?_; rintro e w2 ⟨rfl, rfl⟩)
 go_ret
 exact ⟨rfl, HRD.out.keep (qbq _ _), HK.out.drewN _⟩
theorem rsymbol_ok {q p : Nat} {ta : Option Addr} {tc : Nat} {v : Value} {l : List Nat} {tb : List ByteArray} {i k j : Nat} {s : ByteArray} {w : World} (hq : RRd w q p (.slice ta tb.length tc) l.length) (h : IsRd w p v l i 0) (hT : RdT w (.slice ta tb.length tc) tb) (hTp : ∀ g, (Value.slice ta tb.length tc).ownBlock = some g → g ≠ p) (hr : rdUint l i 0 18446744073709551615 = (k, j, 0)) (hs : tb[k]? = some s) (hl : tb.length ≤ 1000000000) :
 Calls Tryz.prog 213 #[.pointer (some ⟨q, 0, none⟩)] w fun e w' => e = .returned (.string s) ∧ IsRd w' p v l j 0 ∧ Keeps (fun k => k = p) w w' := by
 have c0 := hq.c0
 have hne := hq.ne h
 have HU := Hj (qdp h 18446744073709551615)
 rw [hr] at HU
 have HQ := Hj hq; have HT := Hj hT; have HTP := Hj hTp; have HS := Hj hs
 have hk : k < tb.length := (List.getElem?_eq_some_iff.1 hs).1
 clear h hr hq hT hTp hs
 go_enter Tryz.func213, Tryz.ntmps213
 go_upto_region 2 with (go_at_call 188; refine HU.out.mono ?_; rintro e w1 ⟨rfl, hrd, hk⟩)
 have hq1 := HQ.out.keeps hk hne
 have c0' := hq1.c0
 have c1' := hq1.c1
 have her := qch hrd
 have hT1 : RdT w1 (.slice ta tb.length tc) tb := Rd.keeps HT.out hk (fun g hg e => HTP.out g hg e)
 obtain ⟨b, o, ea, cs⟩ := RdT.at hT1 HS.out
 subst ea
 have hw2 : IntKind.u64.wrap (tb.length : Int) = (tb.length : Int) := by rw [IntWalk.u64_in _ (by omega)]
 have hw3 : decide (tb.length ≤ k) = false := by simp; omega
 have HRD := Hj hrd; have HK := Hj hk
 obtain ⟨L, hL⟩ : ∃ L, L = tb.length := ⟨_, rfl⟩
 clear hrd hk c0 hT1 hq1
 have hk0 : (0 : Int) ≤ k := by omega
 have hk1 : (k : Int) < tb.length := by omega
 go_wp2_with (go_at_call 134; refine her.mono ?_; rintro e w2 ⟨rfl, rfl⟩)
 go_ret
 exact ⟨rfl, HRD.out, HK.out⟩
theorem rlength_ok {q p : Nat} {tv v : Value} {l : List Nat} {i k j : Nat} {w : World} (hq : RRd w q p tv l.length) (h : IsRd w p v l i 0) (hr : rdUint l i 0 18446744073709551615 = (k, j, 0)) (h1 : 1 ≤ k) (h2 : k ≤ 2147483647) :
 Calls Tryz.prog 186 #[.pointer (some ⟨q, 0, none⟩)] w fun e w' => e = .returned (.int .i64 (k : Int)) ∧ IsRd w' p v l j 0 ∧ Keeps (fun k => k = p) w w' := by
 have c0 := hq.c0
 have HU := Hj (qdp h 18446744073709551615)
 rw [hr] at HU
 have a1 : (1 : Int) ≤ k := by omega
 have a2 : (k : Int) ≤ 2147483647 := by omega
 clear h hr hq
 go_enter Tryz.func186, Tryz.ntmps186
 go_wp2_with (go_at_call 188; refine HU.out.mono ?_; rintro e w1 ⟨rfl, hrd, hk⟩)
 go_ret
 exact ⟨rfl, hrd, hk⟩
theorem rlabel_ok {q p : Nat} {ta : Option Addr} {tc : Nat} {v : Value} {l : List Nat} {tb : List ByteArray} {i k j k2 j2 : Nat} {s s2 : ByteArray} {w : World} (hq : RRd w q p (.slice ta tb.length tc) l.length) (h : IsRd w p v l i 0) (hT : RdT w (.slice ta tb.length tc) tb) (hTp : ∀ g, (Value.slice ta tb.length tc).ownBlock = some g → g ≠ p) (hr : rdUint l i 0 18446744073709551615 = (k, j, 0)) (hs : tb[k]? = some s)
 (hr2 : rdUint l j 0 18446744073709551615 = (k2, j2, 0)) (hs2 : tb[k2]? = some s2) (hl : tb.length ≤ 1000000000) :
 Calls Tryz.prog 184 #[.pointer (some ⟨q, 0, none⟩)] w fun e w' => e = .returned (.agg #[.string s, .string s2]) ∧ IsRd w' p v l j2 0 ∧ Keeps (fun k => k = p) w w' := by
 obtain ⟨W0, hW0⟩ : ∃ W0, W0 = w.alloc (.cells #[.string ⟨#[]⟩, .string ⟨#[]⟩] 94) := ⟨_, rfl⟩
 have hk0 : Keeps (fun _ => False) w W0 := by rw [hW0]; exact (Keeps.refl _ _).alloc _
 have hr0 : W0.heap[w.heap.size]? = some (.cells #[.string ⟨#[]⟩, .string ⟨#[]⟩] 94 (0, 0)) := by rw [hW0]; exact heap_alloc_new w _
 have hne := hq.ne h
 have hlt := h.lt
 have HS1 := Hj (rsymbol_ok (hq.keeps hk0 (fun e => e)) (h.keep hk0) (Rd.keeps hT hk0 (fun _ _ e => e)) hTp hr hs hl)
 have hgo : ∀ w1, IsRd w1 p v l j 0 → Keeps (fun k => k = p) W0 w1 → Calls Tryz.prog 213 #[.pointer (some ⟨q, 0, none⟩)] w1 fun e w' => e = .returned (.string s2) ∧ IsRd w' p v l j2 0 ∧ Keeps (fun k => k = p) w1 w' := fun w1 hi hk => rsymbol_ok ((hq.keeps hk0 (fun e => e)).keeps hk hne) hi (Rd.keeps (Rd.keeps hT hk0 (fun _ _ e => e)) hk (fun g hg e => hTp g hg e)) hTp hr2 hs2 hl
 have HGO := Hj hgo; have HW0 := Hj hW0; have HR0 := Hj hr0; have HK0 := Hj hk0
 clear hgo hr0 hk0 hq h hT hTp hr hs hr2 hs2 hW0
 go_enter Tryz.func184, Tryz.ntmps184
 go_upto_region 2 with (go_at_call 213; rw [← HW0.out]; refine HS1.out.mono ?_; rintro e w1 ⟨rfl, hi1, hk1⟩)
 have HG2 := Hj (HGO.out w1 hi1 hk1)
 have HK1 := Hj hk1
 clear hi1 hk1
 have hb1 : Hid (∀ w2, Keeps (fun k => k = p) w1 w2 → w2.heap[w.heap.size]? = some (.cells #[.string ⟨#[]⟩, .string ⟨#[]⟩] 94 (0, 0))) := Hj (fun w2 hk => hk.heap (HK1.out.heap HR0.out (by omega)) (by omega))
 go_wp2_with (first
  | (go_at_call 213
     refine HG2.out.mono ?_
     rintro e w2 ⟨rfl, hi2, hk2⟩
     have HI2 := Hj hi2; have HK2 := Hj hk2
     clear hi2 hk2)
  | (refine wpList_store_row rfl 94 _ _ rfl w.heap.size #[.string s, .string s2] rfl rfl 94 _ (hb1.out _ HK2.out) (by kernel_rfl) rfl (by simp [Value.oneCell']) ?_))
 obtain ⟨W3, hW3⟩ : ∃ W3, W3 = w2.setRow w.heap.size #[.string s, .string s2] := ⟨_, rfl⟩
 rw [← hW3]
 have k3 : Keeps (fun k => k = w.heap.size) w2 W3 := by rw [hW3]; exact qbc (Keeps.refl _ _) _ _ (fun _ => rfl)
 have r3 : W3.heap[w.heap.size]? = some (.cells #[.string s, .string s2] 94 (0, 0)) := by rw [hW3]; exact setRow_heap _ _ _ _ _ _ (hb1.out _ HK2.out)
 refine bodyPost_ret (results_cell_row Tryz.results184 _ _ w.heap.size 94 _ (0, 0) _ rfl r3 Tryz.underlying94 rfl (by kernel_rfl)) rfl ?_
 refine ⟨rfl, HI2.out.keeps k3 (by omega) (fun g hg e => ?_), ?_⟩
 · obtain ⟨cur, hc⟩ := qaj HI2.out.row hg
   exact qag hc (hb1.out _ HK2.out) (by decide) e
 · exact ((((HK0.out.mono (S' := fun k => k = p) (fun _ _ e => e.elim)).trans HK1.out (fun _ _ e => e)).trans HK2.out (fun _ _ e => e)).trans k3 (fun k hk e => by omega))
end
end Go.Proofs.YtfpcgcbehdogjaaGreatDoor
