/-
  WALKS: the reference's label; one sample of a line (printed by gen_arc.py).
-/
import Derived.Test.YtnoodiibkchaaaaGreatDoorWArcD
namespace Go.Proofs.YtnoodiibkchaaaaGreatDoor
open Go.RowKit
attribute [local go_sem ↓] Go.wp_at_zero Go.wp_at_succ

theorem smp_none1 {t : ByteArray} (h : intV t 0 = none) : smpV t = none := by unfold smpV; rw [h]; rfl
theorem smp_none2 {t : ByteArray} {q : Nat} {y : Int} (h : intV t 0 = some (y, q)) (h2 : ¬ (q < t.size ∧ bAt t q = 32)) : smpV t = none := by
  unfold smpV; rw [h, Option.bind_some]; simp only; rw [if_neg h2]
theorem smp_none3 {t : ByteArray} {q : Nat} {y : Int} (h : intV t 0 = some (y, q)) (h2 : q < t.size ∧ bAt t q = 32) (h3 : wordV t (q + 1) = none) : smpV t = none := by
  unfold smpV; rw [h, Option.bind_some]; simp only; rw [if_pos h2, h3]; rfl
theorem smp_none4 {t : ByteArray} {q z r : Nat} {y : Int} (h : intV t 0 = some (y, q)) (h2 : q < t.size ∧ bAt t q = 32) (h3 : wordV t (q + 1) = some (z, r)) (h4 : ¬ r = t.size) : smpV t = none := by
  unfold smpV; rw [h, Option.bind_some]; simp only; rw [if_pos h2, h3, Option.bind_some]; simp only; rw [if_neg h4]
theorem smp_some {t : ByteArray} {q z r : Nat} {y : Int} (h : intV t 0 = some (y, q)) (h2 : q < t.size ∧ bAt t q = 32) (h3 : wordV t (q + 1) = some (z, r)) (h4 : r = t.size) : smpV t = some (y, (z : Int)) := by
  unfold smpV; rw [h, Option.bind_some]; simp only; rw [if_pos h2, h3, Option.bind_some]; simp only; rw [if_pos h4]
def SmpR (t : ByteArray) (e : Ending) : Prop :=
  (∃ x : Smp, smpV t = some x ∧ e = .returned (.tuple #[.agg #[.int .i64 x.1, .int .u64 x.2], .bool true])) ∨
  (smpV t = none ∧ ∃ u v : Int, e = .returned (.tuple #[.agg #[.int .i64 u, .int .u64 v], .bool false]))
def SmpR2 (t : ByteArray) (e : Ending) : Prop :=
  (∃ x : Smp, smpV t = some x ∧ e = .returned (.tuple #[.agg #[.int .i64 x.1, .int .u64 x.2], .int .i64 0])) ∨
  (smpV t = none ∧ e = .returned (.tuple #[.agg #[.int .i64 0, .int .u64 0], .int .i64 24]))
set_option maxHeartbeats 4000000 in
set_option maxRecDepth 100000 in
theorem refLabel_any (t : ByteArray) (a : Nat) (w : World) (ha : a ≤ t.size) (hs : t.size ≤ 1099511627776) (hT : Tabs w) :
    Calls Tryz.prog 47 #[.string t, .int .i64 (a : Nat)] w fun e w' => LblR2 t a e ∧ Below w.heap.size w w' := by
  have HT := Lib.hid hT
  obtain ⟨W0, hW0⟩ : ∃ W0, W0 = w.alloc (.cells #[.string { data := #[] }, .string { data := #[] }] 46) := ⟨_, rfl⟩
  have hb0 : Below w.heap.size w W0 := by rw [hW0]; exact (Below.refl _ _).alloc (Nat.le_refl _) _
  have hT0 := hT.below hb0
  have HE := Lib.hid (refUnquote_any t a W0 ha hs hT0)
  have HB0 := Lib.hid hb0
  have hc0 : W0.heap[w.heap.size]? = some (.cells #[.string { data := #[] }, .string { data := #[] }] 46 (0, 0)) := by rw [hW0]; exact heap_alloc_new w _
  clear hT hb0 hT0
  have fin : ∀ (W : World) (u v : Value), Below W0.heap.size W0 W → Below w.heap.size w ((W.setCell ⟨w.heap.size, 0, none⟩ u).setCell ⟨w.heap.size, 1, none⟩ v) := fun W u v h =>
    ((HB0.out.trans (h.mono HB0.out.size)).setCell (p := ⟨w.heap.size, 0, none⟩) (Nat.le_refl _) _).setCell (p := ⟨w.heap.size, 1, none⟩) (Nat.le_refl _) _
  have HFIN := Lib.hid fin
  have CC : Hid (∀ W u v, Below W0.heap.size W0 W → Two W w.heap.size (.string { data := #[] }) (.string { data := #[] }) u v) := Lib.hid (fun W u v h =>
    two_cells W _ _ _ 46 u v (by rw [h.block _ (Array.getElem?_eq_some_iff.1 hc0).1]; exact hc0))
  clear fin hc0
  cases h1 : unqV t a with
  | none =>
    rw [h1] at HE
    have HV := Lib.hid (lbl_none1 h1)
    clear h1
    go_enter Tryz.func47, Tryz.ntmps47
    go_wp2_with (go_at_call 77; rw [← hW0]; ((with_reducible refine HE.out.mono ?_); rintro e w1 ⟨rfl, hb1⟩; simp only [unqR]; obtain ⟨g0, g1, g2, g3, g4, g5, q0, q1⟩ := CC.out w1 (.string { data := #[] }) (.string { data := #[] }) hb1))
    refine bodyPost_ret (v := .tuple #[.agg #[.string { data := #[] }, .string { data := #[] }], .int .i64 0]) (by simp [results, Tryz.results47, go_sem, q0, q1]) rfl ⟨.inr ⟨HV.out, _, _, rfl⟩, HFIN.out _ _ _ hb1⟩
  | some p =>
    obtain ⟨y, q⟩ := p
    rw [h1] at HE
    obtain ⟨b1, b2, b3⟩ := unq_spec h1
    have hq0 : (0 : Int) ≤ (q : Int) := by omega
    clear b1 b3
    by_cases hlt : q < t.size
    · have hq1 : (q : Int) < (t.size : Int) := by omega
      have hx0 : (t[q]'hlt).toNat = bAt t q := (bAt_get t q hlt).symm
      by_cases h61 : bAt t q = 61
      · have h2 : q < t.size ∧ bAt t q = 61 := ⟨hlt, h61⟩
        rw [h61] at hx0
        have HE2 := Lib.hid (fun W (h : Below W0.heap.size W0 W) => refUnquote_any t (q + 1) W h2.1 hs (HT.out.below (HB0.out.trans (h.mono HB0.out.size))))
        cases h3 : unqV t (q + 1) with
        | none =>
          rw [h3] at HE2
          have HV := Lib.hid (lbl_none3 h1 h2 h3)
          have HE3 : Hid (∀ W, Below W0.heap.size W0 W → Calls Tryz.prog 77 #[.string t, .int .i64 ((q : Int) + 1)] W fun e w' => e = .returned (.tuple #[.string { data := #[] }, .int .i64 0, .int .i64 24]) ∧ Below W.heap.size W w') := Lib.hid HE2.out
          clear h1 h2 h3 HE2 h61
          go_enter Tryz.func47, Tryz.ntmps47
          go_wp2_with (go_at_call 77; rw [← hW0]; ((with_reducible refine HE.out.mono ?_); rintro e w1 ⟨rfl, hb1⟩; simp only [unqR]))
          go_wp2_with (go_at_call 77; ((with_reducible refine (HE3.out _ hb1).mono ?_); rintro e w3 ⟨rfl, hb3⟩; have hb4 := hb1.trans (hb3.mono hb1.size); obtain ⟨g0, g1, g2, g3, g4, g5, q0, q1⟩ := CC.out w3 (.string { data := #[] }) (.string { data := #[] }) hb4))
          refine bodyPost_ret (v := .tuple #[.agg #[.string { data := #[] }, .string { data := #[] }], .int .i64 0]) (by simp [results, Tryz.results47, go_sem, q0, q1]) rfl ⟨.inr ⟨HV.out, _, _, rfl⟩, HFIN.out _ _ _ hb4⟩
        | some p2 =>
          obtain ⟨z, r⟩ := p2
          rw [h3] at HE2
          have HV := Lib.hid (lbl_some h1 h2 h3)
          have HE3 : Hid (∀ W, Below W0.heap.size W0 W → Calls Tryz.prog 77 #[.string t, .int .i64 ((q : Int) + 1)] W fun e w' => e = .returned (.tuple #[.string (strOf z), .int .i64 (r : Nat), .int .i64 0]) ∧ Below W.heap.size W w') := Lib.hid HE2.out
          clear h1 h2 h3 HE2 h61
          go_enter Tryz.func47, Tryz.ntmps47
          go_wp2_with (go_at_call 77; rw [← hW0]; ((with_reducible refine HE.out.mono ?_); rintro e w1 ⟨rfl, hb1⟩; simp only [unqR]))
          go_wp2_with (go_at_call 77; ((with_reducible refine (HE3.out _ hb1).mono ?_); rintro e w3 ⟨rfl, hb3⟩; have hb4 := hb1.trans (hb3.mono hb1.size); obtain ⟨g0, g1, g2, g3, g4, g5, q0, q1⟩ := CC.out w3 (.string (strOf y)) (.string (strOf z)) hb4))
          refine bodyPost_ret (v := .tuple #[.agg #[.string (strOf y), .string (strOf z)], .int .i64 (r : Nat)]) (by simp [results, Tryz.results47, go_sem, q0, q1]) rfl ⟨.inl ⟨_, _, HV.out, rfl⟩, HFIN.out _ _ _ hb4⟩
      · have HV := Lib.hid (lbl_none2 h1 (fun h => h61 h.2))
        obtain ⟨b, hb⟩ : ∃ b, b = bAt t q := ⟨_, rfl⟩
        rw [← hb] at hx0 h61
        have hnm : ((b : Int) != 61) = true := by simp; omega
        clear h1 h61 hb
        go_enter Tryz.func47, Tryz.ntmps47
        go_wp2_with (go_at_call 77; rw [← hW0]; ((with_reducible refine HE.out.mono ?_); rintro e w1 ⟨rfl, hb1⟩; simp only [unqR]; obtain ⟨g0, g1, g2, g3, g4, g5, q0, q1⟩ := CC.out w1 (.string { data := #[] }) (.string { data := #[] }) hb1))
        refine bodyPost_ret (v := .tuple #[.agg #[.string { data := #[] }, .string { data := #[] }], .int .i64 0]) (by simp [results, Tryz.results47, go_sem, q0, q1]) rfl ⟨.inr ⟨HV.out, _, _, rfl⟩, HFIN.out _ _ _ hb1⟩
    · have HV := Lib.hid (lbl_none2 h1 (fun h => hlt h.1))
      have hq1 : (t.size : Int) ≤ (q : Int) := by omega
      clear h1 hlt
      go_enter Tryz.func47, Tryz.ntmps47
      go_wp2_with (go_at_call 77; rw [← hW0]; ((with_reducible refine HE.out.mono ?_); rintro e w1 ⟨rfl, hb1⟩; simp only [unqR]; obtain ⟨g0, g1, g2, g3, g4, g5, q0, q1⟩ := CC.out w1 (.string { data := #[] }) (.string { data := #[] }) hb1))
      refine bodyPost_ret (v := .tuple #[.agg #[.string { data := #[] }, .string { data := #[] }], .int .i64 0]) (by simp [results, Tryz.results47, go_sem, q0, q1]) rfl ⟨.inr ⟨HV.out, _, _, rfl⟩, HFIN.out _ _ _ hb1⟩
set_option maxHeartbeats 4000000 in
set_option maxRecDepth 100000 in
theorem sample_any (t : ByteArray) (w : World) (hs : t.size ≤ 1099511627776) (hT : TabsN w) :
    Calls Tryz.prog 36 #[.string t] w fun e w' => SmpR t e ∧ Below w.heap.size w w' := by
  have HT := Lib.hid hT
  obtain ⟨W0, hW0⟩ : ∃ W0, W0 = w.alloc (.cells #[.int .i64 0, .int .u64 0] 56) := ⟨_, rfl⟩
  have hb0 : Below w.heap.size w W0 := by rw [hW0]; exact (Below.refl _ _).alloc (Nat.le_refl _) _
  have hT0 := hT.below hb0
  have HE := Lib.hid (int_any t 0 W0 (Nat.zero_le _) hs hT0)
  have HB0 := Lib.hid hb0
  have hc0 : W0.heap[w.heap.size]? = some (.cells #[.int .i64 0, .int .u64 0] 56 (0, 0)) := by rw [hW0]; exact heap_alloc_new w _
  clear hT hb0 hT0
  have fin : ∀ (W : World) (u v : Value), Below W0.heap.size W0 W → Below w.heap.size w ((W.setCell ⟨w.heap.size, 0, none⟩ u).setCell ⟨w.heap.size, 1, none⟩ v) := fun W u v h =>
    ((HB0.out.trans (h.mono HB0.out.size)).setCell (p := ⟨w.heap.size, 0, none⟩) (Nat.le_refl _) _).setCell (p := ⟨w.heap.size, 1, none⟩) (Nat.le_refl _) _
  have HFIN := Lib.hid fin
  have CC : Hid (∀ W u v, Below W0.heap.size W0 W → Two W w.heap.size (.int .i64 0) (.int .u64 0) u v) := Lib.hid (fun W u v h =>
    two_cells W _ _ _ 56 u v (by rw [h.block _ (Array.getElem?_eq_some_iff.1 hc0).1]; exact hc0))
  clear fin hc0
  have h00 : intV t 0 = intV t 0 := rfl
  clear h00
  cases h1 : intV t 0 with
  | none =>
    rw [h1] at HE
    have HV := Lib.hid (smp_none1 h1)
    clear h1
    go_enter Tryz.func36, Tryz.ntmps36
    go_wp2_with (go_at_call 65; rw [← hW0]; (refine HE.out.mono ?_; rintro e w1 ⟨rfl, hb1⟩; simp only [intR]; obtain ⟨g0, g1, g2, g3, g4, g5, q0, q1⟩ := CC.out w1 (.int .i64 0) (.int .u64 0) hb1))
    refine bodyPost_ret (v := .tuple #[.agg #[.int .i64 0, .int .u64 0], .bool false]) (by simp [results, Tryz.results36, go_sem, q0, q1]) rfl ⟨.inr ⟨HV.out, _, _, rfl⟩, HFIN.out _ _ _ hb1⟩
  | some p =>
    obtain ⟨y, q⟩ := p
    rw [h1] at HE
    obtain ⟨b2, b3, b4⟩ := int_spec h1
    have hq0 : (0 : Int) ≤ (q : Int) := by omega
    have hqle : (q : Int) ≤ (t.size : Int) := by omega
    clear b3 b4
    have HP := Lib.hid (fun w => hasp_any t q w 32 (by decide))
    by_cases hlt : q < t.size
    · by_cases h61 : bAt t q = 32
      · have h2 : q < t.size ∧ bAt t q = 32 := ⟨hlt, h61⟩
        have HP2 : Hid (∀ w, Calls Tryz.prog 44 #[.string (t.extract q t.size), .string { data := #[32] }] w fun e w' => e = .returned (.bool true) ∧ w = w') := Lib.hid (fun w => by
          have h := HP.out w
          rw [decide_eq_true h2] at h; exact h)
        have hq1 : (q : Int) < (t.size : Int) := by omega
        have HE2 := Lib.hid (fun W (h : Below W0.heap.size W0 W) => (word_any t (q + 1) W h2.1 hs (HT.out.below (HB0.out.trans (h.mono HB0.out.size))).a.tabD))
        cases h3 : wordV t (q + 1) with
        | none =>
          rw [h3] at HE2
          have HV := Lib.hid (smp_none3 h1 h2 h3)
          have HE3 : Hid (∀ W, Below W0.heap.size W0 W → Calls Tryz.prog 66 #[.string t, .int .i64 ((q : Int) + 1)] W fun e w' => e = .returned (.tuple #[.int .u64 0, .int .i64 0, .int .i64 24]) ∧ Below W.heap.size W w') := Lib.hid (fun W h => HE2.out W h)
          clear h1 h2 h3 HE2 h61 HP
          go_enter Tryz.func36, Tryz.ntmps36
          go_wp2_with (go_at_call 65; rw [← hW0]; (refine HE.out.mono ?_; rintro e w1 ⟨rfl, hb1⟩; simp only [intR]))
          go_wp2_with (go_at_call 44; refine (HP2.out _).mono ?_; rintro e w2 ⟨rfl, rfl⟩)
          go_wp2_with (go_at_call 66; (refine (HE3.out _ hb1).mono ?_; rintro e w3 ⟨rfl, hb3⟩; have hb4 := hb1.trans (hb3.mono hb1.size); obtain ⟨g0, g1, g2, g3, g4, g5, q0, q1⟩ := CC.out w3 (.int .i64 y) (.int .u64 0) hb4))
          refine bodyPost_ret (v := .tuple #[.agg #[.int .i64 y, .int .u64 0], .bool false]) (by simp [results, Tryz.results36, go_sem, q0, q1]) rfl ⟨.inr ⟨HV.out, _, _, rfl⟩, HFIN.out _ _ _ hb4⟩
        | some p2 =>
          obtain ⟨z, r⟩ := p2
          rw [h3] at HE2
          have HE3 : Hid (∀ W, Below W0.heap.size W0 W → Calls Tryz.prog 66 #[.string t, .int .i64 ((q : Int) + 1)] W fun e w' => e = .returned (.tuple #[.int .u64 (z : Nat), .int .i64 (r : Nat), .int .i64 0]) ∧ Below W.heap.size W w') := Lib.hid (fun W h => HE2.out W h)
          by_cases h4 : r = t.size
          · have HV := Lib.hid (smp_some h1 h2 h3 h4)
            have h4' : (r : Int) = (t.size : Int) := by omega
            clear h1 h2 h3 HE2 h61 HP
            subst h4
            clear h4'
            go_enter Tryz.func36, Tryz.ntmps36
            go_wp2_with (go_at_call 65; rw [← hW0]; (refine HE.out.mono ?_; rintro e w1 ⟨rfl, hb1⟩; simp only [intR]))
            go_wp2_with (go_at_call 44; refine (HP2.out _).mono ?_; rintro e w2 ⟨rfl, rfl⟩)
            go_wp2_with (go_at_call 66; (refine (HE3.out _ hb1).mono ?_; rintro e w3 ⟨rfl, hb3⟩; have hb4 := hb1.trans (hb3.mono hb1.size); obtain ⟨g0, g1, g2, g3, g4, g5, q0, q1⟩ := CC.out w3 (.int .i64 y) (.int .u64 (z : Nat)) hb4))
            refine bodyPost_ret (v := .tuple #[.agg #[.int .i64 y, .int .u64 (z : Nat)], .bool true]) (by simp [results, Tryz.results36, go_sem, q0, q1]) rfl ⟨.inl ⟨_, HV.out, rfl⟩, HFIN.out _ _ _ hb4⟩
          · have HV := Lib.hid (smp_none4 h1 h2 h3 h4)
            have h4' : ((r : Int) == (t.size : Int)) = false := by rw [beq_eq_false_iff_ne]; omega
            have h4n : ((r : Int) != (t.size : Int)) = true := by simp; omega
            clear h1 h2 h3 HE2 h61 h4 HP
            go_enter Tryz.func36, Tryz.ntmps36
            go_wp2_with (go_at_call 65; rw [← hW0]; (refine HE.out.mono ?_; rintro e w1 ⟨rfl, hb1⟩; simp only [intR]))
            go_wp2_with (go_at_call 44; refine (HP2.out _).mono ?_; rintro e w2 ⟨rfl, rfl⟩)
            go_wp2_with (go_at_call 66; (refine (HE3.out _ hb1).mono ?_; rintro e w3 ⟨rfl, hb3⟩; have hb4 := hb1.trans (hb3.mono hb1.size); obtain ⟨g0, g1, g2, g3, g4, g5, q0, q1⟩ := CC.out w3 (.int .i64 y) (.int .u64 (z : Nat)) hb4))
            refine bodyPost_ret (v := .tuple #[.agg #[.int .i64 y, .int .u64 (z : Nat)], .bool false]) (by simp [results, Tryz.results36, go_sem, q0, q1]) rfl ⟨.inr ⟨HV.out, _, _, rfl⟩, HFIN.out _ _ _ hb4⟩
      · have HV := Lib.hid (smp_none2 h1 (fun h => h61 h.2))
        have HP2 : Hid (∀ w, Calls Tryz.prog 44 #[.string (t.extract q t.size), .string { data := #[32] }] w fun e w' => e = .returned (.bool false) ∧ w = w') := Lib.hid (fun w => by
          have h := HP.out w
          rw [decide_eq_false (fun h => h61 h.2)] at h; exact h)
        clear h1 HP h61
        go_enter Tryz.func36, Tryz.ntmps36
        go_wp2_with (go_at_call 65; rw [← hW0]; (refine HE.out.mono ?_; rintro e w1 ⟨rfl, hb1⟩; simp only [intR]; obtain ⟨g0, g1, g2, g3, g4, g5, q0, q1⟩ := CC.out w1 (.int .i64 0) (.int .u64 0) hb1))
        go_wp2_with (go_at_call 44; refine (HP2.out _).mono ?_; rintro e w2 ⟨rfl, rfl⟩)
        refine bodyPost_ret (v := .tuple #[.agg #[.int .i64 0, .int .u64 0], .bool false]) (by simp [results, Tryz.results36, go_sem, q0, q1]) rfl ⟨.inr ⟨HV.out, _, _, rfl⟩, HFIN.out _ _ _ hb1⟩
    · have HV := Lib.hid (smp_none2 h1 (fun h => hlt h.1))
      have HP2 : Hid (∀ w, Calls Tryz.prog 44 #[.string (t.extract q t.size), .string { data := #[32] }] w fun e w' => e = .returned (.bool false) ∧ w = w') := Lib.hid (fun w => by
        have h := HP.out w
        rw [decide_eq_false (fun h => hlt h.1)] at h; exact h)
      clear h1 HP
      go_enter Tryz.func36, Tryz.ntmps36
      go_wp2_with (go_at_call 65; rw [← hW0]; (refine HE.out.mono ?_; rintro e w1 ⟨rfl, hb1⟩; simp only [intR]; obtain ⟨g0, g1, g2, g3, g4, g5, q0, q1⟩ := CC.out w1 (.int .i64 0) (.int .u64 0) hb1))
      go_wp2_with (go_at_call 44; refine (HP2.out _).mono ?_; rintro e w2 ⟨rfl, rfl⟩)
      refine bodyPost_ret (v := .tuple #[.agg #[.int .i64 0, .int .u64 0], .bool false]) (by simp [results, Tryz.results36, go_sem, q0, q1]) rfl ⟨.inr ⟨HV.out, _, _, rfl⟩, HFIN.out _ _ _ hb1⟩
set_option maxHeartbeats 4000000 in
set_option maxRecDepth 100000 in
theorem refSample_any (t : ByteArray) (w : World) (hs : t.size ≤ 1099511627776) (hT : TabsN w) :
    Calls Tryz.prog 38 #[.string t] w fun e w' => SmpR2 t e ∧ Below w.heap.size w w' := by
  have HT := Lib.hid hT
  obtain ⟨W0, hW0⟩ : ∃ W0, W0 = w.alloc (.cells #[.int .i64 0, .int .u64 0] 56) := ⟨_, rfl⟩
  have hb0 : Below w.heap.size w W0 := by rw [hW0]; exact (Below.refl _ _).alloc (Nat.le_refl _) _
  have hT0 := hT.below hb0
  have HE := Lib.hid (refInt_any t 0 W0 (Nat.zero_le _) hs)
  have HB0 := Lib.hid hb0
  have hc0 : W0.heap[w.heap.size]? = some (.cells #[.int .i64 0, .int .u64 0] 56 (0, 0)) := by rw [hW0]; exact heap_alloc_new w _
  clear hT hb0 hT0
  have fin : ∀ (W : World) (u v : Value), Below W0.heap.size W0 W → Below w.heap.size w ((W.setCell ⟨w.heap.size, 0, none⟩ u).setCell ⟨w.heap.size, 1, none⟩ v) := fun W u v h =>
    ((HB0.out.trans (h.mono HB0.out.size)).setCell (p := ⟨w.heap.size, 0, none⟩) (Nat.le_refl _) _).setCell (p := ⟨w.heap.size, 1, none⟩) (Nat.le_refl _) _
  have HFIN := Lib.hid fin
  have CC : Hid (∀ W u v, Below W0.heap.size W0 W → Two W w.heap.size (.int .i64 0) (.int .u64 0) u v) := Lib.hid (fun W u v h =>
    two_cells W _ _ _ 56 u v (by rw [h.block _ (Array.getElem?_eq_some_iff.1 hc0).1]; exact hc0))
  clear fin hc0
  have h00 : intV t 0 = intV t 0 := rfl
  clear h00
  cases h1 : intV t 0 with
  | none =>
    rw [h1] at HE
    have HV := Lib.hid (smp_none1 h1)
    clear h1
    go_enter Tryz.func38, Tryz.ntmps38
    go_wp2_with (go_at_call 67; rw [← hW0]; (refine HE.out.mono ?_; rintro e w1 ⟨rfl, hw1⟩; have hb1 : Below W0.heap.size W0 w1 := hw1 ▸ Below.refl _ _; clear hw1; simp only [intR]; obtain ⟨g0, g1, g2, g3, g4, g5, q0, q1⟩ := CC.out w1 (.int .i64 0) (.int .u64 0) hb1))
    refine bodyPost_ret (v := .tuple #[.agg #[.int .i64 0, .int .u64 0], .int .i64 24]) (by simp [results, Tryz.results38, go_sem, q0, q1]) rfl ⟨.inr ⟨HV.out, rfl⟩, HFIN.out _ _ _ hb1⟩
  | some p =>
    obtain ⟨y, q⟩ := p
    rw [h1] at HE
    obtain ⟨b2, b3, b4⟩ := int_spec h1
    have hq0 : (0 : Int) ≤ (q : Int) := by omega
    have hqle : (q : Int) ≤ (t.size : Int) := by omega
    clear b3 b4
    by_cases hlt : q < t.size
    · have hq1 : (q : Int) < (t.size : Int) := by omega
      have hx0 : (t[q]'hlt).toNat = bAt t q := (bAt_get t q hlt).symm
      by_cases h61 : bAt t q = 32
      · have h2 : q < t.size ∧ bAt t q = 32 := ⟨hlt, h61⟩
        rw [h61] at hx0
        have HE2 := Lib.hid (fun W (h : Below W0.heap.size W0 W) => (refWord_any t (q + 1) W h2.1 hs))
        cases h3 : wordV t (q + 1) with
        | none =>
          rw [h3] at HE2
          have HV := Lib.hid (smp_none3 h1 h2 h3)
          have HE3 : Hid (∀ W, Below W0.heap.size W0 W → Calls Tryz.prog 68 #[.string t, .int .i64 ((q : Int) + 1)] W fun e w' => e = .returned (.tuple #[.int .u64 0, .int .i64 0, .int .i64 24]) ∧ W = w') := Lib.hid (fun W h => HE2.out W h)
          clear h1 h2 h3 HE2 h61
          go_enter Tryz.func38, Tryz.ntmps38
          go_wp2_with (go_at_call 67; rw [← hW0]; (refine HE.out.mono ?_; rintro e w1 ⟨rfl, hw1⟩; have hb1 : Below W0.heap.size W0 w1 := hw1 ▸ Below.refl _ _; clear hw1; simp only [intR]))
          go_wp2_with (go_at_call 68; (refine (HE3.out _ hb1).mono ?_; rintro e w3 ⟨rfl, hw3⟩; have hb4 : Below W0.heap.size W0 w3 := hw3 ▸ hb1; clear hw3; obtain ⟨g0, g1, g2, g3, g4, g5, q0, q1⟩ := CC.out w3 (.int .i64 0) (.int .u64 0) hb4))
          refine bodyPost_ret (v := .tuple #[.agg #[.int .i64 0, .int .u64 0], .int .i64 24]) (by simp [results, Tryz.results38, go_sem, q0, q1]) rfl ⟨.inr ⟨HV.out, rfl⟩, HFIN.out _ _ _ hb4⟩
        | some p2 =>
          obtain ⟨z, r⟩ := p2
          rw [h3] at HE2
          have HE3 : Hid (∀ W, Below W0.heap.size W0 W → Calls Tryz.prog 68 #[.string t, .int .i64 ((q : Int) + 1)] W fun e w' => e = .returned (.tuple #[.int .u64 (z : Nat), .int .i64 (r : Nat), .int .i64 0]) ∧ W = w') := Lib.hid (fun W h => HE2.out W h)
          by_cases h4 : r = t.size
          · have HV := Lib.hid (smp_some h1 h2 h3 h4)
            have h4' : (r : Int) = (t.size : Int) := by omega
            clear h1 h2 h3 HE2 h61
            subst h4
            clear h4'
            go_enter Tryz.func38, Tryz.ntmps38
            go_wp2_with (go_at_call 67; rw [← hW0]; (refine HE.out.mono ?_; rintro e w1 ⟨rfl, hw1⟩; have hb1 : Below W0.heap.size W0 w1 := hw1 ▸ Below.refl _ _; clear hw1; simp only [intR]))
            go_wp2_with (go_at_call 68; (refine (HE3.out _ hb1).mono ?_; rintro e w3 ⟨rfl, hw3⟩; have hb4 : Below W0.heap.size W0 w3 := hw3 ▸ hb1; clear hw3; obtain ⟨g0, g1, g2, g3, g4, g5, q0, q1⟩ := CC.out w3 (.int .i64 y) (.int .u64 (z : Nat)) hb4))
            refine bodyPost_ret (v := .tuple #[.agg #[.int .i64 y, .int .u64 (z : Nat)], .int .i64 0]) (by simp [results, Tryz.results38, go_sem, q0, q1]) rfl ⟨.inl ⟨_, HV.out, rfl⟩, HFIN.out _ _ _ hb4⟩
          · have HV := Lib.hid (smp_none4 h1 h2 h3 h4)
            have h4' : ((r : Int) == (t.size : Int)) = false := by rw [beq_eq_false_iff_ne]; omega
            have h4n : ((r : Int) != (t.size : Int)) = true := by simp; omega
            clear h1 h2 h3 HE2 h61 h4
            go_enter Tryz.func38, Tryz.ntmps38
            go_wp2_with (go_at_call 67; rw [← hW0]; (refine HE.out.mono ?_; rintro e w1 ⟨rfl, hw1⟩; have hb1 : Below W0.heap.size W0 w1 := hw1 ▸ Below.refl _ _; clear hw1; simp only [intR]))
            go_wp2_with (go_at_call 68; (refine (HE3.out _ hb1).mono ?_; rintro e w3 ⟨rfl, hw3⟩; have hb4 : Below W0.heap.size W0 w3 := hw3 ▸ hb1; clear hw3; obtain ⟨g0, g1, g2, g3, g4, g5, q0, q1⟩ := CC.out w3 (.int .i64 0) (.int .u64 0) hb4))
            refine bodyPost_ret (v := .tuple #[.agg #[.int .i64 0, .int .u64 0], .int .i64 24]) (by simp [results, Tryz.results38, go_sem, q0, q1]) rfl ⟨.inr ⟨HV.out, rfl⟩, HFIN.out _ _ _ hb4⟩
      · have HV := Lib.hid (smp_none2 h1 (fun h => h61 h.2))
        obtain ⟨b, hb⟩ : ∃ b, b = bAt t q := ⟨_, rfl⟩
        rw [← hb] at hx0 h61
        have hnm : ((b : Int) != 32) = true := by simp; omega
        clear h1 h61 hb
        go_enter Tryz.func38, Tryz.ntmps38
        go_wp2_with (go_at_call 67; rw [← hW0]; (refine HE.out.mono ?_; rintro e w1 ⟨rfl, hw1⟩; have hb1 : Below W0.heap.size W0 w1 := hw1 ▸ Below.refl _ _; clear hw1; simp only [intR]; obtain ⟨g0, g1, g2, g3, g4, g5, q0, q1⟩ := CC.out w1 (.int .i64 0) (.int .u64 0) hb1))
        refine bodyPost_ret (v := .tuple #[.agg #[.int .i64 0, .int .u64 0], .int .i64 24]) (by simp [results, Tryz.results38, go_sem, q0, q1]) rfl ⟨.inr ⟨HV.out, rfl⟩, HFIN.out _ _ _ hb1⟩
    · have HV := Lib.hid (smp_none2 h1 (fun h => hlt h.1))
      have hq1 : (t.size : Int) ≤ (q : Int) := by omega
      clear h1 hlt
      go_enter Tryz.func38, Tryz.ntmps38
      go_wp2_with (go_at_call 67; rw [← hW0]; (refine HE.out.mono ?_; rintro e w1 ⟨rfl, hw1⟩; have hb1 : Below W0.heap.size W0 w1 := hw1 ▸ Below.refl _ _; clear hw1; simp only [intR]; obtain ⟨g0, g1, g2, g3, g4, g5, q0, q1⟩ := CC.out w1 (.int .i64 0) (.int .u64 0) hb1))
      refine bodyPost_ret (v := .tuple #[.agg #[.int .i64 0, .int .u64 0], .int .i64 24]) (by simp [results, Tryz.results38, go_sem, q0, q1]) rfl ⟨.inr ⟨HV.out, rfl⟩, HFIN.out _ _ _ hb1⟩
end Go.Proofs.YtnoodiibkchaaaaGreatDoor
