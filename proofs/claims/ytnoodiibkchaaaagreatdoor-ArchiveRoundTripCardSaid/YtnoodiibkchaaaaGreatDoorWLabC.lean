/-
  WALKS: labels.parts, labels.by, the function that compares two labels whole.
-/
import Derived.Test.YtnoodiibkchaaaaGreatDoorXLab
import Derived.Deep.RegionHeld3
import Derived.Deep.DrawnRows
import Derived.Laws.EntriesVeiled
namespace Go.Proofs.YtnoodiibkchaaaaGreatDoor
open Go.RowKit
attribute [local go_sem ↓] Go.wp_at_zero Go.wp_at_succ

theorem parts_any (w : World) : Calls Tryz.prog 110 #[] w fun e w' => e = .returned (.agg #[.func (.func 139) #[] #[], .func (.func 140) #[] #[]]) ∧ Below w.heap.size w w' := by
  go_enter Tryz.func110, Tryz.ntmps110
  go_wp2
  have hr : (w.alloc (.cells #[.func (.func 139) #[] #[], .func (.func 140) #[] #[]] 152)).heap[w.heap.size]? = some (.cells #[.func (.func 139) #[] #[], .func (.func 140) #[] #[]] 152 (0, 0)) := heap_alloc_new w _
  have e0 : (w.alloc (.cells #[.func (.func 139) #[] #[], .func (.func 140) #[] #[]] 152)).cell? ⟨w.heap.size, 0, none⟩ = some (.func (.func 139) #[] #[]) := by rw [cell_of_row _ _ _ _ _ _ hr]; rfl
  have e1 : (w.alloc (.cells #[.func (.func 139) #[] #[], .func (.func 140) #[] #[]] 152)).cell? ⟨w.heap.size, 1, none⟩ = some (.func (.func 140) #[] #[]) := by rw [cell_of_row _ _ _ _ _ _ hr]; rfl
  refine bodyPost_ret (v := .agg #[.func (.func 139) #[] #[], .func (.func 140) #[] #[]]) (by simp [results, Tryz.results110, go_sem, e0, e1]) rfl ⟨rfl, ?_⟩
  exact (Below.refl _ w).alloc (Nat.le_refl _) _
theorem ix0 (a b : Value) (w : World) : (Instr.index 152 (.agg #[a, b]) (.int .i64 0)).run Tryz.prog w = .ok (.agg #[a]) w := by
  simp [Instr.index, run_underlying Tryz.underlying152, asIntOf, part, go_sem]
theorem ix1 (a b : Value) (w : World) : (Instr.index 152 (.agg #[a, b]) (.int .i64 1)).run Tryz.prog w = .ok (.agg #[b]) w := by
  simp [Instr.index, run_underlying Tryz.underlying152, asIntOf, part, go_sem]
theorem fd0 (F : Nat) (w : World) : (Instr.field 151 (.agg #[.func (.func F) #[] #[]]) 0).run Tryz.prog w = .ok (.func (.func F) #[] #[]) w := by
  simp [Instr.field, run_underlying Tryz.underlying151, part, asAgg, go_sem]
theorem cell_new1 (w : World) (u : Value) (t : TypeId) : (w.alloc (.cells #[u] t)).cell? ⟨w.heap.size, 0, none⟩ = some u := by rw [cell_of_row _ _ _ _ _ _ (heap_alloc_new w _)]; rfl
theorem by_any (F : Nat) (w : World) : Calls Tryz.prog 109 #[.func (.func F) #[] #[]] w fun e w' => ∃ B, e = .returned (.func (.func 137) #[] #[.pointer (some ⟨B, 0, none⟩)]) ∧ w'.cell? ⟨B, 0, none⟩ = some (.func (.func F) #[] #[]) ∧ Below w.heap.size w w' := by
  go_enter Tryz.func109, Tryz.ntmps109
  go_wp2
  go_ret
  exact ⟨_, rfl, cell_new1 _ _ _, (Below.refl _ _).alloc (Nat.le_refl _) _⟩
theorem below_ofdrew {w w' : World} (h : Below w.drew.heap.size w.drew w') : Below w.heap.size w w' := ⟨h.os, h.tape, h.output, h.size, h.block⟩
/-- two labels, whole -/
def cmpE (x y : Lab) : Int := if ordS x.1 y.1 ≠ 0 then ordS x.1 y.1 else ordS x.2 y.2
set_option maxRecDepth 100000 in
theorem cmp1_any (x y : Lab) (w : World) : Calls Tryz.prog 114 #[.agg #[.string x.1, .string x.2], .agg #[.string y.1, .string y.2]] w fun e w' => e = .returned (.int .i64 (cmpE x y)) ∧ Below w.heap.size w w' := by
  obtain ⟨x1, x2⟩ := x
  obtain ⟨y1, y2⟩ := y
  obtain ⟨W0, hW0, hb, hs, c1, c2, c3, c4⟩ := two_labels w x1 x2 y1 y2
  have HB := Lib.hid hb
  have HP := Lib.hid (parts_any W0)
  clear hb
  go_enter Tryz.func114, Tryz.ntmps114
  go_wp2_with fail
  rw [← hW0]
  refine HP.out.mono ?_
  rintro e w1 ⟨rfl, hb1⟩
  have HB1 := Lib.hid hb1
  have CC : Hid (∀ wq, Below W0.heap.size W0 wq → wq.cell? ⟨w.heap.size, 0, none⟩ = some (.string x1) ∧ wq.cell? ⟨w.heap.size, 1, none⟩ = some (.string x2) ∧ wq.cell? ⟨w.heap.size + 1, 0, none⟩ = some (.string y1) ∧ wq.cell? ⟨w.heap.size + 1, 1, none⟩ = some (.string y2)) := Lib.hid (fun wq h => by
    refine ⟨?_, ?_, ?_, ?_⟩
    · rw [h.cell (World.block_lt_of_cell? W0 _ c1)]; exact c1
    · rw [h.cell (World.block_lt_of_cell? W0 _ c2)]; exact c2
    · rw [h.cell (World.block_lt_of_cell? W0 _ c3)]; exact c3
    · rw [h.cell (World.block_lt_of_cell? W0 _ c4)]; exact c4)
  have HE : Hid (cmpE (x1, x2) (y1, y2) = if ordS x1 y1 ≠ 0 then ordS x1 y1 else ordS x2 y2) := Lib.hid rfl
  clear hb1 c1 c2 c3 c4 hW0 HP
  have HS := Lib.hid hs
  clear hs
  have hx0 := fun w => ix0 (.func (.func 139) #[] #[]) (.func (.func 140) #[] #[]) w
  have hx1 := fun w => ix1 (.func (.func 139) #[] #[]) (.func (.func 140) #[] #[]) w
  go_wp2
  go_loopw [9] (fun i wr => ∃ k : Nat, (k = 0 ∨ k = 1 ∧ ordS x1 y1 = 0 ∨ k = 2 ∧ ordS x1 y1 = 0 ∧ ordS x2 y2 = 0) ∧ i = .int .i64 (k : Nat) ∧ Below W0.heap.size W0 wr) (fun i _ => 2 - (intOf i).toNat)
  case atStart => exact ⟨0, .inl rfl, rfl, HB1.out⟩
  case round =>
    obtain ⟨k, hk, rfl, hbr⟩ := hrel
    have hcells := CC.out _ hbr
    obtain ⟨d1, d2, d3, d4⟩ := hcells
    rcases hk with rfl | ⟨rfl, h1⟩ | ⟨rfl, h1, h2⟩
    · go_wp2_with fail
      obtain ⟨W1, hW1⟩ : ∃ W1, W1 = wr.alloc (.cells #[.func (.func 139) #[] #[]] 151) := ⟨_, rfl⟩
      have k0 : W1.cell? ⟨wr.heap.size, 0, none⟩ = some (.func (.func 139) #[] #[]) := by rw [hW1]; exact cell_new1 _ _ _
      have hb1 : Below wr.heap.size wr W1 := by rw [hW1]; exact (Below.refl _ _).alloc (Nat.le_refl _) _
      have hbr1 := hbr.trans (hb1.mono hbr.size)
      rw [← hW1]
      obtain ⟨d1, d2, d3, d4⟩ := CC.out _ hbr1
      have HSX : Hid (∀ x, Below W1.heap.size W1 x → x.cell? ⟨wr.heap.size, 0, none⟩ = some (.func (.func 139) #[] #[]) ∧ x.cell? ⟨w.heap.size, 0, none⟩ = some (.string x1) ∧ x.cell? ⟨w.heap.size, 1, none⟩ = some (.string x2) ∧ x.cell? ⟨w.heap.size + 1, 0, none⟩ = some (.string y1) ∧ x.cell? ⟨w.heap.size + 1, 1, none⟩ = some (.string y2)) := Lib.hid (fun x hx => by
        refine ⟨?_, CC.out _ (hbr1.trans (hx.mono hbr1.size))⟩
        rw [hx.cell (World.block_lt_of_cell? W1 _ k0)]; exact k0)
      have HBR1 := Lib.hid hbr1
      clear hW1 hb1 hbr1
      go_region_held3 (fun x => x.cell? ⟨wr.heap.size, 0, none⟩ = some (.func (.func 139) #[] #[]) ∧ x.cell? ⟨w.heap.size, 0, none⟩ = some (.string x1) ∧ x.cell? ⟨w.heap.size, 1, none⟩ = some (.string x2) ∧ x.cell? ⟨w.heap.size + 1, 0, none⟩ = some (.string y1) ∧ x.cell? ⟨w.heap.size + 1, 1, none⟩ = some (.string y2)) (first | exact HSX.out _ (Below.refl _ _) | exact HSX.out _ (Below.refl _ _).drew | exact HSX.out _ (below_ofdrew hb2) | exact HSX.out _ ((below_ofdrew hb2).trans (hb3.mono (below_ofdrew hb2).size))) (first
        | (go_at_call 109; go_must (refine (by_any 139 W1.drew).mono ?_; rintro e w2 ⟨B, rfl, hcB, hb2⟩))
        | (go_at_call 137; go_must (refine (by1_1 (x1, x2) (y1, y2) B _ hcB).mono ?_; rintro e w3 ⟨rfl, hb3⟩)))
      have hbw : Below W0.heap.size W0 w3 := HBR1.out.trans (((below_ofdrew hb2).trans (hb3.mono (below_ofdrew hb2).size)).mono HBR1.out.size)
      have HBW := Lib.hid hbw
      have hend := HS.out
      clear hcB hb2 hb3 hbw HSX HBR1 k0 d1 d2 d3 d4
      by_cases hz : ordS x1 y1 = 0
      · rw [hz]
        go_wp2
        exact ⟨⟨1, .inr (.inl ⟨rfl, hz⟩), rfl, HBW.out⟩, by simp [intOf]⟩
      · obtain ⟨D, hD⟩ : ∃ D, D = ordS x1 y1 := ⟨_, rfl⟩
        have H := Lib.hid (HE.out.trans (if_pos hz))
        rw [← hD] at hz H ⊢
        have hn : (D != 0) = true := by simpa using hz
        clear hz hD HE
        go_wp2
        go_ret
        exact ⟨ret_i64 H.out.symm, HB.out.trans (HBW.out.mono (by omega))⟩
    · go_wp2_with fail
      obtain ⟨W1, hW1⟩ : ∃ W1, W1 = wr.alloc (.cells #[.func (.func 140) #[] #[]] 151) := ⟨_, rfl⟩
      have k0 : W1.cell? ⟨wr.heap.size, 0, none⟩ = some (.func (.func 140) #[] #[]) := by rw [hW1]; exact cell_new1 _ _ _
      have hb1 : Below wr.heap.size wr W1 := by rw [hW1]; exact (Below.refl _ _).alloc (Nat.le_refl _) _
      have hbr1 := hbr.trans (hb1.mono hbr.size)
      rw [← hW1]
      obtain ⟨d1, d2, d3, d4⟩ := CC.out _ hbr1
      have HSX : Hid (∀ x, Below W1.heap.size W1 x → x.cell? ⟨wr.heap.size, 0, none⟩ = some (.func (.func 140) #[] #[]) ∧ x.cell? ⟨w.heap.size, 0, none⟩ = some (.string x1) ∧ x.cell? ⟨w.heap.size, 1, none⟩ = some (.string x2) ∧ x.cell? ⟨w.heap.size + 1, 0, none⟩ = some (.string y1) ∧ x.cell? ⟨w.heap.size + 1, 1, none⟩ = some (.string y2)) := Lib.hid (fun x hx => by
        refine ⟨?_, CC.out _ (hbr1.trans (hx.mono hbr1.size))⟩
        rw [hx.cell (World.block_lt_of_cell? W1 _ k0)]; exact k0)
      have HBR1 := Lib.hid hbr1
      clear hW1 hb1 hbr1
      go_region_held3 (fun x => x.cell? ⟨wr.heap.size, 0, none⟩ = some (.func (.func 140) #[] #[]) ∧ x.cell? ⟨w.heap.size, 0, none⟩ = some (.string x1) ∧ x.cell? ⟨w.heap.size, 1, none⟩ = some (.string x2) ∧ x.cell? ⟨w.heap.size + 1, 0, none⟩ = some (.string y1) ∧ x.cell? ⟨w.heap.size + 1, 1, none⟩ = some (.string y2)) (first | exact HSX.out _ (Below.refl _ _) | exact HSX.out _ (Below.refl _ _).drew | exact HSX.out _ (below_ofdrew hb2) | exact HSX.out _ ((below_ofdrew hb2).trans (hb3.mono (below_ofdrew hb2).size))) (first
        | (go_at_call 109; go_must (refine (by_any 140 W1.drew).mono ?_; rintro e w2 ⟨B, rfl, hcB, hb2⟩))
        | (go_at_call 137; go_must (refine (by1_2 (x1, x2) (y1, y2) B _ hcB).mono ?_; rintro e w3 ⟨rfl, hb3⟩)))
      have hbw : Below W0.heap.size W0 w3 := HBR1.out.trans (((below_ofdrew hb2).trans (hb3.mono (below_ofdrew hb2).size)).mono HBR1.out.size)
      have HBW := Lib.hid hbw
      have hend := HS.out
      clear hcB hb2 hb3 hbw HSX HBR1 k0 d1 d2 d3 d4
      by_cases hz : ordS x2 y2 = 0
      · rw [hz]
        go_wp2
        exact ⟨⟨2, .inr (.inr ⟨rfl, h1, hz⟩), rfl, HBW.out⟩, by simp [intOf]⟩
      · obtain ⟨D, hD⟩ : ∃ D, D = ordS x2 y2 := ⟨_, rfl⟩
        have H := Lib.hid (HE.out.trans (if_neg (by simpa using h1)))
        rw [← hD] at hz H ⊢
        have hn : (D != 0) = true := by simpa using hz
        clear hz hD HE
        go_wp2
        go_ret
        exact ⟨ret_i64 H.out.symm, HB.out.trans (HBW.out.mono (by omega))⟩
    · have H := Lib.hid (HE.out.trans (by rw [if_neg (by simpa using h1), h2]))
      have hend := HS.out
      clear HE d1 d2 d3 d4
      go_wp2
      go_ret
      exact ⟨ret_i64 H.out.symm, HB.out.trans (hbr.mono (by omega))⟩
end Go.Proofs.YtnoodiibkchaaaaGreatDoor
