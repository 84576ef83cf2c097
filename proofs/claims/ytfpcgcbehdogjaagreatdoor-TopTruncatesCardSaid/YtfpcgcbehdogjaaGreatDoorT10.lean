/-
  Lemmas on which LTopTruncates rests, packed out of the texts WLabC WLabD WRunA WLabE WRunB WRunC WRunD WRef07 YCmp; each for all arguments under the hypotheses it names.
-/
import Derived.Test.YtfpcgcbehdogjaaGreatDoorT07
import Derived.Deep.RegionHeld3
import Derived.Deep.DrawnRows
import Derived.Laws.EntriesVeiled
import Derived.Test.YtfpcgcbehdogjaaGreatDoorT08
import Derived.Sort.QuietIn
import Derived.Sort.Grow
namespace Go.Proofs.YtfpcgcbehdogjaaGreatDoor
section
set_option maxRecDepth 100000
open Go.RowKit
attribute [local go_sem ↓] Go.wp_at_zero Go.wp_at_succ
theorem qig (w : World) : Calls Tryz.prog 166 #[] w fun e w' => e = .returned (.agg #[.func (.func 202) #[] #[], .func (.func 203) #[] #[]]) ∧ Below w.heap.size w w' := by
 go_enter Tryz.func166, Tryz.ntmps166
 go_wp2
 have hr : (w.alloc (.cells #[.func (.func 202) #[] #[], .func (.func 203) #[] #[]] 286)).heap[w.heap.size]? = some (.cells #[.func (.func 202) #[] #[], .func (.func 203) #[] #[]] 286 (0, 0)) := heap_alloc_new w _
 have e0 : (w.alloc (.cells #[.func (.func 202) #[] #[], .func (.func 203) #[] #[]] 286)).cell? ⟨w.heap.size, 0, none⟩ = some (.func (.func 202) #[] #[]) := by rw [cell_of_row _ _ _ _ _ _ hr]; rfl
 have e1 : (w.alloc (.cells #[.func (.func 202) #[] #[], .func (.func 203) #[] #[]] 286)).cell? ⟨w.heap.size, 1, none⟩ = some (.func (.func 203) #[] #[]) := by rw [cell_of_row _ _ _ _ _ _ hr]; rfl
 refine bodyPost_ret (v := .agg #[.func (.func 202) #[] #[], .func (.func 203) #[] #[]]) (by simp [results, Tryz.results166, go_sem, e0, e1]) rfl ⟨rfl, ?_⟩
 exact (Below.refl _ w).alloc (Nat.le_refl _) _
theorem ix0 (a b : Value) (w : World) : (Instr.index 286 (.agg #[a, b]) (.int .i64 0)).run Tryz.prog w = .ok (.agg #[a]) w := by
 simp [Instr.index, run_underlying Tryz.underlying286, asIntOf, part, go_sem]
theorem ix1 (a b : Value) (w : World) : (Instr.index 286 (.agg #[a, b]) (.int .i64 1)).run Tryz.prog w = .ok (.agg #[b]) w := by
 simp [Instr.index, run_underlying Tryz.underlying286, asIntOf, part, go_sem]
theorem fd0 (F : Nat) (w : World) : (Instr.field 285 (.agg #[.func (.func F) #[] #[]]) 0).run Tryz.prog w = .ok (.func (.func F) #[] #[]) w := by
 simp [Instr.field, run_underlying Tryz.underlying285, part, asAgg, go_sem]
theorem qeu (w : World) (u : Value) (t : TypeId) : (w.alloc (.cells #[u] t)).cell? ⟨w.heap.size, 0, none⟩ = some u := by rw [cell_of_row _ _ _ _ _ _ (heap_alloc_new w _)]; rfl
theorem by_any (F : Nat) (w : World) : Calls Tryz.prog 195 #[.func (.func F) #[] #[]] w fun e w' => ∃ B, e = .returned (.func (.func 225) #[] #[.pointer (some ⟨B, 0, none⟩)]) ∧ w'.cell? ⟨B, 0, none⟩ = some (.func (.func F) #[] #[]) ∧ Below w.heap.size w w' := by
 go_enter Tryz.func195, Tryz.ntmps195
 go_wp2
 go_ret
 exact ⟨_, rfl, qeu _ _ _, (Below.refl _ _).alloc (Nat.le_refl _) _⟩
theorem qbe {w w' : World} (h : Below w.drew.heap.size w.drew w') : Below w.heap.size w w' := ⟨h.os, h.tape, h.output, h.size, h.block⟩
def cmpE (x y : Lab) : Int := if ordS x.1 y.1 ≠ 0 then ordS x.1 y.1 else ordS x.2 y.2
theorem cmp1_any (x y : Lab) (w : World) : Calls Tryz.prog 199 #[.agg #[.string x.1, .string x.2], .agg #[.string y.1, .string y.2]] w fun e w' => e = .returned (.int .i64 (cmpE x y)) ∧ Below w.heap.size w w' := by
 obtain ⟨x1, x2⟩ := x
 obtain ⟨y1, y2⟩ := y
 obtain ⟨W0, hW0, hb, hs, c1, c2, c3, c4⟩ := qdq w x1 x2 y1 y2
 have HB := Hj hb
 have HP := Hj (qig W0)
 clear hb
 go_enter Tryz.func199, Tryz.ntmps199
 go_wp2_with fail
 rw [← hW0]
 refine HP.out.mono ?_
 rintro e w1 ⟨rfl, hb1⟩
 have HB1 := Hj hb1
 have CC : Hid (∀ wq, Below W0.heap.size W0 wq → wq.cell? ⟨w.heap.size, 0, none⟩ = some (.string x1) ∧ wq.cell? ⟨w.heap.size, 1, none⟩ = some (.string x2) ∧ wq.cell? ⟨w.heap.size + 1, 0, none⟩ = some (.string y1) ∧ wq.cell? ⟨w.heap.size + 1, 1, none⟩ = some (.string y2)) := Hj (fun wq h => by
  refine ⟨?_, ?_, ?_, ?_⟩
  · rw [h.cell (World.block_lt_of_cell? W0 _ c1)]; exact c1
  · rw [h.cell (World.block_lt_of_cell? W0 _ c2)]; exact c2
  · rw [h.cell (World.block_lt_of_cell? W0 _ c3)]; exact c3
  · rw [h.cell (World.block_lt_of_cell? W0 _ c4)]; exact c4)
 have HE : Hid (cmpE (x1, x2) (y1, y2) = if ordS x1 y1 ≠ 0 then ordS x1 y1 else ordS x2 y2) := Hj rfl
 clear hb1 c1 c2 c3 c4 hW0 HP
 have HS := Hj hs
 clear hs
 have hx0 := fun w => ix0 (.func (.func 202) #[] #[]) (.func (.func 203) #[] #[]) w
 have hx1 := fun w => ix1 (.func (.func 202) #[] #[]) (.func (.func 203) #[] #[]) w
 go_wp2
 go_loopw [9] (fun i wr => ∃ k : Nat, (k = 0 ∨ k = 1 ∧ ordS x1 y1 = 0 ∨ k = 2 ∧ ordS x1 y1 = 0 ∧ ordS x2 y2 = 0) ∧ i = .int .i64 (k : Nat) ∧ Below W0.heap.size W0 wr) (fun i _ => 2 - (intOf i).toNat)
 case atStart => exact ⟨0, .inl rfl, rfl, HB1.out⟩
 case round =>
  obtain ⟨k, hk, rfl, hbr⟩ := hrel
  have hcells := CC.out _ hbr
  obtain ⟨d1, d2, d3, d4⟩ := hcells
  rcases hk with rfl | ⟨rfl, h1⟩ | ⟨rfl, h1, h2⟩
  · go_wp2_with fail
    obtain ⟨W1, hW1⟩ : ∃ W1, W1 = wr.alloc (.cells #[.func (.func 202) #[] #[]] 285) := ⟨_, rfl⟩
    have k0 : W1.cell? ⟨wr.heap.size, 0, none⟩ = some (.func (.func 202) #[] #[]) := by rw [hW1]; exact qeu _ _ _
    have hb1 : Below wr.heap.size wr W1 := by rw [hW1]; exact (Below.refl _ _).alloc (Nat.le_refl _) _
    have hbr1 := hbr.trans (hb1.mono hbr.size)
    rw [← hW1]
    obtain ⟨d1, d2, d3, d4⟩ := CC.out _ hbr1
    have HSX : Hid (∀ x, Below W1.heap.size W1 x → x.cell? ⟨wr.heap.size, 0, none⟩ = some (.func (.func 202) #[] #[]) ∧ x.cell? ⟨w.heap.size, 0, none⟩ = some (.string x1) ∧ x.cell? ⟨w.heap.size, 1, none⟩ = some (.string x2) ∧ x.cell? ⟨w.heap.size + 1, 0, none⟩ = some (.string y1) ∧ x.cell? ⟨w.heap.size + 1, 1, none⟩ = some (.string y2)) := Hj (fun x hx => by
     refine ⟨?_, CC.out _ (hbr1.trans (hx.mono hbr1.size))⟩
     rw [hx.cell (World.block_lt_of_cell? W1 _ k0)]; exact k0)
    have HBR1 := Hj hbr1
    clear hW1 hb1 hbr1
    go_region_held3 (fun x => x.cell? ⟨wr.heap.size, 0, none⟩ = some (.func (.func 202) #[] #[]) ∧ x.cell? ⟨w.heap.size, 0, none⟩ = some (.string x1) ∧ x.cell? ⟨w.heap.size, 1, none⟩ = some (.string x2) ∧ x.cell? ⟨w.heap.size + 1, 0, none⟩ = some (.string y1) ∧ x.cell? ⟨w.heap.size + 1, 1, none⟩ = some (.string y2)) (first | exact HSX.out _ (Below.refl _ _) | exact HSX.out _ (Below.refl _ _).drew | exact HSX.out _ (qbe hb2) | exact HSX.out _ ((qbe hb2).trans (hb3.mono (qbe hb2).size))) (first
     | (go_at_call 195; go_must (refine (by_any 202 W1.drew).mono ?_; rintro e w2 ⟨B, rfl, hcB, hb2⟩))
     | (go_at_call 225; go_must (refine (by1_1 (x1, x2) (y1, y2) B _ hcB).mono ?_; rintro e w3 ⟨rfl, hb3⟩)))
    have hbw : Below W0.heap.size W0 w3 := HBR1.out.trans (((qbe hb2).trans (hb3.mono (qbe hb2).size)).mono HBR1.out.size)
    have HBW := Hj hbw
    have hend := HS.out
    clear hcB hb2 hb3 hbw HSX HBR1 k0 d1 d2 d3 d4
    by_cases hz : ordS x1 y1 = 0
    · rw [hz]
      go_wp2
      exact ⟨⟨1, .inr (.inl ⟨rfl, hz⟩), rfl, HBW.out⟩, by simp [intOf]⟩
    · obtain ⟨D, hD⟩ : ∃ D, D = ordS x1 y1 := ⟨_, rfl⟩
      have H := Hj (HE.out.trans (if_pos hz))
      rw [← hD] at hz H ⊢
      have hn : (D != 0) = true := by simpa using hz
      clear hz hD HE
      go_wp2
      go_ret
      exact ⟨qag H.out.symm, HB.out.trans (HBW.out.mono (by omega))⟩
  · go_wp2_with fail
    obtain ⟨W1, hW1⟩ : ∃ W1, W1 = wr.alloc (.cells #[.func (.func 203) #[] #[]] 285) := ⟨_, rfl⟩
    have k0 : W1.cell? ⟨wr.heap.size, 0, none⟩ = some (.func (.func 203) #[] #[]) := by rw [hW1]; exact qeu _ _ _
    have hb1 : Below wr.heap.size wr W1 := by rw [hW1]; exact (Below.refl _ _).alloc (Nat.le_refl _) _
    have hbr1 := hbr.trans (hb1.mono hbr.size)
    rw [← hW1]
    obtain ⟨d1, d2, d3, d4⟩ := CC.out _ hbr1
    have HSX : Hid (∀ x, Below W1.heap.size W1 x → x.cell? ⟨wr.heap.size, 0, none⟩ = some (.func (.func 203) #[] #[]) ∧ x.cell? ⟨w.heap.size, 0, none⟩ = some (.string x1) ∧ x.cell? ⟨w.heap.size, 1, none⟩ = some (.string x2) ∧ x.cell? ⟨w.heap.size + 1, 0, none⟩ = some (.string y1) ∧ x.cell? ⟨w.heap.size + 1, 1, none⟩ = some (.string y2)) := Hj (fun x hx => by
     refine ⟨?_, CC.out _ (hbr1.trans (hx.mono hbr1.size))⟩
     rw [hx.cell (World.block_lt_of_cell? W1 _ k0)]; exact k0)
    have HBR1 := Hj hbr1
    clear hW1 hb1 hbr1
    go_region_held3 (fun x => x.cell? ⟨wr.heap.size, 0, none⟩ = some (.func (.func 203) #[] #[]) ∧ x.cell? ⟨w.heap.size, 0, none⟩ = some (.string x1) ∧ x.cell? ⟨w.heap.size, 1, none⟩ = some (.string x2) ∧ x.cell? ⟨w.heap.size + 1, 0, none⟩ = some (.string y1) ∧ x.cell? ⟨w.heap.size + 1, 1, none⟩ = some (.string y2)) (first | exact HSX.out _ (Below.refl _ _) | exact HSX.out _ (Below.refl _ _).drew | exact HSX.out _ (qbe hb2) | exact HSX.out _ ((qbe hb2).trans (hb3.mono (qbe hb2).size))) (first
     | (go_at_call 195; go_must (refine (by_any 203 W1.drew).mono ?_; rintro e w2 ⟨B, rfl, hcB, hb2⟩))
     | (go_at_call 225; go_must (refine (by1_2 (x1, x2) (y1, y2) B _ hcB).mono ?_; rintro e w3 ⟨rfl, hb3⟩)))
    have hbw : Below W0.heap.size W0 w3 := HBR1.out.trans (((qbe hb2).trans (hb3.mono (qbe hb2).size)).mono HBR1.out.size)
    have HBW := Hj hbw
    have hend := HS.out
    clear hcB hb2 hb3 hbw HSX HBR1 k0 d1 d2 d3 d4
    by_cases hz : ordS x2 y2 = 0
    · rw [hz]
      go_wp2
      exact ⟨⟨2, .inr (.inr ⟨rfl, h1, hz⟩), rfl, HBW.out⟩, by simp [intOf]⟩
    · obtain ⟨D, hD⟩ : ∃ D, D = ordS x2 y2 := ⟨_, rfl⟩
      have H := Hj (HE.out.trans (if_neg (by simpa using h1)))
      rw [← hD] at hz H ⊢
      have hn : (D != 0) = true := by simpa using hz
      clear hz hD HE
      go_wp2
      go_ret
      exact ⟨qag H.out.symm, HB.out.trans (HBW.out.mono (by omega))⟩
  · have H := Hj (HE.out.trans (by rw [if_neg (by simpa using h1), h2]))
    have hend := HS.out
    clear HE d1 d2 d3 d4
    go_wp2
    go_ret
    exact ⟨qag H.out.symm, HB.out.trans (hbr.mono (by omega))⟩
end
section
set_option maxHeartbeats 1000000
set_option maxRecDepth 100000
open Go.RowKit
attribute [local go_sem ↓] Go.wp_at_zero Go.wp_at_succ
theorem cmpL_step (x y : Lab) (a b : List Lab) : cmpL (x :: a) (y :: b) = if cmpE x y ≠ 0 then cmpE x y else cmpL a b := by
 unfold cmpE
 rw [cmpL]
 by_cases h1 : ordS x.1 y.1 = 0 <;> simp [h1]
theorem qaz {α : Type} {l : List α} {k : Nat} {x : α} (h : l[k]? = some x) : l.drop k = x :: l.drop (k + 1) := by
 obtain ⟨hk, e⟩ := List.getElem?_eq_some_iff.1 h
 rw [List.drop_eq_getElem_cons hk, e]
theorem qaj {α : Type} {l : List α} {k : Nat} (h : k < l.length) : ∃ x, l[k]? = some x := ⟨l[k], by simp [h]⟩
theorem cmpFunc_any (va vb : Value) (a b : List Lab) (w : World) (ha : RdL w va a) (hb : RdL w vb b) (hla : a.length ≤ 1099511627776) (hlb : b.length ≤ 1099511627776) :
 Calls Tryz.prog 198 #[va, vb, .func (.func 199) #[] #[]] w fun e w' => e = .returned (.int .i64 (cmpL a b)) ∧ Below w.heap.size w w' := by
 have HA := Hj ha; have HB := Hj hb
 obtain ⟨aa, ca, rfl, hca⟩ := ha.slice
 obtain ⟨ab, cb, rfl, hcb⟩ := hb.slice
 clear ha hb
 go_enter Tryz.func198, Tryz.ntmps198
 go_wp2
 go_loopw [13] (fun i wr => ∃ k : Nat, k ≤ a.length ∧ k ≤ b.length ∧ i = .int .i64 (k : Nat) ∧ Hid (cmpL a b = cmpL (a.drop k) (b.drop k)) ∧ Below w.heap.size w wr) (fun i _ => a.length - (intOf i).toNat)
 case atStart => exact ⟨0, by omega, by omega, rfl, Hj rfl, Below.refl _ _⟩
 case round =>
  obtain ⟨k, hk, hkb, rfl, HE, hbr⟩ := hrel
  have hra := HA.out.below hbr
  have hrb := HB.out.below hbr
  by_cases hka : k < a.length
  · obtain ⟨⟨x1, x2⟩, hx⟩ := qaj hka
    obtain ⟨ba, oa, rfl, c1, c2⟩ := hra.at hx
    have hka' : (k : Int) < (a.length : Int) := by omega
    by_cases hkb2 : k < b.length
    · obtain ⟨⟨y1, y2⟩, hy⟩ := qaj hkb2
      obtain ⟨bb, ob, rfl, c3, c4⟩ := hrb.at hy
      have hkb' : (k : Int) < (b.length : Int) := by omega
      have HST : Hid (cmpL a b = if cmpE (x1, x2) (y1, y2) ≠ 0 then cmpE (x1, x2) (y1, y2) else cmpL (a.drop (k + 1)) (b.drop (k + 1))) := Hj (by
       rw [HE.out, qaz hx, qaz hy, cmpL_step])
      have HBR := Hj hbr
      have hb1 : Below wr.heap.size wr (wr.alloc (.cells #[.string x1, .string x2] 94)) := (Below.refl _ _).alloc (Nat.le_refl _) _
      have c3' := (hb1.cell (World.block_lt_of_cell? wr _ c3)).trans c3
      have c4' := (hb1.cell (World.block_lt_of_cell? wr _ c4)).trans c4
      obtain ⟨W0, hW0, hb0, hs0, e1, e2, e3, e4⟩ := qdq wr x1 x2 y1 y2
      have HB0 : Hid (Below w.heap.size w W0) := Hj (hbr.trans (hb0.mono hbr.size))
      have HC := Hj (cmp1_any (x1, x2) (y1, y2) W0)
      clear hx hy HE hra hrb hka hkb2 hb1 hb0
      obtain ⟨D, hD⟩ : ∃ D, D = cmpE (x1, x2) (y1, y2) := ⟨_, rfl⟩
      rw [← hD] at HST HC
      clear hD
      by_cases hz : D = 0
      · have HN := Hj (HST.out.trans (if_neg (by simpa using hz)))
        have hn : (D != 0) = false := by simpa using hz
        clear HST hz
        go_wp2_with fail
        rw [← hW0]
        go_wp2_with (go_at_call 199; refine HC.out.mono ?_; rintro e w1 ⟨rfl, hb1⟩)
        have HBW : Hid (Below w.heap.size w w1) := Hj (HB0.out.trans (hb1.mono HB0.out.size))
        exact ⟨⟨k + 1, by omega, by omega, rfl, HN, HBW.out⟩, by simp [intOf]; omega⟩
      · have HN := Hj (HST.out.trans (if_pos hz))
        have hn : (D != 0) = true := by simpa using hz
        clear HST hz
        go_wp2_with fail
        rw [← hW0]
        go_wp2_with (go_at_call 199; refine HC.out.mono ?_; rintro e w1 ⟨rfl, hb1⟩)
        have HBW : Hid (Below w.heap.size w w1) := Hj (HB0.out.trans (hb1.mono HB0.out.size))
        go_ret
        exact ⟨qag HN.out.symm, HBW.out⟩
    · obtain rfl : k = b.length := by omega
      have HN : Hid (cmpL a b = 1) := Hj (by rw [HE.out, qaz hx, List.drop_length]; rfl)
      have hb1 := hbr.trans (((Below.refl wr.heap.size wr).alloc (Nat.le_refl _) (.cells #[.string x1, .string x2] 94)).mono hbr.size)
      have HB1 := Hj hb1
      clear hx HE hra hrb hka hb1
      go_wp2
      go_ret
      exact ⟨qag HN.out.symm, HB1.out⟩
  · obtain rfl : k = a.length := by omega
    by_cases hlt : a.length < b.length
    · have HN : Hid (cmpL a b = -1) := Hj (by
       obtain ⟨y, hy⟩ := qaj hlt
       rw [HE.out, List.drop_length, qaz hy]; rfl)
      have hlt' : (a.length : Int) < (b.length : Int) := by omega
      clear HE hra hrb
      go_wp2
      go_ret
      exact ⟨qag HN.out.symm, hbr⟩
    · have HN : Hid (cmpL a b = 0) := Hj (by
       rw [HE.out, List.drop_length, show b.drop a.length = [] from List.drop_eq_nil_of_le (by omega)]; rfl)
      have hlt' : (b.length : Int) ≤ (a.length : Int) := by omega
      clear HE hra hrb
      go_wp2
      go_ret
      exact ⟨qag HN.out.symm, hbr⟩
theorem compare_any (va vb : Value) (a b : List Lab) (w : World) (ha : RdL w va a) (hb : RdL w vb b) (hla : a.length ≤ 1099511627776) (hlb : b.length ≤ 1099511627776) :
 Calls Tryz.prog 163 #[va, vb] w fun e w' => e = .returned (.int .i64 (cmpL a b)) ∧ Below w.heap.size w w' := by
 have H := Hj (cmpFunc_any va vb a b w ha hb hla hlb)
 obtain ⟨aa, ca, rfl, hca⟩ := ha.slice
 obtain ⟨ab, cb, rfl, hcb⟩ := hb.slice
 clear ha hb hla hlb hca hcb
 go_enter Tryz.func163, Tryz.ntmps163
 go_wp2_with (go_at_call 198; refine H.out.mono ?_; rintro e w1 ⟨rfl, hb1⟩)
 go_ret
 exact ⟨rfl, hb1⟩
end
section
set_option maxHeartbeats 2000000
set_option maxRecDepth 100000
open Go.RowKit Go.Shelf
attribute [local go_sem] Oper.semAt_some
def encR (p : Nat × Nat) : Array Value := #[.agg #[.int .u64 ((p.1 : Nat) : Int), .int .i64 ((p.2 : Nat) : Int)]]
theorem runsOf_at {l : List Nat} {j x : Nat} (h : l[j]? = some x) : runsOf (l.drop j) = (x, lead x 127 (l.drop (j + 1)) + 1) :: runsOf (l.drop (j + (lead x 127 (l.drop (j + 1)) + 1))) := by
 have hlt : j < l.length := (List.getElem?_eq_some_iff.1 h).1
 rw [List.drop_eq_getElem_cons hlt]
 have e : l[j] = x := by rw [List.getElem?_eq_getElem hlt] at h; simpa using h
 rw [e, runsOf_cons, List.drop_drop]
 congr 3
 omega
theorem runs_seq (Bx : Nat) (v : Value) (l : List Nat) (w : World) (hl : l.length ≤ 140737488351232) (hc : w.cell? ⟨Bx, 0, none⟩ = some v) (h : Holds w v (u64s l)) :
 SeqR Tryz.prog 155 #[.pointer (some ⟨Bx, 0, none⟩)] encR (fun k => k = Bx ∨ ownH v l k) (fun _ => False) (fun xs => xs = runsOf l) (fun pre => pre <+: runsOf l) w := by
 intro L J Jx W hW hJ hJx hY h0
 have hc1 : W.cell? ⟨Bx, 0, none⟩ = some v := hW.cell hc (fun h => h (.inl rfl))
 have h1 : Holds W v (u64s l) := h.keepsH hW qdz (fun g hg hn => hn (.inr hg))
 have HH := Hj h1
 obtain ⟨ad, cap, rfl, hcap, hcells⟩ := h1
 clear hcells h hc hW
 rw [qcg] at hcap hc1 HH hY
 refine callsIn_of_wp Tryz.func155 rfl trivial ?_ rfl
 simp only [Tryz.ntmps155, List.size_toArray, List.length_cons, List.length_nil, Nat.reduceAdd, Nat.reduceSub, Array.replicate_succ, Array.replicate_zero, List.push_toArray, List.append_toArray, List.nil_append, List.cons_append]
 have HY := Hj hY
 have HJ := Hj hJ
 have HJx := Hj hJx
 clear hY hJ hJx
 gi_wp2
 gi_loopw [3] (fun t3 wr => ∃ (j : Nat) (pre : List (Nat × Nat)), j ≤ l.length ∧ t3 = .int .i64 j ∧ pre ++ runsOf (l.drop j) = runsOf l ∧ wr.cell? ⟨Bx, 0, none⟩ = some (.slice ad l.length cap) ∧ Holds wr (.slice ad l.length cap) (u64s l) ∧ J pre wr)
  (fun t3 wr => l.length - (intOf t3).toNat)
 case atStart => exact ⟨0, [], by omega, rfl, by simp, hc1, HH.out, h0⟩
 case round =>
  obtain ⟨j, pre, hj, rfl, hx, hcb, hh, hJp⟩ := hrel
  clear hc1 h0
  by_cases hlt : j < l.length
  · obtain ⟨x, hxj⟩ : ∃ x, l[j]? = some x := ⟨l[j], by simp [hlt]⟩
    obtain ⟨b, off, rfl, hcx⟩ := qgc hh hxj
    rw [runsOf_at hxj] at hx
    obtain ⟨n, hn⟩ : ∃ n, n = lead x 127 (l.drop (j + 1)) + 1 := ⟨_, rfl⟩
    rw [← hn] at hx
    have hnl : n ≤ 128 ∧ j + n ≤ l.length := by
     have := lead_le x 127 (l.drop (j + 1))
     rw [List.length_drop] at this
     omega
    have HN := Hj hn; have HX := Hj hx; have HJp := Hj hJp; have Hh := Hj hh; have Hxj := Hj hxj
    have hlt' : (j : Int) < l.length := by omega
    clear hn hx hJp hh hxj HH
    gi_wp2
    gi_loopw [4] (fun t4 wq => ∃ c : Nat, 1 ≤ c ∧ c ≤ n ∧ t4 = .int .i64 ((j + c : Nat) : Int) ∧ ∃ q, wq = wr.drewN q) (fun t4 wq => l.length - (intOf t4).toNat)
    case atStart => exact ⟨1, by omega, by have := HN.out; omega, by go_num, 0, rfl⟩
    case round =>
     obtain ⟨c, hc1, hcn, rfl, q, rfl⟩ := hrel
     obtain ⟨T, hT⟩ : ∃ T, T = j + c := ⟨_, rfl⟩
     rw [← hT]
     obtain ⟨wq, hwq⟩ : ∃ wq, wq = wr.drewN q := ⟨_, rfl⟩
     have hcq : wq.cell? ⟨Bx, 0, none⟩ = some (.slice (some ⟨b, off, none⟩) l.length cap) := by rw [hwq]; exact hcb
     have hcxq : wq.cell? ⟨b, off + j, none⟩ = some (.int .u64 (x : Nat)) := by rw [hwq]; exact hcx
     rw [← hwq]
     have HWQ := Hj hwq; have HT := Hj hT
     have hTb : T ≤ l.length := by omega
     have hTj : (T : Int) - j = c := by omega
     have hwT : IntKind.i64.wrap ((T : Int) - j) = c := by rw [IntWalk.i64_in _ (by omega)]; omega
     have hwc : IntKind.i64.wrap (c : Int) = c := qcj _ (by omega)
     clear hwq hT
     by_cases hmore : c < n
     · have hle := lead_le x 127 (l.drop (j + 1))
       have hTl : (T : Int) < l.length := by have := HN.out; have := HT.out; omega
       have hc128 : (c : Int) < 128 := by omega
       have hTx : l[T]? = some x := by
        have e1 := lead_take x 127 (l.drop (j + 1))
        have e2 : ((l.drop (j + 1)).take (lead x 127 (l.drop (j + 1))))[c - 1]? = some x := by
         rw [e1, List.getElem?_replicate, if_pos (by have := HN.out; omega)]
        rw [List.getElem?_take, if_pos (by have := HN.out; omega), List.getElem?_drop] at e2
        rw [← e2]
        congr 1
        have := HT.out; omega
       obtain ⟨b', off', hbo, hcT⟩ := qgc Hh.out hTx
       simp only [Option.some.injEq, Addr.mk.injEq] at hbo
       obtain ⟨rfl, rfl, _⟩ := hbo
       have hcTq : wq.cell? ⟨b, off + T, none⟩ = some (.int .u64 (x : Nat)) := by rw [HWQ.out]; exact hcT
       have d1 : decide (T < l.length) = true := by simpa using hTl
       have d2 : decide ((c : Int) < 128) = true := by simpa using hc128
       have hwT1 : IntKind.i64.wrap ((T : Int) + 1) = T + 1 := by rw [IntWalk.i64_in _ (by omega)]
       clear hTx hcT hcx hcb hle
       have HMORE := Hj hmore
       clear hmore
       gi_wp2
       gi_quiet (fail)
       gi_wp2
       refine ⟨⟨c + 1, by omega, by have := HMORE.out; omega, by rw [show j + (c + 1) = T + 1 by rw [HT.out]; omega]; go_num, q + nq, by rw [HWQ.out, World.drewN_drewN]⟩, by have := HT.out; simp [intOf]; omega⟩
     · have hcn' : c = n := by omega
       have hstop : (T < l.length ∧ c < 128 ∧ ∃ y, l[T]? = some y ∧ y ≠ x) ∨ (T < l.length ∧ ¬ c < 128) ∨ ¬ T < l.length := by
        by_cases h1 : T < l.length
        · by_cases h2 : c < 128
          · refine .inl ⟨h1, h2, l[T], List.getElem?_eq_getElem h1, fun he => ?_⟩
            have e1 := lead_stop x 127 (l.drop (j + 1)) l[T] (l.drop (T + 1)) (by
             rw [List.drop_drop, show j + 1 + lead x 127 (l.drop (j + 1)) = T by have := HN.out; have := HT.out; omega]
             exact List.drop_eq_getElem_cons h1) (by have := HN.out; omega)
            exact e1 he
          · exact .inr (.inl ⟨h1, h2⟩)
        · exact .inr (.inr h1)
       have hpx : pre ++ [(x, n)] <+: runsOf l := ⟨runsOf (l.drop (j + n)), by rw [← HX.out]; simp⟩
       have hJq : J pre wq := HJ.out _ _ _ HJp.out (by rw [HWQ.out]; exact (Keeps.refl _ _).drewN q)
       have HCN := Hj hcn'; have HPX := Hj hpx; have HJQ := Hj hJq
       clear hcn' hpx hJq hmore
       rcases hstop with ⟨h1, h2, y, hy, hyx⟩ | ⟨h1, h2⟩ | h1
       · obtain ⟨b', off', hbo, hcT⟩ := qgc Hh.out hy
         simp only [Option.some.injEq, Addr.mk.injEq] at hbo
         obtain ⟨rfl, rfl, _⟩ := hbo
         have hcTq : wq.cell? ⟨b, off + T, none⟩ = some (.int .u64 (y : Nat)) := by rw [HWQ.out]; exact hcT
         have hTl : (T : Int) < l.length := by omega
         have hc128 : (c : Int) < 128 := by omega
         have d1 : decide (T < l.length) = true := by simpa using hTl
         have d2 : decide ((c : Int) < 128) = true := by simpa using hc128
         have d3 : ((y : Int) == (x : Int)) = false := by simp; omega
         clear hy hyx hcT hcx hcb h1 h2
         gi_wp2
         gi_quiet (fail)
         obtain ⟨w2, hw2⟩ : ∃ w2, w2 = wq.drewN nq := ⟨_, rfl⟩
         rw [← hw2]
         have hc2 : w2.cell? ⟨Bx, 0, none⟩ = some (.slice (some ⟨b, off, none⟩) l.length cap) := by rw [hw2]; exact hcq
         have hcx2 : w2.cell? ⟨b, off + j, none⟩ = some (.int .u64 (x : Nat)) := by rw [hw2]; exact hcxq
         have hh2 : Holds w2 (.slice (some ⟨b, off, none⟩) l.length cap) (u64s l) := Hh.out.keeps (S := fun _ => False) (by rw [hw2, HWQ.out]; exact ((Keeps.refl _ _).drewN q).drewN nq) (fun _ _ h => h)
         obtain ⟨fn, tmps, assign, body, hyy, hR⟩ := HY.out pre (x, n) w2 (HJ.out _ _ _ HJQ.out (by rw [hw2]; exact (Keeps.refl _ _).drewN nq)) HPX.out
         simp only [encR] at hyy
         rw [← HCN.out] at hyy
         have HH2 := Hj hh2
         clear hw2 hcq hcxq hh2
         gi_wp2
         refine ⟨rfl, hR.mono ?_⟩
         rintro e W3 (⟨rfl, hJ3, hk3⟩ | ⟨rfl, hJx3, hk3⟩)
         · have hc3 := hk3.cell hc2 (fun h => h (.inl rfl))
           have hh3 := HH2.out.keepsH hk3 qdz (fun g hg hs => hs (.inr hg))
           have HJ3 := Hj hJ3; have HH3 := Hj hh3
           clear hJ3 hk3 hh3 hc2 hcx2
           gi_wp2
           refine ⟨⟨T, pre ++ [(x, n)], hTb, rfl, ?_, hc3, HH3.out, HJ3.out⟩, by have := HT.out; simp [intOf]; omega⟩
           rw [HT.out, HCN.out, ← HX.out]; simp
         · have HJx3 := Hj hJx3
           clear hJx3 hk3 hc2 hcx2
           gi_wp2
           refine bodyPost_ret (results_none rfl _ _ _) rfl ?_
           exact ⟨⟨_, rfl⟩, .inr ⟨_, HPX.out, HJx3.out⟩⟩
       · have hTl : (T : Int) < l.length := by omega
         have hc128 : ¬ (c : Int) < 128 := by omega
         have d1 : decide (T < l.length) = true := by simpa using hTl
         have d2 : decide ((c : Int) < 128) = false := by simpa using hc128
         clear hcx hcb h1 h2
         gi_wp2
         gi_quiet (fail)
         obtain ⟨w2, hw2⟩ : ∃ w2, w2 = wq.drewN nq := ⟨_, rfl⟩
         rw [← hw2]
         have hc2 : w2.cell? ⟨Bx, 0, none⟩ = some (.slice (some ⟨b, off, none⟩) l.length cap) := by rw [hw2]; exact hcq
         have hcx2 : w2.cell? ⟨b, off + j, none⟩ = some (.int .u64 (x : Nat)) := by rw [hw2]; exact hcxq
         have hh2 : Holds w2 (.slice (some ⟨b, off, none⟩) l.length cap) (u64s l) := Hh.out.keeps (S := fun _ => False) (by rw [hw2, HWQ.out]; exact ((Keeps.refl _ _).drewN q).drewN nq) (fun _ _ h => h)
         obtain ⟨fn, tmps, assign, body, hyy, hR⟩ := HY.out pre (x, n) w2 (HJ.out _ _ _ HJQ.out (by rw [hw2]; exact (Keeps.refl _ _).drewN nq)) HPX.out
         simp only [encR] at hyy
         rw [← HCN.out] at hyy
         have HH2 := Hj hh2
         clear hw2 hcq hcxq hh2
         gi_wp2
         refine ⟨rfl, hR.mono ?_⟩
         rintro e W3 (⟨rfl, hJ3, hk3⟩ | ⟨rfl, hJx3, hk3⟩)
         · have hc3 := hk3.cell hc2 (fun h => h (.inl rfl))
           have hh3 := HH2.out.keepsH hk3 qdz (fun g hg hs => hs (.inr hg))
           have HJ3 := Hj hJ3; have HH3 := Hj hh3
           clear hJ3 hk3 hh3 hc2 hcx2
           gi_wp2
           refine ⟨⟨T, pre ++ [(x, n)], hTb, rfl, ?_, hc3, HH3.out, HJ3.out⟩, by have := HT.out; simp [intOf]; omega⟩
           rw [HT.out, HCN.out, ← HX.out]; simp
         · have HJx3 := Hj hJx3
           clear hJx3 hk3 hc2 hcx2
           gi_wp2
           refine bodyPost_ret (results_none rfl _ _ _) rfl ?_
           exact ⟨⟨_, rfl⟩, .inr ⟨_, HPX.out, HJx3.out⟩⟩
       · have hTl : ¬ (T : Int) < l.length := by omega
         have d1 : decide (T < l.length) = false := by simpa using hTl
         clear hcx hcb h1
         gi_wp2
         gi_quiet (fail)
         obtain ⟨w2, hw2⟩ : ∃ w2, w2 = wq.drewN nq := ⟨_, rfl⟩
         rw [← hw2]
         have hc2 : w2.cell? ⟨Bx, 0, none⟩ = some (.slice (some ⟨b, off, none⟩) l.length cap) := by rw [hw2]; exact hcq
         have hcx2 : w2.cell? ⟨b, off + j, none⟩ = some (.int .u64 (x : Nat)) := by rw [hw2]; exact hcxq
         have hh2 : Holds w2 (.slice (some ⟨b, off, none⟩) l.length cap) (u64s l) := Hh.out.keeps (S := fun _ => False) (by rw [hw2, HWQ.out]; exact ((Keeps.refl _ _).drewN q).drewN nq) (fun _ _ h => h)
         obtain ⟨fn, tmps, assign, body, hyy, hR⟩ := HY.out pre (x, n) w2 (HJ.out _ _ _ HJQ.out (by rw [hw2]; exact (Keeps.refl _ _).drewN nq)) HPX.out
         simp only [encR] at hyy
         rw [← HCN.out] at hyy
         have HH2 := Hj hh2
         clear hw2 hcq hcxq hh2
         gi_wp2
         refine ⟨rfl, hR.mono ?_⟩
         rintro e W3 (⟨rfl, hJ3, hk3⟩ | ⟨rfl, hJx3, hk3⟩)
         · have hc3 := hk3.cell hc2 (fun h => h (.inl rfl))
           have hh3 := HH2.out.keepsH hk3 qdz (fun g hg hs => hs (.inr hg))
           have HJ3 := Hj hJ3; have HH3 := Hj hh3
           clear hJ3 hk3 hh3 hc2 hcx2
           gi_wp2
           refine ⟨⟨T, pre ++ [(x, n)], hTb, rfl, ?_, hc3, HH3.out, HJ3.out⟩, by have := HT.out; simp [intOf]; omega⟩
           rw [HT.out, HCN.out, ← HX.out]; simp
         · have HJx3 := Hj hJx3
           clear hJx3 hk3 hc2 hcx2
           gi_wp2
           refine bodyPost_ret (results_none rfl _ _ _) rfl ?_
           exact ⟨⟨_, rfl⟩, .inr ⟨_, HPX.out, HJx3.out⟩⟩
  · have e : j = l.length := by omega
    subst e
    rw [List.drop_length, runsOf_nil, List.append_nil] at hx
    subst hx
    gi_wp2
    go_end0
    exact ⟨⟨_, rfl⟩, .inl ⟨_, rfl, hJp⟩⟩
theorem runs_any (ad : Option Addr) (len cap : Nat) (w : World) : Calls Tryz.prog 102 #[.slice ad len cap] w fun e w' => e = .returned (.func (.func 155) #[] #[.pointer (some ⟨w.heap.size, 0, none⟩)]) ∧ w' = w.alloc (.cells #[.slice ad len cap] 55) := by
 have hmf : ∀ (fn : Fn) (first cap : Array Value) (w : World), (Instr.makeFunc fn first cap).run Tryz.prog w = .ok (.func fn first cap) w := fun _ _ _ _ => rfl
 go_enter Tryz.func102, Tryz.ntmps102
 go_wp2
 go_ret
 exact ⟨rfl, rfl⟩
end
section
set_option maxHeartbeats 2000000
set_option maxRecDepth 100000
open Go.RowKit
attribute [local go_sem ↓] Go.wp_at_zero Go.wp_at_succ
theorem ordS_ways (a b : ByteArray) : ordS a b = -1 ∨ ordS a b = 0 ∨ ordS a b = 1 := by
 unfold ordS
 split
 · exact .inl rfl
 · split
   · exact .inr (.inl rfl)
   · exact .inr (.inr rfl)
def prevOf (l : List Lab) (k : Nat) : Option Lab := if k = 0 then none else l[k - 1]?
theorem qfr (l : List Lab) (k : Nat) : prevOf l (k + 1) = l[k]? := by unfold prevOf; rw [if_neg (by omega), Nat.add_sub_cancel]
theorem chkE_err (p : Option Lab) (x : Lab) (r : List Lab) (h : labE x ≠ 0) : chkE p (x :: r) = labE x := by unfold chkE; rw [if_pos h]
theorem qkl (x : Lab) (r : List Lab) (h : labE x = 0) : chkE none (x :: r) = chkE (some x) r := by rw [chkE, if_neg (by simpa using h)]
theorem chkE_dup (q x : Lab) (r : List Lab) (h : labE x = 0) (h2 : ordS q.1 x.1 = 0) : chkE (some q) (x :: r) = 18 := by rw [chkE, if_neg (by simpa using h)]; simp [h2]
theorem chkE_ord (q x : Lab) (r : List Lab) (h : labE x = 0) (h2 : ordS q.1 x.1 = 1) : chkE (some q) (x :: r) = 16 := by rw [chkE, if_neg (by simpa using h)]; simp [h2]
theorem chkE_next (q x : Lab) (r : List Lab) (h : labE x = 0) (h2 : ordS q.1 x.1 = -1) : chkE (some q) (x :: r) = chkE (some x) r := by rw [chkE, if_neg (by simpa using h)]; simp [h2]
def KRel (l : List Lab) (w1 : World) (i : Value) (wr : World) : Prop := ∃ k : Nat, k ≤ l.length ∧ i = .int .i64 (k : Nat) ∧ Hid (chkE none l = chkE (prevOf l k) (l.drop k)) ∧ Below w1.heap.size w1 wr
theorem KRel.next {l : List Lab} {w1 wr : World} {k : Nat} {x : Lab} {p : Option Lab} (hx : l[k]? = some x) (hE : chkE none l = chkE p (l.drop k)) (h : chkE p (x :: l.drop (k + 1)) = chkE (some x) (l.drop (k + 1))) (hb : Below w1.heap.size w1 wr) : KRel l w1 (.int .i64 ((k : Int) + 1)) wr :=
 ⟨k + 1, (List.getElem?_eq_some_iff.1 hx).1, rfl, Hj (by rw [hE, qaz hx, h, qfr, hx]), hb⟩
theorem check_any (v : Value) (l : List Lab) (w : World) (h : RdL w v l) (hl : l.length ≤ 1099511627776) :
 Calls Tryz.prog 160 #[v] w fun e w' => e = .returned (.int .i64 (chkE none l)) ∧ Below w.heap.size w w' := by
 have HH := Hj h
 obtain ⟨ad, cap, rfl, hcap⟩ := h.slice
 clear h
 have hx0 := fun w => ix0 (.func (.func 202) #[] #[]) (.func (.func 203) #[] #[]) w
 have hf0 := fun w => fd0 202 w
 go_enter Tryz.func160, Tryz.ntmps160
 go_wp2_with (first
  | (go_at_call 166; refine (qig _).mono ?_; rintro e w1 ⟨rfl, hb1⟩)
  | (go_at_call 195; refine (by_any 202 _).mono ?_; rintro e w2 ⟨B, rfl, hcB, hb2⟩))
 have hb12 := hb1.trans (hb2.mono hb1.size)
 have HB12 := Hj hb12; have HCB := Hj hcB
 clear hb1 hb2 hb12 hcB
 go_loopw [13] (fun i wr => KRel l w2 i wr) (fun i _ => l.length - (intOf i).toNat)
 case atStart => exact ⟨0, by omega, rfl, Hj rfl, Below.refl _ _⟩
 case round =>
  obtain ⟨k, hk, rfl, HE, hbr⟩ := hrel
  by_cases hkl : k < l.length
  · have hrd : RdL wr (.slice ad l.length cap) l := HH.out.below (HB12.out.trans (hbr.mono HB12.out.size))
    obtain ⟨⟨x1, x2⟩, hx⟩ := qaj hkl
    obtain ⟨b, off, rfl, c1, c2⟩ := hrd.at hx
    have hkl' : (k : Int) < (l.length : Int) := by omega
    obtain ⟨W1, hW1⟩ : ∃ W1, W1 = wr.alloc (.cells #[.string x1, .string x2] 94) := ⟨_, rfl⟩
    have hr1 : W1.heap[wr.heap.size]? = some (.cells #[.string x1, .string x2] 94 (0, 0)) := by rw [hW1]; exact heap_alloc_new wr _
    have e1 : W1.cell? ⟨wr.heap.size, 0, none⟩ = some (.string x1) := by rw [cell_of_row _ _ _ _ _ _ hr1]; rfl
    have e2 : W1.cell? ⟨wr.heap.size, 1, none⟩ = some (.string x2) := by rw [cell_of_row _ _ _ _ _ _ hr1]; rfl
    have hbW : Below w2.heap.size w2 W1 := by rw [hW1]; exact hbr.alloc hbr.size _
    have hbW2 : Below wr.heap.size wr W1 := by rw [hW1]; exact (Below.refl _ _).alloc (Nat.le_refl _) _
    have HBW := Hj hbW; have HBW2 := Hj hbW2
    have HSG := Hj (single_any (x1, x2) W1)
    have HX := Hj hx
    have HRD := Hj hrd
    obtain ⟨E, hE⟩ : ∃ E, E = labE (x1, x2) := ⟨_, rfl⟩
    rw [← hE] at HSG
    have HLE := Hj hE
    clear hr1 hbW hbW2 hx hrd hE hkl
    by_cases hz : E = 0
    · subst hz
      rcases Nat.eq_zero_or_pos k with rfl | hkp
      · simp only [Nat.zero_mul, Nat.add_zero] at c1 c2
        have h0l : (0 : Int) < (l.length : Int) := by omega
        clear hkl' hk
        go_wp2_with fail
        rw [← hW1]
        go_wp2_with (go_at_call 196; refine HSG.out.mono ?_; rintro e w3 ⟨rfl, hb3⟩)
        exact ⟨KRel.next HX.out HE.out (qkl _ _ HLE.out.symm) (HBW.out.trans (hb3.mono HBW.out.size)), by simp [intOf]; omega⟩
      · obtain ⟨j, rfl⟩ : ∃ j, k = j + 1 := ⟨k - 1, by omega⟩
        obtain ⟨⟨q1, q2⟩, hq⟩ := qaj (l := l) (k := j) (by omega)
        obtain ⟨b', off', hbb, d1, d2⟩ := HRD.out.at hq
        simp only [Option.some.injEq, Addr.mk.injEq, and_true] at hbb
        obtain ⟨rfl, rfl⟩ := hbb
        have hjl : (j : Int) < (l.length : Int) := by omega
        have hjl2 : ((j : Int) + 1) < (l.length : Int) := by omega
        have HQ : Hid (chkE none l = chkE (some (q1, q2)) (l.drop (j + 1))) := Hj (by rw [HE.out, qfr, hq])
        have hj0 : (0 : Int) ≤ (j : Int) := by omega
        have hjw : IntKind.i64.wrap (j : Int) = (j : Int) := by rw [IntKind.wrap_i64]; omega
        have hkz : (((j : Int) + 1) == 0) = false := by rw [beq_eq_false_iff_ne]; omega
        have HD1 := Hj d1; have HD2 := Hj d2; have HE1 := Hj e1; have HE2 := Hj e2
        clear hkp hk hq hkl' d1 d2 e1 e2
        obtain ⟨D, hD⟩ : ∃ D, D = ordS q1 x1 := ⟨_, rfl⟩
        have HDD := Hj hD
        have hway := ordS_ways q1 x1
        rw [← hD] at hway
        clear hD
        go_wp2_with fail
        rw [← hW1]
        have e1 := HE1.out; have e2 := HE2.out
        clear c1 c2
        go_wp2_with (go_at_call 196; refine HSG.out.mono ?_; rintro e w3 ⟨rfl, hb3⟩)
        have HB3 := Hj (HBW.out.trans (hb3.mono HBW.out.size))
        have CC : Hid (∀ wq, Below w3.heap.size w3 wq → wq.cell? ⟨b, off + j * 2, none⟩ = some (.string q1) ∧ wq.cell? ⟨b, off + j * 2 + 1, none⟩ = some (.string q2) ∧ wq.cell? ⟨wr.heap.size, 0, none⟩ = some (.string x1) ∧ wq.cell? ⟨wr.heap.size, 1, none⟩ = some (.string x2) ∧ wq.cell? ⟨B, 0, none⟩ = some (.func (.func 202) #[] #[])) := Hj (fun wq h => by
         have g1 : Below W1.heap.size W1 wq := hb3.trans (h.mono hb3.size)
         have g2 : Below wr.heap.size wr wq := HBW2.out.trans (g1.mono HBW2.out.size)
         have g3 : Below w2.heap.size w2 wq := HBW.out.trans (g1.mono HBW.out.size)
         refine ⟨?_, ?_, ?_, ?_, ?_⟩
         · rw [g2.cell (World.block_lt_of_cell? wr _ HD1.out)]; exact HD1.out
         · rw [g2.cell (World.block_lt_of_cell? wr _ HD2.out)]; exact HD2.out
         · rw [g1.cell (World.block_lt_of_cell? W1 _ HE1.out)]; exact HE1.out
         · rw [g1.cell (World.block_lt_of_cell? W1 _ HE2.out)]; exact HE2.out
         · rw [g3.cell (World.block_lt_of_cell? w2 _ HCB.out)]; exact HCB.out)
        have CB : Hid (∀ wq, Below w3.heap.size w3 wq → Calls Tryz.prog 225 #[.agg #[.string q1, .string q2], .agg #[.string x1, .string x2], .pointer (some ⟨B, 0, none⟩)] wq fun e w' => e = .returned (.int .i64 D) ∧ Below w3.heap.size w3 w') := Hj (fun wq h => by
         have h2 := by1_1 (q1, q2) (x1, x2) B wq (CC.out wq h).2.2.2.2
         rw [← HDD.out] at h2
         exact h2.mono fun e w' ⟨he, hb⟩ => ⟨he, h.trans (hb.mono h.size)⟩)
        clear e1 e2 hb3 hW1
        refine qas (fun x => Below w3.heap.size w3 x) (by kernel_rfl) (by kernel_rfl) (Below.refl _ _).drew ?_
        repeat (
         refine wpQuiet_step (fun K hK => ?_)
         go_simp
         first
          | (refine hK _ ?_; clear hK K)
          | (refine ⟨_, fun _ _ => rfl, hK _ ?_⟩; clear hK K)
          | (apply Exists.intro
             refine ⟨fun wq hwq => ?_, hK _ ?_⟩
             (first
              | (go_at_call 225; exact CB.out _ hwq)
              | (have hc := CC.out _ hwq; go_simp; exact rfl)
              | (obtain ⟨hc0, hc1, hc2, hc3, hc4⟩ := CC.out _ hwq; go_simp; exact rfl))
             clear hK K))
        refine wpQuiet_nil ?_
        intro wq hwq
        have HBQ := Hj (HB3.out.trans (hwq.mono HB3.out.size))
        clear hwq CC CB
        rcases hway with rfl | rfl | rfl
        · go_wp2
          exact ⟨KRel.next (p := some (q1, q2)) HX.out HQ.out (chkE_next _ _ _ HLE.out.symm HDD.out.symm) HBQ.out, by simp [intOf]; omega⟩
        · have HF : Hid (chkE none l = 18) := Hj (HQ.out.trans (by rw [qaz HX.out]; exact chkE_dup _ _ _ HLE.out.symm HDD.out.symm))
          go_wp2
          go_ret
          exact ⟨qag HF.out.symm, HB12.out.trans (HBQ.out.mono HB12.out.size)⟩
        · have HF : Hid (chkE none l = 16) := Hj (HQ.out.trans (by rw [qaz HX.out]; exact chkE_ord _ _ _ HLE.out.symm HDD.out.symm))
          go_wp2
          go_ret
          exact ⟨qag HF.out.symm, HB12.out.trans (HBQ.out.mono HB12.out.size)⟩
    · have hn : (E != 0) = true := by simpa using hz
      have HF : Hid (chkE none l = E) := Hj (by rw [HE.out, qaz HX.out, chkE_err _ _ _ (by rw [← HLE.out]; exact hz)]; exact HLE.out.symm)
      clear hz hk HE
      go_wp2_with fail
      rw [← hW1]
      go_wp2_with (go_at_call 196; refine HSG.out.mono ?_; rintro e w3 ⟨rfl, hb3⟩)
      go_ret
      have hb4 := HBW.out.trans (hb3.mono HBW.out.size)
      exact ⟨qag HF.out.symm, HB12.out.trans (hb4.mono HB12.out.size)⟩
  · obtain rfl : k = l.length := by omega
    have HF : Hid (chkE none l = 0) := Hj (by rw [HE.out, List.drop_length]; unfold chkE; rfl)
    clear HE
    go_wp2
    go_ret
    exact ⟨qag HF.out.symm, HB12.out.trans (hbr.mono HB12.out.size)⟩
end
section
open Go.RowKit Go.Shelf
attribute [local go_sem] Oper.semAt_some
theorem runs_here (ad : Option Addr) (cap : Nat) (l : List Nat) (w : World) (hl : l.length ≤ 140737488351232) (h : Holds w (.slice ad l.length cap) (u64s l)) :
 SeqR Tryz.prog 155 #[.pointer (some ⟨w.heap.size, 0, none⟩)] encR (fun k => k = w.heap.size ∨ ownH (.slice ad l.length cap) l k) (fun _ => False) (fun xs => xs = runsOf l) (fun pre => pre <+: runsOf l) (w.alloc (.cells #[.slice ad l.length cap] 55)) :=
 runs_seq w.heap.size _ l _ hl (by rw [cell_of_row _ _ _ _ _ _ (heap_alloc_new w _)]; rfl) (h.keeps ((Keeps.refl (fun _ => False) w).alloc _) (fun _ _ h => h))
end
section
set_option maxHeartbeats 1000000
set_option maxRecDepth 100000
open Go.RowKit Go.Shelf
attribute [local go_sem] Oper.semAt_some
theorem size_any (v : Value) (l : List Nat) (w : World) (hl : l.length ≤ 1099511627776) (h : Holds w v (u64s l)) :
 Calls Tryz.prog 46 #[v] w fun e w' => e = .returned (.int .i64 ((71 * (runsOf l).length : Nat) : Int)) ∧ Keeps (fun _ => False) w w' := by
 have HH := Hj h
 obtain ⟨ad, cap, rfl, hcap, _⟩ := h
 rw [qcg] at hcap HH ⊢
 refine (callsIn_wide (n := 0)).1 ?_
 refine callsIn_of_wp_marks Tryz.func46 rfl trivial ?_ rfl
 simp only [Tryz.ntmps46, List.size_toArray, List.length_cons, List.length_nil, Nat.reduceAdd, Nat.reduceSub, Array.replicate_succ, Array.replicate_zero, List.push_toArray, List.append_toArray, List.nil_append, List.cons_append]
 gi_wp2
 refine ⟨trivial, rfl, (callsIn_wide.2 (runs_any ad l.length cap _)).mono ?_⟩
 rintro e w1 ⟨rfl, rfl⟩
 gi_wp2
 obtain ⟨WA, hWA⟩ : ∃ WA, WA = w.alloc (.cells #[.int .i64 0] 3) := ⟨_, rfl⟩
 have hsA : WA.heap.size = w.heap.size + 1 := by rw [hWA]; simp
 have hkA : ∀ S, Keeps S w WA := fun S => by rw [hWA]; exact (Keeps.refl S w).alloc _
 have hboxA : WA.heap[w.heap.size]? = some (.cells #[.int .i64 0] 3 (0, 0)) := by rw [hWA]; exact heap_alloc_new w _
 have hseq := runs_here ad cap l WA (by omega) (HH.out.keeps (hkA (fun _ => False)) (fun _ _ h => h))
 rw [← hWA]
 obtain ⟨W0, hW0⟩ : ∃ W0, W0 = WA.alloc (.cells #[.slice ad l.length cap] 55) := ⟨_, rfl⟩
 have hsz : W0.heap.size = w.heap.size + 2 := by rw [hW0]; simp [hsA]
 have hkW : ∀ S, Keeps S w W0 := fun S => by rw [hW0]; exact (hkA S).alloc _
 have hbox : W0.heap[w.heap.size]? = some (.cells #[.int .i64 0] 3 (0, 0)) := by rw [hW0]; exact (Below.heap_alloc _ _ _ (by omega)).trans hboxA
 rw [hsA, ← hW0] at hseq
 rw [← hW0]
 have HSeq := Hj hseq
 clear hW0 hWA hseq hsA hkA hboxA
 refine qbj (gf := 155) (lb := #[.pointer (some ⟨w.heap.size + 1, 0, none⟩)]) (w := W0) rfl (enters_of Tryz.func155 (by kernel_rfl) rfl)
  HSeq.out (T := fun k => k = w.heap.size) (fun x => rfl) (fun _ h => h.elim)
  (fun k hk => ?hown) ?hT ?hT2
  (fun pre W => W.heap[w.heap.size]? = some (.cells #[.int .i64 ((71 * pre.length : Nat) : Int)] 3 (0, 0)) ∧ Keeps (fun _ => False) w W)
  (fun _ _ _ => False) ?hI (fun _ _ _ _ h _ => h) ?h0
  (fun x => { tmps := #[.slice ad l.length cap, undef, .int .i64 0, .pointer (some ⟨w.heap.size, 0, none⟩), .slice ad l.length cap, .func (.func 155) #[] #[.pointer (some ⟨w.heap.size + 1, 0, none⟩)], .agg #[.int .u64 ((x.1 : Nat) : Int), .int .i64 ((x.2 : Nat) : Int)], undef, undef, undef], defers := [] })
  ?assign ?body ?done ?stop
 case hown =>
  rcases hk with e | e
  · omega
  · have := qgv HH.out e; omega
 case hT =>
  rintro k rfl (e | e)
  · omega
  · have := qgv HH.out e; omega
 case hT2 => rintro k rfl; omega
 case hI =>
  rintro pre A B ⟨h1, h2⟩ hk
  refine ⟨hk.heap h1 ?_, h2.trans hk (fun k hk hs => ?_)⟩
  · rintro (e | e | e)
    · exact e
    · omega
    · omega
  · rcases hs with e | e | e
    · exact e
    · omega
    · omega
 case h0 => exact ⟨hbox, hkW _⟩
 case assign =>
  intro lp x W K hK
  simp only [encR]
  gi_wp2
  simpa using hK
 case body =>
  rintro lp pre ⟨x, c⟩ W ⟨h1, h2⟩ hsp hsz2
  have hc0 : W.cell? ⟨w.heap.size, 0, none⟩ = some (.int .i64 ((71 * pre.length : Nat) : Int)) := by rw [cell_of_row _ _ _ _ _ _ h1]; rfl
  have hf0 : W.frozen? ⟨w.heap.size, 0, none⟩ = false := frozen_of_row _ _ _ _ _ h1
  have hlp : pre.length ≤ 1099511627776 := by have := hsp.length_le; have := qee l; simp at *; omega
  obtain ⟨n, hn⟩ : ∃ n, n = 71 * pre.length := ⟨_, rfl⟩
  rw [← hn] at hc0
  have hw : IntKind.i64.wrap ((n : Int) + 71) = ((n + 71 : Nat) : Int) := by rw [IntWalk.i64_in _ (by omega)]; omega
  have kk : Keeps (fun k => k = w.heap.size) W (W.setCell ⟨w.heap.size, 0, none⟩ (.int .i64 ((n : Int) + 71))) := (Keeps.refl (fun k => k = w.heap.size) W).setCell (p := ⟨w.heap.size, 0, none⟩) (fun _ => rfl) _
  have fin : bodyC (fun k => k = w.heap.size)
   (fun pre W => W.heap[w.heap.size]? = some (.cells #[.int .i64 ((71 * pre.length : Nat) : Int)] 3 (0, 0)) ∧ Keeps (fun _ => False) w W) (fun _ _ _ => False) (pre ++ [(x, c)]) W .normal { tmps := #[], defers := [] } (W.setCell ⟨w.heap.size, 0, none⟩ (.int .i64 ((n : Int) + 71))) := by
   refine ⟨kk, ?_, h2.trans kk (fun k hk e => by omega)⟩
   have := heap_setCell_same W w.heap.size 0 _ _ (.int .i64 ((n : Int) + 71)) h1
   rw [this, List.length_append, List.length_singleton, show ((71 * (pre.length + 1) : Nat) : Int) = (n : Int) + 71 by rw [hn]; omega]
   rfl
  have HF := Hj fin
  have HN := Hj hn
  clear kk fin h1 h2 hsp hn
  gi_wp2
  exact HF.out
 case done =>
  rintro D xs W rfl ⟨h1, h2⟩ hD hK
  have hc0 : W.cell? ⟨w.heap.size, 0, none⟩ = some (.int .i64 ((71 * (runsOf l).length : Nat) : Int)) := by rw [cell_of_row _ _ _ _ _ _ h1]; rfl
  have H2 := Hj h2
  clear h1 h2
  gi_wp2
  refine ⟨by simp, .inl ⟨_, _, rfl, run_takeDeferred hK, ?_⟩⟩
  refine ⟨_, results_tmp rfl _ _ _, ⟨rfl, ?_⟩⟩
  exact H2.out.trans (Keeps.putObj (S := fun k => k = D) _ _ _ rfl) (fun k hk e => by omega)
 case stop => rintro D c pre W _ h; exact h.elim
theorem put_any (base p : Nat) (v0 v : Value) (bits : List Bool) (l : List Nat) (w : World) (hW : IsW w base p v0 bits) (hb0 : base ≤ w.heap.size) (hbits : bits.length ≤ 1000000000) (hl : l.length ≤ 1000000000) (hX : ∀ x ∈ l, x ≤ 18446744073709551615)
 (h : Holds w v (u64s l)) (hap : ∀ k, ownH v l k → ¬ foot p v0 k) :
 Calls Tryz.prog 47 #[.pointer (some ⟨p, 0, none⟩), v] w fun e w' => e = .returned (.int .i64 0) ∧ Wrote base p v0 (bits ++ qay (runsOf l)) w w' := by
 have HH := Hj h; have HAp := Hj hap; have HW := Hj hW; have HX := Hj hX
 obtain ⟨ad, cap, rfl, hcap, _⟩ := h
 rw [qcg] at hcap HH HAp ⊢
 have hpl := hW.lt
 have hvl : ∀ k, v0.ownBlock = some k → k < w.heap.size := fun k hk => hW.own_lt hk
 have HVL := Hj hvl
 clear hap hW hX hvl
 refine (callsIn_wide (n := 0)).1 ?_
 refine callsIn_of_wp_marks Tryz.func47 rfl trivial ?_ rfl
 simp only [Tryz.ntmps47, List.size_toArray, List.length_cons, List.length_nil, Nat.reduceAdd, Nat.reduceSub, Array.replicate_succ, Array.replicate_zero, List.push_toArray, List.append_toArray, List.nil_append, List.cons_append]
 gi_wp2
 refine ⟨trivial, rfl, (callsIn_wide.2 (runs_any ad l.length cap _)).mono ?_⟩
 rintro e w1 ⟨rfl, rfl⟩
 gi_wp2
 obtain ⟨WA, hWA⟩ : ∃ WA, WA = w.alloc (.cells #[.pointer (some ⟨p, 0, none⟩)] 57) := ⟨_, rfl⟩
 have hsA : WA.heap.size = w.heap.size + 1 := by rw [hWA]; simp
 have hkA : ∀ S, Keeps S w WA := fun S => by rw [hWA]; exact (Keeps.refl S w).alloc _
 have hboxA : WA.heap[w.heap.size]? = some (.cells #[.pointer (some ⟨p, 0, none⟩)] 57 (0, 0)) := by rw [hWA]; exact heap_alloc_new w _
 have hseq := runs_here ad cap l WA (by omega) (HH.out.keeps (hkA (fun _ => False)) (fun _ _ h => h))
 rw [← hWA]
 obtain ⟨W0, hW0⟩ : ∃ W0, W0 = WA.alloc (.cells #[.slice ad l.length cap] 55) := ⟨_, rfl⟩
 have hsz : W0.heap.size = w.heap.size + 2 := by rw [hW0]; simp [hsA]
 have hkW : ∀ S, Keeps S w W0 := fun S => by rw [hW0]; exact (hkA S).alloc _
 have hbox : W0.heap[w.heap.size]? = some (.cells #[.pointer (some ⟨p, 0, none⟩)] 57 (0, 0)) := by rw [hW0]; exact (Below.heap_alloc _ _ _ (by omega)).trans hboxA
 rw [hsA, ← hW0] at hseq
 rw [← hW0]
 have HSeq := Hj hseq
 clear hW0 hWA hseq hsA hkA hboxA
 have hT1 : ∀ k, foot p v0 k → k < w.heap.size := fun k hk => by
  rcases hk with rfl | hk
  · exact hpl
  · exact HVL.out k hk
 have HT1 := Hj hT1
 clear hT1
 refine qen (gf := 155) (lb := #[.pointer (some ⟨w.heap.size + 1, 0, none⟩)]) (w := W0) rfl (enters_of Tryz.func155 (by kernel_rfl) rfl)
  HSeq.out (T := fun k => foot p v0 k ∨ w.heap.size + 4 ≤ k) (fun x => rfl) (fun _ h => h.elim)
  (fun k hk => ?hown) ?hT ?hT2
  (fun pre W => W.heap[w.heap.size]? = some (.cells #[.pointer (some ⟨p, 0, none⟩)] 57 (0, 0)) ∧ ∃ v', IsW W base p v' (bits ++ qay pre) ∧ Keeps (foot p v0) w W ∧ ∀ g, v'.ownBlock = some g → v0.ownBlock = some g ∨ w.heap.size + 4 ≤ g)
  (fun _ _ _ => False) ?hI (fun _ _ _ _ h _ => h) ?h0
  (fun x D => { tmps := #[.pointer (some ⟨p, 0, none⟩), .slice ad l.length cap, .pointer (some ⟨w.heap.size, 0, none⟩), undef, .int .i64 0, .pointer (some ⟨D, 0, none⟩), .pointer (some ⟨p, 0, none⟩), .bool false, .slice ad l.length cap, .func (.func 155) #[] #[.pointer (some ⟨w.heap.size + 1, 0, none⟩)], .agg #[.int .u64 ((x.1 : Nat) : Int), .int .i64 ((x.2 : Nat) : Int)], undef, undef, undef, undef, undef, undef, undef, undef, undef, undef], defers := [] })
  (fun x => #[.int .u64 ((x.1 : Nat) : Int), .int .i64 ((x.2 : Nat) : Int)]) 197 ?assign ?body ?done ?stop
 case hown =>
  rcases hk with e | e
  · omega
  · have := qgv HH.out e; omega
 case hT =>
  rintro k (hk | hk) (e | e)
  · have := HT1.out k hk; omega
  · exact HAp.out k e hk
  · omega
  · have := qgv HH.out e; omega
 case hT2 =>
  rintro k (hk | hk)
  · have := HT1.out k hk; omega
  · omega
 case hI =>
  rintro pre A B ⟨h1, v', h2, h3, h4⟩ hk
  refine ⟨hk.heap h1 ?_, v', h2.keeps hk ?_ (fun g hg => ?_), h3.trans hk (fun k hk hs => ?_), h4⟩
  · rintro (e | e | e)
    · exact e
    · omega
    · omega
  · rintro (e | e | e)
    · exact e
    · omega
    · omega
  · rintro (e | e | e)
    · exact e
    · rcases h4 g hg with h | h
      · have := HVL.out g h; omega
      · omega
    · rcases h4 g hg with h | h
      · have := HVL.out g h; omega
      · omega
  · rcases hs with e | e | e
    · exact e.elim
    · omega
    · omega
 case h0 =>
  refine ⟨hbox, v0, ?_, hkW _, fun g hg => .inl hg⟩
  have := HW.out.keeps (hkW (fun _ => False)) (fun h => h) (fun _ _ h => h)
  simpa [qay] using this
 case assign =>
  intro lp x W K hK
  simp only [encR]
  gi_wp2
  exact hK
 case body =>
  rintro lp D pre ⟨x, c⟩ W ⟨h1, v', h2, h3, h4⟩ hsp hsz2 hD hDb
  have hmem : (x, c) ∈ runsOf l := hsp.subset (by simp)
  obtain ⟨hxl, hc1, hc2⟩ := runsOf_mem hmem
  simp only at hxl hc1 hc2
  have hx := HX.out x hxl
  have hlp : pre.length ≤ 1000000000 := by have := hsp.length_le; have := qee l; simp at *; omega
  obtain ⟨m, hm⟩ : ∃ m, c = m + 1 := ⟨c - 1, by omega⟩
  have hc0 : W.cell? ⟨w.heap.size, 0, none⟩ = some (.pointer (some ⟨p, 0, none⟩)) := by rw [cell_of_row _ _ _ _ _ _ h1]; rfl
  have hd0 : W.cell? ⟨D, 0, none⟩ = some (.int .u64 (x : Nat)) := by rw [cell_of_row _ _ _ _ _ _ hD]; rfl
  have hd1 : W.cell? ⟨D, 1, none⟩ = some (.int .i64 (c : Nat)) := by rw [cell_of_row _ _ _ _ _ _ hD]; rfl
  have hb1 : base ≤ W.heap.size := by omega
  have hlen : (bits ++ qay pre).length ≤ 1099511627776 := by rw [List.length_append, qce]; omega
  have hlen2 : (bits ++ qay pre ++ qab x 64).length ≤ 1099511627776 := by rw [List.length_append, List.length_append, qce, qad]; omega
  have hend : bits ++ qay (pre ++ [(x, c)]) = bits ++ qay pre ++ qab x 64 ++ qab m 7 := by rw [encRuns_snoc, encRun, hm]; simp
  have hDp : ¬ D = p := by have := HT1.out p (.inl rfl); omega
  have hDv : ∀ (u : Value) (L : List Bool) (V : World), IsW V base p u L → V.heap[D]? = some (.cells #[.int .u64 ((x : Nat) : Int), .int .i64 ((c : Nat) : Int)] 197 (0, 0)) → ¬ foot p u D := fun u L V hV hVD e => by
   rcases e with e | e
   · exact hDp e
   · obtain ⟨c', hc'⟩ := qak hV.row e
     exact qaf hc' hVD (by decide) rfl
  have hbv : ∀ (u : Value), (∀ g, u.ownBlock = some g → v0.ownBlock = some g ∨ w.heap.size + 4 ≤ g) → ¬ foot p u w.heap.size := fun u hu e => by
   rcases e with e | e
   · omega
   · rcases hu _ e with h | h
     · have := HVL.out _ h; omega
     · omega
  have H1 := Hj h1; have H2 := Hj h2; have H3 := Hj h3; have H4 := Hj h4; have HD := Hj hD; have HM := Hj hm; have HE := Hj hend; have HDV := Hj hDv; have HBV := Hj hbv
  have hwc : IntKind.i64.wrap ((c : Int) - 1) = m := by rw [IntWalk.i64_in _ (by omega)]; omega
  have hcm : (c : Int) - 1 = m := by omega
  have hwm : IntKind.u64.wrap (m : Int) = m := wrap_u64 m (by omega)
  have hm7 : m < 128 := by omega
  clear h1 h2 h3 h4 hsp hD hm hend hDv hbv hmem hxl
  gi_wp2
  refine ⟨trivial, rfl, ((callsIn_wide.2 (qbp base p v' _ x 64 W H2.out hx (by omega) hlen hb1)).inRound lp).mono ?_⟩
  rintro e W1 ⟨rfl, v1, i1, k1, n1⟩
  have hq1 := k1.cell hc0 (HBV.out v' H4.out)
  have hq2 := k1.cell hd1 (HDV.out v' _ W H2.out HD.out)
  have HD1 := Hj (k1.heap HD.out (HDV.out v' _ W H2.out HD.out))
  have H11 := Hj (k1.heap H1.out (HBV.out v' H4.out))
  have hn1 : ∀ g, v1.ownBlock = some g → v0.ownBlock = some g ∨ w.heap.size + 4 ≤ g := fun g hg => by
   rcases n1 g hg with h | h
   · exact H4.out g h
   · exact .inr (by omega)
  have K1 : Hid (Keeps (fun k => foot p v0 k ∨ w.heap.size + 4 ≤ k) W W1) := Hj (k1.mono (fun k _ e => by
   rcases e with e | e
   · exact .inl (.inl e)
   · rcases H4.out k e with h | h
     · exact .inl (.inr h)
     · exact .inr h))
  have hb2 : base ≤ W1.heap.size := by have := k1.size; omega
  have hs1 : W.heap.size ≤ W1.heap.size := k1.size
  have I1 := Hj i1; have HN1 := Hj hn1
  clear i1 k1 n1 hn1 hc0 hd0 hd1
  gi_wp2
  refine ⟨trivial, rfl, ((callsIn_wide.2 (qbp base p v1 _ m 7 W1 I1.out (by omega) (by omega) hlen2 hb2)).inRound lp).mono ?_⟩
  rintro e W2 ⟨rfl, v2, i2, k2, n2⟩
  have K2 : Keeps (fun k => foot p v0 k ∨ w.heap.size + 4 ≤ k) W1 W2 := k2.mono (fun k _ e => by
   rcases e with e | e
   · exact .inl (.inl e)
   · rcases HN1.out k e with h | h
     · exact .inl (.inr h)
     · exact .inr h)
  have K12 := K1.out.trans K2 (fun _ _ h => h)
  have hh1 := k2.heap H11.out (HBV.out v1 HN1.out)
  have hn2 : ∀ g, v2.ownBlock = some g → v0.ownBlock = some g ∨ w.heap.size + 4 ≤ g := fun g hg => by
   rcases n2 g hg with h | h
   · exact HN1.out g h
   · exact .inr (by omega)
  rw [← HE.out] at i2
  have hk3 : Keeps (foot p v0) w W2 := H3.out.trans K12 (fun k hk e => e.elim id (fun h => by omega))
  have FI := Hj i2; have F1 := Hj K12; have F2 := Hj hh1; have F3 := Hj hn2; have F4 := Hj hk3
  clear i2 k2 n2 K2 K12 hh1 hn2 hk3 hq1 hq2
  gi_wp2
  exact ⟨F1.out, F2.out, v2, FI.out, F4.out, F3.out⟩
 case done =>
  rintro D xs W rfl ⟨h1, v', h2, h3, h4⟩ hD hK
  have H2 := Hj h2; have H3 := Hj h3; have H4 := Hj h4
  clear h1 h2 h3 h4
  gi_wp2
  refine ⟨by simp, .inl ⟨_, _, rfl, run_takeDeferred hK, ?_⟩⟩
  refine ⟨_, results_tmp rfl _ _ _, ⟨rfl, v', ?_, ?_, fun g hg => ?_⟩⟩
  · have hp : Keeps (fun k => k = D) W (W.putObj D (.deferred none)) := Keeps.putObj _ _ _ rfl
    refine H2.out.keeps hp (by omega) (fun g hg e => ?_)
    obtain ⟨c', hc'⟩ := qak H2.out.row hg
    subst e
    rw [hK] at hc'
    cases hc'
  · exact H3.out.trans (Keeps.putObj (S := fun k => k = D) _ _ _ rfl) (fun k hk e => by omega)
  · rcases H4.out g hg with h | h
    · exact .inl h
    · exact .inr (by omega)
 case stop => rintro D c pre W _ h; exact h.elim
end
section
open Go.RowKit
end
section
open Go.RowKit
end
section
set_option maxHeartbeats 1000000
set_option maxRecDepth 100000
open Go.RowKit
theorem or2_any (g : Nat) (a b : Int) (w : World) (h0 : w.cell? ⟨g, 0, none⟩ = some (.int .i64 a)) (h1 : w.cell? ⟨g, 1, none⟩ = some (.int .i64 b)) :
 Calls Tryz.prog 177 #[.slice (some ⟨g, 0, none⟩) 2 2] w fun e w' => e = .returned (.int .i64 (if a ≠ 0 then a else b)) ∧ w' = w := by
 have H0 := Hj h0; have H1 := Hj h1
 clear h0 h1
 go_enter Tryz.func177, Tryz.ntmps177
 go_wp2
 go_loopw [8] (fun i wr => wr = w ∧ (i = .int .i64 0 ∨ (i = .int .i64 1 ∧ a = 0) ∨ (i = .int .i64 2 ∧ a = 0 ∧ b = 0))) (fun i _ => 2 - (intOf i).toNat)
 case atStart => exact ⟨rfl, .inl rfl⟩
 case round =>
  obtain ⟨hwr, hi⟩ := hrel
  obtain rfl := hwr.symm
  rcases hi with rfl | ⟨rfl, ha⟩ | ⟨rfl, ha, hb⟩
  · have h0 := H0.out
    by_cases ha : a = 0
    · have hne : (a != 0) = false := by simp [ha]
      go_wp2
      exact ⟨⟨trivial, .inr (.inl ⟨rfl, ha⟩)⟩, by simp [intOf]⟩
    · have hne : (a != 0) = true := by simp [ha]
      go_wp2
      go_ret
      exact ⟨rfl, rfl⟩
  · have h1 := H1.out
    by_cases hb : b = 0
    · have hne : (b != 0) = false := by simp [hb]
      go_wp2
      exact ⟨⟨trivial, .inr (.inr ⟨rfl, ha, hb⟩)⟩, by simp [intOf]⟩
    · have hne : (b != 0) = true := by simp [hb]
      go_wp2
      go_ret
      exact ⟨rfl, rfl⟩
  · go_wp2
    go_ret
    exact ⟨rfl, rfl⟩
theorem pcompare_any (x y : Lab) (w : World) :
 Calls Tryz.prog 130 #[.agg #[.string x.1, .string x.2], .agg #[.string y.1, .string y.2]] w fun e w' => e = .returned (.int .i64 (cmpE x y)) ∧ ∃ q os, w' = Go.Sort.grow (w.drewN q) os := by
 obtain ⟨x1, x2⟩ := x
 obtain ⟨y1, y2⟩ := y
 obtain ⟨W0, hW0, hb0, hs0, a1, a2, b1, b2⟩ := qdq w x1 x2 y1 y2
 obtain ⟨c1, hc1⟩ : ∃ c, c = ordS x1 y1 := ⟨_, rfl⟩
 obtain ⟨c2, hc2⟩ : ∃ c, c = ordS x2 y2 := ⟨_, rfl⟩
 have hq1 := fun w => qhs x1 y1 w
 have hq2 := fun w => qhs x2 y2 w
 rw [← hc1] at hq1; rw [← hc2] at hq2
 obtain ⟨W1, hW1⟩ : ∃ W1, W1 = W0.drew.alloc (.cells #[.int .i64 c1, .int .i64 c2] 3) := ⟨_, rfl⟩
 have hr1 : W1.heap[W0.heap.size]? = some (.cells #[.int .i64 c1, .int .i64 c2] 3 (0, 0)) := by rw [hW1]; exact heap_alloc_new W0.drew _
 have hor := or2_any W0.heap.size c1 c2 W1 (by rw [cell_of_row _ _ _ _ _ _ hr1]; rfl) (by rw [cell_of_row _ _ _ _ _ _ hr1]; rfl)
 rw [hW1] at hor
 obtain ⟨c, hc⟩ : ∃ c, c = (if c1 ≠ 0 then c1 else c2) := ⟨_, rfl⟩
 rw [← hc] at hor
 have HC := Hj hc
 have HW0 := Hj hW0; have HS0 := Hj hs0; have HC1 := Hj hc1; have HC2 := Hj hc2
 have CC : Hid (∀ q, Keeps (fun _ => False) W0 q → q.cell? ⟨w.heap.size, 0, none⟩ = some (.string x1) ∧ q.cell? ⟨w.heap.size, 1, none⟩ = some (.string x2) ∧ q.cell? ⟨w.heap.size + 1, 0, none⟩ = some (.string y1) ∧ q.cell? ⟨w.heap.size + 1, 1, none⟩ = some (.string y2)) := Hj (fun q hq => ⟨hq.cell a1 (fun e => e), hq.cell a2 (fun e => e), hq.cell b1 (fun e => e), hq.cell b2 (fun e => e)⟩)
 have K0 : Hid (Keeps (fun _ => False) W0 W0.drew) := Hj (Keeps.refl _ _).drew
 have K1 : Hid (Keeps (fun _ => False) W0 (W0.drew.alloc (.cells #[.int .i64 c1, .int .i64 c2] 3))) := Hj ((Keeps.refl _ _).drew.alloc _)
 clear hc hW0 hb0 hs0 hc1 hc2 hW1 hr1 a1 a2 b1 b2
 go_enter Tryz.func130, Tryz.ntmps130
 go_wp2_with fail
 rw [← HW0.out]
 go_region_held3 (fun q => q.cell? ⟨w.heap.size, 0, none⟩ = some (.string x1) ∧ q.cell? ⟨w.heap.size, 1, none⟩ = some (.string x2) ∧ q.cell? ⟨w.heap.size + 1, 0, none⟩ = some (.string y1) ∧ q.cell? ⟨w.heap.size + 1, 1, none⟩ = some (.string y2)) (first | exact CC.out _ K0.out | exact CC.out _ K1.out) (first
  | (go_at_call 178; with_reducible refine (hq1 _).mono ?_; rintro e w1 ⟨rfl, hw⟩; obtain rfl := hw)
  | (go_at_call 178; with_reducible refine (hq2 _).mono ?_; rintro e w1 ⟨rfl, hw⟩; obtain rfl := hw)
  | (go_at_call 177; refine hor.mono ?_; rintro e w1 ⟨rfl, hw⟩; obtain rfl := hw))
 all_goals
  go_wp2_with fail
  go_ret
  refine ⟨qag (by rw [HC.out, HC1.out, HC2.out]; rfl), 1, #[.cells #[.string x1, .string x2] 94, .cells #[.string y1, .string y2] 94, .cells #[.int .i64 c1, .int .i64 c2] 3], ?_⟩
  rw [HW0.out]
  show World.alloc (World.drew (World.alloc (World.alloc w _) _)) _ = _
  have e : ∀ (u : World) (o1 o2 o3 : Obj), ((u.alloc o1).alloc o2).drew.alloc o3 = Go.Sort.grow (u.drewN 1) #[o1, o2, o3] := fun u o1 o2 o3 => by
   rw [Go.Sort.alloc_eq_grow u, Go.Sort.alloc_eq_grow (Go.Sort.grow u _), Go.Sort.grow_grow, Go.Sort.drew_grow, Go.Sort.alloc_eq_grow, Go.Sort.grow_grow]; rfl
  exact e _ _ _ _
end
end Go.Proofs.YtfpcgcbehdogjaaGreatDoor
