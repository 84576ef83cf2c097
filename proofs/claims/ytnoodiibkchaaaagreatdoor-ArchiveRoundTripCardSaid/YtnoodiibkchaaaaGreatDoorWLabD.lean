/-
  WALKS: labels.Compare.
-/
import Derived.Test.YtnoodiibkchaaaaGreatDoorWLabC
namespace Go.Proofs.YtnoodiibkchaaaaGreatDoor
open Go.RowKit
attribute [local go_sem ↓] Go.wp_at_zero Go.wp_at_succ

theorem cmpL_step (x y : Lab) (a b : List Lab) : cmpL (x :: a) (y :: b) = if cmpE x y ≠ 0 then cmpE x y else cmpL a b := by
  unfold cmpE
  rw [cmpL]
  by_cases h1 : ordS x.1 y.1 = 0 <;> simp [h1]
theorem drop_at {α : Type} {l : List α} {k : Nat} {x : α} (h : l[k]? = some x) : l.drop k = x :: l.drop (k + 1) := by
  obtain ⟨hk, e⟩ := List.getElem?_eq_some_iff.1 h
  rw [List.drop_eq_getElem_cons hk, e]
theorem at_some {α : Type} {l : List α} {k : Nat} (h : k < l.length) : ∃ x, l[k]? = some x := ⟨l[k], by simp [h]⟩
set_option maxHeartbeats 1000000 in
set_option maxRecDepth 100000 in
theorem cmpFunc_any (va vb : Value) (a b : List Lab) (w : World) (ha : RdL w va a) (hb : RdL w vb b) (hla : a.length ≤ 1099511627776) (hlb : b.length ≤ 1099511627776) :
    Calls Tryz.prog 113 #[va, vb, .func (.func 114) #[] #[]] w fun e w' => e = .returned (.int .i64 (cmpL a b)) ∧ Below w.heap.size w w' := by
  have HA := Lib.hid ha; have HB := Lib.hid hb
  obtain ⟨aa, ca, rfl, hca⟩ := ha.slice
  obtain ⟨ab, cb, rfl, hcb⟩ := hb.slice
  clear ha hb
  go_enter Tryz.func113, Tryz.ntmps113
  go_wp2
  go_loopw [13] (fun i wr => ∃ k : Nat, k ≤ a.length ∧ k ≤ b.length ∧ i = .int .i64 (k : Nat) ∧ Hid (cmpL a b = cmpL (a.drop k) (b.drop k)) ∧ Below w.heap.size w wr) (fun i _ => a.length - (intOf i).toNat)
  case atStart => exact ⟨0, by omega, by omega, rfl, Lib.hid rfl, Below.refl _ _⟩
  case round =>
    obtain ⟨k, hk, hkb, rfl, HE, hbr⟩ := hrel
    have hra := HA.out.below hbr
    have hrb := HB.out.below hbr
    by_cases hka : k < a.length
    · obtain ⟨⟨x1, x2⟩, hx⟩ := at_some hka
      obtain ⟨ba, oa, rfl, c1, c2⟩ := hra.at hx
      have hka' : (k : Int) < (a.length : Int) := by omega
      by_cases hkb2 : k < b.length
      · obtain ⟨⟨y1, y2⟩, hy⟩ := at_some hkb2
        obtain ⟨bb, ob, rfl, c3, c4⟩ := hrb.at hy
        have hkb' : (k : Int) < (b.length : Int) := by omega
        have HST : Hid (cmpL a b = if cmpE (x1, x2) (y1, y2) ≠ 0 then cmpE (x1, x2) (y1, y2) else cmpL (a.drop (k + 1)) (b.drop (k + 1))) := Lib.hid (by
          rw [HE.out, drop_at hx, drop_at hy, cmpL_step])
        have HBR := Lib.hid hbr
        have hb1 : Below wr.heap.size wr (wr.alloc (.cells #[.string x1, .string x2] 46)) := (Below.refl _ _).alloc (Nat.le_refl _) _
        have c3' := (hb1.cell (World.block_lt_of_cell? wr _ c3)).trans c3
        have c4' := (hb1.cell (World.block_lt_of_cell? wr _ c4)).trans c4
        obtain ⟨W0, hW0, hb0, hs0, e1, e2, e3, e4⟩ := two_labels wr x1 x2 y1 y2
        have HB0 : Hid (Below w.heap.size w W0) := Lib.hid (hbr.trans (hb0.mono hbr.size))
        have HC := Lib.hid (cmp1_any (x1, x2) (y1, y2) W0)
        clear hx hy HE hra hrb hka hkb2 hb1 hb0
        obtain ⟨D, hD⟩ : ∃ D, D = cmpE (x1, x2) (y1, y2) := ⟨_, rfl⟩
        rw [← hD] at HST HC
        clear hD
        by_cases hz : D = 0
        · have HN := Lib.hid (HST.out.trans (if_neg (by simpa using hz)))
          have hn : (D != 0) = false := by simpa using hz
          clear HST hz
          go_wp2_with fail
          rw [← hW0]
          go_wp2_with (go_at_call 114; refine HC.out.mono ?_; rintro e w1 ⟨rfl, hb1⟩)
          have HBW : Hid (Below w.heap.size w w1) := Lib.hid (HB0.out.trans (hb1.mono HB0.out.size))
          exact ⟨⟨k + 1, by omega, by omega, rfl, HN, HBW.out⟩, by simp [intOf]; omega⟩
        · have HN := Lib.hid (HST.out.trans (if_pos hz))
          have hn : (D != 0) = true := by simpa using hz
          clear HST hz
          go_wp2_with fail
          rw [← hW0]
          go_wp2_with (go_at_call 114; refine HC.out.mono ?_; rintro e w1 ⟨rfl, hb1⟩)
          have HBW : Hid (Below w.heap.size w w1) := Lib.hid (HB0.out.trans (hb1.mono HB0.out.size))
          go_ret
          exact ⟨ret_i64 HN.out.symm, HBW.out⟩
      · obtain rfl : k = b.length := by omega
        have HN : Hid (cmpL a b = 1) := Lib.hid (by rw [HE.out, drop_at hx, List.drop_length]; rfl)
        have hb1 := hbr.trans (((Below.refl wr.heap.size wr).alloc (Nat.le_refl _) (.cells #[.string x1, .string x2] 46)).mono hbr.size)
        have HB1 := Lib.hid hb1
        clear hx HE hra hrb hka hb1
        go_wp2
        go_ret
        exact ⟨ret_i64 HN.out.symm, HB1.out⟩
    · obtain rfl : k = a.length := by omega
      by_cases hlt : a.length < b.length
      · have HN : Hid (cmpL a b = -1) := Lib.hid (by
          obtain ⟨y, hy⟩ := at_some hlt
          rw [HE.out, List.drop_length, drop_at hy]; rfl)
        have hlt' : (a.length : Int) < (b.length : Int) := by omega
        clear HE hra hrb
        go_wp2
        go_ret
        exact ⟨ret_i64 HN.out.symm, hbr⟩
      · have HN : Hid (cmpL a b = 0) := Lib.hid (by
          rw [HE.out, List.drop_length, show b.drop a.length = [] from List.drop_eq_nil_of_le (by omega)]; rfl)
        have hlt' : (b.length : Int) ≤ (a.length : Int) := by omega
        clear HE hra hrb
        go_wp2
        go_ret
        exact ⟨ret_i64 HN.out.symm, hbr⟩
theorem compare_any (va vb : Value) (a b : List Lab) (w : World) (ha : RdL w va a) (hb : RdL w vb b) (hla : a.length ≤ 1099511627776) (hlb : b.length ≤ 1099511627776) :
    Calls Tryz.prog 84 #[va, vb] w fun e w' => e = .returned (.int .i64 (cmpL a b)) ∧ Below w.heap.size w w' := by
  have H := Lib.hid (cmpFunc_any va vb a b w ha hb hla hlb)
  obtain ⟨aa, ca, rfl, hca⟩ := ha.slice
  obtain ⟨ab, cb, rfl, hcb⟩ := hb.slice
  clear ha hb hla hlb hca hcb
  go_enter Tryz.func84, Tryz.ntmps84
  go_wp2_with (go_at_call 113; refine H.out.mono ?_; rintro e w1 ⟨rfl, hb1⟩)
  go_ret
  exact ⟨rfl, hb1⟩
end Go.Proofs.YtnoodiibkchaaaaGreatDoor
