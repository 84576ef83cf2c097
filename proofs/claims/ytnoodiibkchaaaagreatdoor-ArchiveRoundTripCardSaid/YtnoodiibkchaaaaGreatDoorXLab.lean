/-
  WALKS: comparing strings; one label; the functions that take a label's parts.
  WALKS: the functions that compare two labels (printed by gen_lab.py).
-/
import Derived.Test.YtnoodiibkchaaaaGreatDoorXMem
import Derived.Test.YtnoodiibkchaaaaGreatDoorRows
import Derived.WalkKit
import Derived.WalkSpells
import Derived.WalkLawsBesides
import Derived.Lib.Hide
import Derived.BigCall
namespace Go.Proofs.YtnoodiibkchaaaaGreatDoor
open Go.RowKit

theorem ret_i64 {a b : Int} (h : a = b) : Ending.returned (.int .i64 a) = .returned (.int .i64 b) := by rw [h]
theorem order_any (a b : ByteArray) (w : World) : Calls Tryz.prog 69 #[.string a, .string b] w fun e w' => e = .returned (.int .i64 (ordS a b)) ∧ w = w' := by
  have HO : Hid (ordS a b = if Op.bytesLess a.toList b.toList = true then -1 else if (a.toList == b.toList) = true then 0 else 1) := Lib.hid rfl
  cases h1 : Op.bytesLess a.toList b.toList with
  | true =>
    have H := Lib.hid (HO.out.trans (by rw [h1]))
    clear HO
    go_enter Tryz.func69, Tryz.ntmps69
    go_wp2
    go_ret
    exact ⟨ret_i64 H.out.symm, rfl⟩
  | false =>
    cases h2 : (a.toList == b.toList) with
    | true =>
      have H := Lib.hid (HO.out.trans (by rw [h1, h2]))
      clear HO
      go_enter Tryz.func69, Tryz.ntmps69
      go_wp2
      go_ret
      exact ⟨ret_i64 H.out.symm, rfl⟩
    | false =>
      have H := Lib.hid (HO.out.trans (by rw [h1, h2]))
      clear HO
      go_enter Tryz.func69, Tryz.ntmps69
      go_wp2
      go_ret
      exact ⟨ret_i64 H.out.symm, rfl⟩
theorem nanS_any (a : ByteArray) (w : World) : Calls Tryz.prog 153 #[.string a] w fun e w' => e = .returned (.bool false) ∧ w = w' := by
  go_enter Tryz.func153, Tryz.ntmps153
  go_wp2
  go_ret
  exact ⟨rfl, rfl⟩
theorem cmpS_any (a b : ByteArray) (w : World) : Calls Tryz.prog 138 #[.string a, .string b] w fun e w' => e = .returned (.int .i64 (ordS a b)) ∧ w = w' := by
  have HO : Hid (ordS a b = if Op.bytesLess a.toList b.toList = true then -1 else if (a.toList == b.toList) = true then 0 else 1) := Lib.hid rfl
  cases h1 : Op.bytesLess a.toList b.toList with
  | true =>
    have H := Lib.hid (HO.out.trans (by rw [h1]))
    clear HO
    go_enter Tryz.func138, Tryz.ntmps138
    go_wp2_with (go_at_call 153; refine (nanS_any _ _).mono ?_; rintro e w1 ⟨rfl, rfl⟩)
    go_ret
    exact ⟨ret_i64 H.out.symm, rfl⟩
  | false =>
    cases h2 : (a.toList == b.toList) with
    | true =>
      have H := Lib.hid (HO.out.trans (by rw [h1, h2]))
      clear HO
      go_enter Tryz.func138, Tryz.ntmps138
      go_wp2_with (go_at_call 153; refine (nanS_any _ _).mono ?_; rintro e w1 ⟨rfl, rfl⟩)
      go_ret
      exact ⟨ret_i64 H.out.symm, rfl⟩
    | false =>
      have H := Lib.hid (HO.out.trans (by rw [h1, h2]))
      clear HO
      go_enter Tryz.func138, Tryz.ntmps138
      go_wp2_with (go_at_call 153; refine (nanS_any _ _).mono ?_; rintro e w1 ⟨rfl, rfl⟩)
      go_ret
      exact ⟨ret_i64 H.out.symm, rfl⟩
theorem empty_iff (a : ByteArray) : a.toList.isEmpty = decide (a.size = 0) := by
  rw [Lib.toList_data]
  cases h : a.data.toList with
  | nil => have := Lib.size_eq a; rw [h] at this; simp [this]
  | cons x r => have := Lib.size_eq a; rw [h] at this; simp [this]
set_option maxRecDepth 100000 in
theorem single_any (x : Lab) (w : World) : Calls Tryz.prog 111 #[.agg #[.string x.1, .string x.2]] w fun e w' => e = .returned (.int .i64 (labE x)) ∧ Below w.heap.size w w' := by
  obtain ⟨a, b⟩ := x
  have HO : Hid (labE (a, b) = if a.size = 0 then 17 else if 65535 < a.size ∨ 65535 < b.size then 7 else 0) := Lib.hid rfl
  have hb := (Below.refl w.heap.size w).alloc (Nat.le_refl _) (.cells #[.string a, .string b] 46)
  have HB := Lib.hid hb
  have he := empty_iff a
  by_cases h0 : a.size = 0
  · have H := Lib.hid (HO.out.trans (if_pos h0))
    have he2 : a.toList.isEmpty = true := by rw [he]; exact decide_eq_true h0
    clear HO hb he h0
    go_enter Tryz.func111, Tryz.ntmps111
    go_wp2
    all_goals
      go_ret
      exact ⟨ret_i64 H.out.symm, HB.out⟩
  · have he2 : a.toList.isEmpty = false := by rw [he]; exact decide_eq_false h0
    have HO2 := Lib.hid (HO.out.trans (if_neg h0))
    clear HO hb he
    by_cases h1 : 65535 < a.size
    · have H := Lib.hid (HO2.out.trans (if_pos (.inl h1)))
      have h1' : (65535 : Int) < (a.size : Int) := by omega
      have hm : (65535 : Int) < max (a.size : Int) (b.size : Int) := by omega
      clear HO2
      go_enter Tryz.func111, Tryz.ntmps111
      go_wp2
      all_goals
        go_ret
        exact ⟨ret_i64 H.out.symm, HB.out⟩
    · by_cases h2 : 65535 < b.size
      · have H := Lib.hid (HO2.out.trans (if_pos (.inr h2)))
        have h1' : (a.size : Int) ≤ 65535 := by omega
        have h2' : (65535 : Int) < (b.size : Int) := by omega
        have hm : (65535 : Int) < max (a.size : Int) (b.size : Int) := by omega
        clear HO2 h1
        go_enter Tryz.func111, Tryz.ntmps111
        go_wp2
        all_goals
          go_ret
          exact ⟨ret_i64 H.out.symm, HB.out⟩
      · have H := Lib.hid (HO2.out.trans (if_neg (by omega)))
        have h1' : (a.size : Int) ≤ 65535 := by omega
        have h2' : (b.size : Int) ≤ 65535 := by omega
        have hm : max (a.size : Int) (b.size : Int) ≤ 65535 := by omega
        clear HO2 h1 h2
        go_enter Tryz.func111, Tryz.ntmps111
        go_wp2
        all_goals
          go_ret
          exact ⟨ret_i64 H.out.symm, HB.out⟩
set_option maxRecDepth 100000 in
theorem lone_any (x : Lab) (w : World) : Calls Tryz.prog 78 #[.agg #[.string x.1, .string x.2]] w fun e w' => e = .returned (.int .i64 (labE x)) ∧ Below w.heap.size w w' := by
  obtain ⟨a, b⟩ := x
  have HO : Hid (labE (a, b) = if a.size = 0 then 17 else if 65535 < a.size ∨ 65535 < b.size then 7 else 0) := Lib.hid rfl
  have hb := (Below.refl w.heap.size w).alloc (Nat.le_refl _) (.cells #[.string a, .string b] 46)
  have HB := Lib.hid hb
  have he := empty_iff a
  by_cases h0 : a.size = 0
  · have H := Lib.hid (HO.out.trans (if_pos h0))
    have he2 : a.toList.isEmpty = true := by rw [he]; exact decide_eq_true h0
    clear HO hb he h0
    go_enter Tryz.func78, Tryz.ntmps78
    go_wp2
    all_goals
      go_ret
      exact ⟨ret_i64 H.out.symm, HB.out⟩
  · have he2 : a.toList.isEmpty = false := by rw [he]; exact decide_eq_false h0
    have HO2 := Lib.hid (HO.out.trans (if_neg h0))
    clear HO hb he
    by_cases h1 : 65535 < a.size
    · have H := Lib.hid (HO2.out.trans (if_pos (.inl h1)))
      have h1' : (65535 : Int) < (a.size : Int) := by omega
      have hm : (65535 : Int) < max (a.size : Int) (b.size : Int) := by omega
      clear HO2
      go_enter Tryz.func78, Tryz.ntmps78
      go_wp2
      all_goals
        go_ret
        exact ⟨ret_i64 H.out.symm, HB.out⟩
    · by_cases h2 : 65535 < b.size
      · have H := Lib.hid (HO2.out.trans (if_pos (.inr h2)))
        have h1' : (a.size : Int) ≤ 65535 := by omega
        have h2' : (65535 : Int) < (b.size : Int) := by omega
        have hm : (65535 : Int) < max (a.size : Int) (b.size : Int) := by omega
        clear HO2 h1
        go_enter Tryz.func78, Tryz.ntmps78
        go_wp2
        all_goals
          go_ret
          exact ⟨ret_i64 H.out.symm, HB.out⟩
      · have H := Lib.hid (HO2.out.trans (if_neg (by omega)))
        have h1' : (a.size : Int) ≤ 65535 := by omega
        have h2' : (b.size : Int) ≤ 65535 := by omega
        have hm : max (a.size : Int) (b.size : Int) ≤ 65535 := by omega
        clear HO2 h1 h2
        go_enter Tryz.func78, Tryz.ntmps78
        go_wp2
        all_goals
          go_ret
          exact ⟨ret_i64 H.out.symm, HB.out⟩
theorem part1_any (x : Lab) (w : World) : Calls Tryz.prog 139 #[.agg #[.string x.1, .string x.2]] w fun e w' => e = .returned (.string x.1) ∧ Below w.heap.size w w' := by
  obtain ⟨a, b⟩ := x
  have hb := (Below.refl w.heap.size w).alloc (Nat.le_refl _) (.cells #[.string a, .string b] 46)
  have HB := Lib.hid hb
  clear hb
  go_enter Tryz.func139, Tryz.ntmps139
  go_wp2
  go_ret
  exact ⟨rfl, HB.out⟩
theorem part2_any (x : Lab) (w : World) : Calls Tryz.prog 140 #[.agg #[.string x.1, .string x.2]] w fun e w' => e = .returned (.string x.2) ∧ Below w.heap.size w w' := by
  obtain ⟨a, b⟩ := x
  have hb := (Below.refl w.heap.size w).alloc (Nat.le_refl _) (.cells #[.string a, .string b] 46)
  have HB := Lib.hid hb
  clear hb
  go_enter Tryz.func140, Tryz.ntmps140
  go_wp2
  go_ret
  exact ⟨rfl, HB.out⟩
end Go.Proofs.YtnoodiibkchaaaaGreatDoor
namespace Go.Proofs.YtnoodiibkchaaaaGreatDoor
open Go.RowKit

/-- two labels in new blocks -/
theorem two_labels (w : World) (x1 x2 y1 y2 : ByteArray) : ∃ W0, W0 = (w.alloc (.cells #[.string x1, .string x2] 46)).alloc (.cells #[.string y1, .string y2] 46) ∧ Below w.heap.size w W0 ∧ W0.heap.size = w.heap.size + 2 ∧
    W0.cell? ⟨w.heap.size, 0, none⟩ = some (.string x1) ∧ W0.cell? ⟨w.heap.size, 1, none⟩ = some (.string x2) ∧ W0.cell? ⟨w.heap.size + 1, 0, none⟩ = some (.string y1) ∧ W0.cell? ⟨w.heap.size + 1, 1, none⟩ = some (.string y2) := by
  have h1 : ((w.alloc (.cells #[.string x1, .string x2] 46)).alloc (.cells #[.string y1, .string y2] 46)).heap[w.heap.size]? = some (.cells #[.string x1, .string x2] 46 (0, 0)) := by
    rw [Below.heap_alloc _ _ _ (by simp)]; exact heap_alloc_new w _
  have h2 : ((w.alloc (.cells #[.string x1, .string x2] 46)).alloc (.cells #[.string y1, .string y2] 46)).heap[w.heap.size + 1]? = some (.cells #[.string y1, .string y2] 46 (0, 0)) := by
    have := heap_alloc_new (w.alloc (.cells #[.string x1, .string x2] 46)) (.cells #[.string y1, .string y2] 46)
    simpa using this
  refine ⟨_, rfl, ((Below.refl _ w).alloc (Nat.le_refl _) _).alloc (by simp) _, by simp, ?_, ?_, ?_, ?_⟩
  · rw [cell_of_row _ _ _ _ _ _ h1]; rfl
  · rw [cell_of_row _ _ _ _ _ _ h1]; rfl
  · rw [cell_of_row _ _ _ _ _ _ h2]; rfl
  · rw [cell_of_row _ _ _ _ _ _ h2]; rfl
set_option maxRecDepth 100000 in
theorem by1_1 (x y : Lab) (B : Nat) (w : World) (hc : w.cell? ⟨B, 0, none⟩ = some (.func (.func 139) #[] #[])) :
    Calls Tryz.prog 137 #[.agg #[.string x.1, .string x.2], .agg #[.string y.1, .string y.2], .pointer (some ⟨B, 0, none⟩)] w fun e w' => e = .returned (.int .i64 (ordS x.1 y.1)) ∧ Below w.heap.size w w' := by
  obtain ⟨x1, x2⟩ := x
  obtain ⟨y1, y2⟩ := y
  obtain ⟨W0, hW0, hb, hs, c1, c2, c3, c4⟩ := two_labels w x1 x2 y1 y2
  have c0 : W0.cell? ⟨B, 0, none⟩ = some (.func (.func 139) #[] #[]) := by rw [hb.cell (World.block_lt_of_cell? w _ hc)]; exact hc
  have CC : Hid (∀ wq, Below W0.heap.size W0 wq → wq.cell? ⟨B, 0, none⟩ = some (.func (.func 139) #[] #[]) ∧ wq.cell? ⟨w.heap.size, 0, none⟩ = some (.string x1) ∧ wq.cell? ⟨w.heap.size, 1, none⟩ = some (.string x2) ∧ wq.cell? ⟨w.heap.size + 1, 0, none⟩ = some (.string y1) ∧ wq.cell? ⟨w.heap.size + 1, 1, none⟩ = some (.string y2)) := Lib.hid (fun wq h => by
    refine ⟨?_, ?_, ?_, ?_, ?_⟩
    · rw [h.cell (World.block_lt_of_cell? W0 _ c0)]; exact c0
    · rw [h.cell (World.block_lt_of_cell? W0 _ c1)]; exact c1
    · rw [h.cell (World.block_lt_of_cell? W0 _ c2)]; exact c2
    · rw [h.cell (World.block_lt_of_cell? W0 _ c3)]; exact c3
    · rw [h.cell (World.block_lt_of_cell? W0 _ c4)]; exact c4)
  have CP : Hid (∀ z1 z2 wq, Below W0.heap.size W0 wq → Calls Tryz.prog 139 #[.agg #[.string z1, .string z2]] wq fun e w' => e = .returned (.string z1) ∧ Below W0.heap.size W0 w') := Lib.hid (fun z1 z2 wq h => (part1_any (z1, z2) wq).mono fun e w' ⟨he, hb⟩ => ⟨he, h.trans (hb.mono h.size)⟩)
  have CS : Hid (∀ a b wq, Below W0.heap.size W0 wq → Calls Tryz.prog 138 #[.string a, .string b] wq fun e w' => e = .returned (.int .i64 (ordS a b)) ∧ Below W0.heap.size W0 w') := Lib.hid (fun a b wq h => (cmpS_any a b wq).mono fun e w' ⟨he, hb⟩ => ⟨he, hb ▸ h⟩)
  have HB := Lib.hid hb; have HS := Lib.hid hs
  clear c0 c1 c2 c3 c4 hc hb hs
  go_enter Tryz.func137, Tryz.ntmps137
  go_wp2_with fail
  rw [← hW0]
  clear hW0
  refine wp_region_class (fun x => Below W0.heap.size W0 x) (by kernel_rfl) (by kernel_rfl) ((Below.refl _ _).drew) ?_
  repeat (
    refine wpQuiet_step (fun K hK => ?_)
    go_simp
    first
      | (refine hK _ ?_; clear hK K)
      | (refine ⟨_, fun _ _ => rfl, hK _ ?_⟩; clear hK K)
      | (apply Exists.intro
         refine ⟨fun wq hwq => ?_, hK _ ?_⟩
         (first
          | (go_at_call 139; exact CP.out _ _ _ hwq)
          | (go_at_call 138; exact CS.out _ _ _ hwq)
          | (have hc := CC.out _ hwq; go_simp; exact rfl)
          | (obtain ⟨hc0, hc1, hc2, hc3, hc4⟩ := CC.out _ hwq; go_simp; exact rfl))
         clear hK K))
  refine wpQuiet_nil ?_
  intro wq hwq
  go_wp2
  go_ret
  exact ⟨rfl, HB.out.trans (hwq.mono (by have := HS.out; omega))⟩
set_option maxRecDepth 100000 in
theorem by1_2 (x y : Lab) (B : Nat) (w : World) (hc : w.cell? ⟨B, 0, none⟩ = some (.func (.func 140) #[] #[])) :
    Calls Tryz.prog 137 #[.agg #[.string x.1, .string x.2], .agg #[.string y.1, .string y.2], .pointer (some ⟨B, 0, none⟩)] w fun e w' => e = .returned (.int .i64 (ordS x.2 y.2)) ∧ Below w.heap.size w w' := by
  obtain ⟨x1, x2⟩ := x
  obtain ⟨y1, y2⟩ := y
  obtain ⟨W0, hW0, hb, hs, c1, c2, c3, c4⟩ := two_labels w x1 x2 y1 y2
  have c0 : W0.cell? ⟨B, 0, none⟩ = some (.func (.func 140) #[] #[]) := by rw [hb.cell (World.block_lt_of_cell? w _ hc)]; exact hc
  have CC : Hid (∀ wq, Below W0.heap.size W0 wq → wq.cell? ⟨B, 0, none⟩ = some (.func (.func 140) #[] #[]) ∧ wq.cell? ⟨w.heap.size, 0, none⟩ = some (.string x1) ∧ wq.cell? ⟨w.heap.size, 1, none⟩ = some (.string x2) ∧ wq.cell? ⟨w.heap.size + 1, 0, none⟩ = some (.string y1) ∧ wq.cell? ⟨w.heap.size + 1, 1, none⟩ = some (.string y2)) := Lib.hid (fun wq h => by
    refine ⟨?_, ?_, ?_, ?_, ?_⟩
    · rw [h.cell (World.block_lt_of_cell? W0 _ c0)]; exact c0
    · rw [h.cell (World.block_lt_of_cell? W0 _ c1)]; exact c1
    · rw [h.cell (World.block_lt_of_cell? W0 _ c2)]; exact c2
    · rw [h.cell (World.block_lt_of_cell? W0 _ c3)]; exact c3
    · rw [h.cell (World.block_lt_of_cell? W0 _ c4)]; exact c4)
  have CP : Hid (∀ z1 z2 wq, Below W0.heap.size W0 wq → Calls Tryz.prog 140 #[.agg #[.string z1, .string z2]] wq fun e w' => e = .returned (.string z2) ∧ Below W0.heap.size W0 w') := Lib.hid (fun z1 z2 wq h => (part2_any (z1, z2) wq).mono fun e w' ⟨he, hb⟩ => ⟨he, h.trans (hb.mono h.size)⟩)
  have CS : Hid (∀ a b wq, Below W0.heap.size W0 wq → Calls Tryz.prog 138 #[.string a, .string b] wq fun e w' => e = .returned (.int .i64 (ordS a b)) ∧ Below W0.heap.size W0 w') := Lib.hid (fun a b wq h => (cmpS_any a b wq).mono fun e w' ⟨he, hb⟩ => ⟨he, hb ▸ h⟩)
  have HB := Lib.hid hb; have HS := Lib.hid hs
  clear c0 c1 c2 c3 c4 hc hb hs
  go_enter Tryz.func137, Tryz.ntmps137
  go_wp2_with fail
  rw [← hW0]
  clear hW0
  refine wp_region_class (fun x => Below W0.heap.size W0 x) (by kernel_rfl) (by kernel_rfl) ((Below.refl _ _).drew) ?_
  repeat (
    refine wpQuiet_step (fun K hK => ?_)
    go_simp
    first
      | (refine hK _ ?_; clear hK K)
      | (refine ⟨_, fun _ _ => rfl, hK _ ?_⟩; clear hK K)
      | (apply Exists.intro
         refine ⟨fun wq hwq => ?_, hK _ ?_⟩
         (first
          | (go_at_call 140; exact CP.out _ _ _ hwq)
          | (go_at_call 138; exact CS.out _ _ _ hwq)
          | (have hc := CC.out _ hwq; go_simp; exact rfl)
          | (obtain ⟨hc0, hc1, hc2, hc3, hc4⟩ := CC.out _ hwq; go_simp; exact rfl))
         clear hK K))
  refine wpQuiet_nil ?_
  intro wq hwq
  go_wp2
  go_ret
  exact ⟨rfl, HB.out.trans (hwq.mono (by have := HS.out; omega))⟩
end Go.Proofs.YtnoodiibkchaaaaGreatDoor
