/-
  WALKS: one label of a line, one sample of a line: the program's and the reference's.
-/
import Derived.Test.YtnoodiibkchaaaaGreatDoorXArc
import Derived.Test.YtnoodiibkchaaaaGreatDoorXAB
import Derived.Test.YtnoodiibkchaaaaGreatDoorXTab
import Derived.Test.YtnoodiibkchaaaaGreatDoorWEscJ
import Derived.Test.YtnoodiibkchaaaaGreatDoorWEscK
import Derived.Test.YtnoodiibkchaaaaGreatDoorWEscL
namespace Go.Proofs.YtnoodiibkchaaaaGreatDoor
open Go.RowKit
attribute [local go_sem ↓] Go.wp_at_zero Go.wp_at_succ

theorem lbl_none1 {t : ByteArray} {a : Nat} (h : unqV t a = none) : lblV t a = none := by unfold lblV; rw [h]; rfl
theorem lbl_none2 {t : ByteArray} {a q : Nat} {y : List Nat} (h : unqV t a = some (y, q)) (h2 : ¬ (q < t.size ∧ bAt t q = 61)) : lblV t a = none := by
  unfold lblV; rw [h, Option.bind_some]; simp only; rw [if_neg h2]
theorem lbl_none3 {t : ByteArray} {a q : Nat} {y : List Nat} (h : unqV t a = some (y, q)) (h2 : q < t.size ∧ bAt t q = 61) (h3 : unqV t (q + 1) = none) : lblV t a = none := by
  unfold lblV; rw [h, Option.bind_some]; simp only; rw [if_pos h2, h3]; rfl
theorem lbl_some {t : ByteArray} {a q r : Nat} {y z : List Nat} (h : unqV t a = some (y, q)) (h2 : q < t.size ∧ bAt t q = 61) (h3 : unqV t (q + 1) = some (z, r)) : lblV t a = some ((strOf y, strOf z), r) := by
  unfold lblV; rw [h, Option.bind_some]; simp only; rw [if_pos h2, h3]; rfl
theorem two_set (W : World) (B : Nat) (a b : Value) (te : TypeId) (u v : Value) (h : W.heap[B]? = some (.cells #[a, b] te (0, 0))) :
    ((W.setCell ⟨B, 0, none⟩ u).setCell ⟨B, 1, none⟩ v).cell? ⟨B, 0, none⟩ = some u ∧ ((W.setCell ⟨B, 0, none⟩ u).setCell ⟨B, 1, none⟩ v).cell? ⟨B, 1, none⟩ = some v := by
  have h1 := heap_setCell_same W B 0 _ _ u h
  have h2 := heap_setCell_same _ B 1 _ _ v h1
  constructor <;> (rw [cell_of_row _ _ _ _ _ _ h2]; rfl)
def Two (W : World) (B : Nat) (a b u v : Value) : Prop :=
  W.cell? ⟨B, 0, none⟩ = some a ∧ W.cell? ⟨B, 1, none⟩ = some b ∧ W.frozen? ⟨B, 0, none⟩ = false ∧ W.frozen? ⟨B, 1, none⟩ = false ∧ (W.setCell ⟨B, 0, none⟩ u).cell? ⟨B, 1, none⟩ = some b ∧ (W.setCell ⟨B, 0, none⟩ u).frozen? ⟨B, 1, none⟩ = false ∧
    ((W.setCell ⟨B, 0, none⟩ u).setCell ⟨B, 1, none⟩ v).cell? ⟨B, 0, none⟩ = some u ∧ ((W.setCell ⟨B, 0, none⟩ u).setCell ⟨B, 1, none⟩ v).cell? ⟨B, 1, none⟩ = some v
theorem two_cells (W : World) (B : Nat) (a b : Value) (te : TypeId) (u v : Value) (h : W.heap[B]? = some (.cells #[a, b] te (0, 0))) : Two W B a b u v := by
  have h1 := heap_setCell_same W B 0 _ _ u h
  have hq := two_set W B a b te u v h
  refine ⟨?_, ?_, frozen_of_row _ _ _ _ _ h, frozen_of_row _ _ _ _ _ h, ?_, frozen_of_row _ _ _ _ _ h1, hq⟩
  · rw [cell_of_row _ _ _ _ _ _ h]; rfl
  · rw [cell_of_row _ _ _ _ _ _ h]; rfl
  · rw [cell_of_row _ _ _ _ _ _ h1]; rfl
def LblR (t : ByteArray) (a : Nat) (e : Ending) : Prop :=
  (∃ (x : Lab) (q : Nat), lblV t a = some (x, q) ∧ e = .returned (.tuple #[.agg #[.string x.1, .string x.2], .int .i64 (q : Nat), .bool true])) ∨
  (lblV t a = none ∧ ∃ (n v : ByteArray) (z : Int), e = .returned (.tuple #[.agg #[.string n, .string v], .int .i64 z, .bool false]))
def LblR2 (t : ByteArray) (a : Nat) (e : Ending) : Prop :=
  (∃ (x : Lab) (q : Nat), lblV t a = some (x, q) ∧ e = .returned (.tuple #[.agg #[.string x.1, .string x.2], .int .i64 (q : Nat)])) ∨
  (lblV t a = none ∧ ∃ (n v : ByteArray), e = .returned (.tuple #[.agg #[.string n, .string v], .int .i64 0]))
set_option maxHeartbeats 2000000 in
set_option maxRecDepth 100000 in
theorem label_any (t : ByteArray) (a : Nat) (w : World) (ha : a ≤ t.size) (hs : t.size ≤ 1099511627776) (hT : Tabs w) :
    Calls Tryz.prog 45 #[.string t, .int .i64 (a : Nat)] w fun e w' => LblR t a e ∧ Below w.heap.size w w' := by
  have HT := Lib.hid hT
  obtain ⟨W0, hW0⟩ : ∃ W0, W0 = w.alloc (.cells #[.string { data := #[] }, .string { data := #[] }] 46) := ⟨_, rfl⟩
  have hb0 : Below w.heap.size w W0 := by rw [hW0]; exact (Below.refl _ _).alloc (Nat.le_refl _) _
  have hT0 := hT.below hb0
  have HE := Lib.hid (unquote_any t a W0 ha hs hT0)
  have HB0 := Lib.hid hb0
  have hc0 : W0.heap[w.heap.size]? = some (.cells #[.string { data := #[] }, .string { data := #[] }] 46 (0, 0)) := by rw [hW0]; exact heap_alloc_new w _
  clear hT hb0 hT0
  have fin : ∀ (W : World) (u v : Value), Below W0.heap.size W0 W → Below w.heap.size w ((W.setCell ⟨w.heap.size, 0, none⟩ u).setCell ⟨w.heap.size, 1, none⟩ v) := fun W u v h =>
    ((HB0.out.trans (h.mono HB0.out.size)).setCell (p := ⟨w.heap.size, 0, none⟩) (Nat.le_refl _) _).setCell (p := ⟨w.heap.size, 1, none⟩) (Nat.le_refl _) _
  have HFIN := Lib.hid fin
  have CC : Hid (∀ W u v, Below W0.heap.size W0 W → Two W w.heap.size (.string { data := #[] }) (.string { data := #[] }) u v) := Lib.hid (fun W u v h =>
    two_cells W _ _ _ 46 u v (by rw [h.block _ (Array.getElem?_eq_some_iff.1 hc0).1]; exact hc0))
  clear fin hc0
  cases h1 : unqV t a with
  | none =>
    rw [h1] at HE
    have HV := Lib.hid (lbl_none1 h1)
    clear h1
    go_enter Tryz.func45, Tryz.ntmps45
    go_wp2_with (go_at_call 76; rw [← hW0]; refine HE.out.mono ?_; rintro e w1 ⟨rfl, hb1⟩; simp only [unqR]; obtain ⟨g0, g1, g2, g3, g4, g5, q0, q1⟩ := CC.out w1 (.string { data := #[] }) (.string { data := #[] }) hb1)
    refine bodyPost_ret (v := .tuple #[.agg #[.string { data := #[] }, .string { data := #[] }], .int .i64 0, .bool false]) (by simp [results, Tryz.results45, go_sem, q0, q1]) rfl ⟨.inr ⟨HV.out, _, _, _, rfl⟩, HFIN.out _ _ _ hb1⟩
  | some p =>
    obtain ⟨y, q⟩ := p
    rw [h1] at HE
    obtain ⟨b1, b2, b3⟩ := unq_spec h1
    have HP := Lib.hid (fun w => hasp_any t q w 61 (by decide))
    have hq0 : (0 : Int) ≤ (q : Int) := by omega
    have hq1 : (q : Int) ≤ (t.size : Int) := by omega
    clear b1 b3
    by_cases h2 : q < t.size ∧ bAt t q = 61
    · have HP2 : Hid (∀ w, Calls Tryz.prog 44 #[.string (t.extract q t.size), .string { data := #[61] }] w fun e w' => e = .returned (.bool true) ∧ w = w') := Lib.hid (fun w => by
        have h := HP.out w
        rw [decide_eq_true h2] at h; exact h)
      have HE2 := Lib.hid (fun W (h : Below W0.heap.size W0 W) => unquote_any t (q + 1) W h2.1 hs (HT.out.below (HB0.out.trans (h.mono HB0.out.size))))
      cases h3 : unqV t (q + 1) with
      | none =>
        rw [h3] at HE2
        have HV := Lib.hid (lbl_none3 h1 h2 h3)
        have HE3 : Hid (∀ W, Below W0.heap.size W0 W → Calls Tryz.prog 76 #[.string t, .int .i64 ((q : Int) + 1)] W fun e w' => e = .returned (.tuple #[.string { data := #[] }, .int .i64 0, .int .i64 24]) ∧ Below W.heap.size W w') := Lib.hid HE2.out
        clear h1 h2 h3 HP HE2
        go_enter Tryz.func45, Tryz.ntmps45
        go_wp2_with (go_at_call 76; rw [← hW0]; ((with_reducible refine HE.out.mono ?_); rintro e w1 ⟨rfl, hb1⟩; simp only [unqR]))
        go_wp2_with (go_at_call 44; refine (HP2.out _).mono ?_; rintro e w2 ⟨rfl, rfl⟩)
        go_wp2_with (go_at_call 76; ((with_reducible refine (HE3.out _ hb1).mono ?_); rintro e w3 ⟨rfl, hb3⟩; have hb4 := hb1.trans (hb3.mono hb1.size); obtain ⟨g0, g1, g2, g3, g4, g5, q0, q1⟩ := CC.out w3 (.string (strOf y)) (.string { data := #[] }) hb4))
        refine bodyPost_ret (v := .tuple #[.agg #[.string (strOf y), .string { data := #[] }], .int .i64 0, .bool false]) (by simp [results, Tryz.results45, go_sem, q0, q1]) rfl ⟨.inr ⟨HV.out, _, _, _, rfl⟩, HFIN.out _ _ _ hb4⟩
      | some p2 =>
        obtain ⟨z, r⟩ := p2
        rw [h3] at HE2
        have HV := Lib.hid (lbl_some h1 h2 h3)
        have HE3 : Hid (∀ W, Below W0.heap.size W0 W → Calls Tryz.prog 76 #[.string t, .int .i64 ((q : Int) + 1)] W fun e w' => e = .returned (.tuple #[.string (strOf z), .int .i64 (r : Nat), .int .i64 0]) ∧ Below W.heap.size W w') := Lib.hid HE2.out
        clear h1 h2 h3 HP HE2
        go_enter Tryz.func45, Tryz.ntmps45
        go_wp2_with (go_at_call 76; rw [← hW0]; ((with_reducible refine HE.out.mono ?_); rintro e w1 ⟨rfl, hb1⟩; simp only [unqR]))
        go_wp2_with (go_at_call 44; refine (HP2.out _).mono ?_; rintro e w2 ⟨rfl, rfl⟩)
        go_wp2_with (go_at_call 76; ((with_reducible refine (HE3.out _ hb1).mono ?_); rintro e w3 ⟨rfl, hb3⟩; have hb4 := hb1.trans (hb3.mono hb1.size); obtain ⟨g0, g1, g2, g3, g4, g5, q0, q1⟩ := CC.out w3 (.string (strOf y)) (.string (strOf z)) hb4))
        refine bodyPost_ret (v := .tuple #[.agg #[.string (strOf y), .string (strOf z)], .int .i64 (r : Nat), .bool true]) (by simp [results, Tryz.results45, go_sem, q0, q1]) rfl ⟨.inl ⟨_, _, HV.out, rfl⟩, HFIN.out _ _ _ hb4⟩
    · have HP2 : Hid (∀ w, Calls Tryz.prog 44 #[.string (t.extract q t.size), .string { data := #[61] }] w fun e w' => e = .returned (.bool false) ∧ w = w') := Lib.hid (fun w => by
        have h := HP.out w
        rw [decide_eq_false h2] at h; exact h)
      have HV := Lib.hid (lbl_none2 h1 h2)
      clear h1 h2 HP
      go_enter Tryz.func45, Tryz.ntmps45
      go_wp2_with (go_at_call 76; rw [← hW0]; ((with_reducible refine HE.out.mono ?_); rintro e w1 ⟨rfl, hb1⟩; simp only [unqR]; obtain ⟨g0, g1, g2, g3, g4, g5, q0, q1⟩ := CC.out w1 (.string { data := #[] }) (.string { data := #[] }) hb1))
      go_wp2_with (go_at_call 44; refine (HP2.out _).mono ?_; rintro e w2 ⟨rfl, rfl⟩)
      refine bodyPost_ret (v := .tuple #[.agg #[.string { data := #[] }, .string { data := #[] }], .int .i64 0, .bool false]) (by simp [results, Tryz.results45, go_sem, q0, q1]) rfl ⟨.inr ⟨HV.out, _, _, _, rfl⟩, HFIN.out _ _ _ hb1⟩
end Go.Proofs.YtnoodiibkchaaaaGreatDoor
