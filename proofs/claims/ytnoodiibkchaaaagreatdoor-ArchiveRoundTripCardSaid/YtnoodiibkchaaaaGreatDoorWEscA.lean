/-
  WALKS: chapter 22's small functions: escape.letterOf, escape.inRange, tsblockref22.Digit; the table of special runes.
-/
import Derived.Test.YtnoodiibkchaaaaGreatDoorRows
import Derived.WalkKit
import Derived.WalkSpells
import Derived.WalkLawsBesides
import Derived.Laws.Rows
import Derived.Lib.Hide
import Derived.BigCall
namespace Go.Proofs.YtnoodiibkchaaaaGreatDoor
open Go.RowKit

/-- the cells of the table of special runes -/
def specCells : Array Value := #[.int .i32 34, .int .i32 34, .int .i32 92, .int .i32 92, .int .i32 10, .int .i32 110]
/-- the variable escape.special holds the table -/
def TabS (w : World) : Prop := ∃ t fr, w.heap[1]? = some (.cells specCells t fr)
theorem TabS.pos {w : World} (h : TabS w) : 1 < w.heap.size := by
  obtain ⟨t, fr, h⟩ := h
  exact (Array.getElem?_eq_some_iff.1 h).1
theorem TabS.below {w w' : World} (h : TabS w) (b : Below w.heap.size w w') : TabS w' := by
  have := h.pos
  obtain ⟨t, fr, h⟩ := h
  exact ⟨t, fr, by rw [b.block _ this]; exact h⟩
theorem specSize : (Tryz.prog.info? 142).map (·.size) = some specCells.size := by kernel_rfl
theorem ret_intE {k : IntKind} {a b : Int} (h : a = b) : Ending.returned (.int k a) = .returned (.int k b) := by rw [h]
/-- the letter of a special rune -/
def letter (r : Int) : Int := if r = 34 then 34 else if r = 92 then 92 else if r = 10 then 110 else 0
section
theorem sp0 : ∀ w, (Instr.index 142 (.agg specCells) (.int .i64 0)).run Tryz.prog w = .ok (.agg #[.int .i32 34, .int .i32 34]) w := fun _ => by kernel_rfl
theorem sp1 : ∀ w, (Instr.index 142 (.agg specCells) (.int .i64 1)).run Tryz.prog w = .ok (.agg #[.int .i32 92, .int .i32 92]) w := fun _ => by kernel_rfl
theorem sp2 : ∀ w, (Instr.index 142 (.agg specCells) (.int .i64 2)).run Tryz.prog w = .ok (.agg #[.int .i32 10, .int .i32 110]) w := fun _ => by kernel_rfl
end
set_option maxHeartbeats 1000000 in
theorem letterOf_any (r : Int) (w : World) (hT : TabS w) :
    Calls Tryz.prog 72 #[.int .i32 r] w fun e w' => e = .returned (.int .i32 (letter r)) ∧ Below w.heap.size w w' := by
  obtain ⟨t, fr, hT⟩ := hT
  have i0 := sp0; have i1 := sp1; have i2 := sp2
  go_enter Tryz.func72, Tryz.ntmps72
  go_wp2_with (refine wpList_load_row rfl 142 (.global 1) rfl 1 rfl t specCells fr _ hT Tryz.underlying142 rfl specSize ?_)
  go_loopw [6] (fun i wr => ∃ c : Int, (c = 0 ∨ c = 1 ∧ r ≠ 34 ∨ c = 2 ∧ r ≠ 34 ∧ r ≠ 92 ∨ c = 3 ∧ r ≠ 34 ∧ r ≠ 92 ∧ r ≠ 10) ∧ i = .int .i64 c ∧ Below w.heap.size w wr) (fun i _ => 5 - (intOf i).toNat)
  case atStart => exact ⟨0, .inl rfl, rfl, Below.refl _ _⟩
  case round =>
    obtain ⟨c, hc, rfl, hb⟩ := hrel
    have hbs := hb.size
    clear hT
    rcases hc with rfl | ⟨rfl, h1⟩ | ⟨rfl, h1, h2⟩ | ⟨rfl, h1, h2, h3⟩
    · by_cases hr : r = 34
      · subst hr
        go_wp2
        go_ret
        exact ⟨rfl, hb.alloc hbs _⟩
      · have hq : ((34 : Int) == r) = false := by simp; omega
        go_wp2
        exact ⟨⟨1, .inr (.inl ⟨rfl, hr⟩), rfl, hb.alloc hbs _⟩, by simp [intOf]⟩
    · by_cases hr : r = 92
      · subst hr
        go_wp2
        go_ret
        exact ⟨rfl, hb.alloc hbs _⟩
      · have hq : ((92 : Int) == r) = false := by simp; omega
        go_wp2
        exact ⟨⟨2, .inr (.inr (.inl ⟨rfl, h1, hr⟩)), rfl, hb.alloc hbs _⟩, by simp [intOf]⟩
    · by_cases hr : r = 10
      · subst hr
        go_wp2
        go_ret
        exact ⟨rfl, hb.alloc hbs _⟩
      · have hq : ((10 : Int) == r) = false := by simp; omega
        go_wp2
        exact ⟨⟨3, .inr (.inr (.inr ⟨rfl, h1, h2, hr⟩)), rfl, hb.alloc hbs _⟩, by simp [intOf]⟩
    · have hl : letter r = 0 := by unfold letter; rw [if_neg h1, if_neg h2, if_neg h3]
      have HL := Lib.hid hl
      clear hl
      go_wp2
      go_ret
      exact ⟨ret_intE HL.out.symm, hb⟩

theorem inRange_yes (s : ByteArray) (k : Nat) (w : World) (h : k ≤ s.size) : Calls Tryz.prog 95 #[.string s, .int .i64 (k : Nat)] w fun e w' => e = .returned (.bool true) ∧ w = w' := by
  go_enter Tryz.func95, Tryz.ntmps95
  go_wp2
  go_ret
  exact ⟨by first | rfl | simp, rfl⟩
theorem inRange_no (s : ByteArray) (k : Int) (w : World) (h : k < 0 ∨ (s.size : Int) < k) : Calls Tryz.prog 95 #[.string s, .int .i64 k] w fun e w' => e = .returned (.bool false) ∧ w = w' := by
  by_cases h0 : k < 0
  · clear h
    go_enter Tryz.func95, Tryz.ntmps95
    go_wp2
    go_ret
    exact ⟨by first | rfl | (simp; done) | (simp; omega), rfl⟩
  · have h1 : (s.size : Int) < k := by omega
    have h2 : 0 ≤ k := by omega
    clear h h0
    go_enter Tryz.func95, Tryz.ntmps95
    go_wp2
    go_ret
    exact ⟨by first | rfl | (simp; done) | (simp; omega), rfl⟩
/-- the hexadecimal digits -/
def hexS : List Nat := [48, 49, 50, 51, 52, 53, 54, 55, 56, 57, 97, 98, 99, 100, 101, 102]
def digitI (c : Nat) : Int := if 48 ≤ c ∧ c ≤ 57 then (c : Int) - 48 else if 97 ≤ c ∧ c ≤ 102 then (c : Int) - 87 else -1
/-- what a digit's place says of its value -/
theorem digitI_none (c : Nat) (h : ∀ j, j < 16 → hexS.getD j 0 ≠ c) : digitI c = -1 := by
  have h0 := h 0 (by omega); have h1 := h 1 (by omega); have h2 := h 2 (by omega); have h3 := h 3 (by omega); have h4 := h 4 (by omega); have h5 := h 5 (by omega); have h6 := h 6 (by omega); have h7 := h 7 (by omega)
  have h8 := h 8 (by omega); have h9 := h 9 (by omega); have h10 := h 10 (by omega); have h11 := h 11 (by omega); have h12 := h 12 (by omega); have h13 := h 13 (by omega); have h14 := h 14 (by omega); have h15 := h 15 (by omega)
  simp [hexS] at h0 h1 h2 h3 h4 h5 h6 h7 h8 h9 h10 h11 h12 h13 h14 h15
  unfold digitI
  rw [if_neg (by omega), if_neg (by omega)]
theorem hexS_at : ∀ k (h : k < ({ data := #[48, 49, 50, 51, 52, 53, 54, 55, 56, 57, 97, 98, 99, 100, 101, 102] } : ByteArray).size), (({ data := #[48, 49, 50, 51, 52, 53, 54, 55, 56, 57, 97, 98, 99, 100, 101, 102] } : ByteArray)[k]'h).toNat = hexS.getD k 0 := by decide
theorem digitI_some : ∀ k, k < 16 → digitI (hexS.getD k 0) = (k : Int) := by decide
set_option maxHeartbeats 2000000 in
theorem digit_any (c : Nat) (w : World) (_hc : c < 256) : Calls Tryz.prog 99 #[.int .u8 (c : Nat)] w fun e w' => e = .returned (.int .i64 (digitI c)) ∧ w = w' := by
  have HN := Lib.hid (digitI_none c)
  go_enter Tryz.func99, Tryz.ntmps99
  go_wp2
  go_loop [3] (fun i => ∃ k : Nat, k ≤ 16 ∧ i = .int .i64 (k : Nat) ∧ ∀ j, j < k → hexS.getD j 0 ≠ c) (fun i => 16 - (intOf i).toNat)
  case atStart => exact ⟨0, by omega, rfl, fun j hj => absurd hj (Nat.not_lt_zero _)⟩
  case round =>
    obtain ⟨k, hk, rfl, hj⟩ := hrel
    have HJ := Lib.hid hj
    clear hj
    by_cases hlt : k < 16
    · have hkk : k = 0 ∨ k = 1 ∨ k = 2 ∨ k = 3 ∨ k = 4 ∨ k = 5 ∨ k = 6 ∨ k = 7 ∨ k = 8 ∨ k = 9 ∨ k = 10 ∨ k = 11 ∨ k = 12 ∨ k = 13 ∨ k = 14 ∨ k = 15 := by omega
      have hd := digitI_some k hlt
      by_cases hc : hexS.getD k 0 = c
      · rw [hc] at hd
        have HD := Lib.hid hd
        clear hd hk hlt
        rcases hkk with rfl | rfl | rfl | rfl | rfl | rfl | rfl | rfl | rfl | rfl | rfl | rfl | rfl | rfl | rfl | rfl
        all_goals
          simp [hexS] at hc
          subst hc
          go_wp2
          go_ret
          exact ⟨ret_intE HD.out.symm, rfl⟩
      · have hn : ∀ j, j < k + 1 → hexS.getD j 0 ≠ c := fun j hj => by
          rcases Nat.lt_or_ge j k with h | h
          · exact HJ.out j h
          · rw [show j = k by omega]; exact hc
        have HH := Lib.hid hn
        have hq : ∀ h : k < ({ data := #[48, 49, 50, 51, 52, 53, 54, 55, 56, 57, 97, 98, 99, 100, 101, 102] } : ByteArray).size, (((({ data := #[48, 49, 50, 51, 52, 53, 54, 55, 56, 57, 97, 98, 99, 100, 101, 102] } : ByteArray)[k]'h).toNat : Int) == (c : Int)) = false := fun h => by
          rw [hexS_at k h, beq_eq_false_iff_ne]
          exact fun e => hc (Int.ofNat_inj.1 e)
        clear hn hd hk hlt
        rcases hkk with rfl | rfl | rfl | rfl | rfl | rfl | rfl | rfl | rfl | rfl | rfl | rfl | rfl | rfl | rfl | rfl
        all_goals
          simp [hexS] at hc
          go_wp2
          refine ⟨⟨_, ?_, ?_, HH.out⟩, by simp [intOf]⟩
          · omega
          · rfl
    · have hk16 : k = 16 := by omega
      subst hk16
      have hd := Lib.hid (HN.out HJ.out)
      clear hlt hk
      go_wp2
      go_ret
      exact ⟨ret_intE hd.out.symm, rfl⟩
end Go.Proofs.YtnoodiibkchaaaaGreatDoor
