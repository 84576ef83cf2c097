/-
  WALKS: strconv.FormatUint at base 16, escape.Hex.
-/
import Derived.Test.YtnoodiibkchaaaaGreatDoorWEscD
import Derived.WalkKit
import Derived.WalkSpells
import Derived.WalkLawsBesides
namespace Go.Proofs.YtnoodiibkchaaaaGreatDoor
open Go.RowKit

/-- the one cell of math/bits' table that the base 16 reads -/
def TabD (w : World) : Prop := w.cell? ⟨6, 15, none⟩ = some (.int .u8 4)
theorem TabD.below {w w' : World} (h : TabD w) (b : Below w.heap.size w w') : TabD w' := by
  have := World.block_lt_of_cell? w _ h
  unfold TabD
  rw [b.cell this]; exact h
set_option maxHeartbeats 1000000 in
theorem tz64_core (x k idx : Nat) (w : World) (hx0 : ((x : Int) == 0) = false)
    (key : IntKind.u64.wrap (bits BinOp.and IntKind.u64 (x : Int) (IntKind.u64.wrap (-(x : Int))) * 285870213051353865) / 288230376151711744 = (idx : Int))
    (hi : idx < 64) (hk : k < 64) (hcell : w.cell? ⟨6, idx, none⟩ = some (.int .u8 k)) :
    Calls Tryz.prog 143 #[.int .u64 (x : Nat)] w fun e w' => e = .returned (.int .i64 k) ∧ w' = w := by
  go_enter Tryz.func143, Tryz.ntmps143
  go_wp2_with (simp only [key])
  go_ret
  exact ⟨rfl, rfl⟩
theorem tz64_16 (w : World) (hT : TabD w) : Calls Tryz.prog 143 #[.int .u64 16] w fun e w' => e = .returned (.int .i64 4) ∧ w = w' :=
  (tz64_core 16 4 15 w (by decide) (by decide) (by decide) (by decide) hT).mono fun _ _ ⟨he, hw⟩ => ⟨he, hw.symm⟩
theorem tz_16 (w : World) (hT : TabD w) : Calls Tryz.prog 119 #[.int .u64 16] w fun e w' => e = .returned (.int .i64 4) ∧ w = w' := by
  go_enter Tryz.func119, Tryz.ntmps119
  go_wp2_with (go_at_call 143; refine (tz64_16 _ hT).mono ?_; rintro e w' ⟨rfl, rfl⟩)
  go_ret
  exact ⟨rfl, rfl⟩
theorem pow_16 (w : World) : Calls Tryz.prog 118 #[.int .i64 16] w fun e w' => e = .returned (.bool true) ∧ w = w' := by
  go_enter Tryz.func118, Tryz.ntmps118
  go_wp2
  go_ret
  exact ⟨by first | rfl | simp, rfl⟩
/-- the lowest k digits of x, the highest first -/
def hexTail (x k : Nat) : List Nat := (List.range k).map fun j => hexB (x / 16 ^ (k - 1 - j) % 16)
theorem hexTail_length (x k : Nat) : (hexTail x k).length = k := by simp [hexTail]
theorem hexTail_succ (x k : Nat) : hexTail x (k + 1) = hexB (x / 16 ^ k % 16) :: hexTail x k := by
  unfold hexTail
  rw [List.range_succ_eq_map, List.map_cons, List.map_map]
  congr 1
  apply List.map_congr_left
  intro j _
  simp only [Function.comp]
  congr 3
  congr 1
  omega
theorem hexTail_zeros (x k : Nat) (h : x < 16 ^ k) : ∀ m, hexTail x (k + m) = List.replicate m 48 ++ hexTail x k
  | 0 => rfl
  | m + 1 => by
    have h1 : x < 16 ^ (k + m) := Nat.lt_of_lt_of_le h (Nat.pow_le_pow_right (by decide) (by omega))
    rw [← Nat.add_assoc, hexTail_succ, hexTail_zeros x k h m, Nat.div_eq_of_lt h1, List.replicate_succ]
    rfl
/-- what holds at each round's head: k digits lie at the array's end -/
def FRel (x : Nat) (w : World) (u i : Value) (wr : World) : Prop :=
  ∃ (k m : Nat) (cur : Array Value), k + m = 64 ∧ k ≤ 15 ∧ u = .int .u64 ((x / 16 ^ k : Nat) : Int) ∧ i = .int .i64 ((m : Nat) + 1) ∧ wr.heap[w.heap.size]? = some (.cells cur 160 (0, 0)) ∧ cur.size = 65 ∧ (∀ j, j < k → cur[64 - j]? = some (.int .u8 ((hexB (x / 16 ^ j % 16) : Nat) : Int))) ∧ Below w.heap.size w wr
theorem dig_step (x k : Nat) (hx : x < 18446744073709551616) (hk : k ≤ 15) (h : 16 ≤ x / 16 ^ k) : k + 1 ≤ 15 ∧ x / 16 ^ (k + 1) = x / 16 ^ k / 16 := by
  refine ⟨?_, by rw [Nat.pow_succ, Nat.div_div_eq_div_mul]⟩
  rcases Nat.lt_or_ge k 15 with h1 | h1
  · omega
  · obtain rfl : k = 15 := by omega
    omega
theorem dig_put (x k m : Nat) (cur : Array Value) (hkm : k + m = 64) (hsz : cur.size = 65) (hc : ∀ j, j < k → cur[64 - j]? = some (.int .u8 ((hexB (x / 16 ^ j % 16) : Nat) : Int))) (v : Value) (hv : v = .int .u8 ((hexB (x / 16 ^ k % 16) : Nat) : Int)) :
    (cur.set! m v).size = 65 ∧ ∀ j, j < k + 1 → (cur.set! m v)[64 - j]? = some (.int .u8 ((hexB (x / 16 ^ j % 16) : Nat) : Int)) := by
  refine ⟨by simp [hsz], fun j hj => ?_⟩
  rw [Array.set!_eq_setIfInBounds]
  rcases Nat.lt_or_ge j k with h | h
  · rw [Array.getElem?_setIfInBounds_ne (by omega)]
    exact hc j h
  · obtain rfl : j = k := by omega
    rw [show 64 - j = m by omega, Array.getElem?_setIfInBounds_self_of_lt (by omega), hv]
theorem band15 (U : Nat) (h : U < 18446744073709551616) : bits BinOp.and IntKind.u64 (U : Int) 15 = ((U % 16 : Nat) : Int) := by
  have h1 := bits_and_u64_nat U 15 h (by decide)
  rw [show (U &&& 15) = U % 16 from Nat.and_two_pow_sub_one_eq_mod U 4] at h1
  exact h1
theorem digs36 : ∀ j (h : j < ({ data := #[48, 49, 50, 51, 52, 53, 54, 55, 56, 57, 97, 98, 99, 100, 101, 102, 103, 104, 105, 106, 107, 108, 109, 110, 111, 112, 113, 114, 115, 116, 117, 118, 119, 120, 121, 122] } : ByteArray).size), j < 16 → (({ data := #[48, 49, 50, 51, 52, 53, 54, 55, 56, 57, 97, 98, 99, 100, 101, 102, 103, 104, 105, 106, 107, 108, 109, 110, 111, 112, 113, 114, 115, 116, 117, 118, 119, 120, 121, 122] } : ByteArray)[j]'h).toNat = hexB j := by decide
theorem tail_cells (x k : Nat) (cur : Array Value) (hc : ∀ j, j < k + 1 → cur[64 - j]? = some (.int .u8 ((hexB (x / 16 ^ j % 16) : Nat) : Int))) (hk : k ≤ 15) (i : Nat) (hi : i < k + 1) :
    cur[64 - k + i]? = some (.int .u8 (((hexTail x (k + 1)).map fun c => ((c : Nat) : Int)).getD i 0)) := by
  have h := hc (k - i) (by omega)
  rw [show 64 - (k - i) = 64 - k + i by omega] at h
  rw [h]
  simp [hexTail, hi, List.getD_eq_getElem?_getD]
theorem nums_strN (l : List Nat) : strOfNums (l.map fun c => ((c : Nat) : Int)) = strOf l := by simp [strOfNums, strOf, u8L]
set_option maxRecDepth 100000 in
theorem convN (x k m B : Nat) (cur : Array Value) (wr : World) (hkm : k + m = 64) (hk : k ≤ 15) (hblk : wr.heap[B]? = some (.cells cur 160 (0, 0))) (hsz : cur.size = 65)
    (hc : ∀ j, j < k → cur[64 - j]? = some (.int .u8 ((hexB (x / 16 ^ j % 16) : Nat) : Int))) (v : Value) (hv : v = .int .u8 ((hexB (x / 16 ^ k % 16) : Nat) : Int)) :
    (convert 59 9 (.slice (some ⟨B, m, none⟩) (65 - m) (65 - m))).run Tryz.prog (wr.setCell ⟨B, m, none⟩ v) = .ok (.string (strOf (hexTail x (k + 1)))) (wr.setCell ⟨B, m, none⟩ v) := by
  obtain ⟨h1, h2⟩ := dig_put x k m cur hkm hsz hc v hv
  have hb := heap_setCell_same wr B m cur 160 v hblk
  have hm : m = 64 - k := by omega
  have := run_convert_bytes_arg (P := Tryz.prog) (wr.setCell ⟨B, m, none⟩ v) 59 5 Tryz.underlying59 Tryz.underlying5 B m (65 - m) (65 - m) ((hexTail x (k + 1)).map fun c => ((c : Nat) : Int)) (by rw [List.length_map, hexTail_length]; omega) (fun i hi => by
    rw [cell_of_row _ _ _ _ _ _ hb, ← Array.set!_eq_setIfInBounds, hm]
    rw [hm] at h2
    exact tail_cells x k _ h2 hk i (by omega)) 9 Tryz.underlying9
  rw [this, nums_strN]
set_option maxHeartbeats 4000000 in
set_option maxRecDepth 100000 in
theorem formatBits_any (x : Nat) (w : World) (hx : x < 18446744073709551616) (hT : TabD w) :
    Calls Tryz.prog 89 #[.slice none 0 0, .int .u64 (x : Nat), .int .i64 16, .bool false, .bool false] w fun e w' => (∃ k, 1 ≤ k ∧ k ≤ 16 ∧ x < 16 ^ k ∧ e = .returned (.tuple #[.slice none 0 0, .string (strOf (hexTail x k))])) ∧ Below w.heap.size w w' := by
  have HT2 := Lib.hid (hT.below ((Below.refl _ w).alloc (Nat.le_refl _) (.cells (Array.replicate 65 (.int .u8 0)) 160)))
  have HR0 : Hid (FRel x w (.int .u64 (x : Nat)) (.int .i64 65) (w.alloc (.cells (Array.replicate 65 (.int .u8 0)) 160))) :=
    Lib.hid ⟨0, 64, _, rfl, by omega, by simp, rfl, heap_alloc_new w _, by simp, (fun j hj => absurd hj (Nat.not_lt_zero _)), (Below.refl _ w).alloc (Nat.le_refl _) _⟩
  clear hT
  go_enter Tryz.func89, Tryz.ntmps89
  go_wp2_with (first | (go_at_call 118; refine (pow_16 _).mono ?_; rintro e w1 ⟨rfl, rfl⟩) | (go_at_call 119; refine (tz_16 _ HT2.out).mono ?_; rintro e w1 ⟨rfl, rfl⟩))
  go_loopw [1, 13] (fun u i wr => FRel x w u i wr) (fun _ i _ => (intOf i).toNat)
  case atStart => exact HR0.out
  case round =>
    clear HR0 HT2
    obtain ⟨k, m, cur, hkm, hk, rfl, rfl, hblk, hsz, hc, hbw⟩ := hrel
    have hcell : wr.cell? ⟨w.heap.size, m, none⟩ = some (cur[m]'(by omega)) := by
      rw [cell_of_row _ _ _ _ _ _ hblk]; exact Array.getElem?_eq_getElem (by omega)
    have hfr : wr.frozen? ⟨w.heap.size, m, none⟩ = false := frozen_of_row _ _ _ _ _ hblk
    have hstep := fun h => dig_step x k hx hk h
    have hu1 : x / 16 ^ k < 18446744073709551616 := Nat.lt_of_le_of_lt (Nat.div_le_self _ _) hx
    obtain ⟨U, hU⟩ : ∃ U, U = x / 16 ^ k := ⟨_, rfl⟩
    rw [← hU] at hstep hu1 ⊢
    by_cases h16 : 16 ≤ U
    · obtain ⟨s1, s2⟩ := hstep h16
      have HC := Lib.hid (dig_put x k m cur hkm hsz hc)
      have HU := Lib.hid hU
      have HS := Lib.hid s2
      have HB := Lib.hid hblk
      obtain ⟨D, hD⟩ : ∃ D, D = U % 16 := ⟨_, rfl⟩
      have hband : bits BinOp.and IntKind.u64 (U : Int) 15 = (D : Int) := by rw [hD]; exact band15 U hu1
      have hD16 : D < 16 := by omega
      have HD := Lib.hid hD
      have hm64 : m < 65 := by omega
      have h16' : (16 : Int) ≤ (U : Int) := by omega
      clear hU hc hstep s2 hblk hD
      go_wp2
      refine ⟨⟨k + 1, m - 1, _, by omega, s1, by rw [HS.out]; rfl, by congr 1; omega, heap_setCell_same wr w.heap.size m cur 160 _ HB.out, (HC.out _ ?_).1, (HC.out _ ?_).2, hbw.setCell (Nat.le_refl _) _⟩, ?_⟩
      · rw [digs36 D _ hD16, HD.out, HU.out]
      · rw [digs36 D _ hD16, HD.out, HU.out]
      · simp [intOf]
    · have hU16 : U < 16 := by omega
      have hU36 : (U : Int) < 36 := by omega
      have hm64 : m < 65 := by omega
      have hm0 : 0 ≤ (m : Int) := by omega
      have hm1 : (m : Int) ≤ 65 := by omega
      have hin : U < ({ data := #[48, 49, 50, 51, 52, 53, 54, 55, 56, 57, 97, 98, 99, 100, 101, 102, 103, 104, 105, 106, 107, 108, 109, 110, 111, 112, 113, 114, 115, 116, 117, 118, 119, 120, 121, 122] } : ByteArray).size := Nat.lt_trans hU16 (by decide)
      have kc := convN x k m w.heap.size cur wr hkm hk hblk hsz hc (.int .u8 (((({ data := #[48, 49, 50, 51, 52, 53, 54, 55, 56, 57, 97, 98, 99, 100, 101, 102, 103, 104, 105, 106, 107, 108, 109, 110, 111, 112, 113, 114, 115, 116, 117, 118, 119, 120, 121, 122] } : ByteArray)[U]'hin).toNat : Nat) : Int)) (by
        rw [digs36 U hin hU16, ← hU, Nat.mod_eq_of_lt hU16])
      have hlt : Hid (x < 16 ^ (k + 1)) := Lib.hid (by
        rw [hU] at hU16
        rw [Nat.pow_succ]
        have h1 := (Nat.div_lt_iff_lt_mul (Nat.pow_pos (by decide : 0 < 16))).1 hU16
        rw [Nat.mul_comm] at h1
        exact h1)
      clear hU hc hstep hblk h16
      go_wp2
      go_ret2
      exact ⟨⟨k + 1, by omega, by omega, hlt.out, rfl⟩, hbw.setCell (Nat.le_refl _) _⟩
/-- strconv.FormatUint(x, 16), without leading zeros -/
theorem ifmt_any (x : Nat) (w : World) (hx : x < 18446744073709551616) (hT : TabD w) :
    Calls Tryz.prog 90 #[.int .u64 (x : Nat), .int .i64 16] w fun e w' => (∃ k, 1 ≤ k ∧ k ≤ 16 ∧ x < 16 ^ k ∧ e = .returned (.string (strOf (hexTail x k)))) ∧ Below w.heap.size w w' := by
  have H := Lib.hid (formatBits_any x w hx hT)
  clear hT
  go_enter Tryz.func90, Tryz.ntmps90
  go_wp2_with (go_at_call 89; refine H.out.mono ?_; rintro e w' ⟨⟨k, h1, h2, h3, rfl⟩, hb⟩; have H3 := Lib.hid h3; clear h3)
  go_ret
  exact ⟨⟨k, h1, h2, H3.out, rfl⟩, hb⟩
theorem fmt_any (x : Nat) (w : World) (hx : x < 18446744073709551616) (hT : TabD w) :
    Calls Tryz.prog 60 #[.int .u64 (x : Nat), .int .i64 16] w fun e w' => (∃ k, 1 ≤ k ∧ k ≤ 16 ∧ x < 16 ^ k ∧ e = .returned (.string (strOf (hexTail x k)))) ∧ Below w.heap.size w w' := by
  have H := Lib.hid (ifmt_any x w hx hT)
  clear hT
  go_enter Tryz.func60, Tryz.ntmps60
  go_wp2_with (go_at_call 90; refine H.out.mono ?_; rintro e w' ⟨⟨k, h1, h2, h3, rfl⟩, hb⟩; have H3 := Lib.hid h3; clear h3)
  go_ret
  exact ⟨⟨k, h1, h2, H3.out, rfl⟩, hb⟩
theorem repeatL_one (c : UInt8) : ∀ m, Lib.repeatL [c] m = List.replicate m c
  | 0 => rfl
  | m + 1 => by rw [Lib.repeatL, repeatL_one c m]; rfl
theorem repeat0 (m : Nat) (w : World) (hm : m ≤ 15) : Calls Tryz.prog 61 #[.string { data := #[48] }, .int .i64 (m : Nat)] w fun e w' => e = .returned (.string (strOf (List.replicate m 48))) ∧ Below w.heap.size w w' := by
  refine (Tryz.strings_Repeat { data := #[48] } m w (by omega) (by show 1 * m ≤ _; omega)).mono ?_
  rintro e w' ⟨rfl, hb⟩
  refine ⟨?_, hb⟩
  show Ending.returned (.string ⟨(Lib.repeatL [48] m).toArray⟩) = _
  rw [repeatL_one]
  simp [strOf, u8L]
theorem repeat16 (k : Nat) (w : World) (h1 : 1 ≤ k) (h2 : k ≤ 16) : Calls Tryz.prog 61 #[.string { data := #[48] }, .int .i64 (16 - (k : Int))] w fun e w' => e = .returned (.string (strOf (List.replicate (16 - k) 48))) ∧ Below w.heap.size w w' := by
  have h := repeat0 (16 - k) w (by omega)
  rw [show ((16 - k : Nat) : Int) = 16 - (k : Int) by omega] at h
  exact h
/-- k digits are enough for x -/
def Fits (x k : Nat) : Prop := x < 16 ^ k
set_option maxHeartbeats 1000000 in
set_option maxRecDepth 100000 in
theorem hex_any (x : Nat) (w : World) (hx : x < 18446744073709551616) (hT : TabD w) :
    Calls Tryz.prog 30 #[.int .u64 (x : Nat)] w fun e w' => e = .returned (.string (strOf (hexTail x 16))) ∧ Below w.heap.size w w' := by
  have H := Lib.hid (fmt_any x w hx hT)
  clear hT
  go_enter Tryz.func30, Tryz.ntmps30
  go_wp2_with (first
    | (go_at_call 60; refine H.out.mono ?_; rintro e w1 ⟨⟨k, h1, h2, h3, rfl⟩, hb⟩
       have H3 : Hid (Fits x k) := Lib.hid h3
       have hsz : (strOf (hexTail x k)).size = k := by rw [strOf_size, hexTail_length]
       have hkk : k ≤ 16 := h2
       have hl0 : (strOf (List.replicate (16 - k) 48)).size ≤ 16 := by rw [strOf_size, List.length_replicate]; omega
       have hl1 : (strOf (hexTail x k)).size ≤ 16 := by omega
       clear h3)
    | (go_at_call 61; refine (repeat16 k _ h1 h2).mono ?_; rintro e w2 ⟨rfl, hb2⟩))
  go_ret
  have e := hexTail_zeros x k H3.out (16 - k)
  rw [show k + (16 - k) = 16 by omega] at e
  refine ⟨?_, hb.trans (hb2.mono hb.size)⟩
  rw [strOf_append, ← e]
  rfl
end Go.Proofs.YtnoodiibkchaaaaGreatDoor
