/-
  WALKS: tsblockref22.Unquote; both Unquotes at an offset that is none of the text.
-/
import Derived.Test.YtnoodiibkchaaaaGreatDoorWEscG
namespace Go.Proofs.YtnoodiibkchaaaaGreatDoor
open Go.RowKit
attribute [local go_sem ↓] Go.wp_at_zero Go.wp_at_succ

theorem scan_bd (t : ByteArray) : ∀ (f pos : Nat) (x : List Nat) (q : Nat), scan t f pos = some (x, q) → q < t.size ∧ pos ≤ q ∧ x.length ≤ q - pos
  | 0, _, _, _, h => by cases h
  | f + 1, pos, x, q, h => by
    rw [scan] at h
    by_cases hp : pos < t.size
    · rw [if_pos hp] at h
      by_cases hm : bAt t pos = 34
      · rw [if_pos hm] at h
        simp only [Option.some.injEq, Prod.mk.injEq] at h
        obtain ⟨rfl, rfl⟩ := h
        exact ⟨hp, Nat.le_refl _, Nat.zero_le _⟩
      · rw [if_neg hm] at h
        by_cases h0 : (oneV (t.extract pos t.size)).2 = 0
        · rw [if_pos h0] at h; cases h
        · rw [if_neg h0] at h
          have hle := oneV_le (t.extract pos t.size) (by rw [rest_size]; omega)
          cases hs : scan t f (pos + (oneV (t.extract pos t.size)).2) with
          | none => rw [hs] at h; cases h
          | some p =>
            rw [hs] at h
            obtain ⟨x', q'⟩ := p
            simp only [Option.map_some, Option.some.injEq, Prod.mk.injEq] at h
            obtain ⟨rfl, rfl⟩ := h
            have := scan_bd t f _ x' q' hs
            refine ⟨this.1, by omega, ?_⟩
            rw [List.length_append]
            omega
    · rw [if_neg hp] at h; cases h
set_option maxHeartbeats 1000000 in
theorem unquote_bad (t : ByteArray) (a : Int) (w : World) (h : a < 0 ∨ (t.size : Int) < a) :
    Calls Tryz.prog 76 #[.string t, .int .i64 a] w fun e w' => e = .returned (.tuple #[.string { data := #[] }, .int .i64 0, .int .i64 2]) ∧ Below w.heap.size w w' := by
  have H := Lib.hid h
  clear h
  go_enter Tryz.func76, Tryz.ntmps76
  go_wp2_with (go_at_call 95; refine (inRange_no t a _ H.out).mono ?_; rintro e w1 ⟨rfl, rfl⟩)
  go_ret3
  exact ⟨rfl, Below.refl _ _⟩
set_option maxHeartbeats 1000000 in
theorem refUnquote_bad (t : ByteArray) (a : Int) (w : World) (h : a < 0 ∨ (t.size : Int) < a) :
    Calls Tryz.prog 77 #[.string t, .int .i64 a] w fun e w' => e = .returned (.tuple #[.string { data := #[] }, .int .i64 0, .int .i64 2]) ∧ Below w.heap.size w w' := by
  by_cases h0 : a < 0
  · clear h
    go_enter Tryz.func77, Tryz.ntmps77
    go_wp2
    go_ret3
    exact ⟨rfl, Below.refl _ _⟩
  · have h1 : (t.size : Int) < a := by omega
    have h2 : 0 ≤ a := by omega
    clear h h0
    go_enter Tryz.func77, Tryz.ntmps77
    go_wp2
    go_ret3
    exact ⟨rfl, Below.refl _ _⟩
theorem ret_unqR {S T : Option (List Nat × Nat)} {v : Value} (h : S = T) (hv : v = unqR T) : Ending.returned v = .returned (unqR S) := by rw [h, hv]
set_option maxHeartbeats 4000000 in
set_option maxRecDepth 100000 in
theorem refUnquote_any (t : ByteArray) (a : Nat) (w : World) (ha : a ≤ t.size) (hs : t.size ≤ 1099511627776) (hT : Tabs w) :
    Calls Tryz.prog 77 #[.string t, .int .i64 (a : Nat)] w fun e w' => e = .returned (unqR (unqV t a)) ∧ Below w.heap.size w w' := by
  have HT := Lib.hid hT
  clear hT
  by_cases he : a = t.size
  · have HV : Hid (unqV t a = none) := Lib.hid (by unfold unqV; rw [if_neg (by omega)])
    subst he
    go_enter Tryz.func77, Tryz.ntmps77
    go_wp2
    go_ret3
    exact ⟨ret_unqR HV.out rfl, Below.refl _ _⟩
  have hlt : a < t.size := by omega
  have hne : ((a : Int) == (t.size : Int)) = false := by rw [beq_eq_false_iff_ne]; omega
  have hx0 : (t[a]'hlt).toNat = bAt t a := (bAt_get t a hlt).symm
  by_cases hm : bAt t a = 34
  · have HV : Hid (unqV t a = (scan t (t.size + 1) (a + 1)).bind fun p => if strOf (quoteL (strOf p.1)) = t.extract a (p.2 + 1) then some (p.1, p.2 + 1) else none) := Lib.hid (by unfold unqV; rw [if_pos ⟨hlt, hm⟩])
    have HB := Lib.hid (body_any t (a + 1) w (by omega) hs)
    have HBD := Lib.hid (scan_bd t (t.size + 1) (a + 1))
    obtain ⟨S, hS⟩ : ∃ S, S = scan t (t.size + 1) (a + 1) := ⟨_, rfl⟩
    rw [← hS] at HV HB HBD
    rw [hm] at hx0
    have hle : (a : Int) ≤ t.size := by omega
    clear hS hm he
    cases S with
    | none =>
      have HV2 : Hid (unqV t a = none) := Lib.hid (by rw [HV.out]; rfl)
      have HB2 : Hid (Calls Tryz.prog 105 #[.string t, .int .i64 ((a : Int) + 1)] w fun e w' => e = .returned (.tuple #[.string { data := #[] }, .int .i64 (-1)]) ∧ Below w.heap.size w w') := Lib.hid HB.out
      clear HV HBD HB
      go_enter Tryz.func77, Tryz.ntmps77
      go_wp2_with (go_at_call 105; refine HB2.out.mono ?_; rintro e w1 ⟨rfl, hb1⟩)
      go_quiet (fail)
      go_wp2
      go_ret3
      exact ⟨ret_unqR HV2.out rfl, below_drewN hb1 _⟩
    | some p =>
      obtain ⟨l, q⟩ := p
      obtain ⟨hq1, hq2, hq3⟩ := HBD.out l q rfl
      have HB2 : Hid (Calls Tryz.prog 105 #[.string t, .int .i64 ((a : Int) + 1)] w fun e w' => e = .returned (.tuple #[.string (strOf l), .int .i64 ((q : Int) + 1)]) ∧ Below w.heap.size w w') := Lib.hid HB.out
      have HV2 : Hid (unqV t a = if strOf (quoteL (strOf l)) = t.extract a (q + 1) then some (l, q + 1) else none) := Lib.hid (by rw [HV.out]; rfl)
      have hac1 : (strOf l).size ≤ 1099511627776 := by rw [strOf_size]; omega
      have HE := Lib.hid (fun w hT => refQuote_any (strOf l) w hac1 hT)
      clear HV HBD HB hac1
      go_enter Tryz.func77, Tryz.ntmps77
      go_wp2_with (go_at_call 105; refine HB2.out.mono ?_; rintro e w1 ⟨rfl, hb1⟩)
      have hT3 : Tabs w1.drew := HT.out.below hb1.drew
      have i1 : (0 : Int) ≤ (a : Int) := by omega
      have i2 : (a : Int) ≤ (q : Int) + 1 := by omega
      have i3 : (q : Int) + 1 ≤ (t.size : Int) := by omega
      go_region_held3 (fun _ => True) (trivial) ((go_at_call 46; go_must (refine (HE.out w1.drew hT3).mono ?_; rintro e w3 ⟨rfl, hb3⟩)))
      all_goals go_wp2
      · have heq : (q : Int) + 1 < 0 ∨ (!(strOf (quoteL (strOf l))).toList == (t.extract a (q + 1)).toList) = true := by assumption
        go_ret3
        refine ⟨ret_unqR (HV2.out.trans (if_neg ?_)) rfl, hb1.drew.trans (hb3.mono (by have := hb1.size; exact this))⟩
        rcases heq with h | h
        · omega
        · exact bytes_of_ne (by simpa using h)
      · have heq : 0 ≤ (q : Int) + 1 ∧ (!(strOf (quoteL (strOf l))).toList == (t.extract a (q + 1)).toList) = false := by assumption
        go_ret3
        refine ⟨ret_unqR (HV2.out.trans (if_pos ?_)) rfl, hb1.drew.trans (hb3.mono (by have := hb1.size; exact this))⟩
        exact bytes_of_eq (by have := heq.2; simpa using this)
  · have HV : Hid (unqV t a = none) := Lib.hid (by unfold unqV; rw [if_neg (fun h => hm h.2)])
    obtain ⟨b, hb⟩ : ∃ b, b = bAt t a := ⟨_, rfl⟩
    rw [← hb] at hx0 hm
    have hnm : ((b : Int) != 34) = true := by simp; omega
    clear hb hm
    go_enter Tryz.func77, Tryz.ntmps77
    go_wp2
    go_ret3
    exact ⟨ret_unqR HV.out rfl, Below.refl _ _⟩
end Go.Proofs.YtnoodiibkchaaaaGreatDoor
