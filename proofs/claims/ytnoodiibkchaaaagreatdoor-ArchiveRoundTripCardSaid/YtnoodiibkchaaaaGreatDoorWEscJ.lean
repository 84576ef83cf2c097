/-
  WALKS: tsblockref22.Int (printed by gen_refint.py).
-/
import Derived.Test.YtnoodiibkchaaaaGreatDoorXTab
namespace Go.Proofs.YtnoodiibkchaaaaGreatDoor
open Go.RowKit

theorem intS_none (neg : Bool) (D : List Nat) (h : D.length = 0 ∨ 19 < D.length ∨ (D.headD 0 = 48 ∧ (1 < D.length ∨ neg = true))) : intS neg D = none := by
  unfold intS; rw [if_pos h]
/-- the digits are some, not too many, with no zero ahead -/
def Good (neg : Bool) (D : List Nat) : Prop := ¬ (D.length = 0 ∨ 19 < D.length ∨ (D.headD 0 = 48 ∧ (1 < D.length ∨ neg = true)))
theorem intS_neg (D : List Nat) (h : Good true D) : intS true D = if valL 0 D ≤ 9223372036854775808 then some (-(valL 0 D : Int)) else none := by
  unfold intS; rw [if_neg h, if_pos rfl]
theorem intS_pos (D : List Nat) (h : Good false D) : intS false D = if valL 0 D < 9223372036854775808 then some (valL 0 D : Int) else none := by
  unfold intS; rw [if_neg h, if_neg (by decide)]
theorem cut_head (t : ByteArray) (k n : Nat) (h : 0 < n) : (cut t k n).headD 0 = bAt t k := by
  obtain ⟨m, rfl⟩ : ∃ m, n = m + 1 := ⟨n - 1, by omega⟩
  rw [cut_cons]; rfl
def B18 : Nat := 1000000000000000000
theorem val_18 (D : List Nat) (hd : Digs D) (h : D.length ≤ 18) : valL 0 D < B18 := by
  have h1 := valL_lt D hd 0
  have h2 : 10 ^ D.length ≤ 10 ^ 18 := Nat.pow_le_pow_right (by decide) h
  have h3 : (10 : Nat) ^ 18 = B18 := by decide
  omega
theorem z18 {Z : Int} {X : Nat} (h : Z = (X : Int)) (hx : X < B18) : Z < 1000000000000000000 := by
  unfold B18 at hx; omega
/-- the second loop: what the digits so far spell -/
def XRel (t : ByteArray) (F n : Nat) (x i : Value) : Prop :=
  ∃ (j : Nat) (Z : Int), j ≤ n ∧ Hid (Z = ((valL 0 (cut t F j) : Nat) : Int)) ∧ x = .int .u64 Z ∧ i = .int .i64 ((F + j : Nat) : Int)
theorem neg_conv (X : Nat) (h : X ≤ 9223372036854775808) : wrap64 (IntKind.u64.wrap (-(X : Int))) = -(X : Int) := by
  unfold wrap64; rw [IntKind.wrap_u64]; omega
set_option maxHeartbeats 8000000 in
set_option maxRecDepth 100000 in
theorem refInt_neg (t : ByteArray) (a : Nat) (w : World) (ha : a ≤ t.size) (hs : t.size ≤ 1099511627776) (hsg : sgn t a = true) :
    Calls Tryz.prog 67 #[.string t, .int .i64 (a : Nat)] w fun e w' => e = .returned (intR (intV t a)) ∧ w = w' := by
  have HFO : Hid (fromOf t a = a + 1) := Lib.hid (by unfold fromOf; rw [if_pos hsg])
  have HR0 : Hid (IRel t a (.int .i64 ((a : Int) + 1))) := Lib.hid ⟨a + 1, t.size + 1, by first | rfl | (congr 1), by unfold endOf; rw [HFO.out], by omega, by omega, by have := hsg; unfold sgn at this; have := (of_decide_eq_true this).1; omega⟩
  have HV0 : Hid (∀ k, endOf t a = k → intV t a = (intS true (cut t (a + 1) (k - (a + 1)))).map fun v => (v, k)) := Lib.hid (fun k hk => by
    unfold intV; rw [hk, HFO.out, hsg])
  have HD0 : Hid (∀ j, a + 1 ≤ j → j < endOf t a → 48 ≤ bAt t j ∧ bAt t j ≤ 57) := Lib.hid (by
    have h := (digEnd_spec t (t.size + 1) (fromOf t a) (from_le t a ha).2).2.2
    rw [HFO.out] at h
    unfold endOf; rw [HFO.out]; exact h)
  have hlt : a < t.size := by unfold sgn at hsg; exact (of_decide_eq_true hsg).1
  have h45 : (t[a]'hlt).toNat = 45 := by rw [← bAt_get t a hlt]; unfold sgn at hsg; exact (of_decide_eq_true hsg).2
  clear hsg
  go_enter Tryz.func67, Tryz.ntmps67
  go_wp2
  go_loop [7] (fun v => IRel t a v) (fun v => t.size - (intOf v).toNat)
  case atStart => exact HR0.out
  case round =>
    clear HR0
    obtain ⟨k, f, rfl, hE, hf, hFk, hks⟩ := hrel
    by_cases hc : k < t.size ∧ 48 ≤ bAt t k ∧ bAt t k ≤ 57
    · obtain ⟨f', e1, e2⟩ := digEnd_next t f k hf hc
      obtain ⟨c1, c2, c3⟩ := hc
      have hx0 : (t[k]'c1).toNat = bAt t k := (bAt_get t k c1).symm
      have HN : Hid (IRel t a (.int .i64 ((k : Int) + 1))) := Lib.hid ⟨k + 1, f', rfl, hE.trans e1, e2, by omega, by omega⟩
      obtain ⟨b, hb⟩ : ∃ b, b = bAt t k := ⟨_, rfl⟩
      rw [← hb] at hx0 c2 c3
      clear hE e1 hb
      go_wp2
      all_goals exact ⟨HN.out, by simp [intOf]; omega⟩
    · have hEk : endOf t a = k := by rw [hE]; exact digEnd_stop t f k hc
      have hway : ¬ k < t.size ∨ k < t.size ∧ bAt t k < 48 ∨ k < t.size ∧ 48 ≤ bAt t k ∧ 57 < bAt t k := by omega
      have hFk2 : a + 1 ≤ k := by
        have h := (digEnd_spec t (t.size + 1) (fromOf t a) (from_le t a ha).2).1
        rw [HFO.out] at h
        have : endOf t a = digEnd t (t.size + 1) (a + 1) := by unfold endOf; rw [HFO.out]
        omega
      have HV := Lib.hid (HV0.out k hEk)
      have HD : Hid (∀ j, a + 1 ≤ j → j < k → 48 ≤ bAt t j ∧ bAt t j ≤ 57) := Lib.hid (by have := HD0.out; rw [hEk] at this; exact this)
      clear hE hEk hf hc HV0 HD0 HFO
      rcases hway with h1 | ⟨h1, h2⟩ | ⟨h1, h2, h3⟩
      · have hks2 := hks
        obtain ⟨n, hn⟩ : ∃ n, n = k - (a + 1) := ⟨_, rfl⟩
        rw [← hn] at HV
        have hkn : k = a + 1 + n := by omega
        have hki : (k : Int) - ((a : Int) + 1) = (n : Int) := by omega
        have HKN := Lib.hid hkn
        have HDL := Lib.hid (cut_length t (a + 1) n)
        by_cases n0 : n = 0
        · have HV2 : Hid (intV t a = none) := Lib.hid (by rw [HV.out, intS_none _ _ (.inl (by rw [HDL.out]; exact n0))]; rfl)
          subst n0
          clear HV hn HD hkn HDL
          go_wp2
          go_ret3
          exact ⟨ret_intR HV2.out rfl, rfl⟩
        have hn1 : ((n : Int) == 0) = false := by rw [beq_eq_false_iff_ne]; omega
        by_cases n19 : 19 < n
        · have HV2 : Hid (intV t a = none) := Lib.hid (by rw [HV.out, intS_none _ _ (.inr (.inl (by rw [HDL.out]; exact n19)))]; rfl)
          have hn19 : (19 : Int) < (n : Int) := by omega
          clear HV hn HD hkn HDL
          go_wp2
          go_ret3
          exact ⟨ret_intR HV2.out rfl, rfl⟩
        have hn2 : (n : Int) ≤ 19 := by omega
        have hF : a + 1 < t.size := by omega
        have hc0 : (t[a + 1]'hF).toNat = bAt t (a + 1) := (bAt_get t (a + 1) hF).symm
        have HH := Lib.hid (cut_head t (a + 1) n (by omega))
        obtain ⟨c0, hcc⟩ : ∃ c, c = bAt t (a + 1) := ⟨_, rfl⟩
        rw [← hcc] at hc0 HH
        clear hcc
        by_cases h48 : c0 = 48
        · have HV2 : Hid (intV t a = none) := Lib.hid (by rw [HV.out, intS_none _ _ (.inr (.inr ⟨by rw [HH.out]; exact h48, .inr rfl⟩))]; rfl)
          subst h48
          clear HV hn HD hkn HDL HH
          go_wp2
          all_goals
            go_ret3
            exact ⟨ret_intR HV2.out rfl, rfl⟩
        have HC : Hid (Good true (cut t (a + 1) n)) := Lib.hid (by unfold Good; rw [HDL.out, HH.out]; rintro (h | h | ⟨h, _⟩); omega; omega; exact h48 h)
        have e48 : ((c0 : Int) == 48) = false := by rw [beq_eq_false_iff_ne]; omega
        clear HH h48
        have HVB : Hid (∀ j, j < n → valL 0 (cut t (a + 1) j) < B18) := Lib.hid (fun j hj => val_18 _ (cut_digs t (a + 1) j (fun i h2 h3 => HD.out i h2 (by omega))) (by rw [cut_length]; omega))
        have HX0 : Hid (XRel t (a + 1) n (.int .u64 0) (.int .i64 ((a : Int) + 1))) := Lib.hid ⟨0, 0, Nat.zero_le _, Lib.hid rfl, rfl, rfl⟩
        clear hn hkn
        go_wp2
        go_loop [11, 12] (fun x i => XRel t (a + 1) n x i) (fun _ i => n + (a + 1) - (intOf i).toNat)
        case atStart => exact HX0.out
        case round =>
          clear HX0
          obtain ⟨j, Z, hj, HZ, rfl, rfl⟩ := hrel
          have hkn := HKN.out
          obtain ⟨m, hm⟩ : ∃ m, m = a + 1 + j := ⟨_, rfl⟩
          rw [← hm]
          by_cases hjn : j < n
          · have hm2 : m < t.size := by omega
            have hxm : (t[m]'hm2).toNat = bAt t m := (bAt_get t m hm2).symm
            have hdj := HD.out m (by omega) (by omega)
            have hvb := HVB.out j hjn
            have HXN : Hid (XRel t (a + 1) n (.int .u64 (Z * 10 + (((bAt t m : Nat) : Int) - 48))) (.int .i64 ((m : Int) + 1))) := Lib.hid ⟨j + 1, _, hjn, Lib.hid (by
              rw [cut_snoc, valL_snoc, HZ.out, hm]
              have := hdj.1
              rw [hm] at this
              omega), rfl, by rw [hm]; rfl⟩
            have hz0 : 0 ≤ Z := by rw [HZ.out]; omega
            have hz1 : Z < 1000000000000000000 := z18 HZ.out hvb
            obtain ⟨d, hdd⟩ : ∃ d, d = bAt t m := ⟨_, rfl⟩
            rw [← hdd] at hdj HXN hxm
            obtain ⟨d1, d2⟩ := hdj
            have hmk : m < k := by omega
            have HM : Hid (n + (a + 1) - (m + 1) < n + (a + 1) - m) := Lib.hid (by omega)
            clear hdd hvb hm HZ HVB hkn HKN
            go_wp2
            exact ⟨HXN.out, by simp [intOf]; exact HM.out⟩
          · obtain rfl : j = n := by omega
            have hz0 : 0 ≤ Z := by rw [HZ.out]; omega
            have hmk : m = k := by omega
            clear hkn HKN
            subst hmk
            clear hm HVB
            have HV3 := Lib.hid (HV.out.trans (by rw [intS_neg _ HC.out]))
            by_cases hX : valL 0 (cut t (a + 1) j) ≤ 9223372036854775808
            · have HV4 : Hid (intV t a = some (-Z, m)) := Lib.hid (HV3.out.trans (by rw [if_pos hX, HZ.out]; rfl))
              have hz1 : Z ≤ 9223372036854775808 := by rw [HZ.out]; omega
              have HNC : Hid (wrap64 (IntKind.u64.wrap (-Z)) = -Z) := Lib.hid (by rw [HZ.out]; exact neg_conv _ hX)
              clear hX HV HV3 HZ HC HDL HD
              go_wp2
              go_ret3
              exact ⟨ret_intR HV4.out (by first | rfl | (simp only [intR]; rw [HNC.out]; rfl)), rfl⟩
            · have HV4 : Hid (intV t a = none) := Lib.hid (HV3.out.trans (by rw [if_neg hX]; rfl))
              have hz1 : 9223372036854775808 < Z := by rw [HZ.out]; omega
              clear hX HV HV3 HZ HC HDL HD
              go_wp2
              go_ret3
              exact ⟨ret_intR HV4.out rfl, rfl⟩
      · have hx0 : (t[k]'h1).toNat = bAt t k := (bAt_get t k h1).symm
        obtain ⟨b, hb⟩ : ∃ b, b = bAt t k := ⟨_, rfl⟩
        rw [← hb] at hx0 h2
        clear hb
        obtain ⟨n, hn⟩ : ∃ n, n = k - (a + 1) := ⟨_, rfl⟩
        rw [← hn] at HV
        have hkn : k = a + 1 + n := by omega
        have hki : (k : Int) - ((a : Int) + 1) = (n : Int) := by omega
        have HKN := Lib.hid hkn
        have HDL := Lib.hid (cut_length t (a + 1) n)
        by_cases n0 : n = 0
        · have HV2 : Hid (intV t a = none) := Lib.hid (by rw [HV.out, intS_none _ _ (.inl (by rw [HDL.out]; exact n0))]; rfl)
          subst n0
          clear HV hn HD hkn HDL
          go_wp2
          go_ret3
          exact ⟨ret_intR HV2.out rfl, rfl⟩
        have hn1 : ((n : Int) == 0) = false := by rw [beq_eq_false_iff_ne]; omega
        by_cases n19 : 19 < n
        · have HV2 : Hid (intV t a = none) := Lib.hid (by rw [HV.out, intS_none _ _ (.inr (.inl (by rw [HDL.out]; exact n19)))]; rfl)
          have hn19 : (19 : Int) < (n : Int) := by omega
          clear HV hn HD hkn HDL
          go_wp2
          go_ret3
          exact ⟨ret_intR HV2.out rfl, rfl⟩
        have hn2 : (n : Int) ≤ 19 := by omega
        have hF : a + 1 < t.size := by omega
        have hc0 : (t[a + 1]'hF).toNat = bAt t (a + 1) := (bAt_get t (a + 1) hF).symm
        have HH := Lib.hid (cut_head t (a + 1) n (by omega))
        obtain ⟨c0, hcc⟩ : ∃ c, c = bAt t (a + 1) := ⟨_, rfl⟩
        rw [← hcc] at hc0 HH
        clear hcc
        by_cases h48 : c0 = 48
        · have HV2 : Hid (intV t a = none) := Lib.hid (by rw [HV.out, intS_none _ _ (.inr (.inr ⟨by rw [HH.out]; exact h48, .inr rfl⟩))]; rfl)
          subst h48
          clear HV hn HD hkn HDL HH
          go_wp2
          all_goals
            go_ret3
            exact ⟨ret_intR HV2.out rfl, rfl⟩
        have HC : Hid (Good true (cut t (a + 1) n)) := Lib.hid (by unfold Good; rw [HDL.out, HH.out]; rintro (h | h | ⟨h, _⟩); omega; omega; exact h48 h)
        have e48 : ((c0 : Int) == 48) = false := by rw [beq_eq_false_iff_ne]; omega
        clear HH h48
        have HVB : Hid (∀ j, j < n → valL 0 (cut t (a + 1) j) < B18) := Lib.hid (fun j hj => val_18 _ (cut_digs t (a + 1) j (fun i h2 h3 => HD.out i h2 (by omega))) (by rw [cut_length]; omega))
        have HX0 : Hid (XRel t (a + 1) n (.int .u64 0) (.int .i64 ((a : Int) + 1))) := Lib.hid ⟨0, 0, Nat.zero_le _, Lib.hid rfl, rfl, rfl⟩
        clear hn hkn
        go_wp2
        go_loop [11, 12] (fun x i => XRel t (a + 1) n x i) (fun _ i => n + (a + 1) - (intOf i).toNat)
        case atStart => exact HX0.out
        case round =>
          clear HX0
          obtain ⟨j, Z, hj, HZ, rfl, rfl⟩ := hrel
          have hkn := HKN.out
          obtain ⟨m, hm⟩ : ∃ m, m = a + 1 + j := ⟨_, rfl⟩
          rw [← hm]
          by_cases hjn : j < n
          · have hm2 : m < t.size := by omega
            have hxm : (t[m]'hm2).toNat = bAt t m := (bAt_get t m hm2).symm
            have hdj := HD.out m (by omega) (by omega)
            have hvb := HVB.out j hjn
            have HXN : Hid (XRel t (a + 1) n (.int .u64 (Z * 10 + (((bAt t m : Nat) : Int) - 48))) (.int .i64 ((m : Int) + 1))) := Lib.hid ⟨j + 1, _, hjn, Lib.hid (by
              rw [cut_snoc, valL_snoc, HZ.out, hm]
              have := hdj.1
              rw [hm] at this
              omega), rfl, by rw [hm]; rfl⟩
            have hz0 : 0 ≤ Z := by rw [HZ.out]; omega
            have hz1 : Z < 1000000000000000000 := z18 HZ.out hvb
            obtain ⟨d, hdd⟩ : ∃ d, d = bAt t m := ⟨_, rfl⟩
            rw [← hdd] at hdj HXN hxm
            obtain ⟨d1, d2⟩ := hdj
            have hmk : m < k := by omega
            have HM : Hid (n + (a + 1) - (m + 1) < n + (a + 1) - m) := Lib.hid (by omega)
            clear hdd hvb hm HZ HVB hkn HKN
            go_wp2
            exact ⟨HXN.out, by simp [intOf]; exact HM.out⟩
          · obtain rfl : j = n := by omega
            have hz0 : 0 ≤ Z := by rw [HZ.out]; omega
            have hmk : m = k := by omega
            clear hkn HKN
            subst hmk
            clear hm HVB
            have HV3 := Lib.hid (HV.out.trans (by rw [intS_neg _ HC.out]))
            by_cases hX : valL 0 (cut t (a + 1) j) ≤ 9223372036854775808
            · have HV4 : Hid (intV t a = some (-Z, m)) := Lib.hid (HV3.out.trans (by rw [if_pos hX, HZ.out]; rfl))
              have hz1 : Z ≤ 9223372036854775808 := by rw [HZ.out]; omega
              have HNC : Hid (wrap64 (IntKind.u64.wrap (-Z)) = -Z) := Lib.hid (by rw [HZ.out]; exact neg_conv _ hX)
              clear hX HV HV3 HZ HC HDL HD
              go_wp2
              go_ret3
              exact ⟨ret_intR HV4.out (by first | rfl | (simp only [intR]; rw [HNC.out]; rfl)), rfl⟩
            · have HV4 : Hid (intV t a = none) := Lib.hid (HV3.out.trans (by rw [if_neg hX]; rfl))
              have hz1 : 9223372036854775808 < Z := by rw [HZ.out]; omega
              clear hX HV HV3 HZ HC HDL HD
              go_wp2
              go_ret3
              exact ⟨ret_intR HV4.out rfl, rfl⟩
      · have hx0 : (t[k]'h1).toNat = bAt t k := (bAt_get t k h1).symm
        obtain ⟨b, hb⟩ : ∃ b, b = bAt t k := ⟨_, rfl⟩
        rw [← hb] at hx0 h2 h3
        clear hb
        obtain ⟨n, hn⟩ : ∃ n, n = k - (a + 1) := ⟨_, rfl⟩
        rw [← hn] at HV
        have hkn : k = a + 1 + n := by omega
        have hki : (k : Int) - ((a : Int) + 1) = (n : Int) := by omega
        have HKN := Lib.hid hkn
        have HDL := Lib.hid (cut_length t (a + 1) n)
        by_cases n0 : n = 0
        · have HV2 : Hid (intV t a = none) := Lib.hid (by rw [HV.out, intS_none _ _ (.inl (by rw [HDL.out]; exact n0))]; rfl)
          subst n0
          clear HV hn HD hkn HDL
          go_wp2
          go_ret3
          exact ⟨ret_intR HV2.out rfl, rfl⟩
        have hn1 : ((n : Int) == 0) = false := by rw [beq_eq_false_iff_ne]; omega
        by_cases n19 : 19 < n
        · have HV2 : Hid (intV t a = none) := Lib.hid (by rw [HV.out, intS_none _ _ (.inr (.inl (by rw [HDL.out]; exact n19)))]; rfl)
          have hn19 : (19 : Int) < (n : Int) := by omega
          clear HV hn HD hkn HDL
          go_wp2
          go_ret3
          exact ⟨ret_intR HV2.out rfl, rfl⟩
        have hn2 : (n : Int) ≤ 19 := by omega
        have hF : a + 1 < t.size := by omega
        have hc0 : (t[a + 1]'hF).toNat = bAt t (a + 1) := (bAt_get t (a + 1) hF).symm
        have HH := Lib.hid (cut_head t (a + 1) n (by omega))
        obtain ⟨c0, hcc⟩ : ∃ c, c = bAt t (a + 1) := ⟨_, rfl⟩
        rw [← hcc] at hc0 HH
        clear hcc
        by_cases h48 : c0 = 48
        · have HV2 : Hid (intV t a = none) := Lib.hid (by rw [HV.out, intS_none _ _ (.inr (.inr ⟨by rw [HH.out]; exact h48, .inr rfl⟩))]; rfl)
          subst h48
          clear HV hn HD hkn HDL HH
          go_wp2
          all_goals
            go_ret3
            exact ⟨ret_intR HV2.out rfl, rfl⟩
        have HC : Hid (Good true (cut t (a + 1) n)) := Lib.hid (by unfold Good; rw [HDL.out, HH.out]; rintro (h | h | ⟨h, _⟩); omega; omega; exact h48 h)
        have e48 : ((c0 : Int) == 48) = false := by rw [beq_eq_false_iff_ne]; omega
        clear HH h48
        have HVB : Hid (∀ j, j < n → valL 0 (cut t (a + 1) j) < B18) := Lib.hid (fun j hj => val_18 _ (cut_digs t (a + 1) j (fun i h2 h3 => HD.out i h2 (by omega))) (by rw [cut_length]; omega))
        have HX0 : Hid (XRel t (a + 1) n (.int .u64 0) (.int .i64 ((a : Int) + 1))) := Lib.hid ⟨0, 0, Nat.zero_le _, Lib.hid rfl, rfl, rfl⟩
        clear hn hkn
        go_wp2
        go_loop [11, 12] (fun x i => XRel t (a + 1) n x i) (fun _ i => n + (a + 1) - (intOf i).toNat)
        case atStart => exact HX0.out
        case round =>
          clear HX0
          obtain ⟨j, Z, hj, HZ, rfl, rfl⟩ := hrel
          have hkn := HKN.out
          obtain ⟨m, hm⟩ : ∃ m, m = a + 1 + j := ⟨_, rfl⟩
          rw [← hm]
          by_cases hjn : j < n
          · have hm2 : m < t.size := by omega
            have hxm : (t[m]'hm2).toNat = bAt t m := (bAt_get t m hm2).symm
            have hdj := HD.out m (by omega) (by omega)
            have hvb := HVB.out j hjn
            have HXN : Hid (XRel t (a + 1) n (.int .u64 (Z * 10 + (((bAt t m : Nat) : Int) - 48))) (.int .i64 ((m : Int) + 1))) := Lib.hid ⟨j + 1, _, hjn, Lib.hid (by
              rw [cut_snoc, valL_snoc, HZ.out, hm]
              have := hdj.1
              rw [hm] at this
              omega), rfl, by rw [hm]; rfl⟩
            have hz0 : 0 ≤ Z := by rw [HZ.out]; omega
            have hz1 : Z < 1000000000000000000 := z18 HZ.out hvb
            obtain ⟨d, hdd⟩ : ∃ d, d = bAt t m := ⟨_, rfl⟩
            rw [← hdd] at hdj HXN hxm
            obtain ⟨d1, d2⟩ := hdj
            have hmk : m < k := by omega
            have HM : Hid (n + (a + 1) - (m + 1) < n + (a + 1) - m) := Lib.hid (by omega)
            clear hdd hvb hm HZ HVB hkn HKN
            go_wp2
            exact ⟨HXN.out, by simp [intOf]; exact HM.out⟩
          · obtain rfl : j = n := by omega
            have hz0 : 0 ≤ Z := by rw [HZ.out]; omega
            have hmk : m = k := by omega
            clear hkn HKN
            subst hmk
            clear hm HVB
            have HV3 := Lib.hid (HV.out.trans (by rw [intS_neg _ HC.out]))
            by_cases hX : valL 0 (cut t (a + 1) j) ≤ 9223372036854775808
            · have HV4 : Hid (intV t a = some (-Z, m)) := Lib.hid (HV3.out.trans (by rw [if_pos hX, HZ.out]; rfl))
              have hz1 : Z ≤ 9223372036854775808 := by rw [HZ.out]; omega
              have HNC : Hid (wrap64 (IntKind.u64.wrap (-Z)) = -Z) := Lib.hid (by rw [HZ.out]; exact neg_conv _ hX)
              clear hX HV HV3 HZ HC HDL HD
              go_wp2
              go_ret3
              exact ⟨ret_intR HV4.out (by first | rfl | (simp only [intR]; rw [HNC.out]; rfl)), rfl⟩
            · have HV4 : Hid (intV t a = none) := Lib.hid (HV3.out.trans (by rw [if_neg hX]; rfl))
              have hz1 : 9223372036854775808 < Z := by rw [HZ.out]; omega
              clear hX HV HV3 HZ HC HDL HD
              go_wp2
              go_ret3
              exact ⟨ret_intR HV4.out rfl, rfl⟩
set_option maxHeartbeats 8000000 in
set_option maxRecDepth 100000 in
theorem refInt_pos (t : ByteArray) (a : Nat) (w : World) (ha : a ≤ t.size) (hs : t.size ≤ 1099511627776) (hsg : sgn t a = false) :
    Calls Tryz.prog 67 #[.string t, .int .i64 (a : Nat)] w fun e w' => e = .returned (intR (intV t a)) ∧ w = w' := by
  have HFO : Hid (fromOf t a = a) := Lib.hid (by unfold fromOf; rw [if_neg (by rw [hsg]; decide)])
  have HR0 : Hid (IRel t a (.int .i64 ((a : Int)))) := Lib.hid ⟨a, t.size + 1, by first | rfl | (congr 1), by unfold endOf; rw [HFO.out], by omega, by omega, ha⟩
  have HV0 : Hid (∀ k, endOf t a = k → intV t a = (intS false (cut t (a) (k - (a)))).map fun v => (v, k)) := Lib.hid (fun k hk => by
    unfold intV; rw [hk, HFO.out, hsg])
  have HD0 : Hid (∀ j, a ≤ j → j < endOf t a → 48 ≤ bAt t j ∧ bAt t j ≤ 57) := Lib.hid (by
    have h := (digEnd_spec t (t.size + 1) (fromOf t a) (from_le t a ha).2).2.2
    rw [HFO.out] at h
    unfold endOf; rw [HFO.out]; exact h)
  by_cases hlt : a < t.size
  · have h45 : (t[a]'hlt).toNat = bAt t a := (bAt_get t a hlt).symm
    have hne : bAt t a ≠ 45 := fun e => by
      unfold sgn at hsg
      exact (of_decide_eq_false hsg) ⟨hlt, e⟩
    obtain ⟨b0, hb0⟩ : ∃ b, b = bAt t a := ⟨_, rfl⟩
    rw [← hb0] at h45 hne
    have hq45 : ((b0 : Int) == 45) = false := by rw [beq_eq_false_iff_ne]; omega
    have HB0 := Lib.hid hb0
    clear hsg hb0 hne
    go_enter Tryz.func67, Tryz.ntmps67
    go_wp2
    go_loop [7] (fun v => IRel t a v) (fun v => t.size - (intOf v).toNat)
    case atStart => exact HR0.out
    case round =>
      clear HR0
      obtain ⟨k, f, rfl, hE, hf, hFk, hks⟩ := hrel
      by_cases hc : k < t.size ∧ 48 ≤ bAt t k ∧ bAt t k ≤ 57
      · obtain ⟨f', e1, e2⟩ := digEnd_next t f k hf hc
        obtain ⟨c1, c2, c3⟩ := hc
        have hx0 : (t[k]'c1).toNat = bAt t k := (bAt_get t k c1).symm
        have HN : Hid (IRel t a (.int .i64 ((k : Int) + 1))) := Lib.hid ⟨k + 1, f', rfl, hE.trans e1, e2, by omega, by omega⟩
        obtain ⟨b, hb⟩ : ∃ b, b = bAt t k := ⟨_, rfl⟩
        rw [← hb] at hx0 c2 c3
        clear hE e1 hb
        go_wp2
        all_goals exact ⟨HN.out, by simp [intOf]; omega⟩
      · have hEk : endOf t a = k := by rw [hE]; exact digEnd_stop t f k hc
        have hway : ¬ k < t.size ∨ k < t.size ∧ bAt t k < 48 ∨ k < t.size ∧ 48 ≤ bAt t k ∧ 57 < bAt t k := by omega
        have hFk2 : a ≤ k := by
          have h := (digEnd_spec t (t.size + 1) (fromOf t a) (from_le t a ha).2).1
          rw [HFO.out] at h
          have : endOf t a = digEnd t (t.size + 1) (a) := by unfold endOf; rw [HFO.out]
          omega
        have HV := Lib.hid (HV0.out k hEk)
        have HD : Hid (∀ j, a ≤ j → j < k → 48 ≤ bAt t j ∧ bAt t j ≤ 57) := Lib.hid (by have := HD0.out; rw [hEk] at this; exact this)
        clear hE hEk hf hc HV0 HD0 HFO
        rcases hway with h1 | ⟨h1, h2⟩ | ⟨h1, h2, h3⟩
        · have hks2 := hks
          obtain ⟨n, hn⟩ : ∃ n, n = k - (a) := ⟨_, rfl⟩
          rw [← hn] at HV
          have hkn : k = a + n := by omega
          have hki : (k : Int) - ((a : Int)) = (n : Int) := by omega
          have HKN := Lib.hid hkn
          have HDL := Lib.hid (cut_length t (a) n)
          by_cases n0 : n = 0
          · have HV2 : Hid (intV t a = none) := Lib.hid (by rw [HV.out, intS_none _ _ (.inl (by rw [HDL.out]; exact n0))]; rfl)
            subst n0
            clear HV hn HD hkn HDL
            go_wp2
            go_ret3
            exact ⟨ret_intR HV2.out rfl, rfl⟩
          have hn1 : ((n : Int) == 0) = false := by rw [beq_eq_false_iff_ne]; omega
          by_cases n19 : 19 < n
          · have HV2 : Hid (intV t a = none) := Lib.hid (by rw [HV.out, intS_none _ _ (.inr (.inl (by rw [HDL.out]; exact n19)))]; rfl)
            have hn19 : (19 : Int) < (n : Int) := by omega
            clear HV hn HD hkn HDL
            go_wp2
            go_ret3
            exact ⟨ret_intR HV2.out rfl, rfl⟩
          have hn2 : (n : Int) ≤ 19 := by omega
          have hF : a < t.size := by omega
          have HH := Lib.hid (cut_head t (a) n (by omega))
          rw [← HB0.out] at HH
          by_cases h48 : b0 = 48
          · by_cases hn3 : 1 < n
            · have HV2 : Hid (intV t a = none) := Lib.hid (by rw [HV.out, intS_none _ _ (.inr (.inr ⟨by rw [HH.out]; exact h48, .inl (by rw [HDL.out]; exact hn3)⟩))]; rfl)
              subst h48
              have hn4 : (1 : Int) < (n : Int) := by omega
              clear HV hn HD hkn HDL HH hn3
              go_wp2
              go_ret3
              exact ⟨ret_intR HV2.out rfl, rfl⟩
            · have HC : Hid (Good false (cut t (a) n)) := Lib.hid (by unfold Good; rw [HDL.out]; rintro (h | h | ⟨_, h | h⟩); omega; omega; omega; cases h)
              have hn4 : (n : Int) ≤ 1 := by omega
              subst h48
              clear HH hn3
              have HVB : Hid (∀ j, j < n → valL 0 (cut t (a) j) < B18) := Lib.hid (fun j hj => val_18 _ (cut_digs t (a) j (fun i h2 h3 => HD.out i h2 (by omega))) (by rw [cut_length]; omega))
              have HX0 : Hid (XRel t (a) n (.int .u64 0) (.int .i64 ((a : Int)))) := Lib.hid ⟨0, 0, Nat.zero_le _, Lib.hid rfl, rfl, rfl⟩
              clear hn hkn
              go_wp2
              go_loop [11, 12] (fun x i => XRel t (a) n x i) (fun _ i => n + (a) - (intOf i).toNat)
              case atStart => exact HX0.out
              case round =>
                clear HX0
                obtain ⟨j, Z, hj, HZ, rfl, rfl⟩ := hrel
                have hkn := HKN.out
                obtain ⟨m, hm⟩ : ∃ m, m = a + j := ⟨_, rfl⟩
                rw [← hm]
                by_cases hjn : j < n
                · have hm2 : m < t.size := by omega
                  have hxm : (t[m]'hm2).toNat = bAt t m := (bAt_get t m hm2).symm
                  have hdj := HD.out m (by omega) (by omega)
                  have hvb := HVB.out j hjn
                  have HXN : Hid (XRel t (a) n (.int .u64 (Z * 10 + (((bAt t m : Nat) : Int) - 48))) (.int .i64 ((m : Int) + 1))) := Lib.hid ⟨j + 1, _, hjn, Lib.hid (by
                    rw [cut_snoc, valL_snoc, HZ.out, hm]
                    have := hdj.1
                    rw [hm] at this
                    omega), rfl, by rw [hm]; rfl⟩
                  have hz0 : 0 ≤ Z := by rw [HZ.out]; omega
                  have hz1 : Z < 1000000000000000000 := z18 HZ.out hvb
                  obtain ⟨d, hdd⟩ : ∃ d, d = bAt t m := ⟨_, rfl⟩
                  rw [← hdd] at hdj HXN hxm
                  obtain ⟨d1, d2⟩ := hdj
                  have hmk : m < k := by omega
                  have HM : Hid (n + (a) - (m + 1) < n + (a) - m) := Lib.hid (by omega)
                  clear hdd hvb hm HZ HVB hkn HKN
                  go_wp2
                  exact ⟨HXN.out, by simp [intOf]; exact HM.out⟩
                · obtain rfl : j = n := by omega
                  have hz0 : 0 ≤ Z := by rw [HZ.out]; omega
                  have hmk : m = k := by omega
                  clear hkn HKN
                  subst hmk
                  clear hm HVB
                  have HV3 := Lib.hid (HV.out.trans (by rw [intS_pos _ HC.out]))
                  by_cases hX : valL 0 (cut t (a) j) < 9223372036854775808
                  · have HV4 : Hid (intV t a = some (Z, m)) := Lib.hid (HV3.out.trans (by rw [if_pos hX, HZ.out]; rfl))
                    have hz1 : Z < 9223372036854775808 := by rw [HZ.out]; omega
                    clear hX HV HV3 HZ HC HDL HD
                    go_wp2
                    go_ret3
                    exact ⟨ret_intR HV4.out rfl, rfl⟩
                  · have HV4 : Hid (intV t a = none) := Lib.hid (HV3.out.trans (by rw [if_neg hX]; rfl))
                    have hz1 : 9223372036854775808 ≤ Z := by rw [HZ.out]; omega
                    clear hX HV HV3 HZ HC HDL HD
                    go_wp2
                    go_ret3
                    exact ⟨ret_intR HV4.out rfl, rfl⟩
          have HC : Hid (Good false (cut t (a) n)) := Lib.hid (by unfold Good; rw [HDL.out, HH.out]; rintro (h | h | ⟨h, _⟩); omega; omega; exact h48 h)
          have e48 : ((b0 : Int) == 48) = false := by rw [beq_eq_false_iff_ne]; omega
          clear HH h48
          by_cases hn3 : 1 < n
          · have hn4 : (1 : Int) < (n : Int) := by omega
            clear hn3
            have HVB : Hid (∀ j, j < n → valL 0 (cut t (a) j) < B18) := Lib.hid (fun j hj => val_18 _ (cut_digs t (a) j (fun i h2 h3 => HD.out i h2 (by omega))) (by rw [cut_length]; omega))
            have HX0 : Hid (XRel t (a) n (.int .u64 0) (.int .i64 ((a : Int)))) := Lib.hid ⟨0, 0, Nat.zero_le _, Lib.hid rfl, rfl, rfl⟩
            clear hn hkn
            go_wp2
            go_loop [11, 12] (fun x i => XRel t (a) n x i) (fun _ i => n + (a) - (intOf i).toNat)
            case atStart => exact HX0.out
            case round =>
              clear HX0
              obtain ⟨j, Z, hj, HZ, rfl, rfl⟩ := hrel
              have hkn := HKN.out
              obtain ⟨m, hm⟩ : ∃ m, m = a + j := ⟨_, rfl⟩
              rw [← hm]
              by_cases hjn : j < n
              · have hm2 : m < t.size := by omega
                have hxm : (t[m]'hm2).toNat = bAt t m := (bAt_get t m hm2).symm
                have hdj := HD.out m (by omega) (by omega)
                have hvb := HVB.out j hjn
                have HXN : Hid (XRel t (a) n (.int .u64 (Z * 10 + (((bAt t m : Nat) : Int) - 48))) (.int .i64 ((m : Int) + 1))) := Lib.hid ⟨j + 1, _, hjn, Lib.hid (by
                  rw [cut_snoc, valL_snoc, HZ.out, hm]
                  have := hdj.1
                  rw [hm] at this
                  omega), rfl, by rw [hm]; rfl⟩
                have hz0 : 0 ≤ Z := by rw [HZ.out]; omega
                have hz1 : Z < 1000000000000000000 := z18 HZ.out hvb
                obtain ⟨d, hdd⟩ : ∃ d, d = bAt t m := ⟨_, rfl⟩
                rw [← hdd] at hdj HXN hxm
                obtain ⟨d1, d2⟩ := hdj
                have hmk : m < k := by omega
                have HM : Hid (n + (a) - (m + 1) < n + (a) - m) := Lib.hid (by omega)
                clear hdd hvb hm HZ HVB hkn HKN
                go_wp2
                exact ⟨HXN.out, by simp [intOf]; exact HM.out⟩
              · obtain rfl : j = n := by omega
                have hz0 : 0 ≤ Z := by rw [HZ.out]; omega
                have hmk : m = k := by omega
                clear hkn HKN
                subst hmk
                clear hm HVB
                have HV3 := Lib.hid (HV.out.trans (by rw [intS_pos _ HC.out]))
                by_cases hX : valL 0 (cut t (a) j) < 9223372036854775808
                · have HV4 : Hid (intV t a = some (Z, m)) := Lib.hid (HV3.out.trans (by rw [if_pos hX, HZ.out]; rfl))
                  have hz1 : Z < 9223372036854775808 := by rw [HZ.out]; omega
                  clear hX HV HV3 HZ HC HDL HD
                  go_wp2
                  go_ret3
                  exact ⟨ret_intR HV4.out rfl, rfl⟩
                · have HV4 : Hid (intV t a = none) := Lib.hid (HV3.out.trans (by rw [if_neg hX]; rfl))
                  have hz1 : 9223372036854775808 ≤ Z := by rw [HZ.out]; omega
                  clear hX HV HV3 HZ HC HDL HD
                  go_wp2
                  go_ret3
                  exact ⟨ret_intR HV4.out rfl, rfl⟩
          · have hn4 : (n : Int) ≤ 1 := by omega
            clear hn3
            have HVB : Hid (∀ j, j < n → valL 0 (cut t (a) j) < B18) := Lib.hid (fun j hj => val_18 _ (cut_digs t (a) j (fun i h2 h3 => HD.out i h2 (by omega))) (by rw [cut_length]; omega))
            have HX0 : Hid (XRel t (a) n (.int .u64 0) (.int .i64 ((a : Int)))) := Lib.hid ⟨0, 0, Nat.zero_le _, Lib.hid rfl, rfl, rfl⟩
            clear hn hkn
            go_wp2
            go_loop [11, 12] (fun x i => XRel t (a) n x i) (fun _ i => n + (a) - (intOf i).toNat)
            case atStart => exact HX0.out
            case round =>
              clear HX0
              obtain ⟨j, Z, hj, HZ, rfl, rfl⟩ := hrel
              have hkn := HKN.out
              obtain ⟨m, hm⟩ : ∃ m, m = a + j := ⟨_, rfl⟩
              rw [← hm]
              by_cases hjn : j < n
              · have hm2 : m < t.size := by omega
                have hxm : (t[m]'hm2).toNat = bAt t m := (bAt_get t m hm2).symm
                have hdj := HD.out m (by omega) (by omega)
                have hvb := HVB.out j hjn
                have HXN : Hid (XRel t (a) n (.int .u64 (Z * 10 + (((bAt t m : Nat) : Int) - 48))) (.int .i64 ((m : Int) + 1))) := Lib.hid ⟨j + 1, _, hjn, Lib.hid (by
                  rw [cut_snoc, valL_snoc, HZ.out, hm]
                  have := hdj.1
                  rw [hm] at this
                  omega), rfl, by rw [hm]; rfl⟩
                have hz0 : 0 ≤ Z := by rw [HZ.out]; omega
                have hz1 : Z < 1000000000000000000 := z18 HZ.out hvb
                obtain ⟨d, hdd⟩ : ∃ d, d = bAt t m := ⟨_, rfl⟩
                rw [← hdd] at hdj HXN hxm
                obtain ⟨d1, d2⟩ := hdj
                have hmk : m < k := by omega
                have HM : Hid (n + (a) - (m + 1) < n + (a) - m) := Lib.hid (by omega)
                clear hdd hvb hm HZ HVB hkn HKN
                go_wp2
                exact ⟨HXN.out, by simp [intOf]; exact HM.out⟩
              · obtain rfl : j = n := by omega
                have hz0 : 0 ≤ Z := by rw [HZ.out]; omega
                have hmk : m = k := by omega
                clear hkn HKN
                subst hmk
                clear hm HVB
                have HV3 := Lib.hid (HV.out.trans (by rw [intS_pos _ HC.out]))
                by_cases hX : valL 0 (cut t (a) j) < 9223372036854775808
                · have HV4 : Hid (intV t a = some (Z, m)) := Lib.hid (HV3.out.trans (by rw [if_pos hX, HZ.out]; rfl))
                  have hz1 : Z < 9223372036854775808 := by rw [HZ.out]; omega
                  clear hX HV HV3 HZ HC HDL HD
                  go_wp2
                  go_ret3
                  exact ⟨ret_intR HV4.out rfl, rfl⟩
                · have HV4 : Hid (intV t a = none) := Lib.hid (HV3.out.trans (by rw [if_neg hX]; rfl))
                  have hz1 : 9223372036854775808 ≤ Z := by rw [HZ.out]; omega
                  clear hX HV HV3 HZ HC HDL HD
                  go_wp2
                  go_ret3
                  exact ⟨ret_intR HV4.out rfl, rfl⟩
        · have hx0 : (t[k]'h1).toNat = bAt t k := (bAt_get t k h1).symm
          obtain ⟨b, hb⟩ : ∃ b, b = bAt t k := ⟨_, rfl⟩
          rw [← hb] at hx0 h2
          clear hb
          obtain ⟨n, hn⟩ : ∃ n, n = k - (a) := ⟨_, rfl⟩
          rw [← hn] at HV
          have hkn : k = a + n := by omega
          have hki : (k : Int) - ((a : Int)) = (n : Int) := by omega
          have HKN := Lib.hid hkn
          have HDL := Lib.hid (cut_length t (a) n)
          by_cases n0 : n = 0
          · have HV2 : Hid (intV t a = none) := Lib.hid (by rw [HV.out, intS_none _ _ (.inl (by rw [HDL.out]; exact n0))]; rfl)
            subst n0
            clear HV hn HD hkn HDL
            go_wp2
            go_ret3
            exact ⟨ret_intR HV2.out rfl, rfl⟩
          have hn1 : ((n : Int) == 0) = false := by rw [beq_eq_false_iff_ne]; omega
          by_cases n19 : 19 < n
          · have HV2 : Hid (intV t a = none) := Lib.hid (by rw [HV.out, intS_none _ _ (.inr (.inl (by rw [HDL.out]; exact n19)))]; rfl)
            have hn19 : (19 : Int) < (n : Int) := by omega
            clear HV hn HD hkn HDL
            go_wp2
            go_ret3
            exact ⟨ret_intR HV2.out rfl, rfl⟩
          have hn2 : (n : Int) ≤ 19 := by omega
          have hF : a < t.size := by omega
          have HH := Lib.hid (cut_head t (a) n (by omega))
          rw [← HB0.out] at HH
          by_cases h48 : b0 = 48
          · by_cases hn3 : 1 < n
            · have HV2 : Hid (intV t a = none) := Lib.hid (by rw [HV.out, intS_none _ _ (.inr (.inr ⟨by rw [HH.out]; exact h48, .inl (by rw [HDL.out]; exact hn3)⟩))]; rfl)
              subst h48
              have hn4 : (1 : Int) < (n : Int) := by omega
              clear HV hn HD hkn HDL HH hn3
              go_wp2
              go_ret3
              exact ⟨ret_intR HV2.out rfl, rfl⟩
            · have HC : Hid (Good false (cut t (a) n)) := Lib.hid (by unfold Good; rw [HDL.out]; rintro (h | h | ⟨_, h | h⟩); omega; omega; omega; cases h)
              have hn4 : (n : Int) ≤ 1 := by omega
              subst h48
              clear HH hn3
              have HVB : Hid (∀ j, j < n → valL 0 (cut t (a) j) < B18) := Lib.hid (fun j hj => val_18 _ (cut_digs t (a) j (fun i h2 h3 => HD.out i h2 (by omega))) (by rw [cut_length]; omega))
              have HX0 : Hid (XRel t (a) n (.int .u64 0) (.int .i64 ((a : Int)))) := Lib.hid ⟨0, 0, Nat.zero_le _, Lib.hid rfl, rfl, rfl⟩
              clear hn hkn
              go_wp2
              go_loop [11, 12] (fun x i => XRel t (a) n x i) (fun _ i => n + (a) - (intOf i).toNat)
              case atStart => exact HX0.out
              case round =>
                clear HX0
                obtain ⟨j, Z, hj, HZ, rfl, rfl⟩ := hrel
                have hkn := HKN.out
                obtain ⟨m, hm⟩ : ∃ m, m = a + j := ⟨_, rfl⟩
                rw [← hm]
                by_cases hjn : j < n
                · have hm2 : m < t.size := by omega
                  have hxm : (t[m]'hm2).toNat = bAt t m := (bAt_get t m hm2).symm
                  have hdj := HD.out m (by omega) (by omega)
                  have hvb := HVB.out j hjn
                  have HXN : Hid (XRel t (a) n (.int .u64 (Z * 10 + (((bAt t m : Nat) : Int) - 48))) (.int .i64 ((m : Int) + 1))) := Lib.hid ⟨j + 1, _, hjn, Lib.hid (by
                    rw [cut_snoc, valL_snoc, HZ.out, hm]
                    have := hdj.1
                    rw [hm] at this
                    omega), rfl, by rw [hm]; rfl⟩
                  have hz0 : 0 ≤ Z := by rw [HZ.out]; omega
                  have hz1 : Z < 1000000000000000000 := z18 HZ.out hvb
                  obtain ⟨d, hdd⟩ : ∃ d, d = bAt t m := ⟨_, rfl⟩
                  rw [← hdd] at hdj HXN hxm
                  obtain ⟨d1, d2⟩ := hdj
                  have hmk : m < k := by omega
                  have HM : Hid (n + (a) - (m + 1) < n + (a) - m) := Lib.hid (by omega)
                  clear hdd hvb hm HZ HVB hkn HKN
                  go_wp2
                  exact ⟨HXN.out, by simp [intOf]; exact HM.out⟩
                · obtain rfl : j = n := by omega
                  have hz0 : 0 ≤ Z := by rw [HZ.out]; omega
                  have hmk : m = k := by omega
                  clear hkn HKN
                  subst hmk
                  clear hm HVB
                  have HV3 := Lib.hid (HV.out.trans (by rw [intS_pos _ HC.out]))
                  by_cases hX : valL 0 (cut t (a) j) < 9223372036854775808
                  · have HV4 : Hid (intV t a = some (Z, m)) := Lib.hid (HV3.out.trans (by rw [if_pos hX, HZ.out]; rfl))
                    have hz1 : Z < 9223372036854775808 := by rw [HZ.out]; omega
                    clear hX HV HV3 HZ HC HDL HD
                    go_wp2
                    go_ret3
                    exact ⟨ret_intR HV4.out rfl, rfl⟩
                  · have HV4 : Hid (intV t a = none) := Lib.hid (HV3.out.trans (by rw [if_neg hX]; rfl))
                    have hz1 : 9223372036854775808 ≤ Z := by rw [HZ.out]; omega
                    clear hX HV HV3 HZ HC HDL HD
                    go_wp2
                    go_ret3
                    exact ⟨ret_intR HV4.out rfl, rfl⟩
          have HC : Hid (Good false (cut t (a) n)) := Lib.hid (by unfold Good; rw [HDL.out, HH.out]; rintro (h | h | ⟨h, _⟩); omega; omega; exact h48 h)
          have e48 : ((b0 : Int) == 48) = false := by rw [beq_eq_false_iff_ne]; omega
          clear HH h48
          by_cases hn3 : 1 < n
          · have hn4 : (1 : Int) < (n : Int) := by omega
            clear hn3
            have HVB : Hid (∀ j, j < n → valL 0 (cut t (a) j) < B18) := Lib.hid (fun j hj => val_18 _ (cut_digs t (a) j (fun i h2 h3 => HD.out i h2 (by omega))) (by rw [cut_length]; omega))
            have HX0 : Hid (XRel t (a) n (.int .u64 0) (.int .i64 ((a : Int)))) := Lib.hid ⟨0, 0, Nat.zero_le _, Lib.hid rfl, rfl, rfl⟩
            clear hn hkn
            go_wp2
            go_loop [11, 12] (fun x i => XRel t (a) n x i) (fun _ i => n + (a) - (intOf i).toNat)
            case atStart => exact HX0.out
            case round =>
              clear HX0
              obtain ⟨j, Z, hj, HZ, rfl, rfl⟩ := hrel
              have hkn := HKN.out
              obtain ⟨m, hm⟩ : ∃ m, m = a + j := ⟨_, rfl⟩
              rw [← hm]
              by_cases hjn : j < n
              · have hm2 : m < t.size := by omega
                have hxm : (t[m]'hm2).toNat = bAt t m := (bAt_get t m hm2).symm
                have hdj := HD.out m (by omega) (by omega)
                have hvb := HVB.out j hjn
                have HXN : Hid (XRel t (a) n (.int .u64 (Z * 10 + (((bAt t m : Nat) : Int) - 48))) (.int .i64 ((m : Int) + 1))) := Lib.hid ⟨j + 1, _, hjn, Lib.hid (by
                  rw [cut_snoc, valL_snoc, HZ.out, hm]
                  have := hdj.1
                  rw [hm] at this
                  omega), rfl, by rw [hm]; rfl⟩
                have hz0 : 0 ≤ Z := by rw [HZ.out]; omega
                have hz1 : Z < 1000000000000000000 := z18 HZ.out hvb
                obtain ⟨d, hdd⟩ : ∃ d, d = bAt t m := ⟨_, rfl⟩
                rw [← hdd] at hdj HXN hxm
                obtain ⟨d1, d2⟩ := hdj
                have hmk : m < k := by omega
                have HM : Hid (n + (a) - (m + 1) < n + (a) - m) := Lib.hid (by omega)
                clear hdd hvb hm HZ HVB hkn HKN
                go_wp2
                exact ⟨HXN.out, by simp [intOf]; exact HM.out⟩
              · obtain rfl : j = n := by omega
                have hz0 : 0 ≤ Z := by rw [HZ.out]; omega
                have hmk : m = k := by omega
                clear hkn HKN
                subst hmk
                clear hm HVB
                have HV3 := Lib.hid (HV.out.trans (by rw [intS_pos _ HC.out]))
                by_cases hX : valL 0 (cut t (a) j) < 9223372036854775808
                · have HV4 : Hid (intV t a = some (Z, m)) := Lib.hid (HV3.out.trans (by rw [if_pos hX, HZ.out]; rfl))
                  have hz1 : Z < 9223372036854775808 := by rw [HZ.out]; omega
                  clear hX HV HV3 HZ HC HDL HD
                  go_wp2
                  go_ret3
                  exact ⟨ret_intR HV4.out rfl, rfl⟩
                · have HV4 : Hid (intV t a = none) := Lib.hid (HV3.out.trans (by rw [if_neg hX]; rfl))
                  have hz1 : 9223372036854775808 ≤ Z := by rw [HZ.out]; omega
                  clear hX HV HV3 HZ HC HDL HD
                  go_wp2
                  go_ret3
                  exact ⟨ret_intR HV4.out rfl, rfl⟩
          · have hn4 : (n : Int) ≤ 1 := by omega
            clear hn3
            have HVB : Hid (∀ j, j < n → valL 0 (cut t (a) j) < B18) := Lib.hid (fun j hj => val_18 _ (cut_digs t (a) j (fun i h2 h3 => HD.out i h2 (by omega))) (by rw [cut_length]; omega))
            have HX0 : Hid (XRel t (a) n (.int .u64 0) (.int .i64 ((a : Int)))) := Lib.hid ⟨0, 0, Nat.zero_le _, Lib.hid rfl, rfl, rfl⟩
            clear hn hkn
            go_wp2
            go_loop [11, 12] (fun x i => XRel t (a) n x i) (fun _ i => n + (a) - (intOf i).toNat)
            case atStart => exact HX0.out
            case round =>
              clear HX0
              obtain ⟨j, Z, hj, HZ, rfl, rfl⟩ := hrel
              have hkn := HKN.out
              obtain ⟨m, hm⟩ : ∃ m, m = a + j := ⟨_, rfl⟩
              rw [← hm]
              by_cases hjn : j < n
              · have hm2 : m < t.size := by omega
                have hxm : (t[m]'hm2).toNat = bAt t m := (bAt_get t m hm2).symm
                have hdj := HD.out m (by omega) (by omega)
                have hvb := HVB.out j hjn
                have HXN : Hid (XRel t (a) n (.int .u64 (Z * 10 + (((bAt t m : Nat) : Int) - 48))) (.int .i64 ((m : Int) + 1))) := Lib.hid ⟨j + 1, _, hjn, Lib.hid (by
                  rw [cut_snoc, valL_snoc, HZ.out, hm]
                  have := hdj.1
                  rw [hm] at this
                  omega), rfl, by rw [hm]; rfl⟩
                have hz0 : 0 ≤ Z := by rw [HZ.out]; omega
                have hz1 : Z < 1000000000000000000 := z18 HZ.out hvb
                obtain ⟨d, hdd⟩ : ∃ d, d = bAt t m := ⟨_, rfl⟩
                rw [← hdd] at hdj HXN hxm
                obtain ⟨d1, d2⟩ := hdj
                have hmk : m < k := by omega
                have HM : Hid (n + (a) - (m + 1) < n + (a) - m) := Lib.hid (by omega)
                clear hdd hvb hm HZ HVB hkn HKN
                go_wp2
                exact ⟨HXN.out, by simp [intOf]; exact HM.out⟩
              · obtain rfl : j = n := by omega
                have hz0 : 0 ≤ Z := by rw [HZ.out]; omega
                have hmk : m = k := by omega
                clear hkn HKN
                subst hmk
                clear hm HVB
                have HV3 := Lib.hid (HV.out.trans (by rw [intS_pos _ HC.out]))
                by_cases hX : valL 0 (cut t (a) j) < 9223372036854775808
                · have HV4 : Hid (intV t a = some (Z, m)) := Lib.hid (HV3.out.trans (by rw [if_pos hX, HZ.out]; rfl))
                  have hz1 : Z < 9223372036854775808 := by rw [HZ.out]; omega
                  clear hX HV HV3 HZ HC HDL HD
                  go_wp2
                  go_ret3
                  exact ⟨ret_intR HV4.out rfl, rfl⟩
                · have HV4 : Hid (intV t a = none) := Lib.hid (HV3.out.trans (by rw [if_neg hX]; rfl))
                  have hz1 : 9223372036854775808 ≤ Z := by rw [HZ.out]; omega
                  clear hX HV HV3 HZ HC HDL HD
                  go_wp2
                  go_ret3
                  exact ⟨ret_intR HV4.out rfl, rfl⟩
        · have hx0 : (t[k]'h1).toNat = bAt t k := (bAt_get t k h1).symm
          obtain ⟨b, hb⟩ : ∃ b, b = bAt t k := ⟨_, rfl⟩
          rw [← hb] at hx0 h2 h3
          clear hb
          obtain ⟨n, hn⟩ : ∃ n, n = k - (a) := ⟨_, rfl⟩
          rw [← hn] at HV
          have hkn : k = a + n := by omega
          have hki : (k : Int) - ((a : Int)) = (n : Int) := by omega
          have HKN := Lib.hid hkn
          have HDL := Lib.hid (cut_length t (a) n)
          by_cases n0 : n = 0
          · have HV2 : Hid (intV t a = none) := Lib.hid (by rw [HV.out, intS_none _ _ (.inl (by rw [HDL.out]; exact n0))]; rfl)
            subst n0
            clear HV hn HD hkn HDL
            go_wp2
            go_ret3
            exact ⟨ret_intR HV2.out rfl, rfl⟩
          have hn1 : ((n : Int) == 0) = false := by rw [beq_eq_false_iff_ne]; omega
          by_cases n19 : 19 < n
          · have HV2 : Hid (intV t a = none) := Lib.hid (by rw [HV.out, intS_none _ _ (.inr (.inl (by rw [HDL.out]; exact n19)))]; rfl)
            have hn19 : (19 : Int) < (n : Int) := by omega
            clear HV hn HD hkn HDL
            go_wp2
            go_ret3
            exact ⟨ret_intR HV2.out rfl, rfl⟩
          have hn2 : (n : Int) ≤ 19 := by omega
          have hF : a < t.size := by omega
          have HH := Lib.hid (cut_head t (a) n (by omega))
          rw [← HB0.out] at HH
          by_cases h48 : b0 = 48
          · by_cases hn3 : 1 < n
            · have HV2 : Hid (intV t a = none) := Lib.hid (by rw [HV.out, intS_none _ _ (.inr (.inr ⟨by rw [HH.out]; exact h48, .inl (by rw [HDL.out]; exact hn3)⟩))]; rfl)
              subst h48
              have hn4 : (1 : Int) < (n : Int) := by omega
              clear HV hn HD hkn HDL HH hn3
              go_wp2
              go_ret3
              exact ⟨ret_intR HV2.out rfl, rfl⟩
            · have HC : Hid (Good false (cut t (a) n)) := Lib.hid (by unfold Good; rw [HDL.out]; rintro (h | h | ⟨_, h | h⟩); omega; omega; omega; cases h)
              have hn4 : (n : Int) ≤ 1 := by omega
              subst h48
              clear HH hn3
              have HVB : Hid (∀ j, j < n → valL 0 (cut t (a) j) < B18) := Lib.hid (fun j hj => val_18 _ (cut_digs t (a) j (fun i h2 h3 => HD.out i h2 (by omega))) (by rw [cut_length]; omega))
              have HX0 : Hid (XRel t (a) n (.int .u64 0) (.int .i64 ((a : Int)))) := Lib.hid ⟨0, 0, Nat.zero_le _, Lib.hid rfl, rfl, rfl⟩
              clear hn hkn
              go_wp2
              go_loop [11, 12] (fun x i => XRel t (a) n x i) (fun _ i => n + (a) - (intOf i).toNat)
              case atStart => exact HX0.out
              case round =>
                clear HX0
                obtain ⟨j, Z, hj, HZ, rfl, rfl⟩ := hrel
                have hkn := HKN.out
                obtain ⟨m, hm⟩ : ∃ m, m = a + j := ⟨_, rfl⟩
                rw [← hm]
                by_cases hjn : j < n
                · have hm2 : m < t.size := by omega
                  have hxm : (t[m]'hm2).toNat = bAt t m := (bAt_get t m hm2).symm
                  have hdj := HD.out m (by omega) (by omega)
                  have hvb := HVB.out j hjn
                  have HXN : Hid (XRel t (a) n (.int .u64 (Z * 10 + (((bAt t m : Nat) : Int) - 48))) (.int .i64 ((m : Int) + 1))) := Lib.hid ⟨j + 1, _, hjn, Lib.hid (by
                    rw [cut_snoc, valL_snoc, HZ.out, hm]
                    have := hdj.1
                    rw [hm] at this
                    omega), rfl, by rw [hm]; rfl⟩
                  have hz0 : 0 ≤ Z := by rw [HZ.out]; omega
                  have hz1 : Z < 1000000000000000000 := z18 HZ.out hvb
                  obtain ⟨d, hdd⟩ : ∃ d, d = bAt t m := ⟨_, rfl⟩
                  rw [← hdd] at hdj HXN hxm
                  obtain ⟨d1, d2⟩ := hdj
                  have hmk : m < k := by omega
                  have HM : Hid (n + (a) - (m + 1) < n + (a) - m) := Lib.hid (by omega)
                  clear hdd hvb hm HZ HVB hkn HKN
                  go_wp2
                  exact ⟨HXN.out, by simp [intOf]; exact HM.out⟩
                · obtain rfl : j = n := by omega
                  have hz0 : 0 ≤ Z := by rw [HZ.out]; omega
                  have hmk : m = k := by omega
                  clear hkn HKN
                  subst hmk
                  clear hm HVB
                  have HV3 := Lib.hid (HV.out.trans (by rw [intS_pos _ HC.out]))
                  by_cases hX : valL 0 (cut t (a) j) < 9223372036854775808
                  · have HV4 : Hid (intV t a = some (Z, m)) := Lib.hid (HV3.out.trans (by rw [if_pos hX, HZ.out]; rfl))
                    have hz1 : Z < 9223372036854775808 := by rw [HZ.out]; omega
                    clear hX HV HV3 HZ HC HDL HD
                    go_wp2
                    go_ret3
                    exact ⟨ret_intR HV4.out rfl, rfl⟩
                  · have HV4 : Hid (intV t a = none) := Lib.hid (HV3.out.trans (by rw [if_neg hX]; rfl))
                    have hz1 : 9223372036854775808 ≤ Z := by rw [HZ.out]; omega
                    clear hX HV HV3 HZ HC HDL HD
                    go_wp2
                    go_ret3
                    exact ⟨ret_intR HV4.out rfl, rfl⟩
          have HC : Hid (Good false (cut t (a) n)) := Lib.hid (by unfold Good; rw [HDL.out, HH.out]; rintro (h | h | ⟨h, _⟩); omega; omega; exact h48 h)
          have e48 : ((b0 : Int) == 48) = false := by rw [beq_eq_false_iff_ne]; omega
          clear HH h48
          by_cases hn3 : 1 < n
          · have hn4 : (1 : Int) < (n : Int) := by omega
            clear hn3
            have HVB : Hid (∀ j, j < n → valL 0 (cut t (a) j) < B18) := Lib.hid (fun j hj => val_18 _ (cut_digs t (a) j (fun i h2 h3 => HD.out i h2 (by omega))) (by rw [cut_length]; omega))
            have HX0 : Hid (XRel t (a) n (.int .u64 0) (.int .i64 ((a : Int)))) := Lib.hid ⟨0, 0, Nat.zero_le _, Lib.hid rfl, rfl, rfl⟩
            clear hn hkn
            go_wp2
            go_loop [11, 12] (fun x i => XRel t (a) n x i) (fun _ i => n + (a) - (intOf i).toNat)
            case atStart => exact HX0.out
            case round =>
              clear HX0
              obtain ⟨j, Z, hj, HZ, rfl, rfl⟩ := hrel
              have hkn := HKN.out
              obtain ⟨m, hm⟩ : ∃ m, m = a + j := ⟨_, rfl⟩
              rw [← hm]
              by_cases hjn : j < n
              · have hm2 : m < t.size := by omega
                have hxm : (t[m]'hm2).toNat = bAt t m := (bAt_get t m hm2).symm
                have hdj := HD.out m (by omega) (by omega)
                have hvb := HVB.out j hjn
                have HXN : Hid (XRel t (a) n (.int .u64 (Z * 10 + (((bAt t m : Nat) : Int) - 48))) (.int .i64 ((m : Int) + 1))) := Lib.hid ⟨j + 1, _, hjn, Lib.hid (by
                  rw [cut_snoc, valL_snoc, HZ.out, hm]
                  have := hdj.1
                  rw [hm] at this
                  omega), rfl, by rw [hm]; rfl⟩
                have hz0 : 0 ≤ Z := by rw [HZ.out]; omega
                have hz1 : Z < 1000000000000000000 := z18 HZ.out hvb
                obtain ⟨d, hdd⟩ : ∃ d, d = bAt t m := ⟨_, rfl⟩
                rw [← hdd] at hdj HXN hxm
                obtain ⟨d1, d2⟩ := hdj
                have hmk : m < k := by omega
                have HM : Hid (n + (a) - (m + 1) < n + (a) - m) := Lib.hid (by omega)
                clear hdd hvb hm HZ HVB hkn HKN
                go_wp2
                exact ⟨HXN.out, by simp [intOf]; exact HM.out⟩
              · obtain rfl : j = n := by omega
                have hz0 : 0 ≤ Z := by rw [HZ.out]; omega
                have hmk : m = k := by omega
                clear hkn HKN
                subst hmk
                clear hm HVB
                have HV3 := Lib.hid (HV.out.trans (by rw [intS_pos _ HC.out]))
                by_cases hX : valL 0 (cut t (a) j) < 9223372036854775808
                · have HV4 : Hid (intV t a = some (Z, m)) := Lib.hid (HV3.out.trans (by rw [if_pos hX, HZ.out]; rfl))
                  have hz1 : Z < 9223372036854775808 := by rw [HZ.out]; omega
                  clear hX HV HV3 HZ HC HDL HD
                  go_wp2
                  go_ret3
                  exact ⟨ret_intR HV4.out rfl, rfl⟩
                · have HV4 : Hid (intV t a = none) := Lib.hid (HV3.out.trans (by rw [if_neg hX]; rfl))
                  have hz1 : 9223372036854775808 ≤ Z := by rw [HZ.out]; omega
                  clear hX HV HV3 HZ HC HDL HD
                  go_wp2
                  go_ret3
                  exact ⟨ret_intR HV4.out rfl, rfl⟩
          · have hn4 : (n : Int) ≤ 1 := by omega
            clear hn3
            have HVB : Hid (∀ j, j < n → valL 0 (cut t (a) j) < B18) := Lib.hid (fun j hj => val_18 _ (cut_digs t (a) j (fun i h2 h3 => HD.out i h2 (by omega))) (by rw [cut_length]; omega))
            have HX0 : Hid (XRel t (a) n (.int .u64 0) (.int .i64 ((a : Int)))) := Lib.hid ⟨0, 0, Nat.zero_le _, Lib.hid rfl, rfl, rfl⟩
            clear hn hkn
            go_wp2
            go_loop [11, 12] (fun x i => XRel t (a) n x i) (fun _ i => n + (a) - (intOf i).toNat)
            case atStart => exact HX0.out
            case round =>
              clear HX0
              obtain ⟨j, Z, hj, HZ, rfl, rfl⟩ := hrel
              have hkn := HKN.out
              obtain ⟨m, hm⟩ : ∃ m, m = a + j := ⟨_, rfl⟩
              rw [← hm]
              by_cases hjn : j < n
              · have hm2 : m < t.size := by omega
                have hxm : (t[m]'hm2).toNat = bAt t m := (bAt_get t m hm2).symm
                have hdj := HD.out m (by omega) (by omega)
                have hvb := HVB.out j hjn
                have HXN : Hid (XRel t (a) n (.int .u64 (Z * 10 + (((bAt t m : Nat) : Int) - 48))) (.int .i64 ((m : Int) + 1))) := Lib.hid ⟨j + 1, _, hjn, Lib.hid (by
                  rw [cut_snoc, valL_snoc, HZ.out, hm]
                  have := hdj.1
                  rw [hm] at this
                  omega), rfl, by rw [hm]; rfl⟩
                have hz0 : 0 ≤ Z := by rw [HZ.out]; omega
                have hz1 : Z < 1000000000000000000 := z18 HZ.out hvb
                obtain ⟨d, hdd⟩ : ∃ d, d = bAt t m := ⟨_, rfl⟩
                rw [← hdd] at hdj HXN hxm
                obtain ⟨d1, d2⟩ := hdj
                have hmk : m < k := by omega
                have HM : Hid (n + (a) - (m + 1) < n + (a) - m) := Lib.hid (by omega)
                clear hdd hvb hm HZ HVB hkn HKN
                go_wp2
                exact ⟨HXN.out, by simp [intOf]; exact HM.out⟩
              · obtain rfl : j = n := by omega
                have hz0 : 0 ≤ Z := by rw [HZ.out]; omega
                have hmk : m = k := by omega
                clear hkn HKN
                subst hmk
                clear hm HVB
                have HV3 := Lib.hid (HV.out.trans (by rw [intS_pos _ HC.out]))
                by_cases hX : valL 0 (cut t (a) j) < 9223372036854775808
                · have HV4 : Hid (intV t a = some (Z, m)) := Lib.hid (HV3.out.trans (by rw [if_pos hX, HZ.out]; rfl))
                  have hz1 : Z < 9223372036854775808 := by rw [HZ.out]; omega
                  clear hX HV HV3 HZ HC HDL HD
                  go_wp2
                  go_ret3
                  exact ⟨ret_intR HV4.out rfl, rfl⟩
                · have HV4 : Hid (intV t a = none) := Lib.hid (HV3.out.trans (by rw [if_neg hX]; rfl))
                  have hz1 : 9223372036854775808 ≤ Z := by rw [HZ.out]; omega
                  clear hX HV HV3 HZ HC HDL HD
                  go_wp2
                  go_ret3
                  exact ⟨ret_intR HV4.out rfl, rfl⟩
  · have hEa : endOf t a = a := by
      rw [endOf, HFO.out]; exact digEnd_stop t _ a (fun h => hlt h.1)
    have HV2 : Hid (intV t a = none) := Lib.hid (by
      rw [HV0.out a hEa, intS_none _ _ (.inl (by rw [cut_length]; omega))]; rfl)
    clear hsg HV0 HD0 HFO HR0 hEa
    go_enter Tryz.func67, Tryz.ntmps67
    go_wp2
    go_loop [7] (fun v => v = .int .i64 (a : Int)) (fun _ => 0)
    case atStart => rfl
    case round =>
      obtain rfl := hrel
      go_wp2
      go_ret3
      exact ⟨ret_intR HV2.out rfl, rfl⟩
theorem refInt_any (t : ByteArray) (a : Nat) (w : World) (ha : a ≤ t.size) (hs : t.size ≤ 1099511627776) :
    Calls Tryz.prog 67 #[.string t, .int .i64 (a : Nat)] w fun e w' => e = .returned (intR (intV t a)) ∧ w = w' := by
  cases h : sgn t a with
  | true => exact refInt_neg t a w ha hs h
  | false => exact refInt_pos t a w ha hs h
theorem refInt_bad (t : ByteArray) (a : Int) (w : World) (h : a < 0 ∨ (t.size : Int) < a) :
    Calls Tryz.prog 67 #[.string t, .int .i64 a] w fun e w' => e = .returned (.tuple #[.int .i64 0, .int .i64 0, .int .i64 2]) ∧ w = w' := by
  by_cases h0 : a < 0
  · clear h
    go_enter Tryz.func67, Tryz.ntmps67
    go_wp2
    go_ret3
    exact ⟨rfl, rfl⟩
  · have h1 : (t.size : Int) < a := by omega
    have h2 : 0 ≤ a := by omega
    clear h h0
    go_enter Tryz.func67, Tryz.ntmps67
    go_wp2
    go_ret3
    exact ⟨rfl, rfl⟩
end Go.Proofs.YtnoodiibkchaaaaGreatDoor
