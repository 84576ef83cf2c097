/-
  WALKS: tsblockref22.Hex, Decimal, Word.
-/
import Derived.Test.YtnoodiibkchaaaaGreatDoorPNum4
import Derived.Test.YtnoodiibkchaaaaGreatDoorXTab
namespace Go.Proofs.YtnoodiibkchaaaaGreatDoor
open Go.RowKit

/-- what holds at each round's head of the reference's Hex -/
def HRel (x : Nat) (u s i : Value) : Prop :=
  ∃ k : Nat, k ≤ 16 ∧ u = .int .u64 ((x / 16 ^ k : Nat) : Int) ∧ s = .string (strOf (hexTail x k)) ∧ i = .int .i64 (k : Nat)
theorem hexCons (x k : Nat) : strOf [hexB (x / 16 ^ k % 16)] ++ strOf (hexTail x k) = strOf (hexTail x (k + 1)) := by
  rw [strOf_append, hexTail_succ]
  rfl
set_option maxHeartbeats 1000000 in
set_option maxRecDepth 100000 in
theorem refHex_any (x : Nat) (w : World) (hx : x < 18446744073709551616) :
    Calls Tryz.prog 33 #[.int .u64 (x : Nat)] w fun e w' => e = .returned (.string (strOf (hexTail x 16))) ∧ w = w' := by
  have HR0 : Hid (HRel x (.int .u64 (x : Nat)) (.string { data := #[] }) (.int .i64 0)) := Lib.hid ⟨0, by omega, by simp, rfl, rfl⟩
  have HX : Hid (∀ k, x / 16 ^ k < 18446744073709551616) := Lib.hid (fun k => Nat.lt_of_le_of_lt (Nat.div_le_self _ _) hx)
  clear hx
  go_enter Tryz.func33, Tryz.ntmps33
  go_wp2
  go_loop [0, 3, 4] (fun u s i => HRel x u s i) (fun _ _ i => 16 - (intOf i).toNat)
  case atStart => exact HR0.out
  case round =>
    clear HR0
    obtain ⟨k, hk, rfl, rfl, rfl⟩ := hrel
    by_cases hk16 : k < 16
    · have hUb := HX.out k
      have hql : (strOf (hexTail x k)).size ≤ 16 := by rw [strOf_size, hexTail_length]; exact hk
      have HS : Hid (x / 16 ^ (k + 1) = x / 16 ^ k / 16) := Lib.hid (by rw [Nat.pow_succ, Nat.div_div_eq_div_mul])
      have HC := Lib.hid (hexCons x k)
      obtain ⟨q, hq⟩ : ∃ q, q = strOf (hexTail x k) := ⟨_, rfl⟩
      obtain ⟨U, hU⟩ : ∃ U, U = x / 16 ^ k := ⟨_, rfl⟩
      rw [← hU] at hUb HS HC
      rw [← hq] at hql HC
      rw [← hq, ← hU]
      have g1 : 0 ≤ (U : Int) % 16 := by omega
      have g2 : (U : Int) % 16 < 16 := by omega
      have w1 : IntKind.u64.wrap ((U : Int) % 16 + 1) = (U : Int) % 16 + 1 := by rw [IntKind.wrap_u64]; omega
      clear hq hU HX
      go_wp2
      refine ⟨⟨k + 1, by omega, ?_, ?_, rfl⟩, by simp [intOf]; omega⟩
      · rw [HS.out]; rfl
      · rw [hexDig _ (by omega), HC.out]
    · obtain rfl : k = 16 := by omega
      clear HX
      go_wp2
      go_ret
      exact ⟨rfl, rfl⟩
/-- the digits of a number's higher places -/
def preD (U : Nat) : List UInt8 := if U < 10 then [] else Lib.decDigits (U / 10)
theorem preD_step (U : Nat) : Lib.decDigits U = preD U ++ [UInt8.ofNat (hexB (U % 10))] := by
  have hb : hexB (U % 10) = 48 + U % 10 := by unfold hexB; rw [if_pos (by omega)]
  rw [hb]
  unfold preD
  rw [Lib.decDigits]
  by_cases h : U < 10
  · rw [dif_pos h, if_pos h, show U % 10 = U by omega]
    rfl
  · rw [dif_neg h, if_neg h]
theorem dec_len (u : Nat) (h : u ≤ 9223372036854775808) : (Lib.decDigits u).length ≤ 19 := by
  obtain ⟨D, e, _, _, _, _, hl, _⟩ := dec_digs u
  rw [e, u8L_length]
  by_cases h10 : 10 ≤ u
  · have := hl h10
    by_cases hlt : D.length ≤ 19
    · exact hlt
    · have h2 : 10 ^ 19 ≤ 10 ^ (D.length - 1) := Nat.pow_le_pow_right (by decide) (by omega)
      have h3 : (10 : Nat) ^ 19 = 10000000000000000000 := by decide
      omega
  · rw [Lib.decDigits, dif_pos (by omega)] at e
    have := congrArg List.length e
    rw [u8L_length] at this
    simp at this
    omega
/-- what holds at each round's head of the reference's Decimal -/
def DRel (u0 : Nat) (u s : Value) : Prop :=
  ∃ (U : Nat) (q : ByteArray), u = .int .u64 (U : Nat) ∧ s = .string q ∧ Hid (Lib.decDigits u0 = preD U ++ q.data.toList) ∧ q.size ≤ 19 ∧ Hid (U ≤ u0)
theorem ret_str {a b : ByteArray} (h : a = b) : Ending.returned (.string a) = .returned (.string b) := by rw [h]
theorem DRel.start (u : Nat) (_h : u ≤ 9223372036854775808) : DRel u (.int .u64 (u : Nat)) (.string (strOf [hexB (u % 10)])) :=
  ⟨u, _, rfl, rfl, Lib.hid (preD_step u), by rw [strOf_size]; exact (by decide : 1 ≤ 19), Lib.hid (Nat.le_refl _)⟩
theorem DRel.step {u0 U : Nat} {q : ByteArray} (h : u0 ≤ 9223372036854775808) (hU : 10 ≤ U) (hd : Lib.decDigits u0 = preD U ++ q.data.toList) (hle : U ≤ u0) : DRel u0 (.int .u64 ((U : Int) / 10)) (.string (strOf [hexB (U / 10 % 10)] ++ q)) := by
  have e : Lib.decDigits u0 = preD (U / 10) ++ (strOf [hexB (U / 10 % 10)] ++ q).data.toList := by
    rw [hd, show preD U = Lib.decDigits (U / 10) from by unfold preD; rw [if_neg (by omega)], preD_step (U / 10)]
    simp [strOf, u8L, ByteArray.data_append]
  refine ⟨U / 10, _, rfl, rfl, Lib.hid e, ?_, Lib.hid (by omega)⟩
  have h1 := dec_len u0 h
  rw [e, List.length_append, list_len] at h1
  omega
theorem emptyApp (q : ByteArray) : ({ data := #[] } : ByteArray) ++ q = q := by
  have : (({ data := #[] } : ByteArray) ++ q).data = q.data := by rw [ByteArray.data_append]; simp
  exact ByteArray.ext this
theorem signApp (q : ByteArray) : ({ data := #[45] } : ByteArray) ++ q = ⟨(45 :: q.data.toList).toArray⟩ := by
  apply ByteArray.ext
  rw [ByteArray.data_append]
  apply Array.ext'
  simp
theorem selfData (q : ByteArray) : q = ⟨q.data.toList.toArray⟩ := by
  apply ByteArray.ext
  simp
set_option maxHeartbeats 1000000 in
set_option maxRecDepth 100000 in
theorem refDec_any (n : Int) (w : World) (h0 : -9223372036854775808 ≤ n) (h1 : n ≤ 9223372036854775807) :
    Calls Tryz.prog 32 #[.int .i64 n] w fun e w' => e = .returned (.string ⟨(Lib.itoa n).toArray⟩) ∧ w = w' := by
  obtain ⟨u, hu⟩ : ∃ u : Nat, u = n.natAbs := ⟨_, rfl⟩
  have HUB : Hid (u ≤ 9223372036854775808) := Lib.hid (by omega)
  have hub : u < 18446744073709551616 := by omega
  have HR0 := Lib.hid (DRel.start u HUB.out)
  have g1 : 0 ≤ (u : Int) % 10 := by omega
  have g2 : (u : Int) % 10 < 10 := by omega
  have w1 : IntKind.u64.wrap ((u : Int) % 10 + 1) = (u : Int) % 10 + 1 := by rw [IntKind.wrap_u64]; omega
  by_cases hn : n < 0
  · have HE : Hid (Lib.itoa n = 45 :: Lib.decDigits u) := Lib.hid (by unfold Lib.itoa; rw [if_pos hn, hu])
    obtain ⟨A, hA⟩ : ∃ A, IntKind.u64.wrap n = A := ⟨_, rfl⟩
    have hA2 : IntKind.u64.wrap (-A) = (u : Int) := by
      rw [← hA, IntKind.wrap_u64, IntKind.wrap_u64]; omega
    clear hu h0 h1
    go_enter Tryz.func32, Tryz.ntmps32
    go_wp2
    go_loop [3, 5] (fun a s => DRel u a s) (fun a _ => (intOf a).toNat)
    case atStart =>
      rw [hexDig _ (by omega)]
      exact HR0.out
    case round =>
      clear HR0 hA hA2 g1 g2 w1
      obtain ⟨U, q, rfl, rfl, HD, hql, HL⟩ := hrel
      have hUb : U < 18446744073709551616 := by have := HL.out; have := HUB.out; omega
      by_cases hU : 10 ≤ U
      · have HN := Lib.hid (DRel.step HUB.out hU HD.out HL.out)
        have g1 : 0 ≤ (U : Int) / 10 % 10 := by omega
        have g2 : (U : Int) / 10 % 10 < 10 := by omega
        have w1 : IntKind.u64.wrap ((U : Int) / 10 % 10 + 1) = (U : Int) / 10 % 10 + 1 := by rw [IntKind.wrap_u64]; omega
        clear HD HL
        go_wp2
        refine ⟨?_, by simp [intOf]; omega⟩
        rw [hexDig _ (by omega)]
        exact HN.out
      · have HQ : Hid (Lib.itoa n = 45 :: q.data.toList) := Lib.hid (by rw [HE.out, HD.out]; unfold preD; rw [if_pos (by omega)]; rfl)
        clear HD HL HE
        go_wp2
        go_ret
        exact ⟨ret_str (by rw [HQ.out, signApp]), rfl⟩
  · have HE : Hid (Lib.itoa n = Lib.decDigits u) := Lib.hid (by unfold Lib.itoa; rw [if_neg hn, show n.toNat = u by omega])
    obtain rfl : n = (u : Int) := by omega
    have hA : IntKind.u64.wrap (u : Int) = (u : Int) := by rw [IntKind.wrap_u64]; omega
    clear hu h0 h1 hn
    go_enter Tryz.func32, Tryz.ntmps32
    go_wp2
    go_loop [3, 5] (fun a s => DRel u a s) (fun a _ => (intOf a).toNat)
    case atStart =>
      rw [hexDig _ (by omega)]
      exact HR0.out
    case round =>
      clear HR0 hA g1 g2 w1
      obtain ⟨U, q, rfl, rfl, HD, hql, HL⟩ := hrel
      have hUb : U < 18446744073709551616 := by have := HL.out; have := HUB.out; omega
      by_cases hU : 10 ≤ U
      · have HN := Lib.hid (DRel.step HUB.out hU HD.out HL.out)
        have g1 : 0 ≤ (U : Int) / 10 % 10 := by omega
        have g2 : (U : Int) / 10 % 10 < 10 := by omega
        have w1 : IntKind.u64.wrap ((U : Int) / 10 % 10 + 1) = (U : Int) / 10 % 10 + 1 := by rw [IntKind.wrap_u64]; omega
        clear HD HL
        go_wp2
        refine ⟨?_, by simp [intOf]; omega⟩
        rw [hexDig _ (by omega)]
        exact HN.out
      · have HQ : Hid (Lib.itoa (u : Int) = q.data.toList) := Lib.hid (by rw [HE.out, HD.out]; unfold preD; rw [if_pos (by omega)]; rfl)
        clear HD HL HE
        go_wp2
        go_ret
        exact ⟨ret_str (by rw [HQ.out, ← selfData, emptyApp]), rfl⟩
/-- what holds at each round's head of the reference's Word -/
def WRel (t : ByteArray) (a : Nat) (x i : Value) : Prop :=
  ∃ (k : Nat) (Z : Int), k ≤ 16 ∧ x = .int .u64 Z ∧ i = .int .i64 (k : Nat) ∧ Hid (Z = (hexAcc t a k : Nat)) ∧ Hid (∀ j, j < k → 0 ≤ digitI (bAt t (a + j))) ∧ a + k ≤ t.size
def H60 : Nat := 1152921504606846976
theorem acc60 (t : ByteArray) (a k : Nat) (hk : k < 16) {Z : Int} (hz : Z = (hexAcc t a k : Nat)) : 0 ≤ Z ∧ Z < 1152921504606846976 := by
  have h1 := hexAcc_lt t a k
  have h2 : 16 ^ k ≤ 16 ^ 15 := Nat.pow_le_pow_right (by decide) (by omega)
  have h3 : (16 : Nat) ^ 15 = 1152921504606846976 := by decide
  omega
theorem WRel.start (t : ByteArray) (a : Nat) (h : a ≤ t.size) : WRel t a (.int .u64 0) (.int .i64 0) :=
  ⟨0, 0, by omega, rfl, rfl, Lib.hid rfl, Lib.hid (fun _ h => absurd h (Nat.not_lt_zero _)), h⟩
set_option maxHeartbeats 2000000 in
set_option maxRecDepth 100000 in
theorem refWord_any (t : ByteArray) (a : Nat) (w : World) (ha : a ≤ t.size) (hs : t.size ≤ 1099511627776) :
    Calls Tryz.prog 68 #[.string t, .int .i64 (a : Nat)] w fun e w' => e = .returned (wordR (wordV t a)) ∧ w = w' := by
  have HR0 := Lib.hid (WRel.start t a ha)
  have hna : (t.size < a) = False := by simp only [eq_iff_iff, iff_false]; omega
  have hn0 : ((a : Int) < 0) = False := by simp only [eq_iff_iff, iff_false]; omega
  go_enter Tryz.func68, Tryz.ntmps68
  go_wp2
  go_loop [7, 8] (fun x i => WRel t a x i) (fun _ i => 16 - (intOf i).toNat)
  case atStart => exact HR0.out
  case round =>
    clear HR0
    obtain ⟨k, Z, hk, rfl, rfl, HZ, HJ, hak⟩ := hrel
    by_cases hk16 : k < 16
    · by_cases hm : a + k < t.size
      · have hx0 : (t[a + k]'hm).toNat = bAt t (a + k) := (bAt_get t _ hm).symm
        have hblt := bAt_lt t (a + k)
        have hz := acc60 t a k hk16 HZ.out
        have HDg := Lib.hid (fun w => digit_any (bAt t (a + k)) w (bAt_lt _ _))
        have hdb := digitI_bd2 (bAt t (a + k))
        have HN : Hid (0 ≤ digitI (bAt t (a + k)) → WRel t a (.int .u64 (Z * 16 + digitI (bAt t (a + k)))) (.int .i64 ((k : Int) + 1))) := Lib.hid (fun hd =>
          ⟨k + 1, _, hk16, rfl, rfl, Lib.hid (by rw [hexAcc, ← Int.ofNat_inj.2 rfl]; have := HZ.out; omega), Lib.hid (fun j hj => by
            rcases Nat.lt_or_ge j k with h | h
            · exact HJ.out j h
            · rw [show j = k by omega]; exact hd), by omega⟩)
        have HNo : Hid (digitI (bAt t (a + k)) < 0 → wordV t a = none) := Lib.hid (fun hd => by
          unfold wordV
          rw [if_neg]
          intro h
          have := ((hexOk_iff t a).1 h).2 k hk16
          omega)
        obtain ⟨b, hb⟩ : ∃ b, b = bAt t (a + k) := ⟨_, rfl⟩
        rw [← hb] at hx0 hblt HDg hdb HN HNo
        obtain ⟨d, hd⟩ : ∃ d, d = digitI b := ⟨_, rfl⟩
        rw [← hd] at HDg hdb HN HNo
        obtain ⟨hd0, hd1⟩ := hdb
        obtain ⟨hz0, hz1⟩ := hz
        clear hb hd HZ HJ
        by_cases hneg : d < 0
        · have HV2 : Hid (wordV t a = none) := Lib.hid (HNo.out hneg)
          clear HN HNo
          go_wp2_with (go_at_call 99; refine (HDg.out _).mono ?_; rintro e w2 ⟨rfl, rfl⟩)
          go_ret3
          exact ⟨ret_wordR HV2.out rfl, rfl⟩
        · have hd2 : 0 ≤ d := by omega
          have HN2 := Lib.hid (HN.out hd2)
          have wd : IntKind.u64.wrap d = d := by rw [IntKind.wrap_u64]; omega
          clear HN HNo hneg hd0
          go_wp2_with (go_at_call 99; refine (HDg.out _).mono ?_; rintro e w2 ⟨rfl, rfl⟩)
          exact ⟨HN2.out, by simp [intOf]; omega⟩
      · have HV2 : Hid (wordV t a = none) := Lib.hid (by
          unfold wordV
          rw [if_neg]
          intro h
          have := ((hexOk_iff t a).1 h).1
          omega)
        have hge : (t.size : Int) ≤ (a : Int) + (k : Int) := by omega
        clear HZ HJ
        go_wp2
        go_ret3
        exact ⟨ret_wordR HV2.out rfl, rfl⟩
    · obtain rfl : k = 16 := by omega
      have HV2 : Hid (wordV t a = some (hexAcc t a 16, a + 16)) := Lib.hid (by
        unfold wordV
        rw [if_pos]
        exact (hexOk_iff t a).2 ⟨hak, HJ.out⟩)
      have HZ2 := Lib.hid HZ.out
      clear HZ HJ
      go_wp2
      go_ret3
      exact ⟨ret_wordR HV2.out (by rw [HZ2.out]; rfl), rfl⟩
theorem refWord_bad (t : ByteArray) (a : Int) (w : World) (h : a < 0 ∨ (t.size : Int) < a) :
    Calls Tryz.prog 68 #[.string t, .int .i64 a] w fun e w' => e = .returned (.tuple #[.int .u64 0, .int .i64 0, .int .i64 2]) ∧ w = w' := by
  by_cases h0 : a < 0
  · clear h
    go_enter Tryz.func68, Tryz.ntmps68
    go_wp2
    go_ret3
    exact ⟨rfl, rfl⟩
  · have h1 : (t.size : Int) < a := by omega
    have h2 : 0 ≤ a := by omega
    clear h h0
    go_enter Tryz.func68, Tryz.ntmps68
    go_wp2
    go_ret3
    exact ⟨rfl, rfl⟩
end Go.Proofs.YtnoodiibkchaaaaGreatDoor
