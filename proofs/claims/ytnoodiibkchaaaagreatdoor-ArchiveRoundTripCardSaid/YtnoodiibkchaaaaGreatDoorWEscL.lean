/-
  WALKS: strconv.ParseUint at 16 hexadecimal digits, escape.Word.
-/
import Derived.Test.YtnoodiibkchaaaaGreatDoorPNum4
import Derived.Test.YtnoodiibkchaaaaGreatDoorXTab
import Derived.Test.YtnoodiibkchaaaaGreatDoorShelfN
import Derived.Shelf.Strings.SlTrimAscii
import Derived.Lib.ConvBytes
namespace Go.Proofs.YtnoodiibkchaaaaGreatDoor
open Go.RowKit
attribute [local go_sem ↓] Go.wp_at_zero Go.wp_at_succ

theorem lower_any (c : Int) (w : World) : Calls Tryz.prog 151 #[.int .u8 c] w fun e w' => e = .returned (.int .u8 (bits .or .u8 c 32)) ∧ w = w' := by
  go_enter Tryz.func151, Tryz.ntmps151
  go_wp2
  go_ret
  exact ⟨rfl, rfl⟩
theorem or32 : ∀ c : Nat, c < 103 → 97 ≤ c → bits BinOp.or IntKind.u8 (c : Int) 32 = (c : Int) := by decide +kernel
/-- what holds at each round's head of ParseUint -/
def PRel (t : ByteArray) (u n i : Value) : Prop :=
  ∃ (k : Nat) (Z : Int), k ≤ 16 ∧ u = .bool false ∧ n = .int .u64 Z ∧ i = .int .i64 (k : Nat) ∧ Hid (Z = (hexAcc t 0 k : Nat))
theorem acc60' (t : ByteArray) (k : Nat) (hk : k < 16) {Z : Int} (hz : Z = (hexAcc t 0 k : Nat)) : 0 ≤ Z ∧ Z < 1152921504606846976 := by
  have h1 := hexAcc_lt t 0 k
  have h2 : 16 ^ k ≤ 16 ^ 15 := Nat.pow_le_pow_right (by decide) (by omega)
  have h3 : (16 : Nat) ^ 15 = 1152921504606846976 := by decide
  omega
theorem below_bytes (w : World) (s : ByteArray) : Below w.heap.size w (Lib.bytesWorld w 5 s) :=
  ⟨rfl, rfl, rfl, by rw [Lib.bytesWorld_size]; omega, fun j hj => Lib.bytesWorld_at_old w 5 s j hj⟩
set_option maxHeartbeats 4000000 in
set_option maxRecDepth 100000 in
theorem ipu_any (t : ByteArray) (w : World) (hsz : t.size = 16) (hd : ∀ j, j < 16 → 0 ≤ digitI (bAt t j)) :
    Calls Tryz.prog 132 #[.string t, .int .i64 16, .int .i64 64] w fun e w' => e = .returned (.tuple #[.int .u64 (hexAcc t 0 16 : Nat), .nilIface]) ∧ Below w.heap.size w w' := by
  have HD := Lib.hid hd
  have hemp : t.toList.isEmpty = false := by
    rw [← decide_eq_emptyBytes]
    exact decide_eq_false (fun h => by rw [h] at hsz; exact absurd hsz (by decide))
  have hcv := Lib.run_convert_string_bytes (P := Tryz.prog) w 9 59 5 t (u := .string) Tryz.underlying9 Tryz.underlying59 Tryz.underlying5
  have hB : ∀ j, j < 16 → (Lib.bytesWorld w 5 t).cell? ⟨w.heap.size, j, none⟩ = some (.int .u8 (bAt t j : Nat)) := fun j hj => by
    have h := Lib.bytesWorld_cell w 5 t j (by omega)
    rw [h, show (t.data.toList.getD j 0).toNat = bAt t j from by
      have hj2 : j < t.data.toList.length := by rw [list_len]; omega
      have : t.data.toList[j]? = some (t.data.toList[j]) := List.getElem?_eq_getElem hj2
      rw [List.getD_eq_getElem?_getD, this, bAt_list t _ rfl j _ this]
      rfl]
  have HB := Lib.hid hB
  have HBW := Lib.hid (below_bytes w t)
  obtain ⟨W1, hW1⟩ : ∃ W1, W1 = Lib.bytesWorld w 5 t := ⟨_, rfl⟩
  rw [← hW1] at hcv HB HBW
  clear hW1 hB hd
  have hmv : IntKind.u64.wrap (IntKind.u64.wrap 18446744073709551616 - 1) = 18446744073709551615 := by
    rw [IntKind.wrap_u64, IntKind.wrap_u64]
    decide
  have HR0 : Hid (PRel t (.bool false) (.int .u64 0) (.int .i64 0)) := Lib.hid ⟨0, 0, by omega, rfl, rfl, rfl, Lib.hid rfl⟩
  go_enter Tryz.func132, Tryz.ntmps132
  go_wp2
  go_loop [12, 13, 101] (fun u n i => PRel t u n i) (fun _ _ i => 16 - (intOf i).toNat)
  case atStart => exact HR0.out
  case round =>
    clear HR0
    obtain ⟨k, Z, hk, rfl, rfl, rfl, HZ⟩ := hrel
    by_cases hk16 : k < 16
    · have hc := HB.out k hk16
      have hz := acc60' t k hk16 HZ.out
      have hblt := bAt_lt t k
      have hdg := HD.out k hk16
      have HN : Hid (PRel t (.bool false) (.int .u64 (Z * 16 + digitI (bAt t k))) (.int .i64 ((k : Int) + 1))) := Lib.hid
        ⟨k + 1, _, hk16, rfl, rfl, rfl, Lib.hid (by rw [hexAcc, Nat.zero_add]; have := HZ.out; omega)⟩
      obtain ⟨c, hcc⟩ : ∃ c, c = bAt t k := ⟨_, rfl⟩
      rw [← hcc] at hc hblt hdg HN
      obtain ⟨hz0, hz1⟩ := hz
      have e95 : ((c : Int) == 95) = false := by
        rw [beq_eq_false_iff_ne]
        intro h
        have : c = 95 := by omega
        subst this
        exact absurd hdg (by decide)
      clear hcc HZ HB HD
      by_cases h9 : c ≤ 57
      · have h0 : 48 ≤ c := by
          unfold digitI at hdg
          by_cases h : 48 ≤ c ∧ c ≤ 57
          · exact h.1
          · rw [if_neg h, if_neg (by omega)] at hdg
            omega
        have HN2 : Hid (PRel t (.bool false) (.int .u64 (Z * 16 + ((c : Int) - 48))) (.int .i64 ((k : Int) + 1))) := Lib.hid (by
          have := HN.out
          unfold digitI at this
          rw [if_pos ⟨h0, h9⟩] at this
          exact this)
        clear HN hdg
        go_wp2
        exact ⟨HN2.out, by simp [intOf]; omega⟩
      · have ha : 97 ≤ c ∧ c ≤ 102 := by
          unfold digitI at hdg
          rw [if_neg (by omega)] at hdg
          by_cases h : 97 ≤ c ∧ c ≤ 102
          · exact h
          · rw [if_neg h] at hdg
            omega
        have HN2 : Hid (PRel t (.bool false) (.int .u64 (Z * 16 + ((c : Int) - 97 + 10))) (.int .i64 ((k : Int) + 1))) := Lib.hid (by
          have := HN.out
          unfold digitI at this
          rw [if_neg (by omega), if_pos ha] at this
          rw [show (c : Int) - 97 + 10 = (c : Int) - 87 by omega]
          exact this)
        obtain ⟨a1, a2⟩ := ha
        have hor := or32 c (by omega) a1
        clear HN hdg h9
        go_wp2_with (go_at_call 151; refine (lower_any _ _).mono ?_; rintro e w2 ⟨rfl, rfl⟩)
        exact ⟨HN2.out, by simp [intOf]; omega⟩
    · obtain rfl : k = 16 := by omega
      have HZ2 := Lib.hid HZ.out
      clear HZ HB HD
      go_wp2
      go_ret2
      exact ⟨by rw [HZ2.out]; rfl, HBW.out⟩
theorem pu_any (t : ByteArray) (w : World) (hsz : t.size = 16) (hd : ∀ j, j < 16 → 0 ≤ digitI (bAt t j)) :
    Calls Tryz.prog 98 #[.string t, .int .i64 16, .int .i64 64] w fun e w' => e = .returned (.tuple #[.int .u64 (hexAcc t 0 16 : Nat), .nilIface]) ∧ Below w.heap.size w w' := by
  have H := Lib.hid (ipu_any t w hsz hd)
  obtain ⟨Z, hZ⟩ : ∃ Z : Int, Z = (hexAcc t 0 16 : Nat) := ⟨_, rfl⟩
  rw [← hZ] at H ⊢
  clear hd hZ
  go_enter Tryz.func98, Tryz.ntmps98
  go_wp2_with (go_at_call 132; refine H.out.mono ?_; rintro e w1 ⟨rfl, hb⟩)
  go_ret2
  exact ⟨rfl, hb⟩
theorem cutBAt (t : ByteArray) (a j : Nat) (h : a + 16 ≤ t.size) (hj : j < 16) : bAt (t.extract a (a + 16)) j = bAt t (a + j) := by
  have hc : (u8L (cut t a 16))[j]? = some (UInt8.ofNat (bAt t (a + j))) := by simp [u8L, cut, hj]
  rw [bAt_list _ _ (cut_data t a 16 h) j _ hc]
  exact ofNat_toNat' _ (bAt_lt _ _)
theorem cutAcc (t : ByteArray) (a : Nat) (h : a + 16 ≤ t.size) : ∀ k, k ≤ 16 → hexAcc (t.extract a (a + 16)) 0 k = hexAcc t a k
  | 0, _ => rfl
  | k + 1, hk => by rw [hexAcc, hexAcc, cutAcc t a h k (by omega), Nat.zero_add, cutBAt t a k h (by omega)]
theorem empS (q : ByteArray) (l : List UInt8) (h : q = ⟨l.toArray⟩) : q.toList.isEmpty = l.isEmpty := by
  subst h
  rw [Lib.toList_data]
theorem trimW (x : ByteArray) (w : World) (hs : x.size ≤ 1099511627776) :
    Calls Tryz.prog 97 #[.string x, .string { data := #[48, 49, 50, 51, 52, 53, 54, 55, 56, 57, 97, 98, 99, 100, 101, 102] }] w fun e w' => e = .returned (.string ⟨(Lib.trimS x.data.toList ({ data := #[48, 49, 50, 51, 52, 53, 54, 55, 56, 57, 97, 98, 99, 100, 101, 102] } : ByteArray).data.toList).toArray⟩) ∧ Below w.heap.size w w' :=
  Any.strings_Trim_laid Tryz.lays160 (by kernel_rfl) x _ w (by omega) (by decide) (ascii_of_all (by decide))
set_option maxHeartbeats 4000000 in
set_option maxRecDepth 100000 in
theorem word_any (t : ByteArray) (a : Nat) (w : World) (ha : a ≤ t.size) (hs : t.size ≤ 1099511627776) (hT : TabD w) :
    Calls Tryz.prog 66 #[.string t, .int .i64 (a : Nat)] w fun e w' => e = .returned (wordR (wordV t a)) ∧ Below w.heap.size w w' := by
  have HT := Lib.hid hT
  clear hT
  by_cases h16 : a + 16 ≤ t.size
  · have hlt : (16 : Int) ≤ (t.size : Int) - (a : Int) := by omega
    have HXS : Hid ((t.extract a (a + 16)).size = 16) := Lib.hid (by rw [ByteArray.size_extract]; omega)
    have HTR := Lib.hid (trim_hex t a h16)
    have HBT := Lib.hid (fun j hj => cutBAt t a j h16 hj)
    have HAC := Lib.hid (cutAcc t a h16 16 (by omega))
    have HCUT := Lib.hid (cut_strOf t a 16 h16)
    have i1 : (0 : Int) ≤ (a : Int) := by omega
    obtain ⟨K, hK⟩ : ∃ K, K = a + 16 := ⟨_, rfl⟩
    have i4 : (a : Int) + 16 = (K : Int) := by omega
    have i2 : (a : Int) ≤ (K : Int) := by omega
    have i3 : (K : Int) ≤ (t.size : Int) := by omega
    have i5 : (0 : Int) ≤ (K : Int) := by omega
    have k1 : IntKind.i64.wrap ((a : Int) + 16) = (K : Int) := by rw [IntKind.wrap_i64]; omega
    have k2 : IntKind.i64.wrap (K : Int) = (K : Int) := by rw [IntKind.wrap_i64]; omega
    have HK := Lib.hid hK
    rw [← hK] at HXS HTR HBT HAC HCUT
    generalize hx : t.extract a K = x at HXS HTR HBT HAC HCUT
    obtain ⟨q, hq⟩ : ∃ q : ByteArray, q = ⟨(Lib.trimS x.data.toList ({ data := #[48, 49, 50, 51, 52, 53, 54, 55, 56, 57, 97, 98, 99, 100, 101, 102] } : ByteArray).data.toList).toArray⟩ := ⟨_, rfl⟩
    have HTW := Lib.hid (fun w => trimW x w (by rw [HXS.out]; decide))
    rw [← hq] at HTW
    have hqe := empS q _ hq
    by_cases hok : hexOk t a = true
    · have hemp : q.toList.isEmpty = true := by rw [hqe, HTR.out.2 hok]; rfl
      have HV : Hid (wordV t a = some (hexAcc t a 16, a + 16)) := Lib.hid (by unfold wordV; rw [if_pos hok])
      have hok2 := (hexOk_iff t a).1 hok
      have HPU := Lib.hid (fun w => pu_any x w HXS.out (fun j hj => by rw [HBT.out j hj]; exact hok2.2 j hj))
      rw [HAC.out] at HPU
      have hlt2 := hexAcc_lt t a 16
      have HHX := Lib.hid (fun w hT => hex_any (hexAcc t a 16) w (by rw [show (18446744073709551616 : Nat) = 16 ^ 16 by decide]; exact hlt2) hT)
      rw [hexTail_acc t a 16 hok2.2, ← HCUT.out] at HHX
      obtain ⟨Z, hZ⟩ : ∃ Z : Int, Z = (hexAcc t a 16 : Nat) := ⟨_, rfl⟩
      rw [← hZ] at HPU HHX
      have HZ := Lib.hid hZ
      clear hZ hok hok2 hlt2 HTR HBT HAC HCUT hq hqe hK
      go_enter Tryz.func66, Tryz.ntmps66
      go_wp2_with (first
        | (go_at_call 95; refine (inRange_yes t a _ ha).mono ?_; rintro e w1 ⟨rfl, rfl⟩)
        | (go_at_call 97; refine (HTW.out _).mono ?_; rintro e w1 ⟨rfl, hb1⟩)
        | (go_at_call 98; refine (HPU.out _).mono ?_; rintro e w2 ⟨rfl, hb2⟩))
      have hb12 := hb1.trans (hb2.mono hb1.size)
      have hT2 : TabD w2.drew := HT.out.below hb12.drew
      go_region_held3 (fun _ => True) (trivial) ((go_at_call 30; go_must (refine (HHX.out w2.drew hT2).mono ?_; rintro e w3 ⟨rfl, hb3⟩)))
      all_goals go_wp2
      go_ret3
      exact ⟨ret_wordR HV.out (by rw [HZ.out, HK.out]; rfl), hb12.drew.trans (hb3.mono hb12.size)⟩
    · have HV : Hid (wordV t a = none) := Lib.hid (by unfold wordV; rw [if_neg hok])
      have hemp : q.toList.isEmpty = false := by
        rw [hqe, Bool.eq_false_iff]
        intro h
        exact hok (HTR.out.1 (List.isEmpty_iff.1 h))
      clear hok HTR HBT HAC HCUT hq hqe hK
      go_enter Tryz.func66, Tryz.ntmps66
      go_wp2_with (first
        | (go_at_call 95; refine (inRange_yes t a _ ha).mono ?_; rintro e w1 ⟨rfl, rfl⟩)
        | (go_at_call 97; refine (HTW.out _).mono ?_; rintro e w1 ⟨rfl, hb1⟩))
      go_ret3
      exact ⟨ret_wordR HV.out rfl, hb1⟩
  · have HV : Hid (wordV t a = none) := Lib.hid (by
      unfold wordV
      rw [if_neg]
      intro h
      exact h16 ((hexOk_iff t a).1 h).1)
    have hlt : (t.size : Int) - (a : Int) < 16 := by omega
    clear h16
    go_enter Tryz.func66, Tryz.ntmps66
    go_wp2_with (go_at_call 95; refine (inRange_yes t a _ ha).mono ?_; rintro e w1 ⟨rfl, rfl⟩)
    go_ret3
    exact ⟨ret_wordR HV.out rfl, Below.refl _ _⟩
theorem word_bad (t : ByteArray) (a : Int) (w : World) (h : a < 0 ∨ (t.size : Int) < a) :
    Calls Tryz.prog 66 #[.string t, .int .i64 a] w fun e w' => e = .returned (.tuple #[.int .u64 0, .int .i64 0, .int .i64 2]) ∧ Below w.heap.size w w' := by
  have H := Lib.hid h
  clear h
  go_enter Tryz.func66, Tryz.ntmps66
  go_wp2_with (go_at_call 95; refine (inRange_no t a _ H.out).mono ?_; rintro e w1 ⟨rfl, rfl⟩)
  go_ret3
  exact ⟨rfl, Below.refl _ _⟩
end Go.Proofs.YtnoodiibkchaaaaGreatDoor
