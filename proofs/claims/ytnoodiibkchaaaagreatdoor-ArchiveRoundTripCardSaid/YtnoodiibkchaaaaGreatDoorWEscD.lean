/-
  WALKS: tsblockref22.Quote.
-/
import Derived.Test.YtnoodiibkchaaaaGreatDoorWEscC
import Derived.Deep.QuietTactic
import Derived.BigQuiet
namespace Go.Proofs.YtnoodiibkchaaaaGreatDoor
open Go.RowKit

theorem below_drewN {B : Nat} {a w : World} (h : Below B a w) (n : Nat) : Below B a (w.drewN n) := ⟨h.os, h.tape, h.output, h.size, h.block⟩
theorem strOf_append (a b : List Nat) : strOf a ++ strOf b = strOf (a ++ b) := by
  apply ByteArray.ext
  rw [ByteArray.data_append]
  simp [strOf, u8L]
theorem strOf_size (a : List Nat) : (strOf a).size = a.length := by
  show (u8L a).toArray.size = _
  rw [List.size_toArray, u8L_length]
theorem strOf_of_data (s : ByteArray) (l : List Nat) (h : s.data.toList = u8L l) : s = strOf l := by
  apply ByteArray.ext
  rw [strOf]
  exact Array.toList_inj.1 (by rw [h])
theorem cut_strOf (s : ByteArray) (a n : Nat) (h : a + n ≤ s.size) : s.extract a (a + n) = strOf (cut s a n) := strOf_of_data _ _ (cut_data s a n h)
theorem rest_cut (s : ByteArray) (pos n : Nat) (h : pos + n ≤ s.size) : (s.extract pos s.size).extract 0 n = strOf (cut s pos n) := by
  rw [← cut_strOf s pos n h]
  apply ByteArray.ext
  simp only [ByteArray.data_extract, Array.extract_extract]
  congr 1
  have : s.data.size = s.size := rfl
  omega
theorem rest_rest (s : ByteArray) (pos n : Nat) (m : Nat) (hm : m = s.size - pos) : (s.extract pos s.size).extract n m = s.extract (pos + n) s.size := by
  subst hm
  apply ByteArray.ext
  simp only [ByteArray.data_extract, Array.extract_extract]
  have : s.data.size = s.size := rfl
  rcases Nat.lt_or_ge s.size pos with h | h
  · rw [Array.extract_empty_of_stop_le_start (by omega), Array.extract_empty_of_stop_le_start (by omega)]
  · congr 1
    omega
theorem rest_size (s : ByteArray) (pos : Nat) : (s.extract pos s.size).size = s.size - pos := by rw [ByteArray.size_extract]; omega
theorem rest_head (s : ByteArray) (pos : Nat) (h : pos < s.size) (h0 : 0 < (s.extract pos s.size).size) : ((s.extract pos s.size)[0]'h0).toNat = bAt s pos := by
  rw [bAt_get s pos h]
  simp [ByteArray.getElem_extract]
/-- what holds at each round's head -/
def RQRel (s : ByteArray) (a o : Value) (w wr : World) : Prop :=
  ∃ (pos fuel : Nat) (acc : List Nat), a = .string (s.extract pos s.size) ∧ o = .string (strOf acc) ∧ Below w.heap.size w wr ∧ acc ++ quoteFrom s fuel pos = 34 :: quoteFrom s s.size 0 ∧ s.size ≤ pos + fuel ∧ pos ≤ s.size ∧ acc.length ≤ 1 + 4 * pos
theorem RQRel.next {s : ByteArray} {w wn : World} {pos fuel : Nat} {acc p : List Nat} {a o : Value} (hp : pos < s.size) (ha : a = .string (s.extract (pos + (Utf8.decode s pos).2) s.size)) (ho : o = .string (strOf (acc ++ p))) (hbw : Below w.heap.size w wn)
    (he : acc ++ quoteFrom s fuel pos = 34 :: quoteFrom s s.size 0) (hf : s.size ≤ pos + fuel) (hl : acc.length ≤ 1 + 4 * pos) (hpc : piece s pos = p) : RQRel s a o w wn := by
  have hw := width_pos s pos hp
  have hpl := piece_len s pos hp
  obtain ⟨f, rfl⟩ : ∃ f, fuel = f + 1 := ⟨fuel - 1, by omega⟩
  refine ⟨_, f, _, ha, ho, hbw, ?_, by omega, hw.2, ?_⟩
  · rw [← he, quoteFrom_step s f pos hp, hpc, List.append_assoc]
  · rw [List.length_append, ← hpc]; omega
theorem hexDig : ∀ k, k < 16 → ({ data := #[48, 49, 50, 51, 52, 53, 54, 55, 56, 57, 97, 98, 99, 100, 101, 102] } : ByteArray).extract k (k + 1) = strOf [hexB k] := by decide
def strSize : Value → Nat | .string x => x.size | _ => 0
set_option maxHeartbeats 4000000 in
set_option maxRecDepth 100000 in
theorem refQuote_any (s : ByteArray) (w : World) (hs : s.size ≤ 1099511627776) (hT : Tabs w) :
    Calls Tryz.prog 46 #[.string s] w fun e w' => e = .returned (.string (strOf (quoteL s))) ∧ Below w.heap.size w w' := by
  have HT := Lib.hid hT
  have hrel0 : RQRel s (.string s) (.string { data := #[34] }) w w := ⟨0, s.size, [34], by rw [show s.extract 0 s.size = s by simp], rfl, Below.refl _ _, rfl, by omega, by omega, by simp⟩
  have HR := Lib.hid hrel0
  clear hT hrel0
  go_enter Tryz.func46, Tryz.ntmps46
  go_wp2
  go_loopw [0, 3] (fun a o wr => RQRel s a o w wr) (fun a _ _ => strSize a)
  case atStart => exact HR.out
  case round =>
    clear HR
    obtain ⟨pos, fuel, acc, rfl, rfl, hbw, hacc, hfu, hps, hal⟩ := hrel
    have hrs := rest_size s pos
    have has := strOf_size acc
    by_cases hp : pos < s.size
    · have hwd := width_pos s pos hp
      have hbyte := bAt_lt s pos
      have hT2 : Tabs wr := HT.out.below hbw
      have HD := Lib.hid (decodeAt_any s pos wr hp hT2)
      have HN := Lib.hid (fun (a o : Value) (wn : World) (p : List Nat) (ha : a = .string (s.extract (pos + (Utf8.decode s pos).2) s.size)) (ho : o = .string (strOf (acc ++ p))) (hbw : Below w.heap.size w wn) (hpc : piece s pos = p) => RQRel.next hp ha ho hbw hacc hfu hal hpc)
      obtain ⟨c, hc⟩ : ∃ c, c = (Utf8.decode s pos).1 := ⟨_, rfl⟩
      obtain ⟨n, hn⟩ : ∃ n, n = (Utf8.decode s pos).2 := ⟨_, rfl⟩
      have HP := Lib.hid (piece_is s pos c n hc hn)
      have hway := ways_is s pos c n hc hn hp
      rw [← hn] at hwd HD HN
      rw [← hc] at HD
      have h0 : 0 < (s.extract pos s.size).size := by omega
      have hx0 := rest_head s pos hp h0
      have HC1 := Lib.hid (rest_cut s pos n hwd.2)
      have HC2 := Lib.hid (rest_cut s pos 1 (by omega))
      have HR2 := Lib.hid (fun m hm => rest_rest s pos n m hm)
      obtain ⟨x, hx⟩ : ∃ x, x = s.extract pos s.size := ⟨_, rfl⟩
      have hxs : x.size = s.size - pos := by rw [hx]; exact hrs
      have hx1 : 0 < x.size := by omega
      have hx0' : (x[0]'hx1).toNat = bAt s pos := by subst hx; exact hx0
      obtain ⟨b, hb⟩ : ∃ b, b = bAt s pos := ⟨_, rfl⟩
      have HCB : Hid (cut s pos 1 = [b]) := Lib.hid (by rw [hb]; rfl)
      rw [← hb] at hx0' hway HP hbyte
      rw [← hx] at HD HC1 HC2 HR2
      rw [← hx]
      have hx2 : n ≤ x.size := by omega
      have hx3 : x.size ≤ 1099511627776 := by omega
      have has1 : (strOf acc).size ≤ 4398046511105 := by omega
      have HM : Hid (∀ m, m = s.size - (pos + n) → m < x.size) := Lib.hid (by omega)
      have HXS := Lib.hid hxs
      clear hx0 hx hc hn hfu hacc hrs has hb h0 hxs
      by_cases hA : b = 34 ∨ b = 92 ∨ b = 10
      · obtain ⟨rfl, rfl⟩ : c = b ∧ n = 1 := by omega
        clear hway
        rcases hA with rfl | rfl | rfl
        · go_wp2_with (go_at_call 71; refine HD.out.mono ?_; rintro e w2 ⟨rfl, hb2⟩)
          refine ⟨HN.out _ _ _ [92, 34] (by rw [HR2.out _ HXS.out]) (by rw [HC2.out, HCB.out]; show Value.string (strOf acc ++ (strOf [92] ++ strOf [34])) = _; rw [strOf_append, strOf_append]; rfl) (hbw.trans (hb2.mono hbw.size)) (by rw [HP.out]; rfl), ?_⟩
          · show (x.extract 1 x.size).size < x.size
            rw [HR2.out _ HXS.out, rest_size]
            exact HM.out _ rfl
        · go_wp2_with (go_at_call 71; refine HD.out.mono ?_; rintro e w2 ⟨rfl, hb2⟩)
          refine ⟨HN.out _ _ _ [92, 92] (by rw [HR2.out _ HXS.out]) (by rw [HC2.out, HCB.out]; show Value.string (strOf acc ++ (strOf [92] ++ strOf [92])) = _; rw [strOf_append, strOf_append]; rfl) (hbw.trans (hb2.mono hbw.size)) (by rw [HP.out]; rfl), ?_⟩
          · show (x.extract 1 x.size).size < x.size
            rw [HR2.out _ HXS.out, rest_size]
            exact HM.out _ rfl
        · go_wp2_with (go_at_call 71; refine HD.out.mono ?_; rintro e w2 ⟨rfl, hb2⟩)
          refine ⟨HN.out _ _ _ [92, 110] (by rw [HR2.out _ HXS.out]) (by show Value.string (strOf acc ++ strOf [92, 110]) = _; rw [strOf_append]) (hbw.trans (hb2.mono hbw.size)) (by rw [HP.out]; rfl), ?_⟩
          · show (x.extract 1 x.size).size < x.size
            rw [HR2.out _ HXS.out, rest_size]
            exact HM.out _ rfl
      · have HA : Hid (c ≠ 34 ∧ c ≠ 92 ∧ c ≠ 10) := Lib.hid (by omega)
        have e34 : ((b : Int) == 34) = false := by rw [beq_eq_false_iff_ne]; omega
        have e92 : ((b : Int) == 92) = false := by rw [beq_eq_false_iff_ne]; omega
        have e10 : ((b : Int) == 10) = false := by rw [beq_eq_false_iff_ne]; omega
        by_cases hB : c < 32 ∨ c = 127 ∨ (c = 65533 ∧ n = 1)
        · have hn1 : n = 1 := by omega
          subst hn1
          have HP2 : Hid (piece s pos = [92, 120, hexB (b / 16), hexB (b % 16)]) := Lib.hid (by
            have := HA.out
            rw [HP.out, if_neg this.1, if_neg this.2.1, if_neg this.2.2, if_pos hB])
          have hz0 : 0 ≤ (b : Int) := by omega
          have g1 : 0 ≤ (b : Int) / 16 := by omega
          have g2 : (b : Int) / 16 < 16 := by omega
          have g3 : 0 ≤ (b : Int) % 16 := by omega
          have g4 : (b : Int) % 16 < 16 := by omega
          have w1 : IntKind.u8.wrap ((b : Int) / 16 + 1) = (b : Int) / 16 + 1 := IntWalk.u8_in _ (by omega)
          have w2' : IntKind.u8.wrap ((b : Int) % 16 + 1) = (b : Int) % 16 + 1 := IntWalk.u8_in _ (by omega)
          have HWAY := Lib.hid hway
          clear hA
          rcases hB with hB | rfl | ⟨rfl, _⟩
          · have hb32 : b < 32 := by omega
            clear hB hway
            go_wp2_with (go_at_call 71; refine HD.out.mono ?_; rintro e w2 ⟨rfl, hb2⟩)
            go_quiet (fail)
            go_wp2
            refine ⟨HN.out _ _ _ _ (by rw [HR2.out _ HXS.out]) (by rw [hexDig _ (by omega), hexDig _ (by omega)]; show Value.string (strOf acc ++ (strOf [92, 120] ++ strOf [_] ++ strOf [_])) = _; rw [strOf_append, strOf_append, strOf_append]; rfl) (below_drewN (hbw.trans (hb2.mono hbw.size)) _) HP2.out, ?_⟩
            · show (x.extract 1 x.size).size < x.size
              rw [HR2.out _ HXS.out, rest_size]
              exact HM.out _ rfl
          · obtain rfl : b = 127 := by omega
            clear hway
            go_wp2_with (go_at_call 71; refine HD.out.mono ?_; rintro e w2 ⟨rfl, hb2⟩)
            go_quiet (fail)
            go_wp2
            refine ⟨HN.out _ _ _ _ (by rw [HR2.out _ HXS.out]) (by rw [hexDig _ (by omega), hexDig _ (by omega)]; show Value.string (strOf acc ++ (strOf [92, 120] ++ strOf [_] ++ strOf [_])) = _; rw [strOf_append, strOf_append, strOf_append]; rfl) (below_drewN (hbw.trans (hb2.mono hbw.size)) _) HP2.out, ?_⟩
            · show (x.extract 1 x.size).size < x.size
              rw [HR2.out _ HXS.out, rest_size]
              exact HM.out _ rfl
          · have hb128 : 128 ≤ b := by omega
            have hb32 : 32 ≤ b := by omega
            have e127 : ((b : Int) == 127) = false := by rw [beq_eq_false_iff_ne]; omega
            clear hway
            go_wp2_with (go_at_call 71; refine HD.out.mono ?_; rintro e w2 ⟨rfl, hb2⟩)
            go_quiet (fail)
            go_wp2
            refine ⟨HN.out _ _ _ _ (by rw [HR2.out _ HXS.out]) (by rw [hexDig _ (by omega), hexDig _ (by omega)]; show Value.string (strOf acc ++ (strOf [92, 120] ++ strOf [_] ++ strOf [_])) = _; rw [strOf_append, strOf_append, strOf_append]; rfl) (below_drewN (hbw.trans (hb2.mono hbw.size)) _) HP2.out, ?_⟩
            · show (x.extract 1 x.size).size < x.size
              rw [HR2.out _ HXS.out, rest_size]
              exact HM.out _ rfl
        · have HP2 : Hid (piece s pos = cut s pos n) := Lib.hid (by
            have := HA.out
            rw [HP.out, if_neg this.1, if_neg this.2.1, if_neg this.2.2, if_neg hB])
          have hb32 : 32 ≤ b := by omega
          have e127 : ((b : Int) == 127) = false := by rw [beq_eq_false_iff_ne]; omega
          have hle : 0 < n := by omega
          clear hA
          by_cases h65 : c = 65533
          · have hn1 : ((n : Int) == 1) = false := by rw [beq_eq_false_iff_ne]; omega
            subst h65
            clear hB hway
            go_wp2_with (go_at_call 71; refine HD.out.mono ?_; rintro e w2 ⟨rfl, hb2⟩)
            refine ⟨HN.out _ _ _ _ (by rw [HR2.out _ HXS.out]) (by rw [HC1.out, strOf_append]) (hbw.trans (hb2.mono hbw.size)) HP2.out, ?_⟩
            · show (x.extract n x.size).size < x.size
              rw [HR2.out _ HXS.out, rest_size]
              exact HM.out _ rfl
          · have e65 : ((c : Int) == 65533) = false := by rw [beq_eq_false_iff_ne]; omega
            clear hB hway h65
            go_wp2_with (go_at_call 71; refine HD.out.mono ?_; rintro e w2 ⟨rfl, hb2⟩)
            refine ⟨HN.out _ _ _ _ (by rw [HR2.out _ HXS.out]) (by rw [HC1.out, strOf_append]) (hbw.trans (hb2.mono hbw.size)) HP2.out, ?_⟩
            · show (x.extract n x.size).size < x.size
              rw [HR2.out _ HXS.out, rest_size]
              exact HM.out _ rfl
    · have hz : (s.extract pos s.size).size = 0 := by omega
      rw [quoteFrom_end s fuel pos hp, List.append_nil] at hacc
      have HQ := Lib.hid hacc
      have HBb := Lib.hid hbw
      have has1 : (strOf acc).size ≤ 4398046511105 := by omega
      clear hacc hbw hfu hrs has
      go_wp2
      go_ret
      refine ⟨?_, HBb.out⟩
      rw [HQ.out]
      show Ending.returned (.string (strOf (34 :: quoteFrom s s.size 0) ++ strOf [34])) = _
      rw [strOf_append]; rfl
end Go.Proofs.YtnoodiibkchaaaaGreatDoor
