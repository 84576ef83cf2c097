/-
  WALKS: escape.one.
-/
import Derived.Test.YtnoodiibkchaaaaGreatDoorWEscD
namespace Go.Proofs.YtnoodiibkchaaaaGreatDoor
open Go.RowKit

theorem hexIdx : ∀ c, c < 256 → Lib.indexByte ({ data := #[48, 49, 50, 51, 52, 53, 54, 55, 56, 57, 97, 98, 99, 100, 101, 102] } : ByteArray).data.toList (((c : Nat) : Int).toNat.toUInt8) = digitI c := by decide +kernel
theorem hexIdx_any (c : Nat) (w : World) (hc : c < 256) : Calls Tryz.prog 63 #[.string { data := #[48, 49, 50, 51, 52, 53, 54, 55, 56, 57, 97, 98, 99, 100, 101, 102] }, .int .u8 (c : Nat)] w fun e w' => e = .returned (.int .i64 (digitI c)) ∧ w' = w := by
  rw [← hexIdx c hc]
  exact Tryz.strings_IndexByte _ _ w
theorem digitI_bd (c : Nat) : -1 ≤ digitI c ∧ digitI c ≤ 15 := by
  unfold digitI
  repeat' split
  all_goals omega
theorem digitI_unhex (c : Nat) : unhex c = if digitI c < 0 then none else some (digitI c).toNat := by
  unfold unhex digitI
  by_cases h1 : 48 ≤ c ∧ c ≤ 57
  · rw [if_pos h1, if_pos h1, if_neg (by omega)]; congr 1; omega
  · rw [if_neg h1, if_neg h1]
    by_cases h2 : 97 ≤ c ∧ c ≤ 102
    · rw [if_pos h2, if_pos h2, if_neg (by omega)]; congr 1; omega
    · rw [if_neg h2, if_neg h2, if_pos (by omega)]
/-- what reading one form answers -/
def oneV (x : ByteArray) : List Nat × Nat :=
  if bAt x 0 ≠ 92 then ([bAt x 0], 1) else if x.size < 2 then ([], 0) else if bAt x 1 = 34 then ([34], 2) else if bAt x 1 = 92 then ([92], 2) else if bAt x 1 = 110 then ([10], 2) else
  if bAt x 1 ≠ 120 ∨ x.size < 4 then ([], 0) else if digitI (bAt x 2) < 0 ∨ digitI (bAt x 3) < 0 then ([], 0) else ([(16 * digitI (bAt x 2) + digitI (bAt x 3)).toNat], 4)
theorem ret_strint {a b : ByteArray} {m n : Int} (h : a = b) (k : m = n) : Ending.returned (.tuple #[.string a, .int .i64 m]) = .returned (.tuple #[.string b, .int .i64 n]) := by rw [h, k]
theorem one_plain (x : ByteArray) (w : World) (hx : 1 ≤ x.size) (h : bAt x 0 ≠ 92) :
    Calls Tryz.prog 104 #[.string x] w fun e w' => e = .returned (.tuple #[.string (strOf (oneV x).1), .int .i64 ((oneV x).2 : Nat)]) ∧ Below w.heap.size w w' := by
  have HV : Hid (oneV x = ([bAt x 0], 1)) := Lib.hid (by unfold oneV; rw [if_pos h])
  have HC := Lib.hid (cut_strOf x 0 1 (by omega))
  have hx0 := bAt_get x 0 (by omega)
  obtain ⟨b, hb⟩ : ∃ b, b = bAt x 0 := ⟨_, rfl⟩
  have HB := Lib.hid hb
  rw [← hb] at hx0 h
  have hne : ((b : Int) != 92) = true := by simp; omega
  have hx0' := hx0.symm
  clear hb hx0 h
  go_enter Tryz.func104, Tryz.ntmps104
  go_wp2
  go_ret2
  refine ⟨?_, Below.refl _ _⟩
  rw [HV.out]
  exact ret_strint HC.out rfl
theorem one_short (x : ByteArray) (w : World) (hx : x.size = 1) (h : bAt x 0 = 92) :
    Calls Tryz.prog 104 #[.string x] w fun e w' => e = .returned (.tuple #[.string (strOf (oneV x).1), .int .i64 ((oneV x).2 : Nat)]) ∧ Below w.heap.size w w' := by
  have HV : Hid (oneV x = ([], 0)) := Lib.hid (by unfold oneV; rw [if_neg (by omega), if_pos (by omega)])
  have hx1 : 0 < x.size := by omega
  have hx0 : (x[0]'hx1).toNat = 92 := by rw [← bAt_get x 0 hx1]; exact h
  have hx2 : x.size < 2 := by omega
  clear h hx
  go_enter Tryz.func104, Tryz.ntmps104
  go_wp2
  go_ret2
  refine ⟨?_, Below.refl _ _⟩
  rw [HV.out]
  rfl
theorem conv_one : ∀ (wr : World) (n : Nat) (z : Int), (convert 59 9 (.slice (some ⟨wr.heap.size, 0, none⟩) 1 1)).run Tryz.prog ((wr.drewN n).alloc (.cells #[.int .u8 z] 5)) = .ok (.string (strOfNums [z])) ((wr.drewN n).alloc (.cells #[.int .u8 z] 5)) := fun wr n z =>
  run_convert_bytes_arg (P := Tryz.prog) ((wr.drewN n).alloc (.cells #[.int .u8 z] 5)) 59 5 Tryz.underlying59 Tryz.underlying5 wr.heap.size 0 1 1 [z] rfl (fun i hi => by
    obtain rfl : i = 0 := by omega
    have h : ((wr.drewN n).alloc (.cells #[.int .u8 z] 5)).heap[wr.heap.size]? = some (.cells #[.int .u8 z] 5 (0, 0)) := by
      simp [World.alloc]
    rw [cell_of_row _ _ _ _ _ _ h]; rfl) 9 Tryz.underlying9
theorem orVal0 : ∀ p, p < 16 → ∀ q, q < 16 → strOfNums [bits BinOp.or IntKind.i64 (((p : Nat) : Int) * 16) ((q : Nat) : Int) % 256] = strOf [16 * p + q] := by decide +kernel
theorem orVal (P Q : Int) (h1 : 0 ≤ P) (h2 : P ≤ 15) (h3 : 0 ≤ Q) (h4 : Q ≤ 15) : strOfNums [bits BinOp.or IntKind.i64 (P * 16) Q % 256] = strOf [(16 * P + Q).toNat] := by
  obtain ⟨p, rfl⟩ : ∃ p : Nat, P = p := ⟨P.toNat, by omega⟩
  obtain ⟨q, rfl⟩ : ∃ q : Nat, Q = q := ⟨Q.toNat, by omega⟩
  rw [orVal0 p (by omega) q (by omega), show (16 * (p : Int) + (q : Int)).toNat = 16 * p + q by omega]
set_option maxHeartbeats 2000000 in
set_option maxRecDepth 100000 in
theorem one_esc (x : ByteArray) (w : World) (hx : 2 ≤ x.size) (hs : x.size ≤ 1099511627776) (h : bAt x 0 = 92) (hT : TabS w) :
    Calls Tryz.prog 104 #[.string x] w fun e w' => e = .returned (.tuple #[.string (strOf (oneV x).1), .int .i64 ((oneV x).2 : Nat)]) ∧ Below w.heap.size w w' := by
  obtain ⟨t, fr, hT⟩ := hT
  have i0 := sp0; have i1 := sp1; have i2 := sp2
  have h0s : 0 < x.size := by omega
  have h1s : 1 < x.size := by omega
  have hx0 : (x[0]'h0s).toNat = 92 := by rw [← bAt_get x 0 h0s]; exact h
  have hx1 : (x[1]'h1s).toNat = bAt x 1 := (bAt_get x 1 h1s).symm
  obtain ⟨d, hd⟩ : ∃ d, d = bAt x 1 := ⟨_, rfl⟩
  have hd2 := bAt_lt x 1
  have HV : Hid (oneV x = if d = 34 then ([34], 2) else if d = 92 then ([92], 2) else if d = 110 then ([10], 2) else if d ≠ 120 ∨ x.size < 4 then ([], 0) else if digitI (bAt x 2) < 0 ∨ digitI (bAt x 3) < 0 then ([], 0) else ([(16 * digitI (bAt x 2) + digitI (bAt x 3)).toNat], 4)) :=
    Lib.hid (by unfold oneV; rw [if_neg (by omega), if_neg (by omega), hd])
  rw [← hd] at hx1 hd2
  have wd : IntKind.i32.wrap (d : Int) = d := IntWalk.i32_in _ (by omega)
  clear hd h
  go_enter Tryz.func104, Tryz.ntmps104
  go_wp2_with (refine wpList_load_row rfl 142 (.global 1) rfl 1 rfl t specCells fr _ hT Tryz.underlying142 rfl specSize ?_)
  go_loopw [17] (fun i wr => ∃ c : Int, (c = 0 ∨ c = 1 ∧ d ≠ 34 ∨ c = 2 ∧ d ≠ 34 ∧ d ≠ 92 ∨ c = 3 ∧ d ≠ 34 ∧ d ≠ 92 ∧ d ≠ 110) ∧ i = .int .i64 c ∧ Below w.heap.size w wr) (fun i _ => 5 - (intOf i).toNat)
  case atStart => exact ⟨0, .inl rfl, rfl, Below.refl _ _⟩
  case round =>
    obtain ⟨c, hc, rfl, hb⟩ := hrel
    have hbs := hb.size
    clear hT
    rcases hc with rfl | ⟨rfl, h1⟩ | ⟨rfl, h1, h2⟩ | ⟨rfl, h1, h2, h3⟩
    · by_cases hr : d = 34
      · subst hr
        have HW : Hid (oneV x = ([34], 2)) := Lib.hid (by rw [HV.out]; rfl)
        clear HV
        go_wp2
        go_quiet (fail)
        go_wp2
        go_ret2
        refine ⟨?_, below_drewN (hb.alloc hbs _) _⟩
        rw [HW.out]
        rfl
      · have hq2 : ((d : Int) == 34) = false := by simp; omega
        go_wp2
        go_quiet (fail)
        go_wp2
        exact ⟨⟨_, .inr (.inl ⟨rfl, hr⟩), rfl, below_drewN (hb.alloc hbs _) _⟩, by simp [intOf]⟩
    · by_cases hr : d = 92
      · subst hr
        have HW : Hid (oneV x = ([92], 2)) := Lib.hid (by rw [HV.out]; rfl)
        clear HV
        go_wp2
        go_quiet (fail)
        go_wp2
        go_ret2
        refine ⟨?_, below_drewN (hb.alloc hbs _) _⟩
        rw [HW.out]
        rfl
      · have hq2 : ((d : Int) == 92) = false := by simp; omega
        go_wp2
        go_quiet (fail)
        go_wp2
        exact ⟨⟨_, .inr (.inr (.inl ⟨rfl, h1, hr⟩)), rfl, below_drewN (hb.alloc hbs _) _⟩, by simp [intOf]⟩
    · by_cases hr : d = 110
      · subst hr
        have HW : Hid (oneV x = ([10], 2)) := Lib.hid (by rw [HV.out]; rfl)
        clear HV
        go_wp2
        go_quiet (fail)
        go_wp2
        go_ret2
        refine ⟨?_, below_drewN (hb.alloc hbs _) _⟩
        rw [HW.out]
        rfl
      · have hq2 : ((d : Int) == 110) = false := by simp; omega
        go_wp2
        go_quiet (fail)
        go_wp2
        exact ⟨⟨_, .inr (.inr (.inr ⟨rfl, h1, h2, hr⟩)), rfl, below_drewN (hb.alloc hbs _) _⟩, by simp [intOf]⟩
    · have HV2 : Hid (oneV x = if d ≠ 120 ∨ x.size < 4 then ([], 0) else if digitI (bAt x 2) < 0 ∨ digitI (bAt x 3) < 0 then ([], 0) else ([(16 * digitI (bAt x 2) + digitI (bAt x 3)).toNat], 4)) :=
        Lib.hid (by rw [HV.out, if_neg h1, if_neg h2, if_neg h3])
      clear HV h1 h2 h3
      by_cases hx : d ≠ 120
      · have HW : Hid (oneV x = ([], 0)) := Lib.hid (by rw [HV2.out, if_pos (.inl hx)])
        have hq : ((d : Int) != 120) = true := by simp; omega
        clear HV2 hx
        go_wp2
        go_ret2
        exact ⟨by rw [HW.out]; rfl, hb⟩
      · have hd : d = 120 := by omega
        subst hd
        by_cases h4 : x.size < 4
        · have HW : Hid (oneV x = ([], 0)) := Lib.hid (by rw [HV2.out, if_pos (.inr h4)])
          clear HV2 hx
          go_wp2
          go_ret2
          exact ⟨by rw [HW.out]; rfl, hb⟩
        · have h2s : 2 < x.size := by omega
          have h3s : 3 < x.size := by omega
          have HV3 : Hid (oneV x = if digitI (bAt x 2) < 0 ∨ digitI (bAt x 3) < 0 then ([], 0) else ([(16 * digitI (bAt x 2) + digitI (bAt x 3)).toNat], 4)) := Lib.hid (by rw [HV2.out, if_neg (by omega)])
          have hx2 : (x[2]'h2s).toNat = bAt x 2 := (bAt_get x 2 h2s).symm
          have hx3 : (x[3]'h3s).toNat = bAt x 3 := (bAt_get x 3 h3s).symm
          have hb2 := bAt_lt x 2
          have hb3 := bAt_lt x 3
          generalize bAt x 2 = p at hx2 hb2 HV3
          generalize bAt x 3 = q at hx3 hb3 HV3
          have P1 := digitI_bd p
          have Q1 := digitI_bd q
          obtain ⟨P, eP⟩ : ∃ P, digitI p = P := ⟨_, rfl⟩
          obtain ⟨Q, eQ⟩ : ∃ Q, digitI q = Q := ⟨_, rfl⟩
          rw [eP] at P1 HV3
          rw [eQ] at Q1 HV3
          have h4' : 4 ≤ x.size := by omega
          clear HV2 hx h4
          by_cases hP : P < 0
          · have HW : Hid (oneV x = ([], 0)) := Lib.hid (by rw [HV3.out, if_pos (.inl hP)])
            go_wp2
            go_quiet ((go_at_call 63; exact Calls.quiet_of_same (hexIdx_any _ _ (by omega))))
            go_wp2
            go_ret2
            exact ⟨by rw [HW.out]; rfl, below_drewN hb _⟩
          · by_cases hQ : Q < 0
            · have HW : Hid (oneV x = ([], 0)) := Lib.hid (by rw [HV3.out, if_pos (.inr hQ)])
              have hP0 : 0 ≤ P := by omega
              clear hP
              go_wp2
              go_quiet ((go_at_call 63; exact Calls.quiet_of_same (hexIdx_any _ _ (by omega))))
              go_wp2
              go_ret2
              exact ⟨by rw [HW.out]; rfl, below_drewN hb _⟩
            · have HW : Hid (oneV x = ([(16 * P + Q).toNat], 4)) := Lib.hid (by rw [HV3.out, if_neg (by omega)])
              have hP0 : 0 ≤ P := by omega
              have hQ0 : 0 ≤ Q := by omega
              clear hP hQ
              have kc := conv_one
              go_wp2
              go_quiet ((go_at_call 63; exact Calls.quiet_of_same (hexIdx_any _ _ (by omega))))
              go_wp2
              go_ret2
              refine ⟨?_, (below_drewN hb _).alloc hbs _⟩
              rw [HW.out]
              exact ret_strint (orVal P Q hP0 P1.2 hQ0 Q1.2) rfl
theorem one_any (x : ByteArray) (w : World) (hx : 1 ≤ x.size) (hs : x.size ≤ 1099511627776) (hT : TabS w) :
    Calls Tryz.prog 104 #[.string x] w fun e w' => e = .returned (.tuple #[.string (strOf (oneV x).1), .int .i64 ((oneV x).2 : Nat)]) ∧ Below w.heap.size w w' := by
  by_cases h : bAt x 0 = 92
  · by_cases h2 : x.size = 1
    · exact one_short x w h2 h
    · exact one_esc x w (by omega) hs h hT
  · exact one_plain x w hx h
end Go.Proofs.YtnoodiibkchaaaaGreatDoor
