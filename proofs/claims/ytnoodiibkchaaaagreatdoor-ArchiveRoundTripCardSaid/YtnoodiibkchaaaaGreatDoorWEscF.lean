/-
  WALKS: escape.Unquote.
-/
import Derived.Test.YtnoodiibkchaaaaGreatDoorWEscE
import Derived.Deep.RegionWith
import Derived.Deep.RegionHeld3
import Derived.Deep.DrawnRows
namespace Go.Proofs.YtnoodiibkchaaaaGreatDoor
open Go.RowKit
attribute [local go_sem ↓] Go.wp_at_zero Go.wp_at_succ

theorem oneV_le (x : ByteArray) (hx : 1 ≤ x.size) : (oneV x).2 ≤ x.size ∧ (oneV x).1.length ≤ (oneV x).2 ∧ ((oneV x).2 = 0 → (oneV x).1 = []) := by
  unfold oneV
  repeat' split
  all_goals simp
  all_goals omega
/-- the forms from pos on, up to the closing mark: the bytes, and where the mark stands -/
def scan (t : ByteArray) : Nat → Nat → Option (List Nat × Nat)
  | 0, _ => none
  | f + 1, pos => if pos < t.size then if bAt t pos = 34 then some ([], pos) else
      if (oneV (t.extract pos t.size)).2 = 0 then none else (scan t f (pos + (oneV (t.extract pos t.size)).2)).map fun p => ((oneV (t.extract pos t.size)).1 ++ p.1, p.2) else none
/-- what Unquote answers at an offset of the text -/
def unqV (t : ByteArray) (at_ : Nat) : Option (List Nat × Nat) :=
  if at_ < t.size ∧ bAt t at_ = 34 then
    (scan t (t.size + 1) (at_ + 1)).bind fun p => if strOf (quoteL (strOf p.1)) = t.extract at_ (p.2 + 1) then some (p.1, p.2 + 1) else none
  else none
def unqR : Option (List Nat × Nat) → Value
  | some p => .tuple #[.string (strOf p.1), .int .i64 (p.2 : Nat), .int .i64 0]
  | none => .tuple #[.string { data := #[] }, .int .i64 0, .int .i64 24]
theorem rest_cons (t : ByteArray) (a : Nat) (h : a < t.size) : (t.extract a t.size).data.toList = UInt8.ofNat (bAt t a) :: (t.extract (a + 1) t.size).data.toList := by
  have h1 : t.data.size = t.size := rfl
  rw [ByteArray.data_extract, ByteArray.data_extract, Array.toList_extract, Array.toList_extract]
  simp only [List.extract_eq_take_drop]
  have h2 : t.data.toList.drop a = UInt8.ofNat (bAt t a) :: t.data.toList.drop (a + 1) := by
    rw [List.drop_eq_getElem_cons (by simpa using h)]
    congr 1
    rw [bAt_get t a h]
    show t.data.toList[a] = UInt8.ofNat (t.data[a]'h).toNat
    simp
  rw [h2, show t.size - a = (t.size - (a + 1)) + 1 by omega, List.take_succ_cons]
theorem of_list (x : ByteArray) : (⟨x.data.toList.toArray⟩ : ByteArray) = x := by
  apply ByteArray.ext; simp
theorem cutp_yes (t : ByteArray) (a : Nat) (w : World) (h : a < t.size) (h34 : bAt t a = 34) :
    Calls Tryz.prog 103 #[.string (t.extract a t.size), .string { data := #[34] }] w fun e w' => e = .returned (.tuple #[.string (t.extract (a + 1) t.size), .bool true]) ∧ w = w' := by
  refine (Tryz.strings_CutPrefix _ _ w).mono ?_
  rintro e w' ⟨rfl, rfl⟩
  refine ⟨?_, rfl⟩
  rw [rest_cons t a h, h34]
  have e : ∀ l : List UInt8, Lib.hasPrefix (UInt8.ofNat 34 :: l) [34] = true ∧ Lib.trimPrefix (UInt8.ofNat 34 :: l) [34] = l := by
    intro l
    have e1 : Lib.hasPrefix (UInt8.ofNat 34 :: l) [34] = true := by simp [Lib.hasPrefix]
    exact ⟨e1, by rw [Lib.trimPrefix, if_pos e1]; rfl⟩
  show Ending.returned (.tuple #[.string ⟨(Lib.trimPrefix _ [34]).toArray⟩, .bool (Lib.hasPrefix _ [34])]) = _
  rw [(e _).1, (e _).2, of_list]
theorem cutp_no (t : ByteArray) (a : Nat) (w : World) (h : ¬ (a < t.size ∧ bAt t a = 34)) :
    Calls Tryz.prog 103 #[.string (t.extract a t.size), .string { data := #[34] }] w fun e w' => e = .returned (.tuple #[.string (t.extract a t.size), .bool false]) ∧ w = w' := by
  refine (Tryz.strings_CutPrefix _ _ w).mono ?_
  rintro e w' ⟨rfl, rfl⟩
  refine ⟨?_, rfl⟩
  have e1 : Lib.hasPrefix (t.extract a t.size).data.toList [34] = false := by
    by_cases ha : a < t.size
    · rw [rest_cons t a ha]
      have hb := bAt_lt t a
      have : ¬ (34 : UInt8) = UInt8.ofNat (bAt t a) := fun e => h ⟨ha, by
        have := congrArg UInt8.toNat e
        rw [UInt8.toNat_ofNat'] at this
        have h2 : bAt t a % 2 ^ 8 = bAt t a := by omega
        rw [h2] at this
        exact this.symm⟩
      show ((34 : UInt8) == UInt8.ofNat (bAt t a) && List.isPrefixOf [] _) = false
      rw [beq_eq_false_iff_ne.2 this]; rfl
    · rw [show (t.extract a t.size).data.toList = [] from List.eq_nil_of_length_eq_zero (by
        have := rest_size t a
        have h2 : (t.extract a t.size).data.size = (t.extract a t.size).size := rfl
        rw [Array.length_toList]; omega)]
      rfl
  show Ending.returned (.tuple #[.string ⟨(Lib.trimPrefix _ [34]).toArray⟩, .bool (Lib.hasPrefix _ [34])]) = _
  rw [e1, Lib.trimPrefix, if_neg (by rw [e1]; decide), of_list]
theorem bytes_of_eq {a b : ByteArray} (h : (a.toList == b.toList) = true) : a = b := by
  rw [beq_iff_eq, ByteArray.toList_eq, ByteArray.toList_eq] at h
  exact ByteArray.ext (Array.toList_inj.1 h)
theorem bytes_of_ne {a b : ByteArray} (h : (a.toList == b.toList) = false) : a ≠ b := fun e => by
  rw [e, beq_self_eq_true] at h
  cases h
theorem ne_nil_of_size (x : ByteArray) (h : 0 < x.size) : x.toList ≠ [] := fun e => by
  rw [ByteArray.toList_eq] at e
  have h1 : x.data.size = 0 := by
    have := congrArg List.length e
    simpa using this
  have h2 : x.data.size = x.size := rfl
  omega
/-- what holds at each round's head -/
def URel (t : ByteArray) (a : Nat) (S : Option (List Nat × Nat)) (B : Nat) (w : World) (rest ok : Value) (wr : World) : Prop :=
  ∃ (pos : Nat) (acc : List Nat) (b : Bool), rest = .string (t.extract pos t.size) ∧ ok = .bool b ∧ Bld wr B acc ∧ Below w.heap.size w wr ∧ pos ≤ t.size ∧ a ≤ pos ∧ acc.length ≤ pos ∧
    (b = true → ∃ f, S = (scan t f pos).map (fun p => (acc ++ p.1, p.2)) ∧ t.size + 1 ≤ pos + f) ∧ (b = false → S = none)
theorem scan_end {t : ByteArray} {S : Option (List Nat × Nat)} {acc : List Nat} {pos f : Nat} (h : S = (scan t f pos).map (fun p => (acc ++ p.1, p.2))) (hp : ¬ pos < t.size) : S = none := by
  rw [h]
  cases f with
  | zero => rfl
  | succ f => rw [scan, if_neg hp]; rfl
theorem scan_mark {t : ByteArray} {S : Option (List Nat × Nat)} {acc : List Nat} {pos f : Nat} (h : S = (scan t f pos).map (fun p => (acc ++ p.1, p.2))) (hp : pos < t.size) (hf : t.size + 1 ≤ pos + f) (hm : bAt t pos = 34) : S = some (acc, pos) := by
  rw [h]
  obtain ⟨f, rfl⟩ : ∃ g, f = g + 1 := ⟨f - 1, by omega⟩
  rw [scan, if_pos hp, if_pos hm]
  simp
theorem scan_fail {t : ByteArray} {S : Option (List Nat × Nat)} {acc : List Nat} {pos f : Nat} (h : S = (scan t f pos).map (fun p => (acc ++ p.1, p.2))) (hm : bAt t pos ≠ 34) (h0 : (oneV (t.extract pos t.size)).2 = 0) : S = none := by
  rw [h]
  cases f with
  | zero => rfl
  | succ f =>
    rw [scan]
    by_cases hp : pos < t.size
    · rw [if_pos hp, if_neg hm, if_pos h0]; rfl
    · rw [if_neg hp]; rfl
theorem scan_go {t : ByteArray} {S : Option (List Nat × Nat)} {acc : List Nat} {pos f : Nat} (h : S = (scan t f pos).map (fun p => (acc ++ p.1, p.2))) (hp : pos < t.size) (hf : t.size + 1 ≤ pos + f) (hm : bAt t pos ≠ 34) (h0 : (oneV (t.extract pos t.size)).2 ≠ 0) :
    ∃ f', S = (scan t f' (pos + (oneV (t.extract pos t.size)).2)).map (fun p => ((acc ++ (oneV (t.extract pos t.size)).1) ++ p.1, p.2)) ∧ t.size + 1 ≤ pos + (oneV (t.extract pos t.size)).2 + f' := by
  obtain ⟨f, rfl⟩ : ∃ g, f = g + 1 := ⟨f - 1, by omega⟩
  refine ⟨f, ?_, by omega⟩
  rw [h, scan, if_pos hp, if_neg hm, if_neg h0, Option.map_map]
  congr 1
  funext p
  simp
set_option maxHeartbeats 4000000 in
set_option maxRecDepth 100000 in
theorem unquote_any (t : ByteArray) (a : Nat) (w : World) (ha : a ≤ t.size) (hs : t.size ≤ 1099511627776) (hT : Tabs w) :
    Calls Tryz.prog 76 #[.string t, .int .i64 (a : Nat)] w fun e w' => e = .returned (unqR (unqV t a)) ∧ Below w.heap.size w w' := by
  have HT := Lib.hid hT
  have HB := Lib.hid (Bld.fresh w)
  -- what the loop is to find: nothing, where no mark stands at the offset
  obtain ⟨S, P0, b0, hS, hcut, hb0, hP0, hV⟩ : ∃ (S : Option (List Nat × Nat)) (P0 : Nat) (b0 : Bool), ((b0 = true → S = (scan t (t.size + 1) P0).map (fun p => ([] ++ p.1, p.2)) ∧ t.size + 1 ≤ P0 + (t.size + 1)) ∧ (b0 = false → S = none)) ∧
      (∀ w, Calls Tryz.prog 103 #[.string (t.extract a t.size), .string { data := #[34] }] w fun e w' => e = .returned (.tuple #[.string (t.extract P0 t.size), .bool b0]) ∧ w = w') ∧ P0 ≤ t.size ∧ a ≤ P0 ∧
      unqV t a = S.bind (fun p => if strOf (quoteL (strOf p.1)) = t.extract a (p.2 + 1) then some (p.1, p.2 + 1) else none) := by
    by_cases h : a < t.size ∧ bAt t a = 34
    · refine ⟨_, a + 1, true, ⟨fun _ => ⟨rfl, by omega⟩, fun h => by cases h⟩, fun w => cutp_yes t a w h.1 h.2, by omega, by omega, ?_⟩
      rw [unqV, if_pos h]
      simp
    · refine ⟨none, a, false, ⟨(fun h => by cases h), fun _ => rfl⟩, fun w => cutp_no t a w h, by omega, by omega, ?_⟩
      rw [unqV, if_neg h]
      rfl
  have HS := Lib.hid hS; have HC := Lib.hid hcut; have HV := Lib.hid hV
  have hrs := rest_size t a
  clear hS hcut hV hT
  go_enter Tryz.func76, Tryz.ntmps76
  go_wp2_with (go_at_call 95; refine (inRange_yes t a _ ha).mono ?_; rintro e w1 ⟨rfl, rfl⟩)
  go_wp2_with (go_at_call 103; refine (HC.out _).mono ?_; rintro e w1 ⟨rfl, rfl⟩)
  go_wp2
  go_loopw [7, 8] (fun r k wr => URel t a S w.heap.size w r k wr) (fun r k _ => strSize r + (match k with | .bool true => 1 | _ => 0))
  case atStart =>
    refine ⟨P0, [], b0, rfl, rfl, HB.out, (Below.refl _ w).alloc (Nat.le_refl _) _, hb0, hP0, Nat.zero_le _, fun h => ?_, HS.out.2⟩
    obtain ⟨h1, h2⟩ := HS.out.1 h
    exact ⟨_, h1, h2⟩
  case round =>
    obtain ⟨pos, acc, b, rfl, rfl, hI, hbw, hps, hap, hal, htrue, hfalse⟩ := hrel
    clear HS HC HB
    have hsz := hI.lt
    have hT2 := HT.out.below hbw
    cases b with
    | false =>
      have HSn := Lib.hid (hfalse rfl)
      have HBW := Lib.hid hbw
      clear htrue hfalse hbw
      go_wp2_with (go_at_call 31; refine (bstr_any _ acc _ hI).mono ?_; rintro e w2 ⟨rfl, hb2, hk2⟩)
      go_quiet (fail)
      go_wp2
      go_ret3
      refine ⟨?_, HBW.out.trans (below_drewN hk2.low _)⟩
      rw [HV.out, HSn.out]; rfl
    | true =>
      obtain ⟨f, hSe, hf⟩ := htrue rfl
      clear hfalse htrue
      by_cases hp : pos < t.size
      · have h0 : 0 < (t.extract pos t.size).size := by rw [rest_size]; omega
        have hx0 := rest_head t pos hp h0
        have hxr := rest_size t pos
        obtain ⟨x, hx⟩ : ∃ x, x = t.extract pos t.size := ⟨_, rfl⟩
        have HR2 : Hid (∀ n m, m = t.size - pos → x.extract n m = t.extract (pos + n) t.size) := Lib.hid (fun n m hm => by rw [hx]; exact rest_rest t pos n m hm)
        have hxs : x.size = t.size - pos := by rw [hx]; exact hxr
        have hx1 : 0 < x.size := by omega
        have hx0' : (x[0]'hx1).toNat = bAt t pos := by subst hx; exact hx0
        have hne := ne_nil_of_size x hx1
        by_cases hm : bAt t pos = 34
        · have HSn := Lib.hid (scan_mark hSe hp hf hm)
          have HBW := Lib.hid hbw
          rw [hm] at hx0'
          rw [← hx]
          have HXS := Lib.hid hxs
          have hie : x.toList.isEmpty = false := by simpa using hne
          have hw1 : wrap64 ((t.size : Int) - (x.size : Int)) = (pos : Int) := by rw [IntWalk.wrap64_in _ (by omega)]; omega
          have hacs := strOf_size acc
          have hac1 : (strOf acc).size ≤ 1099511627776 := by omega
          have HE := Lib.hid (fun w hT => quote_any (strOf acc) w hac1 hT)
          clear hSe hbw hxr hx0 hx hxs h0 hm hf hacs hne
          go_wp2_with (go_at_call 31; refine (bstr_any _ acc _ hI).mono ?_; rintro e w2 ⟨rfl, hb2, hk2⟩)
          have hb02 := HBW.out.trans hk2.low
          have hT3 := HT.out.below hb02
          have hT3d : Tabs w2.drew := hT3
          have i1 : (0 : Int) ≤ (a : Int) := by omega
          have i2 : (a : Int) ≤ (pos : Int) + 1 := by omega
          have i3 : (pos : Int) + 1 ≤ (t.size : Int) := by omega
          have HBB := Lib.hid hb02
          clear hT2 hb2 hk2 hb02 hT3 hw1
          go_region_held3 (fun _ => True) (trivial) ((go_at_call 42; go_must (refine (HE.out w2.drew hT3d).mono ?_; rintro e w3 ⟨rfl, hb3⟩)))
          all_goals go_wp2
          · have heq : ((strOf (quoteL (strOf acc))).toList == (t.extract a (pos + 1)).toList) = true := by assumption
            go_ret3
            refine ⟨?_, HBB.out.drew.trans (hb3.mono (by have := HBB.out.size; exact this))⟩
            rw [HV.out, HSn.out]
            show _ = Ending.returned (unqR (if strOf (quoteL (strOf acc)) = t.extract a (pos + 1) then some (acc, pos + 1) else none))
            rw [if_pos (bytes_of_eq heq)]
            rfl
          · have heq : ((strOf (quoteL (strOf acc))).toList == (t.extract a (pos + 1)).toList) = false := by assumption
            go_ret3
            refine ⟨?_, HBB.out.drew.trans (hb3.mono (by have := HBB.out.size; exact this))⟩
            rw [HV.out, HSn.out]
            show _ = Ending.returned (unqR (if strOf (quoteL (strOf acc)) = t.extract a (pos + 1) then some (acc, pos + 1) else none))
            rw [if_neg (bytes_of_ne heq)]
            rfl
        · have hie : x.toList.isEmpty = false := by simpa using hne
          have hole := oneV_le x hx1
          have HF := Lib.hid (fun h => scan_fail hSe hm (hx ▸ h))
          have HG : Hid (∀ _ : (oneV x).2 ≠ 0, ∃ f', S = (scan t f' (pos + (oneV x).2)).map (fun p => ((acc ++ (oneV x).1) ++ p.1, p.2)) ∧ t.size + 1 ≤ pos + (oneV x).2 + f') := Lib.hid (fun h => by
            rw [hx] at h ⊢
            exact scan_go hSe hp hf hm h)
          have HO := Lib.hid (one_any x wr hx1 (by omega) hT2.1)
          obtain ⟨bb, hbb⟩ : ∃ bb, bb = bAt t pos := ⟨_, rfl⟩
          rw [← hbb] at hx0' hm
          have hnm : ((bb : Int) != 34) = true := by simp; omega
          have HX := Lib.hid hx
          rw [← hx]
          have HXS := Lib.hid hxs
          have hxsz : x.size ≤ 1099511627776 := by omega
          obtain ⟨o1, ho1⟩ : ∃ o, o = (oneV x).1 := ⟨_, rfl⟩
          obtain ⟨o2, ho2⟩ : ∃ o, o = (oneV x).2 := ⟨_, rfl⟩
          rw [← ho1, ← ho2] at hole HG HO
          rw [← ho2] at HF
          have HL := Lib.hid hole.2.2
          have hol1 := hole.1
          have hol2 := hole.2.1
          have HBW := Lib.hid hbw
          clear hSe hbw hxr hx0 hx hxs h0 hm hf hne hbb ho1 ho2 hole
          by_cases ho : o2 = 0
          · subst ho
            go_wp2_with (go_at_call 104; refine HO.out.mono ?_; rintro e w2 ⟨rfl, hb2⟩)
            have hI2 := hI.below hb2
            go_wp2_with (go_at_call 28; refine (wstr_any _ acc o1 _ _ hI2 rfl (by omega)).mono ?_; rintro e w3 ⟨⟨v3, rfl⟩, hI3, hk3⟩)
            refine ⟨⟨pos, acc ++ o1, false, by first | (rw [← HX.out]; done) | (rw [← HX.out]; simp), rfl, hI3, HBW.out.trans ((hb2.mono (by omega)).trans hk3.low), hps, hap, by rw [HL.out (by trivial)]; simpa using hal, (fun h => by cases h), fun _ => HF.out (by trivial)⟩, ?_⟩
            simp [strSize]
          · have ho0 : 0 < o2 := by omega
            have ho1' : 0 < (o2 : Int) := by omega
            have hoi : (o2 : Int) ≤ (x.size : Int) := by omega
            have HG2 := Lib.hid (HG.out ho)
            clear ho HG
            go_wp2_with (go_at_call 104; refine HO.out.mono ?_; rintro e w2 ⟨rfl, hb2⟩)
            have hI2 := hI.below hb2
            go_wp2_with (go_at_call 28; refine (wstr_any _ acc o1 _ _ hI2 rfl (by omega)).mono ?_; rintro e w3 ⟨⟨v3, rfl⟩, hI3, hk3⟩)
            refine ⟨⟨pos + o2, acc ++ o1, true, by rw [HR2.out o2 x.size HXS.out], rfl, hI3, HBW.out.trans ((hb2.mono (by omega)).trans hk3.low), by have := HXS.out; omega, by omega, by simp; omega, fun _ => HG2.out, (fun h => by cases h)⟩, ?_⟩
            rw [HR2.out o2 x.size HXS.out]
            simp only [strSize, rest_size]
            have := HXS.out
            omega
      · have hz : t.extract pos t.size = ByteArray.empty := by
          apply ByteArray.ext
          exact Array.eq_empty_of_size_eq_zero (by have := rest_size t pos; show (t.extract pos t.size).size = 0; omega)
        have HSn := Lib.hid (scan_end hSe hp)
        have HBW := Lib.hid hbw
        rw [hz]
        clear hSe hbw hz
        go_wp2_with (go_at_call 31; refine (bstr_any _ acc _ hI).mono ?_; rintro e w2 ⟨rfl, hb2, hk2⟩)
        go_quiet (fail)
        go_wp2
        go_ret3
        refine ⟨?_, HBW.out.trans (below_drewN hk2.low _)⟩
        rw [HV.out, HSn.out]; rfl
end Go.Proofs.YtnoodiibkchaaaaGreatDoor
