/-
  PLAIN: the tables that the texts' walks read.
  WALKS: escape.Int.
-/
import Derived.Test.YtnoodiibkchaaaaGreatDoorWEscF
import Derived.Test.YtnoodiibkchaaaaGreatDoorWEscN
import Derived.Test.YtnoodiibkchaaaaGreatDoorXNum
import Derived.Test.YtnoodiibkchaaaaGreatDoorShelfN
import Derived.Shelf.Strconv.ErrVarParseInt
import Derived.Lib.AppendIntMem
import Derived.Lib.SmallJoins
namespace Go.Proofs.YtnoodiibkchaaaaGreatDoor
open Go.RowKit

/-- all tables that the chapter reads -/
def TabsA (w : World) : Prop := Tabs w ∧ TabD w
theorem TabsA.below {w w' : World} (h : TabsA w) (b : Below w.heap.size w w') : TabsA w' := ⟨h.1.below b, h.2.below b⟩
theorem TabsA.tabs {w : World} (h : TabsA w) : Tabs w := h.1
theorem TabsA.tabD {w : World} (h : TabsA w) : TabD w := h.2
end Go.Proofs.YtnoodiibkchaaaaGreatDoor
namespace Go.Proofs.YtnoodiibkchaaaaGreatDoor
open Go.RowKit
attribute [local go_sem ↓] Go.wp_at_zero Go.wp_at_succ

theorem var_below {P : Program} {w w' : World} {n : String} {v : Array Value} (h : w.var? P n = some v) (b : Below w.heap.size w w') : w'.var? P n = some v := by
  unfold World.var? at h ⊢
  cases hg : P.globalNamed n with
  | none => simp [hg] at h
  | some g =>
    simp only [hg, Option.bind_some] at h
    simp only [Option.bind_some]
    by_cases hlt : g < w.heap.size
    · rw [b.block g hlt]; exact h
    · rw [Array.getElem?_eq_none (by omega)] at h
      cases h
/-- the tables and errors that reading and writing numbers ask -/
structure TabsN (w : World) : Prop where
  a : TabsA w
  pow : Lib.TabIs Tryz.prog w "internal/strconv.uint64pow10" .u64 Lib.pow10Tab
  errS : ∃ tp p, w.var? Tryz.prog "strconv.ErrSyntax" = some #[.iface tp p]
  errR : ∃ tp p, w.var? Tryz.prog "strconv.ErrRange" = some #[.iface tp p]
theorem TabsN.below {w w' : World} (h : TabsN w) (b : Below w.heap.size w w') : TabsN w' :=
  ⟨h.a.below b, var_below h.pow b, let ⟨tp, p, e⟩ := h.errS; ⟨tp, p, var_below e b⟩, let ⟨tp, p, e⟩ := h.errR; ⟨tp, p, var_below e b⟩⟩
theorem hasp_any (t : ByteArray) (a : Nat) (w : World) (z : Nat) (hz : z < 256) :
    Calls Tryz.prog 44 #[.string (t.extract a t.size), .string ⟨#[UInt8.ofNat z]⟩] w fun e w' => e = .returned (.bool (decide (a < t.size ∧ bAt t a = z))) ∧ w = w' := by
  refine (Tryz.strings_HasPrefix _ _ w).mono ?_
  rintro e w' ⟨rfl, rfl⟩
  refine ⟨?_, rfl⟩
  congr 2
  by_cases h : a < t.size
  · rw [rest_cons t a h]
    show ((UInt8.ofNat z) == UInt8.ofNat (bAt t a) && List.isPrefixOf [] _) = _
    have hb := bAt_lt t a
    by_cases he : bAt t a = z
    · rw [he]; simp [h]
    · have : ¬ UInt8.ofNat z = UInt8.ofNat (bAt t a) := fun e => he (by
        have := congrArg UInt8.toNat e
        rw [ofNat_toNat' z hz, ofNat_toNat' _ hb] at this
        exact this.symm)
      rw [beq_eq_false_iff_ne.2 this]
      simp [he]
  · rw [show (t.extract a t.size).data.toList = [] from List.eq_nil_of_length_eq_zero (by rw [list_len, rest_size]; omega)]
    simp [Lib.hasPrefix, h]
theorem parseI_ok (x : ByteArray) (v : Int) (w : World) (hx : x.size ≤ 1099511627776) (h : Lib.parseIntB 64 x.data.toList = .ok v) :
    Calls Tryz.prog 96 #[.string x, .int .i64 10, .int .i64 64] w fun e w' => e = .returned (.tuple #[.int .i64 v, .nilIface]) ∧ Below w.heap.size w w' := by
  refine (Tryz.strconv_ParseInt_10_at64_ok x (by omega) v h w).mono ?_
  rintro e w' ⟨rfl, rfl | ⟨t, rfl⟩⟩
  · exact ⟨rfl, Below.refl _ _⟩
  · exact ⟨rfl, Joins.below_bytesWorld _ w _ _ (Nat.le_refl _)⟩
theorem parseI_bad (x : ByteArray) (w : World) (hx : x.size ≤ 1099511627776) (h : ∀ v, Lib.parseIntB 64 x.data.toList ≠ .ok v) (hT : TabsN w) :
    Calls Tryz.prog 96 #[.string x, .int .i64 10, .int .i64 64] w fun e w' => ∃ z T N, e = .returned (.tuple #[.int .i64 z, .iface T (.pointer (some ⟨N, 0, none⟩))]) ∧ Below w.heap.size w w' := by
  rcases hp : Lib.parseIntB 64 x.data.toList with v | _ | _
  · exact absurd hp (h v)
  · obtain ⟨tp, p, hv⟩ := hT.errS
    refine (Any.strconv_ParseInt_10_at64_syntax_var Tryz.laysC174 x (by omega) hp tp p w hv).mono ?_
    rintro e w' ⟨N, rfl, _, _, hb⟩
    exact ⟨_, _, _, rfl, hb⟩
  · obtain ⟨tp, p, hv⟩ := hT.errR
    refine (Any.strconv_ParseInt_10_at64_range_var Tryz.laysC174 x (by omega) hp tp p w hv).mono ?_
    rintro e w' ⟨N, rfl, _, _, hb⟩
    exact ⟨_, _, _, rfl, hb⟩
theorem fmtI_any (n : Int) (w : World) (h0 : -9223372036854775808 ≤ n) (h1 : n ≤ 9223372036854775807) (hT : TabsN w) :
    Calls Tryz.prog 29 #[.int .i64 n, .int .i64 10] w fun e w' => e = .returned (.string ⟨(Lib.itoa n).toArray⟩) ∧ Below w.heap.size w w' := by
  refine (Tryz.strconv_FormatInt_10 n h0 h1 w hT.pow).mono ?_
  rintro e w' ⟨rfl, k, os, rfl⟩
  exact ⟨rfl, Lib.below_grow _ w (Nat.le_refl _) k os⟩
theorem ret_intR {S T : Option (Int × Nat)} {v : Value} (h : S = T) (hv : v = intR T) : Ending.returned v = .returned (intR S) := by rw [h, hv]
/-- what holds at each round's head -/
def IRel (t : ByteArray) (a : Nat) (v : Value) : Prop :=
  ∃ k f : Nat, v = .int .i64 (k : Nat) ∧ endOf t a = digEnd t f k ∧ t.size + 1 ≤ k + f ∧ a ≤ k ∧ k ≤ t.size
set_option maxHeartbeats 4000000 in
set_option maxRecDepth 100000 in
theorem int_any (t : ByteArray) (a : Nat) (w : World) (ha : a ≤ t.size) (hs : t.size ≤ 1099511627776) (hT : TabsN w) :
    Calls Tryz.prog 65 #[.string t, .int .i64 (a : Nat)] w fun e w' => e = .returned (intR (intV t a)) ∧ Below w.heap.size w w' := by
  have HT := Lib.hid hT
  clear hT
  cases hsg : sgn t a with
  | true =>
    have HP : Hid (∀ w, Calls Tryz.prog 44 #[.string (t.extract a t.size), .string { data := #[45] }] w fun e w' => e = .returned (.bool true) ∧ w = w') := Lib.hid (fun w => by
      have h := hasp_any t a w 45 (by decide)
      have e : decide (a < t.size ∧ bAt t a = 45) = true := hsg
      rw [e] at h; exact h)
    have hlt : a < t.size := by unfold sgn at hsg; exact (of_decide_eq_true hsg).1
    have HR0 : Hid (IRel t a (.int .i64 ((a : Int) + 1))) := Lib.hid ⟨a + 1, t.size + 1, rfl, by unfold endOf fromOf; rw [if_pos hsg], by omega, by omega, by omega⟩
    clear hsg
    go_enter Tryz.func65, Tryz.ntmps65
    go_wp2_with (first | (go_at_call 95; refine (inRange_yes t a _ ha).mono ?_; rintro e w1 ⟨rfl, rfl⟩) | (go_at_call 44; refine (HP.out _).mono ?_; rintro e w1 ⟨rfl, rfl⟩))
    go_loop [7] (fun v => IRel t a v) (fun v => t.size - (intOf v).toNat)
    case atStart => exact HR0.out
    case round =>
      clear HR0
      obtain ⟨k, f, rfl, hE, hf, hFk, hks⟩ := hrel
      by_cases hc : k < t.size ∧ 48 ≤ bAt t k ∧ bAt t k ≤ 57
      · obtain ⟨f', e1, e2⟩ := digEnd_next t f k hf hc
        obtain ⟨c1, c2, c3⟩ := hc
        have hx0 : (t[k]'c1).toNat = bAt t k := (bAt_get t k c1).symm
        have HN : Hid (IRel t a (.int .i64 ((k : Int) + 1))) := Lib.hid ⟨k + 1, f', rfl, hE.trans e1, e2, by omega, by omega⟩
        obtain ⟨b, hb⟩ : ∃ b, b = bAt t k := ⟨_, rfl⟩
        rw [← hb] at hx0 c2 c3
        clear hE e1 hb
        go_wp2
        exact ⟨HN.out, by simp [intOf]; omega⟩
      · have hEk : endOf t a = k := by rw [hE]; exact digEnd_stop t f k hc
        have hway : ¬ k < t.size ∨ k < t.size ∧ bAt t k < 48 ∨ k < t.size ∧ 48 ≤ bAt t k ∧ 57 < bAt t k := by omega
        have HV : Hid (intV t a = (parsed (t.extract a k).data.toList).map fun v => (v, k)) := Lib.hid (by rw [intV_parsed t a ha, hEk])
        have hxs : (t.extract a k).size ≤ 1099511627776 := by rw [ByteArray.size_extract]; omega
        have HBW : Hid (Below w.heap.size w w) := Lib.hid (Below.refl _ _)
        have i1 : (0 : Int) ≤ (a : Int) := by omega
        have i2 : (a : Int) ≤ (k : Int) := by omega
        have i3 : (k : Int) ≤ (t.size : Int) := by omega
        generalize hx : t.extract a k = x at HV hxs
        have HX := Lib.hid hx
        clear hE hEk hf hc
        rcases hway with h1 | ⟨h1, h2⟩ | ⟨h1, h2, h3⟩
        · clear hks
          go_wp2_with fail
          by_cases hok : ∃ v, Lib.parseIntB 64 x.data.toList = .ok v
          · obtain ⟨v, hv⟩ := hok
            have hvb := Lib.parseIntB_bounds hv
            have hv0 : -9223372036854775808 ≤ v := by have := hvb.1; simpa using this
            have hv1 : v ≤ 9223372036854775807 := by have := hvb.2; simp at this; omega
            have HPI := Lib.hid (fun w => parseI_ok x v w hxs hv)
            have HFI := Lib.hid (fun w hT => fmtI_any v w hv0 hv1 hT)
            have HV2 : Hid (intV t a = if Lib.itoa v = x.data.toList then some (v, k) else none) := Lib.hid (by
              rw [HV.out, parsed_ok hv]
              split <;> rfl)
            obtain ⟨q, hq⟩ : ∃ q : ByteArray, q = ⟨(Lib.itoa v).toArray⟩ := ⟨_, rfl⟩
            rw [← hq] at HFI
            have HQ : Hid (Lib.itoa v = x.data.toList ↔ q = x) := Lib.hid (by rw [hq]; exact ⟨fun h => by simp [h], fun h => by rw [← h]⟩)
            clear hq hv hvb
            go_wp2_with (go_at_call 96; refine (HPI.out _).mono ?_; rintro e w1 ⟨rfl, hb1⟩)
            have hb01 := HBW.out.trans (hb1.mono HBW.out.size)
            have hT1 : TabsN w1.drew := HT.out.below hb01.drew
            go_region_held3 (fun _ => True) (trivial) ((go_at_call 29; go_must (refine (HFI.out w1.drew hT1).mono ?_; rintro e w2 ⟨rfl, hb2⟩)))
            all_goals go_wp2
            · have hq2 : (!(q.toList == x.toList)) = true := by assumption
              have hq3 : (q.toList == x.toList) = false := by simpa using hq2
              go_ret3
              exact ⟨ret_intR (HV2.out.trans (if_neg (fun h => bytes_of_ne hq3 (HQ.out.1 h)))) rfl, hb01.drew.trans (hb2.mono hb01.size)⟩
            · have hq2 : (!(q.toList == x.toList)) = false := by assumption
              have hq3 : (q.toList == x.toList) = true := by simpa using hq2
              go_ret3
              exact ⟨ret_intR (HV2.out.trans (if_pos (HQ.out.2 (bytes_of_eq hq3)))) rfl, hb01.drew.trans (hb2.mono hb01.size)⟩
          · have HPI := Lib.hid (fun w hT => parseI_bad x w hxs (fun v h => hok ⟨v, h⟩) hT)
            have HV2 : Hid (intV t a = none) := Lib.hid (by rw [HV.out, parsed_none (fun v h => hok ⟨v, h⟩)]; rfl)
            have HTW := Lib.hid (HT.out.below HBW.out)
            clear hok
            go_wp2_with (go_at_call 96; refine (HPI.out _ HTW.out).mono ?_; rintro e w1 ⟨z, T, N, rfl, hb1⟩)
            have hb01 := HBW.out.trans (hb1.mono HBW.out.size)
            go_quiet (fail)
            go_wp2
            go_ret3
            exact ⟨ret_intR HV2.out rfl, below_drewN hb01 _⟩
        · have hx0 : (t[k]'h1).toNat = bAt t k := (bAt_get t k h1).symm
          obtain ⟨b, hb⟩ : ∃ b, b = bAt t k := ⟨_, rfl⟩
          rw [← hb] at hx0 h2
          clear hb
          go_wp2_with fail
          by_cases hok : ∃ v, Lib.parseIntB 64 x.data.toList = .ok v
          · obtain ⟨v, hv⟩ := hok
            have hvb := Lib.parseIntB_bounds hv
            have hv0 : -9223372036854775808 ≤ v := by have := hvb.1; simpa using this
            have hv1 : v ≤ 9223372036854775807 := by have := hvb.2; simp at this; omega
            have HPI := Lib.hid (fun w => parseI_ok x v w hxs hv)
            have HFI := Lib.hid (fun w hT => fmtI_any v w hv0 hv1 hT)
            have HV2 : Hid (intV t a = if Lib.itoa v = x.data.toList then some (v, k) else none) := Lib.hid (by
              rw [HV.out, parsed_ok hv]
              split <;> rfl)
            obtain ⟨q, hq⟩ : ∃ q : ByteArray, q = ⟨(Lib.itoa v).toArray⟩ := ⟨_, rfl⟩
            rw [← hq] at HFI
            have HQ : Hid (Lib.itoa v = x.data.toList ↔ q = x) := Lib.hid (by rw [hq]; exact ⟨fun h => by simp [h], fun h => by rw [← h]⟩)
            clear hq hv hvb
            go_wp2_with (go_at_call 96; refine (HPI.out _).mono ?_; rintro e w1 ⟨rfl, hb1⟩)
            have hb01 := HBW.out.trans (hb1.mono HBW.out.size)
            have hT1 : TabsN w1.drew := HT.out.below hb01.drew
            go_region_held3 (fun _ => True) (trivial) ((go_at_call 29; go_must (refine (HFI.out w1.drew hT1).mono ?_; rintro e w2 ⟨rfl, hb2⟩)))
            all_goals go_wp2
            · have hq2 : (!(q.toList == x.toList)) = true := by assumption
              have hq3 : (q.toList == x.toList) = false := by simpa using hq2
              go_ret3
              exact ⟨ret_intR (HV2.out.trans (if_neg (fun h => bytes_of_ne hq3 (HQ.out.1 h)))) rfl, hb01.drew.trans (hb2.mono hb01.size)⟩
            · have hq2 : (!(q.toList == x.toList)) = false := by assumption
              have hq3 : (q.toList == x.toList) = true := by simpa using hq2
              go_ret3
              exact ⟨ret_intR (HV2.out.trans (if_pos (HQ.out.2 (bytes_of_eq hq3)))) rfl, hb01.drew.trans (hb2.mono hb01.size)⟩
          · have HPI := Lib.hid (fun w hT => parseI_bad x w hxs (fun v h => hok ⟨v, h⟩) hT)
            have HV2 : Hid (intV t a = none) := Lib.hid (by rw [HV.out, parsed_none (fun v h => hok ⟨v, h⟩)]; rfl)
            have HTW := Lib.hid (HT.out.below HBW.out)
            clear hok
            go_wp2_with (go_at_call 96; refine (HPI.out _ HTW.out).mono ?_; rintro e w1 ⟨z, T, N, rfl, hb1⟩)
            have hb01 := HBW.out.trans (hb1.mono HBW.out.size)
            go_quiet (fail)
            go_wp2
            go_ret3
            exact ⟨ret_intR HV2.out rfl, below_drewN hb01 _⟩
        · have hx0 : (t[k]'h1).toNat = bAt t k := (bAt_get t k h1).symm
          obtain ⟨b, hb⟩ : ∃ b, b = bAt t k := ⟨_, rfl⟩
          rw [← hb] at hx0 h2 h3
          clear hb
          go_wp2_with fail
          by_cases hok : ∃ v, Lib.parseIntB 64 x.data.toList = .ok v
          · obtain ⟨v, hv⟩ := hok
            have hvb := Lib.parseIntB_bounds hv
            have hv0 : -9223372036854775808 ≤ v := by have := hvb.1; simpa using this
            have hv1 : v ≤ 9223372036854775807 := by have := hvb.2; simp at this; omega
            have HPI := Lib.hid (fun w => parseI_ok x v w hxs hv)
            have HFI := Lib.hid (fun w hT => fmtI_any v w hv0 hv1 hT)
            have HV2 : Hid (intV t a = if Lib.itoa v = x.data.toList then some (v, k) else none) := Lib.hid (by
              rw [HV.out, parsed_ok hv]
              split <;> rfl)
            obtain ⟨q, hq⟩ : ∃ q : ByteArray, q = ⟨(Lib.itoa v).toArray⟩ := ⟨_, rfl⟩
            rw [← hq] at HFI
            have HQ : Hid (Lib.itoa v = x.data.toList ↔ q = x) := Lib.hid (by rw [hq]; exact ⟨fun h => by simp [h], fun h => by rw [← h]⟩)
            clear hq hv hvb
            go_wp2_with (go_at_call 96; refine (HPI.out _).mono ?_; rintro e w1 ⟨rfl, hb1⟩)
            have hb01 := HBW.out.trans (hb1.mono HBW.out.size)
            have hT1 : TabsN w1.drew := HT.out.below hb01.drew
            go_region_held3 (fun _ => True) (trivial) ((go_at_call 29; go_must (refine (HFI.out w1.drew hT1).mono ?_; rintro e w2 ⟨rfl, hb2⟩)))
            all_goals go_wp2
            · have hq2 : (!(q.toList == x.toList)) = true := by assumption
              have hq3 : (q.toList == x.toList) = false := by simpa using hq2
              go_ret3
              exact ⟨ret_intR (HV2.out.trans (if_neg (fun h => bytes_of_ne hq3 (HQ.out.1 h)))) rfl, hb01.drew.trans (hb2.mono hb01.size)⟩
            · have hq2 : (!(q.toList == x.toList)) = false := by assumption
              have hq3 : (q.toList == x.toList) = true := by simpa using hq2
              go_ret3
              exact ⟨ret_intR (HV2.out.trans (if_pos (HQ.out.2 (bytes_of_eq hq3)))) rfl, hb01.drew.trans (hb2.mono hb01.size)⟩
          · have HPI := Lib.hid (fun w hT => parseI_bad x w hxs (fun v h => hok ⟨v, h⟩) hT)
            have HV2 : Hid (intV t a = none) := Lib.hid (by rw [HV.out, parsed_none (fun v h => hok ⟨v, h⟩)]; rfl)
            have HTW := Lib.hid (HT.out.below HBW.out)
            clear hok
            go_wp2_with (go_at_call 96; refine (HPI.out _ HTW.out).mono ?_; rintro e w1 ⟨z, T, N, rfl, hb1⟩)
            have hb01 := HBW.out.trans (hb1.mono HBW.out.size)
            go_quiet (fail)
            go_wp2
            go_ret3
            exact ⟨ret_intR HV2.out rfl, below_drewN hb01 _⟩
  | false =>
    have HP : Hid (∀ w, Calls Tryz.prog 44 #[.string (t.extract a t.size), .string { data := #[45] }] w fun e w' => e = .returned (.bool false) ∧ w = w') := Lib.hid (fun w => by
      have h := hasp_any t a w 45 (by decide)
      have e : decide (a < t.size ∧ bAt t a = 45) = false := hsg
      rw [e] at h; exact h)
    have HR0 : Hid (IRel t a (.int .i64 (a : Int))) := Lib.hid ⟨a, t.size + 1, rfl, by unfold endOf fromOf; rw [if_neg (by rw [hsg]; decide)], by omega, by omega, by omega⟩
    clear hsg
    go_enter Tryz.func65, Tryz.ntmps65
    go_wp2_with (first | (go_at_call 95; refine (inRange_yes t a _ ha).mono ?_; rintro e w1 ⟨rfl, rfl⟩) | (go_at_call 44; refine (HP.out _).mono ?_; rintro e w1 ⟨rfl, rfl⟩))
    go_loop [7] (fun v => IRel t a v) (fun v => t.size - (intOf v).toNat)
    case atStart => exact HR0.out
    case round =>
      clear HR0
      obtain ⟨k, f, rfl, hE, hf, hFk, hks⟩ := hrel
      by_cases hc : k < t.size ∧ 48 ≤ bAt t k ∧ bAt t k ≤ 57
      · obtain ⟨f', e1, e2⟩ := digEnd_next t f k hf hc
        obtain ⟨c1, c2, c3⟩ := hc
        have hx0 : (t[k]'c1).toNat = bAt t k := (bAt_get t k c1).symm
        have HN : Hid (IRel t a (.int .i64 ((k : Int) + 1))) := Lib.hid ⟨k + 1, f', rfl, hE.trans e1, e2, by omega, by omega⟩
        obtain ⟨b, hb⟩ : ∃ b, b = bAt t k := ⟨_, rfl⟩
        rw [← hb] at hx0 c2 c3
        clear hE e1 hb
        go_wp2
        exact ⟨HN.out, by simp [intOf]; omega⟩
      · have hEk : endOf t a = k := by rw [hE]; exact digEnd_stop t f k hc
        have hway : ¬ k < t.size ∨ k < t.size ∧ bAt t k < 48 ∨ k < t.size ∧ 48 ≤ bAt t k ∧ 57 < bAt t k := by omega
        have HV : Hid (intV t a = (parsed (t.extract a k).data.toList).map fun v => (v, k)) := Lib.hid (by rw [intV_parsed t a ha, hEk])
        have hxs : (t.extract a k).size ≤ 1099511627776 := by rw [ByteArray.size_extract]; omega
        have HBW : Hid (Below w.heap.size w w) := Lib.hid (Below.refl _ _)
        have i1 : (0 : Int) ≤ (a : Int) := by omega
        have i2 : (a : Int) ≤ (k : Int) := by omega
        have i3 : (k : Int) ≤ (t.size : Int) := by omega
        generalize hx : t.extract a k = x at HV hxs
        have HX := Lib.hid hx
        clear hE hEk hf hc
        rcases hway with h1 | ⟨h1, h2⟩ | ⟨h1, h2, h3⟩
        · clear hks
          go_wp2_with fail
          by_cases hok : ∃ v, Lib.parseIntB 64 x.data.toList = .ok v
          · obtain ⟨v, hv⟩ := hok
            have hvb := Lib.parseIntB_bounds hv
            have hv0 : -9223372036854775808 ≤ v := by have := hvb.1; simpa using this
            have hv1 : v ≤ 9223372036854775807 := by have := hvb.2; simp at this; omega
            have HPI := Lib.hid (fun w => parseI_ok x v w hxs hv)
            have HFI := Lib.hid (fun w hT => fmtI_any v w hv0 hv1 hT)
            have HV2 : Hid (intV t a = if Lib.itoa v = x.data.toList then some (v, k) else none) := Lib.hid (by
              rw [HV.out, parsed_ok hv]
              split <;> rfl)
            obtain ⟨q, hq⟩ : ∃ q : ByteArray, q = ⟨(Lib.itoa v).toArray⟩ := ⟨_, rfl⟩
            rw [← hq] at HFI
            have HQ : Hid (Lib.itoa v = x.data.toList ↔ q = x) := Lib.hid (by rw [hq]; exact ⟨fun h => by simp [h], fun h => by rw [← h]⟩)
            clear hq hv hvb
            go_wp2_with (go_at_call 96; refine (HPI.out _).mono ?_; rintro e w1 ⟨rfl, hb1⟩)
            have hb01 := HBW.out.trans (hb1.mono HBW.out.size)
            have hT1 : TabsN w1.drew := HT.out.below hb01.drew
            go_region_held3 (fun _ => True) (trivial) ((go_at_call 29; go_must (refine (HFI.out w1.drew hT1).mono ?_; rintro e w2 ⟨rfl, hb2⟩)))
            all_goals go_wp2
            · have hq2 : (!(q.toList == x.toList)) = true := by assumption
              have hq3 : (q.toList == x.toList) = false := by simpa using hq2
              go_ret3
              exact ⟨ret_intR (HV2.out.trans (if_neg (fun h => bytes_of_ne hq3 (HQ.out.1 h)))) rfl, hb01.drew.trans (hb2.mono hb01.size)⟩
            · have hq2 : (!(q.toList == x.toList)) = false := by assumption
              have hq3 : (q.toList == x.toList) = true := by simpa using hq2
              go_ret3
              exact ⟨ret_intR (HV2.out.trans (if_pos (HQ.out.2 (bytes_of_eq hq3)))) rfl, hb01.drew.trans (hb2.mono hb01.size)⟩
          · have HPI := Lib.hid (fun w hT => parseI_bad x w hxs (fun v h => hok ⟨v, h⟩) hT)
            have HV2 : Hid (intV t a = none) := Lib.hid (by rw [HV.out, parsed_none (fun v h => hok ⟨v, h⟩)]; rfl)
            have HTW := Lib.hid (HT.out.below HBW.out)
            clear hok
            go_wp2_with (go_at_call 96; refine (HPI.out _ HTW.out).mono ?_; rintro e w1 ⟨z, T, N, rfl, hb1⟩)
            have hb01 := HBW.out.trans (hb1.mono HBW.out.size)
            go_quiet (fail)
            go_wp2
            go_ret3
            exact ⟨ret_intR HV2.out rfl, below_drewN hb01 _⟩
        · have hx0 : (t[k]'h1).toNat = bAt t k := (bAt_get t k h1).symm
          obtain ⟨b, hb⟩ : ∃ b, b = bAt t k := ⟨_, rfl⟩
          rw [← hb] at hx0 h2
          clear hb
          go_wp2_with fail
          by_cases hok : ∃ v, Lib.parseIntB 64 x.data.toList = .ok v
          · obtain ⟨v, hv⟩ := hok
            have hvb := Lib.parseIntB_bounds hv
            have hv0 : -9223372036854775808 ≤ v := by have := hvb.1; simpa using this
            have hv1 : v ≤ 9223372036854775807 := by have := hvb.2; simp at this; omega
            have HPI := Lib.hid (fun w => parseI_ok x v w hxs hv)
            have HFI := Lib.hid (fun w hT => fmtI_any v w hv0 hv1 hT)
            have HV2 : Hid (intV t a = if Lib.itoa v = x.data.toList then some (v, k) else none) := Lib.hid (by
              rw [HV.out, parsed_ok hv]
              split <;> rfl)
            obtain ⟨q, hq⟩ : ∃ q : ByteArray, q = ⟨(Lib.itoa v).toArray⟩ := ⟨_, rfl⟩
            rw [← hq] at HFI
            have HQ : Hid (Lib.itoa v = x.data.toList ↔ q = x) := Lib.hid (by rw [hq]; exact ⟨fun h => by simp [h], fun h => by rw [← h]⟩)
            clear hq hv hvb
            go_wp2_with (go_at_call 96; refine (HPI.out _).mono ?_; rintro e w1 ⟨rfl, hb1⟩)
            have hb01 := HBW.out.trans (hb1.mono HBW.out.size)
            have hT1 : TabsN w1.drew := HT.out.below hb01.drew
            go_region_held3 (fun _ => True) (trivial) ((go_at_call 29; go_must (refine (HFI.out w1.drew hT1).mono ?_; rintro e w2 ⟨rfl, hb2⟩)))
            all_goals go_wp2
            · have hq2 : (!(q.toList == x.toList)) = true := by assumption
              have hq3 : (q.toList == x.toList) = false := by simpa using hq2
              go_ret3
              exact ⟨ret_intR (HV2.out.trans (if_neg (fun h => bytes_of_ne hq3 (HQ.out.1 h)))) rfl, hb01.drew.trans (hb2.mono hb01.size)⟩
            · have hq2 : (!(q.toList == x.toList)) = false := by assumption
              have hq3 : (q.toList == x.toList) = true := by simpa using hq2
              go_ret3
              exact ⟨ret_intR (HV2.out.trans (if_pos (HQ.out.2 (bytes_of_eq hq3)))) rfl, hb01.drew.trans (hb2.mono hb01.size)⟩
          · have HPI := Lib.hid (fun w hT => parseI_bad x w hxs (fun v h => hok ⟨v, h⟩) hT)
            have HV2 : Hid (intV t a = none) := Lib.hid (by rw [HV.out, parsed_none (fun v h => hok ⟨v, h⟩)]; rfl)
            have HTW := Lib.hid (HT.out.below HBW.out)
            clear hok
            go_wp2_with (go_at_call 96; refine (HPI.out _ HTW.out).mono ?_; rintro e w1 ⟨z, T, N, rfl, hb1⟩)
            have hb01 := HBW.out.trans (hb1.mono HBW.out.size)
            go_quiet (fail)
            go_wp2
            go_ret3
            exact ⟨ret_intR HV2.out rfl, below_drewN hb01 _⟩
        · have hx0 : (t[k]'h1).toNat = bAt t k := (bAt_get t k h1).symm
          obtain ⟨b, hb⟩ : ∃ b, b = bAt t k := ⟨_, rfl⟩
          rw [← hb] at hx0 h2 h3
          clear hb
          go_wp2_with fail
          by_cases hok : ∃ v, Lib.parseIntB 64 x.data.toList = .ok v
          · obtain ⟨v, hv⟩ := hok
            have hvb := Lib.parseIntB_bounds hv
            have hv0 : -9223372036854775808 ≤ v := by have := hvb.1; simpa using this
            have hv1 : v ≤ 9223372036854775807 := by have := hvb.2; simp at this; omega
            have HPI := Lib.hid (fun w => parseI_ok x v w hxs hv)
            have HFI := Lib.hid (fun w hT => fmtI_any v w hv0 hv1 hT)
            have HV2 : Hid (intV t a = if Lib.itoa v = x.data.toList then some (v, k) else none) := Lib.hid (by
              rw [HV.out, parsed_ok hv]
              split <;> rfl)
            obtain ⟨q, hq⟩ : ∃ q : ByteArray, q = ⟨(Lib.itoa v).toArray⟩ := ⟨_, rfl⟩
            rw [← hq] at HFI
            have HQ : Hid (Lib.itoa v = x.data.toList ↔ q = x) := Lib.hid (by rw [hq]; exact ⟨fun h => by simp [h], fun h => by rw [← h]⟩)
            clear hq hv hvb
            go_wp2_with (go_at_call 96; refine (HPI.out _).mono ?_; rintro e w1 ⟨rfl, hb1⟩)
            have hb01 := HBW.out.trans (hb1.mono HBW.out.size)
            have hT1 : TabsN w1.drew := HT.out.below hb01.drew
            go_region_held3 (fun _ => True) (trivial) ((go_at_call 29; go_must (refine (HFI.out w1.drew hT1).mono ?_; rintro e w2 ⟨rfl, hb2⟩)))
            all_goals go_wp2
            · have hq2 : (!(q.toList == x.toList)) = true := by assumption
              have hq3 : (q.toList == x.toList) = false := by simpa using hq2
              go_ret3
              exact ⟨ret_intR (HV2.out.trans (if_neg (fun h => bytes_of_ne hq3 (HQ.out.1 h)))) rfl, hb01.drew.trans (hb2.mono hb01.size)⟩
            · have hq2 : (!(q.toList == x.toList)) = false := by assumption
              have hq3 : (q.toList == x.toList) = true := by simpa using hq2
              go_ret3
              exact ⟨ret_intR (HV2.out.trans (if_pos (HQ.out.2 (bytes_of_eq hq3)))) rfl, hb01.drew.trans (hb2.mono hb01.size)⟩
          · have HPI := Lib.hid (fun w hT => parseI_bad x w hxs (fun v h => hok ⟨v, h⟩) hT)
            have HV2 : Hid (intV t a = none) := Lib.hid (by rw [HV.out, parsed_none (fun v h => hok ⟨v, h⟩)]; rfl)
            have HTW := Lib.hid (HT.out.below HBW.out)
            clear hok
            go_wp2_with (go_at_call 96; refine (HPI.out _ HTW.out).mono ?_; rintro e w1 ⟨z, T, N, rfl, hb1⟩)
            have hb01 := HBW.out.trans (hb1.mono HBW.out.size)
            go_quiet (fail)
            go_wp2
            go_ret3
            exact ⟨ret_intR HV2.out rfl, below_drewN hb01 _⟩
theorem int_bad (t : ByteArray) (a : Int) (w : World) (h : a < 0 ∨ (t.size : Int) < a) :
    Calls Tryz.prog 65 #[.string t, .int .i64 a] w fun e w' => e = .returned (.tuple #[.int .i64 0, .int .i64 0, .int .i64 2]) ∧ Below w.heap.size w w' := by
  have H := Lib.hid h
  clear h
  go_enter Tryz.func65, Tryz.ntmps65
  go_wp2_with (go_at_call 95; refine (inRange_no t a _ H.out).mono ?_; rintro e w1 ⟨rfl, rfl⟩)
  go_ret3
  exact ⟨rfl, Below.refl _ _⟩
end Go.Proofs.YtnoodiibkchaaaaGreatDoor
