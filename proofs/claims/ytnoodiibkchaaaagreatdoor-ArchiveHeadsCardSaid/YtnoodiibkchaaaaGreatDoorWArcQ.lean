/-
  WALK: ArchiveHeads.
-/
import Derived.Test.YtnoodiibkchaaaaGreatDoorXFin
import Derived.Test.YtnoodiibkchaaaaGreatDoorPFits
namespace Go.Proofs.YtnoodiibkchaaaaGreatDoor
open Go.RowKit
attribute [local go_sem ↓] Go.wp_at_zero Go.wp_at_succ

/-- the lists that are not too large hold no long string -/
def Mid (ss : List ByteArray) : Prop := ∀ s ∈ ss, s.size ≤ 200000
set_option maxRecDepth 100000 in
set_option maxHeartbeats 1000000 in
theorem large10s_any (v : Value) (ss : List ByteArray) (w : World) (h : RdT w v ss) (hl : ss.length ≤ 8796093022208) :
    Calls Tryz.prog 41 #[v] w fun e w' => (e = .returned (.int .i64 0) ∧ Mid ss ∨ e = .returned (.int .i64 1)) ∧ Below w.heap.size w w' := by
  have HH := Lib.hid h
  obtain ⟨ad, cap, rfl, hcap⟩ := Rd.slice h
  clear h
  go_enter Tryz.func41, Tryz.ntmps41
  go_wp2
  go_loopw [3, 8] (fun n i wr => ∃ (k : Nat) (m : Int), k ≤ ss.length ∧ n = .int .i64 m ∧ 0 ≤ m ∧ m ≤ 200000 ∧ i = .int .i64 (k : Nat) ∧ Hid (∀ (j : Nat) (s : ByteArray), j < k → ss[j]? = some s → s.size ≤ 200000) ∧ Below w.heap.size w wr) (fun _ i _ => ss.length - (intOf i).toNat)
  case atStart => exact ⟨0, 0, by omega, rfl, by omega, by omega, rfl, Lib.hid (fun j s hj => by omega), Below.refl _ _⟩
  case round =>
    obtain ⟨k, m, hk, rfl, hm0, hm1, rfl, HZ, hbr⟩ := hrel
    by_cases hlt : k < ss.length
    · obtain ⟨s, hx⟩ := at_some hlt
      have g1 := HH.out.below hbr
      obtain ⟨b1, o1, rfl, c1⟩ := RdT.at g1 hx
      have hklt : (k : Int) < ss.length := by omega
      have HBR := Lib.hid hbr
      have hs0 : (0 : Int) ≤ (s.size : Int) := by omega
      have HX := Lib.hid hx
      have NX : Hid ((s.size : Int) ≤ 200000 → ∀ (j : Nat) (s : ByteArray), j < k + 1 → ss[j]? = some s → s.size ≤ 200000) := Lib.hid (fun h2 j s' hj hs' => by
        by_cases e : j = k
        · subst e; rw [HX.out] at hs'; obtain rfl := Option.some.inj hs'; omega
        · exact HZ.out j s' (by omega) hs')
      clear hx g1 hlt hbr
      go_wp2
      all_goals first
        | (go_ret; exact ⟨.inr rfl, HBR.out⟩)
        | (exact ⟨⟨k + 1, _, by omega, rfl, by omega, by omega, rfl, Lib.hid (NX.out (by omega)), HBR.out⟩, by simp [intOf]; omega⟩)
    · obtain rfl : k = ss.length := by omega
      have HM : Hid (Mid ss) := Lib.hid (fun s hs => by
        obtain ⟨j, hj, e⟩ := List.getElem_of_mem hs
        exact HZ.out j s hj (by rw [List.getElem?_eq_getElem hj, e]))
      go_wp2
      go_ret
      exact ⟨.inl ⟨rfl, HM.out⟩, hbr⟩
theorem large11s_any (v : Value) (l : List Lab) (w : World) (h : RdL w v l) (hl : l.length ≤ 4398046511104) :
    Calls Tryz.prog 16 #[v] w fun e w' => (e = .returned (.int .i64 0) ∧ Mid (strsL l) ∨ e = .returned (.int .i64 1)) ∧ Below w.heap.size w w' := by
  have HS := Lib.hid (strings_any v l w h hl)
  obtain ⟨ad, cap, rfl, hcap⟩ := h.slice
  clear h
  by_cases h1 : 200 < l.length
  · have h1' : (200 : Int) < (l.length : Int) := by omega
    clear h1
    go_enter Tryz.func16, Tryz.ntmps16
    go_wp2
    go_ret
    exact ⟨.inr rfl, Below.refl _ _⟩
  · have h1' : (l.length : Int) ≤ 200 := by omega
    clear h1
    go_enter Tryz.func16, Tryz.ntmps16
    go_wp2_with (go_at_call 17; refine HS.out.mono ?_; rintro e w1 ⟨v', rfl, hr, hb1⟩)
    have hL := large10s_any v' (strsL l) w1 (rdT_row hr) (by rw [strsL_length]; omega)
    have HL := Lib.hid hL
    obtain ⟨a1, c1, rfl⟩ := row_slice hr
    clear hr hL
    go_wp2_with (go_at_call 41; refine HL.out.mono ?_; rintro e w2 ⟨he, hb2⟩; rcases he with ⟨rfl, hm⟩ | rfl)
    · go_ret
      exact ⟨.inl ⟨rfl, hm⟩, hb1.trans (hb2.mono hb1.size)⟩
    · go_ret
      exact ⟨.inr rfl, hb1.trans (hb2.mono hb1.size)⟩
theorem sum_bound {ss : List ByteArray} (h : Mid ss) : ∀ k, sumS (ss.take k) ≤ 200000 * k := by
  intro k
  induction k with
  | zero => simp [sumS]
  | succ k ih =>
    by_cases hk : k < ss.length
    · rw [sumS_take (List.getElem?_eq_getElem hk)]
      have := h _ (List.getElem_mem hk)
      omega
    · rw [List.take_of_length_le (by omega)] at ih ⊢
      omega
set_option maxHeartbeats 2000000 in
set_option maxRecDepth 100000 in
theorem archiveHeads_any (v : Value) (l : List Lab) (w : World) (hr : RdL w v l) (hT : TabsN w) (hl : l.length ≤ 4398046511104) :
    Calls Tryz.prog 6 #[v] w fun e w' => e = .returned (.bool true) ∧ Below w.heap.size w w' := by
  have HT : Hid (∀ q, Below w.heap.size w q → TabsN q) := Lib.hid (fun q hq => hT.below hq)
  have HL := Lib.hid (large11s_any v l w hr hl)
  have HS := Lib.hid (fun q (hq : Below w.heap.size w q) => strings_any v l q (hr.below hq) hl)
  have HAL := Lib.hid (fun q (hq : Below w.heap.size w q) => alive23_any q (HT.out q hq))
  have HFI := Lib.hid (fun h h2 => @heads_fit l h h2)
  have HLB := Lib.hid (fun q (hq : Below w.heap.size w q) => hr.below hq)
  have HH := Lib.hid (fun (hf : (labsT l).length ≤ 1099511627776) q (hq : Below w.heap.size w q) => head_any v l q (hr.below hq) (HT.out q hq).a.tabs hf)
  have HRH := Lib.hid (fun (hf : (labsT l).length ≤ 1099511627776) q (hq : Below w.heap.size w q) => refHead_any v l q (hr.below hq) (HT.out q hq).a.tabs hf)
  obtain ⟨t, ht⟩ : ∃ t, t = strOf (headL l) := ⟨_, rfl⟩
  have HP := Lib.hid (fun (hf : (headL l).length ≤ 1099511627776) q (hq : Below w.heap.size w q) => parse_some t l q 0 (Nat.zero_le _) (by rw [ht, strOf_size]; exact hf) (HT.out q hq).a.tabs (by rw [ht]; exact hd_round l))
  rw [← ht] at HH HRH
  obtain ⟨ad, cap, rfl, hcap⟩ := hr.slice
  clear hT hr ht
  by_cases h20 : l.length ≤ 20
  · have hi20 : (l.length : Int) ≤ 20 := by omega
    clear hl
    go_enter Tryz.func6, Tryz.ntmps6
    go_wp2_with (go_at_call 16; refine HL.out.mono ?_; rintro r w1 ⟨he, hb1⟩; rcases he with ⟨rfl, hmid⟩ | rfl)
    · have HB1 := Lib.hid hb1
      clear hb1
      go_wp2_with (go_at_call 17; refine (HS.out _ HB1.out).mono ?_; rintro r w2 ⟨v2, rfl, hr2, hb2⟩; obtain ⟨a2, c2, rfl⟩ := row_slice hr2)
      have HB2 := Lib.hid (HB1.out.trans (hb2.mono HB1.out.size))
      clear hb2 hr2
      go_wp2_with (go_at_call 17; refine (HS.out _ HB2.out).mono ?_; rintro r w3 ⟨v3, rfl, hr3, hb3⟩; have HR3 := Lib.hid (rdT_row hr3); obtain ⟨a3, c3, rfl⟩ := row_slice hr3)
      have HB3 := Lib.hid (HB2.out.trans (hb3.mono HB2.out.size))
      clear hb3 hr3
      have hs2 := strsL_length l
      have hsl : ((2 * l.length : Nat) : Int) = 2 * (l.length : Int) := by omega
      have HSB := Lib.hid (sum_bound hmid)
      clear hmid
      go_loopw [3, 22] (fun n i wr => ∃ k : Nat, k ≤ 2 * l.length ∧ n = .int .i64 ((sumS ((strsL l).take k) : Nat) : Int) ∧ i = .int .i64 (k : Nat) ∧ Below w3.heap.size w3 wr) (fun _ i _ => 2 * l.length - (intOf i).toNat)
      case atStart => exact ⟨0, by omega, by simp [sumS], rfl, Below.refl _ _⟩
      case round =>
        obtain ⟨k, hk, rfl, rfl, hbr⟩ := hrel
        by_cases hlt : k < 2 * l.length
        · obtain ⟨s, hx⟩ := at_some (l := strsL l) (k := k) (by omega)
          have g1 := HR3.out.below hbr
          rw [← hs2] at hk hlt ⊢
          have g2 : RdT wr (.slice a3 (strsL l).length c3) (strsL l) := by rw [hs2]; exact g1
          obtain ⟨b1, o1, rfl, c1⟩ := RdT.at g2 hx
          have hklt : (k : Int) < ((strsL l).length : Int) := by omega
          have hst := sumS_take hx
          have hsb := HSB.out (k + 1)
          have hk40 : k < 40 := by omega
          have hs0 : (0 : Int) ≤ (s.size : Int) := by omega
          have hbd1 : ((sumS ((strsL l).take k) : Nat) : Int) + (s.size : Int) ≤ 8000000 := by omega
          have hbd0 : (0 : Int) ≤ ((sumS ((strsL l).take k) : Nat) : Int) := by omega
          have HST := Lib.hid hst
          clear hx g1 g2 hst hsb
          go_wp2
          exact ⟨⟨k + 1, by omega, by rw [HST.out]; simp, rfl, hbr⟩, by simp [intOf]; omega⟩
        · obtain rfl : k = 2 * l.length := by omega
          have HBR := Lib.hid (HB3.out.trans (hbr.mono HB3.out.size))
          clear hbr
          rw [← hs2, List.take_length]
          by_cases hsum : sumS (strsL l) ≤ 20000
          · have hsumi : ((sumS (strsL l) : Nat) : Int) ≤ 20000 := by omega
            obtain ⟨f1, _, f2⟩ := HFI.out (by omega) hsum
            have HH' := Lib.hid (HH.out f1); have HRH' := Lib.hid (HRH.out f1); have HP' := Lib.hid (HP.out f2)
            have hll : l.length ≤ 1099511627776 := by omega
            clear hsum f1 f2
            go_wp2_with (go_at_call 18; refine (HH'.out _ HBR.out).mono ?_; rintro r w4 ⟨rfl, hb4⟩)
            have HB4 := Lib.hid (HBR.out.trans (hb4.mono HBR.out.size))
            clear hb4
            go_wp2_with (go_at_call 19; refine (HP'.out _ HB4.out).mono ?_; rintro r w5 ⟨⟨la5, lc5, rfl, hr5⟩, hb5⟩)
            have HB5 := Lib.hid (HB4.out.trans (hb5.mono HB4.out.size)); have HR5 := Lib.hid (rdL_row hr5)
            clear hb5 hr5
            go_wp2_with (go_at_call 10; refine (HAL.out _ HB5.out).mono ?_; rintro r w6 ⟨rfl, hb6⟩)
            have HB6 := Lib.hid (HB5.out.trans (hb6.mono HB5.out.size)); have HR6 := Lib.hid (HR5.out.below hb6)
            clear hb6
            go_wp2_with (go_at_call 20; refine (HRH'.out _ HB6.out).mono ?_; rintro r w7 ⟨rfl, hb7⟩)
            have HB7 := Lib.hid (HB6.out.trans (hb7.mono HB6.out.size)); have HR7 := Lib.hid (HR6.out.below hb7)
            clear hb7
            go_wp2_with (go_at_call 21; refine (eqLabels_same _ _ l _ (HLB.out _ HB7.out) HR7.out hll).mono ?_; rintro r w8 ⟨rfl, hb8⟩)
            go_ret
            exact ⟨by first | rfl | simp, HB7.out.trans (hb8.mono HB7.out.size)⟩
          · have hsumi : (20000 : Int) < ((sumS (strsL l) : Nat) : Int) := by omega
            clear hsum
            go_wp2_with (go_at_call 10; refine (HAL.out _ HBR.out).mono ?_; rintro r w6 ⟨rfl, hb6⟩)
            go_ret
            exact ⟨rfl, HBR.out.trans (hb6.mono HBR.out.size)⟩
    · have HB1 := Lib.hid hb1
      clear hb1
      go_wp2_with (go_at_call 10; refine (HAL.out _ HB1.out).mono ?_; rintro r w3 ⟨rfl, hb3⟩)
      go_ret
      exact ⟨rfl, HB1.out.trans (hb3.mono HB1.out.size)⟩
  · have hi20 : (40 : Int) < 2 * (l.length : Int) := by omega
    go_enter Tryz.func6, Tryz.ntmps6
    go_wp2_with (go_at_call 16; refine HL.out.mono ?_; rintro r w1 ⟨he, hb1⟩; rcases he with ⟨rfl, hmid⟩ | rfl)
    · have HB1 := Lib.hid hb1
      clear hb1
      go_wp2_with (go_at_call 17; refine (HS.out _ HB1.out).mono ?_; rintro r w2 ⟨v2, rfl, hr2, hb2⟩; obtain ⟨a2, c2, rfl⟩ := row_slice hr2)
      have HB2 := Lib.hid (HB1.out.trans (hb2.mono HB1.out.size))
      clear hb2 hr2
      go_wp2_with (go_at_call 10; refine (HAL.out _ HB2.out).mono ?_; rintro r w3 ⟨rfl, hb3⟩)
      go_ret
      exact ⟨rfl, HB2.out.trans (hb3.mono HB2.out.size)⟩
    · have HB1 := Lib.hid hb1
      clear hb1
      go_wp2_with (go_at_call 10; refine (HAL.out _ HB1.out).mono ?_; rintro r w3 ⟨rfl, hb3⟩)
      go_ret
      exact ⟨rfl, HB1.out.trans (hb3.mono HB1.out.size)⟩
end Go.Proofs.YtnoodiibkchaaaaGreatDoor
