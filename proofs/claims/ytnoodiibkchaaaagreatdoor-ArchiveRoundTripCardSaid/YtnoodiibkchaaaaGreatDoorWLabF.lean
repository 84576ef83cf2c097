/-
  WALKS: the reference's Check and Compare of labels (printed by gen_lab3.py).
-/
import Derived.Test.YtnoodiibkchaaaaGreatDoorWLabE
import Derived.BigQuiet
namespace Go.Proofs.YtnoodiibkchaaaaGreatDoor
open Go.RowKit
attribute [local go_sem ↓] Go.wp_at_zero Go.wp_at_succ

theorem lbelow_drewN {B : Nat} {a b : World} (h : Below B a b) (n : Nat) : Below B a (b.drewN n) := ⟨h.os, h.tape, h.output, h.size, h.block⟩
theorem ord_eq (q x : ByteArray) (h : ordS q x = 0) : (x.toList == q.toList) = true := by rw [ordS_zero.1 h]; simp
theorem ord_ne (q x : ByteArray) (h : ordS q x ≠ 0) : (x.toList == q.toList) = false := by
  rw [Bool.eq_false_iff]
  intro e
  exact h (ordS_zero.2 (toList_inj' e).symm)
theorem ord_gt (q x : ByteArray) (h : ordS q x = 1) : Op.bytesLess x.toList q.toList = true := by
  rw [less_flip]
  unfold ordS at h
  split at h
  · cases h
  · split at h
    · cases h
    · rename_i h1 h2
      simp [h1, h2]
theorem ord_lt (q x : ByteArray) (h : ordS q x = -1) : Op.bytesLess x.toList q.toList = false := by
  rw [less_flip]
  unfold ordS at h
  split at h
  · rename_i h1; simp [h1]
  · split at h <;> cases h
set_option maxHeartbeats 2000000 in
set_option maxRecDepth 100000 in
theorem refCheck_any (v : Value) (l : List Lab) (w : World) (h : RdL w v l) (hl : l.length ≤ 1099511627776) :
    Calls Tryz.prog 49 #[v] w fun e w' => e = .returned (.int .i64 (chkE none l)) ∧ Below w.heap.size w w' := by
  have HH := Lib.hid h
  obtain ⟨ad, cap, rfl, hcap⟩ := h.slice
  clear h
  go_enter Tryz.func49, Tryz.ntmps49
  go_wp2
  go_loopw [3] (fun i wr => KRel l w i wr) (fun i _ => l.length - (intOf i).toNat)
  case atStart => exact ⟨0, by omega, rfl, Lib.hid rfl, Below.refl _ _⟩
  case round =>
    obtain ⟨k, hk, rfl, HE, hbr⟩ := hrel
    by_cases hkl : k < l.length
    · have hrd : RdL wr (.slice ad l.length cap) l := HH.out.below hbr
      obtain ⟨⟨x1, x2⟩, hx⟩ := at_some hkl
      obtain ⟨b, off, rfl, c1, c2⟩ := hrd.at hx
      have hkl' : (k : Int) < (l.length : Int) := by omega
      have HBR := Lib.hid hbr
      have HSG := Lib.hid (lone_any (x1, x2) wr)
      have HX := Lib.hid hx
      have HRD := Lib.hid hrd
      obtain ⟨E, hE⟩ : ∃ E, E = labE (x1, x2) := ⟨_, rfl⟩
      rw [← hE] at HSG
      have HLE := Lib.hid hE
      clear hx hrd hE hkl hbr
      by_cases hz : E = 0
      · subst hz
        rcases Nat.eq_zero_or_pos k with rfl | hkp
        · simp only [Nat.zero_mul, Nat.add_zero] at c1 c2
          have h0l : (0 : Int) < (l.length : Int) := by omega
          clear hkl' hk
          go_wp2_with (go_at_call 78; refine HSG.out.mono ?_; rintro e w3 ⟨rfl, hb3⟩)
          have HB3 := Lib.hid (HBR.out.trans (hb3.mono HBR.out.size))
          clear hb3 c1 c2
          go_quiet (fail)
          go_wp2
          go_quiet (fail)
          go_wp2
          exact ⟨KRel.next HX.out HE.out (chkE_first _ _ HLE.out.symm) (lbelow_drewN HB3.out _), by simp [intOf]; omega⟩
        · obtain ⟨j, rfl⟩ : ∃ j, k = j + 1 := ⟨k - 1, by omega⟩
          obtain ⟨⟨q1, q2⟩, hq⟩ := at_some (l := l) (k := j) (by omega)
          obtain ⟨b', off', hbb, d1, d2⟩ := HRD.out.at hq
          simp only [Option.some.injEq, Addr.mk.injEq, and_true] at hbb
          obtain ⟨rfl, rfl⟩ := hbb
          have hjl : (j : Int) < (l.length : Int) := by omega
          have hjl2 : ((j : Int) + 1) < (l.length : Int) := by omega
          have HQ : Hid (chkE none l = chkE (some (q1, q2)) (l.drop (j + 1))) := Lib.hid (by rw [HE.out, prevOf_succ, hq])
          have hj0 : (0 : Int) ≤ (j : Int) := by omega
          have hj1 : (0 : Int) < (j : Int) + 1 := by omega
          have hj2 : (0 : Int) ≤ (j : Int) + 1 := by omega
          have hjw : IntKind.i64.wrap (j : Int) = (j : Int) := by rw [IntKind.wrap_i64]; omega
          have HD1 := Lib.hid d1; have HC1 := Lib.hid c1
          clear hkp hk hq hkl' d1 d2
          have hway := ordS_ways q1 x1
          have HO1 : Hid (ordS q1 x1 ≠ 0 → (x1.toList == q1.toList) = false) := Lib.hid (ord_ne q1 x1)
          go_wp2_with (go_at_call 78; refine HSG.out.mono ?_; rintro e w3 ⟨rfl, hb3⟩)
          have HB3 := Lib.hid (HBR.out.trans (hb3.mono HBR.out.size))
          have d1 : w3.cell? ⟨b, off + j * 2, none⟩ = some (.string q1) := by rw [hb3.cell (World.block_lt_of_cell? wr _ HD1.out)]; exact HD1.out
          have e1 : w3.cell? ⟨b, off + (j + 1) * 2, none⟩ = some (.string x1) := by rw [hb3.cell (World.block_lt_of_cell? wr _ HC1.out)]; exact HC1.out
          clear hb3 c1 c2
          rcases hway with hw | hw | hw
          · have g1 := HO1.out (by rw [hw]; decide)
            have g2 := ord_lt q1 x1 hw
            have HW := Lib.hid hw
            clear hw
            go_quiet (fail)
            go_wp2
            go_quiet (fail)
            go_wp2
            exact ⟨KRel.next (p := some (q1, q2)) HX.out HQ.out (chkE_next _ _ _ HLE.out.symm HW.out) (lbelow_drewN HB3.out _), by simp [intOf]; omega⟩
          · have g1 := ord_eq q1 x1 hw
            have HF : Hid (chkE none l = 18) := Lib.hid (HQ.out.trans (by rw [drop_at HX.out]; exact chkE_dup _ _ _ HLE.out.symm hw))
            clear hw
            go_quiet (fail)
            go_wp2
            go_ret
            exact ⟨ret_i64 HF.out.symm, lbelow_drewN HB3.out _⟩
          · have g1 := HO1.out (by rw [hw]; decide)
            have g2 := ord_gt q1 x1 hw
            have HF : Hid (chkE none l = 16) := Lib.hid (HQ.out.trans (by rw [drop_at HX.out]; exact chkE_ord _ _ _ HLE.out.symm hw))
            clear hw
            go_quiet (fail)
            go_wp2
            go_quiet (fail)
            go_wp2
            go_ret
            exact ⟨ret_i64 HF.out.symm, lbelow_drewN (lbelow_drewN HB3.out _) _⟩
      · have hn : (E != 0) = true := by simpa using hz
        have HF : Hid (chkE none l = E) := Lib.hid (by rw [HE.out, drop_at HX.out, chkE_err _ _ _ (by rw [← HLE.out]; exact hz)]; exact HLE.out.symm)
        clear hz hk HE
        go_wp2_with (go_at_call 78; refine HSG.out.mono ?_; rintro e w3 ⟨rfl, hb3⟩)
        go_ret
        exact ⟨ret_i64 HF.out.symm, HBR.out.trans (hb3.mono HBR.out.size)⟩
    · obtain rfl : k = l.length := by omega
      have HF : Hid (chkE none l = 0) := Lib.hid (by rw [HE.out, List.drop_length]; unfold chkE; rfl)
      clear HE
      go_wp2
      go_ret
      exact ⟨ret_i64 HF.out.symm, hbr⟩
set_option maxHeartbeats 2000000 in
set_option maxRecDepth 100000 in
theorem refCompare_any (va vb : Value) (a b : List Lab) (w : World) (ha : RdL w va a) (hb : RdL w vb b) (hla : a.length ≤ 1099511627776) (hlb : b.length ≤ 1099511627776) :
    Calls Tryz.prog 39 #[va, vb] w fun e w' => e = .returned (.int .i64 (cmpL a b)) ∧ Below w.heap.size w w' := by
  have HA := Lib.hid ha; have HB := Lib.hid hb
  obtain ⟨aa, ca, rfl, hca⟩ := ha.slice
  obtain ⟨ab, cb, rfl, hcb⟩ := hb.slice
  clear ha hb
  go_enter Tryz.func39, Tryz.ntmps39
  go_wp2
  go_loopw [5] (fun i wr => ∃ k : Nat, k ≤ a.length ∧ k ≤ b.length ∧ i = .int .i64 (k : Nat) ∧ Hid (cmpL a b = cmpL (a.drop k) (b.drop k)) ∧ Below w.heap.size w wr) (fun i _ => a.length - (intOf i).toNat)
  case atStart => exact ⟨0, by omega, by omega, rfl, Lib.hid rfl, Below.refl _ _⟩
  case round =>
    obtain ⟨k, hk, hkb, rfl, HE, hbr⟩ := hrel
    have hra := HA.out.below hbr
    have hrb := HB.out.below hbr
    by_cases hka : k < a.length
    · obtain ⟨⟨x1, x2⟩, hx⟩ := at_some hka
      obtain ⟨ba, oa, rfl, c1, c2⟩ := hra.at hx
      have hka' : (k : Int) < (a.length : Int) := by omega
      by_cases hkb2 : k < b.length
      · obtain ⟨⟨y1, y2⟩, hy⟩ := at_some hkb2
        obtain ⟨bb, ob, rfl, c3, c4⟩ := hrb.at hy
        have hkb' : (k : Int) < (b.length : Int) := by omega
        have hk0 : (0 : Int) ≤ (k : Int) := by omega
        have HST : Hid (cmpL a b = if cmpE (x1, x2) (y1, y2) ≠ 0 then cmpE (x1, x2) (y1, y2) else cmpL (a.drop (k + 1)) (b.drop (k + 1))) := Lib.hid (by
          rw [HE.out, drop_at hx, drop_at hy, cmpL_step])
        have HCE : Hid (cmpE (x1, x2) (y1, y2) = if ordS x1 y1 ≠ 0 then ordS x1 y1 else ordS x2 y2) := Lib.hid rfl
        have HBR := Lib.hid hbr
        have CC : Hid (∀ wq, Below wr.heap.size wr wq → wq.cell? ⟨ba, oa + k * 2, none⟩ = some (.string x1) ∧ wq.cell? ⟨ba, oa + k * 2 + 1, none⟩ = some (.string x2) ∧ wq.cell? ⟨bb, ob + k * 2, none⟩ = some (.string y1) ∧ wq.cell? ⟨bb, ob + k * 2 + 1, none⟩ = some (.string y2) ∧ True) := Lib.hid (fun wq h => by
          refine ⟨?_, ?_, ?_, ?_, trivial⟩
          · rw [h.cell (World.block_lt_of_cell? wr _ c1)]; exact c1
          · rw [h.cell (World.block_lt_of_cell? wr _ c2)]; exact c2
          · rw [h.cell (World.block_lt_of_cell? wr _ c3)]; exact c3
          · rw [h.cell (World.block_lt_of_cell? wr _ c4)]; exact c4)
        have CO1 : Hid (∀ wq, Below wr.heap.size wr wq → Calls Tryz.prog 69 #[.string x1, .string y1] wq fun e w' => e = .returned (.int .i64 (ordS x1 y1)) ∧ Below wr.heap.size wr w') := Lib.hid (fun wq h => (order_any x1 y1 wq).mono fun e w' ⟨he, hb⟩ => ⟨he, hb ▸ h⟩)
        have CO2 : Hid (∀ wq, Below wr.heap.size wr wq → Calls Tryz.prog 69 #[.string x2, .string y2] wq fun e w' => e = .returned (.int .i64 (ordS x2 y2)) ∧ Below wr.heap.size wr w') := Lib.hid (fun wq h => (order_any x2 y2 wq).mono fun e w' ⟨he, hb⟩ => ⟨he, hb ▸ h⟩)
        obtain ⟨D1, hD1⟩ : ∃ D, D = ordS x1 y1 := ⟨_, rfl⟩
        obtain ⟨D2, hD2⟩ : ∃ D, D = ordS x2 y2 := ⟨_, rfl⟩
        rw [← hD1] at CO1 HCE
        rw [← hD2] at CO2 HCE
        clear hx hy HE hra hrb hka hkb2 hD1 hD2 hbr c1 c2 c3 c4
        go_wp2_with fail
        refine wp_region_class (fun x => Below wr.heap.size wr x) (by kernel_rfl) (by kernel_rfl) ((Below.refl _ _).drew) ?_
        repeat (
          refine wpQuiet_step (fun K hK => ?_)
          go_simp
          first
            | (refine hK _ ?_; clear hK K)
            | (refine ⟨_, fun _ _ => rfl, hK _ ?_⟩; clear hK K)
            | (apply Exists.intro
               refine ⟨fun wq hwq => ?_, hK _ ?_⟩
               (first
                | (go_at_call 69; exact CO1.out _ hwq)
                | (have hc := CC.out _ hwq; go_simp; exact rfl)
                | (obtain ⟨hc0, hc1, hc2, hc3, hc4⟩ := CC.out _ hwq; go_simp; exact rfl))
               clear hK K))
        refine wpQuiet_nil ?_
        intro wr1 hw1
        by_cases hz : D1 = 0
        · have he : (D1 == 0) = true := by simpa using hz
          have HCE2 := Lib.hid (HCE.out.trans (if_neg (by simpa using hz)))
          clear HCE CO1 hz
          go_wp2_with fail
          refine wp_region_class (fun x => Below wr.heap.size wr x) (by kernel_rfl) (by kernel_rfl) (hw1.drew) ?_
          repeat (
            refine wpQuiet_step (fun K hK => ?_)
            go_simp
            first
              | (refine hK _ ?_; clear hK K)
              | (refine ⟨_, fun _ _ => rfl, hK _ ?_⟩; clear hK K)
              | (apply Exists.intro
                 refine ⟨fun wq hwq => ?_, hK _ ?_⟩
                 (first
                  | (go_at_call 69; exact CO2.out _ hwq)
                  | (have hc := CC.out _ hwq; go_simp; exact rfl)
                  | (obtain ⟨hc0, hc1, hc2, hc3, hc4⟩ := CC.out _ hwq; go_simp; exact rfl))
                 clear hK K))
          refine wpQuiet_nil ?_
          intro wr2 hw2
          by_cases hz2 : D2 = 0
          · have hn : (D2 != 0) = false := by simpa using hz2
            have HN := Lib.hid (HST.out.trans (if_neg (by rw [HCE2.out]; simpa using hz2)))
            clear hz2 HST HCE2
            go_wp2
            exact ⟨⟨k + 1, by omega, by omega, rfl, HN, HBR.out.trans (hw2.mono HBR.out.size)⟩, by simp [intOf]; omega⟩
          · have hn : (D2 != 0) = true := by simpa using hz2
            have HN : Hid (cmpL a b = D2) := Lib.hid ((HST.out.trans (if_pos (by rw [HCE2.out]; exact hz2))).trans HCE2.out)
            clear hz2 HST HCE2
            go_wp2
            go_ret
            exact ⟨ret_i64 HN.out.symm, HBR.out.trans (hw2.mono HBR.out.size)⟩
        · have he : (D1 == 0) = false := by simpa using hz
          have hn : (D1 != 0) = true := by simpa using hz
          have HCE2 := Lib.hid (HCE.out.trans (if_pos hz))
          have HN : Hid (cmpL a b = D1) := Lib.hid ((HST.out.trans (if_pos (by rw [HCE2.out]; exact hz))).trans HCE2.out)
          clear HCE hz HST HCE2
          go_wp2
          go_ret
          exact ⟨ret_i64 HN.out.symm, HBR.out.trans (hw1.mono HBR.out.size)⟩
      · obtain rfl : k = b.length := by omega
        have HN : Hid (cmpL a b = 1) := Lib.hid (by rw [HE.out, drop_at hx, List.drop_length]; rfl)
        have hgt : (b.length : Int) < (a.length : Int) := hka'
        have hgt2 : (b.length : Int) ≤ (a.length : Int) := by omega
        clear hx HE hra hrb hka
        go_wp2
        go_ret
        exact ⟨ret_i64 HN.out.symm, hbr⟩
    · obtain rfl : k = a.length := by omega
      by_cases hlt : a.length < b.length
      · have HN : Hid (cmpL a b = -1) := Lib.hid (by
          obtain ⟨y, hy⟩ := at_some hlt
          rw [HE.out, List.drop_length, drop_at hy]; rfl)
        have hlt' : (a.length : Int) < (b.length : Int) := by omega
        clear HE hra hrb
        go_wp2
        go_ret
        exact ⟨ret_i64 HN.out.symm, hbr⟩
      · have heq : a.length = b.length := by omega
        have HN : Hid (cmpL a b = 0) := Lib.hid (by
          rw [HE.out, List.drop_length, show b.drop a.length = [] from List.drop_eq_nil_of_le (by omega)]; rfl)
        have hlt' : (b.length : Int) ≤ (a.length : Int) := by omega
        have hlt2 : (a.length : Int) ≤ (b.length : Int) := by omega
        clear HE hra hrb heq
        go_wp2
        go_ret
        exact ⟨ret_i64 HN.out.symm, hbr⟩
end Go.Proofs.YtnoodiibkchaaaaGreatDoor
