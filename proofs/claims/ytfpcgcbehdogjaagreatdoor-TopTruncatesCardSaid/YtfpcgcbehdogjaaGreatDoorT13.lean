/-
  Lemmas on which LTopTruncates rests, packed out of the texts WLabF WModA WModB WModC PTwoZ; each for all arguments under the hypotheses it names.
-/
import Derived.Test.YtfpcgcbehdogjaaGreatDoorT10
import Derived.Test.YtfpcgcbehdogjaaGreatDoorT11
namespace Go.Proofs.YtfpcgcbehdogjaaGreatDoor
section
set_option maxHeartbeats 2000000
set_option maxRecDepth 100000
open Go.RowKit
attribute [local go_sem ↓] Go.wp_at_zero Go.wp_at_succ
theorem qav {B : Nat} {a b : World} (h : Below B a b) (n : Nat) : Below B a (b.drewN n) := ⟨h.os, h.tape, h.output, h.size, h.block⟩
theorem ord_eq (q x : ByteArray) (h : ordS q x = 0) : (x.toList == q.toList) = true := by rw [ordS_zero.1 h]; simp
theorem ord_ne (q x : ByteArray) (h : ordS q x ≠ 0) : (x.toList == q.toList) = false := by
 rw [Bool.eq_false_iff]
 intro e
 exact h (ordS_zero.2 (toList_inj' e).symm)
theorem ord_gt (q x : ByteArray) (h : ordS q x = 1) : Op.bytesLess x.toList q.toList = true := by
 rw [qda]
 unfold ordS at h
 split at h
 · cases h
 · split at h
   · cases h
   · rename_i h1 h2
     simp [h1, h2]
theorem ord_lt (q x : ByteArray) (h : ordS q x = -1) : Op.bytesLess x.toList q.toList = false := by
 rw [qda]
 unfold ordS at h
 split at h
 · rename_i h1; simp [h1]
 · split at h <;> cases h
theorem refCheck_any (v : Value) (l : List Lab) (w : World) (h : RdL w v l) (hl : l.length ≤ 1099511627776) :
 Calls Tryz.prog 59 #[v] w fun e w' => e = .returned (.int .i64 (chkE none l)) ∧ Below w.heap.size w w' := by
 have HH := Hj h
 obtain ⟨ad, cap, rfl, hcap⟩ := h.slice
 clear h
 go_enter Tryz.func59, Tryz.ntmps59
 go_wp2
 go_loopw [3] (fun i wr => KRel l w i wr) (fun i _ => l.length - (intOf i).toNat)
 case atStart => exact ⟨0, by omega, rfl, Hj rfl, Below.refl _ _⟩
 case round =>
  obtain ⟨k, hk, rfl, HE, hbr⟩ := hrel
  by_cases hkl : k < l.length
  · have hrd : RdL wr (.slice ad l.length cap) l := HH.out.below hbr
    obtain ⟨⟨x1, x2⟩, hx⟩ := qaj hkl
    obtain ⟨b, off, rfl, c1, c2⟩ := hrd.at hx
    have hkl' : (k : Int) < (l.length : Int) := by omega
    have HBR := Hj hbr
    have HSG := Hj (lone_any (x1, x2) wr)
    have HX := Hj hx
    have HRD := Hj hrd
    obtain ⟨E, hE⟩ : ∃ E, E = labE (x1, x2) := ⟨_, rfl⟩
    rw [← hE] at HSG
    have HLE := Hj hE
    clear hx hrd hE hkl hbr
    by_cases hz : E = 0
    · subst hz
      rcases Nat.eq_zero_or_pos k with rfl | hkp
      · simp only [Nat.zero_mul, Nat.add_zero] at c1 c2
        have h0l : (0 : Int) < (l.length : Int) := by omega
        clear hkl' hk
        go_wp2_with (go_at_call 113; refine HSG.out.mono ?_; rintro e w3 ⟨rfl, hb3⟩)
        have HB3 := Hj (HBR.out.trans (hb3.mono HBR.out.size))
        clear hb3 c1 c2
        go_quiet (fail)
        go_wp2
        go_quiet (fail)
        go_wp2
        exact ⟨KRel.next HX.out HE.out (qkl _ _ HLE.out.symm) (qav HB3.out _), by simp [intOf]; omega⟩
      · obtain ⟨j, rfl⟩ : ∃ j, k = j + 1 := ⟨k - 1, by omega⟩
        obtain ⟨⟨q1, q2⟩, hq⟩ := qaj (l := l) (k := j) (by omega)
        obtain ⟨b', off', hbb, d1, d2⟩ := HRD.out.at hq
        simp only [Option.some.injEq, Addr.mk.injEq, and_true] at hbb
        obtain ⟨rfl, rfl⟩ := hbb
        have hjl : (j : Int) < (l.length : Int) := by omega
        have hjl2 : ((j : Int) + 1) < (l.length : Int) := by omega
        have HQ : Hid (chkE none l = chkE (some (q1, q2)) (l.drop (j + 1))) := Hj (by rw [HE.out, qfr, hq])
        have hj0 : (0 : Int) ≤ (j : Int) := by omega
        have hj1 : (0 : Int) < (j : Int) + 1 := by omega
        have hj2 : (0 : Int) ≤ (j : Int) + 1 := by omega
        have hjw : IntKind.i64.wrap (j : Int) = (j : Int) := by rw [IntKind.wrap_i64]; omega
        have HD1 := Hj d1; have HC1 := Hj c1
        clear hkp hk hq hkl' d1 d2
        have hway := ordS_ways q1 x1
        have HO1 : Hid (ordS q1 x1 ≠ 0 → (x1.toList == q1.toList) = false) := Hj (ord_ne q1 x1)
        go_wp2_with (go_at_call 113; refine HSG.out.mono ?_; rintro e w3 ⟨rfl, hb3⟩)
        have HB3 := Hj (HBR.out.trans (hb3.mono HBR.out.size))
        have d1 : w3.cell? ⟨b, off + j * 2, none⟩ = some (.string q1) := by rw [hb3.cell (World.block_lt_of_cell? wr _ HD1.out)]; exact HD1.out
        have e1 : w3.cell? ⟨b, off + (j + 1) * 2, none⟩ = some (.string x1) := by rw [hb3.cell (World.block_lt_of_cell? wr _ HC1.out)]; exact HC1.out
        clear hb3 c1 c2
        rcases hway with hw | hw | hw
        · have g1 := HO1.out (by rw [hw]; decide)
          have g2 := ord_lt q1 x1 hw
          have HW := Hj hw
          clear hw
          go_quiet (fail)
          go_wp2
          go_quiet (fail)
          go_wp2
          exact ⟨KRel.next (p := some (q1, q2)) HX.out HQ.out (chkE_next _ _ _ HLE.out.symm HW.out) (qav HB3.out _), by simp [intOf]; omega⟩
        · have g1 := ord_eq q1 x1 hw
          have HF : Hid (chkE none l = 18) := Hj (HQ.out.trans (by rw [qaz HX.out]; exact chkE_dup _ _ _ HLE.out.symm hw))
          clear hw
          go_quiet (fail)
          go_wp2
          go_ret
          exact ⟨qag HF.out.symm, qav HB3.out _⟩
        · have g1 := HO1.out (by rw [hw]; decide)
          have g2 := ord_gt q1 x1 hw
          have HF : Hid (chkE none l = 16) := Hj (HQ.out.trans (by rw [qaz HX.out]; exact chkE_ord _ _ _ HLE.out.symm hw))
          clear hw
          go_quiet (fail)
          go_wp2
          go_quiet (fail)
          go_wp2
          go_ret
          exact ⟨qag HF.out.symm, qav (qav HB3.out _) _⟩
    · have hn : (E != 0) = true := by simpa using hz
      have HF : Hid (chkE none l = E) := Hj (by rw [HE.out, qaz HX.out, chkE_err _ _ _ (by rw [← HLE.out]; exact hz)]; exact HLE.out.symm)
      clear hz hk HE
      go_wp2_with (go_at_call 113; refine HSG.out.mono ?_; rintro e w3 ⟨rfl, hb3⟩)
      go_ret
      exact ⟨qag HF.out.symm, HBR.out.trans (hb3.mono HBR.out.size)⟩
  · obtain rfl : k = l.length := by omega
    have HF : Hid (chkE none l = 0) := Hj (by rw [HE.out, List.drop_length]; unfold chkE; rfl)
    clear HE
    go_wp2
    go_ret
    exact ⟨qag HF.out.symm, hbr⟩
theorem qfm (va vb : Value) (a b : List Lab) (w : World) (ha : RdL w va a) (hb : RdL w vb b) (hla : a.length ≤ 1099511627776) (hlb : b.length ≤ 1099511627776) :
 Calls Tryz.prog 39 #[va, vb] w fun e w' => e = .returned (.int .i64 (cmpL a b)) ∧ Below w.heap.size w w' := by
 have HA := Hj ha; have HB := Hj hb
 obtain ⟨aa, ca, rfl, hca⟩ := ha.slice
 obtain ⟨ab, cb, rfl, hcb⟩ := hb.slice
 clear ha hb
 go_enter Tryz.func39, Tryz.ntmps39
 go_wp2
 go_loopw [5] (fun i wr => ∃ k : Nat, k ≤ a.length ∧ k ≤ b.length ∧ i = .int .i64 (k : Nat) ∧ Hid (cmpL a b = cmpL (a.drop k) (b.drop k)) ∧ Below w.heap.size w wr) (fun i _ => a.length - (intOf i).toNat)
 case atStart => exact ⟨0, by omega, by omega, rfl, Hj rfl, Below.refl _ _⟩
 case round =>
  obtain ⟨k, hk, hkb, rfl, HE, hbr⟩ := hrel
  have hra := HA.out.below hbr
  have hrb := HB.out.below hbr
  by_cases hka : k < a.length
  · obtain ⟨⟨x1, x2⟩, hx⟩ := qaj hka
    obtain ⟨ba, oa, rfl, c1, c2⟩ := hra.at hx
    have hka' : (k : Int) < (a.length : Int) := by omega
    by_cases hkb2 : k < b.length
    · obtain ⟨⟨y1, y2⟩, hy⟩ := qaj hkb2
      obtain ⟨bb, ob, rfl, c3, c4⟩ := hrb.at hy
      have hkb' : (k : Int) < (b.length : Int) := by omega
      have hk0 : (0 : Int) ≤ (k : Int) := by omega
      have HST : Hid (cmpL a b = if cmpE (x1, x2) (y1, y2) ≠ 0 then cmpE (x1, x2) (y1, y2) else cmpL (a.drop (k + 1)) (b.drop (k + 1))) := Hj (by
       rw [HE.out, qaz hx, qaz hy, cmpL_step])
      have HCE : Hid (cmpE (x1, x2) (y1, y2) = if ordS x1 y1 ≠ 0 then ordS x1 y1 else ordS x2 y2) := Hj rfl
      have HBR := Hj hbr
      have CC : Hid (∀ wq, Below wr.heap.size wr wq → wq.cell? ⟨ba, oa + k * 2, none⟩ = some (.string x1) ∧ wq.cell? ⟨ba, oa + k * 2 + 1, none⟩ = some (.string x2) ∧ wq.cell? ⟨bb, ob + k * 2, none⟩ = some (.string y1) ∧ wq.cell? ⟨bb, ob + k * 2 + 1, none⟩ = some (.string y2) ∧ True) := Hj (fun wq h => by
       refine ⟨?_, ?_, ?_, ?_, trivial⟩
       · rw [h.cell (World.block_lt_of_cell? wr _ c1)]; exact c1
       · rw [h.cell (World.block_lt_of_cell? wr _ c2)]; exact c2
       · rw [h.cell (World.block_lt_of_cell? wr _ c3)]; exact c3
       · rw [h.cell (World.block_lt_of_cell? wr _ c4)]; exact c4)
      have CO1 : Hid (∀ wq, Below wr.heap.size wr wq → Calls Tryz.prog 94 #[.string x1, .string y1] wq fun e w' => e = .returned (.int .i64 (ordS x1 y1)) ∧ Below wr.heap.size wr w') := Hj (fun wq h => (order_any x1 y1 wq).mono fun e w' ⟨he, hb⟩ => ⟨he, hb ▸ h⟩)
      have CO2 : Hid (∀ wq, Below wr.heap.size wr wq → Calls Tryz.prog 94 #[.string x2, .string y2] wq fun e w' => e = .returned (.int .i64 (ordS x2 y2)) ∧ Below wr.heap.size wr w') := Hj (fun wq h => (order_any x2 y2 wq).mono fun e w' ⟨he, hb⟩ => ⟨he, hb ▸ h⟩)
      obtain ⟨D1, hD1⟩ : ∃ D, D = ordS x1 y1 := ⟨_, rfl⟩
      obtain ⟨D2, hD2⟩ : ∃ D, D = ordS x2 y2 := ⟨_, rfl⟩
      rw [← hD1] at CO1 HCE
      rw [← hD2] at CO2 HCE
      clear hx hy HE hra hrb hka hkb2 hD1 hD2 hbr c1 c2 c3 c4
      go_wp2_with fail
      refine qas (fun x => Below wr.heap.size wr x) (by kernel_rfl) (by kernel_rfl) ((Below.refl _ _).drew) ?_
      repeat (
       refine wpQuiet_step (fun K hK => ?_)
       go_simp
       first
        | (refine hK _ ?_; clear hK K)
        | (refine ⟨_, fun _ _ => rfl, hK _ ?_⟩; clear hK K)
        | (apply Exists.intro
           refine ⟨fun wq hwq => ?_, hK _ ?_⟩
           (first
            | (go_at_call 94; exact CO1.out _ hwq)
            | (have hc := CC.out _ hwq; go_simp; exact rfl)
            | (obtain ⟨hc0, hc1, hc2, hc3, hc4⟩ := CC.out _ hwq; go_simp; exact rfl))
           clear hK K))
      refine wpQuiet_nil ?_
      intro wr1 hw1
      by_cases hz : D1 = 0
      · have he : (D1 == 0) = true := by simpa using hz
        have HCE2 := Hj (HCE.out.trans (if_neg (by simpa using hz)))
        clear HCE CO1 hz
        go_wp2_with fail
        refine qas (fun x => Below wr.heap.size wr x) (by kernel_rfl) (by kernel_rfl) (hw1.drew) ?_
        repeat (
         refine wpQuiet_step (fun K hK => ?_)
         go_simp
         first
          | (refine hK _ ?_; clear hK K)
          | (refine ⟨_, fun _ _ => rfl, hK _ ?_⟩; clear hK K)
          | (apply Exists.intro
             refine ⟨fun wq hwq => ?_, hK _ ?_⟩
             (first
              | (go_at_call 94; exact CO2.out _ hwq)
              | (have hc := CC.out _ hwq; go_simp; exact rfl)
              | (obtain ⟨hc0, hc1, hc2, hc3, hc4⟩ := CC.out _ hwq; go_simp; exact rfl))
             clear hK K))
        refine wpQuiet_nil ?_
        intro wr2 hw2
        by_cases hz2 : D2 = 0
        · have hn : (D2 != 0) = false := by simpa using hz2
          have HN := Hj (HST.out.trans (if_neg (by rw [HCE2.out]; simpa using hz2)))
          clear hz2 HST HCE2
          go_wp2
          exact ⟨⟨k + 1, by omega, by omega, rfl, HN, HBR.out.trans (hw2.mono HBR.out.size)⟩, by simp [intOf]; omega⟩
        · have hn : (D2 != 0) = true := by simpa using hz2
          have HN : Hid (cmpL a b = D2) := Hj ((HST.out.trans (if_pos (by rw [HCE2.out]; exact hz2))).trans HCE2.out)
          clear hz2 HST HCE2
          go_wp2
          go_ret
          exact ⟨qag HN.out.symm, HBR.out.trans (hw2.mono HBR.out.size)⟩
      · have he : (D1 == 0) = false := by simpa using hz
        have hn : (D1 != 0) = true := by simpa using hz
        have HCE2 := Hj (HCE.out.trans (if_pos hz))
        have HN : Hid (cmpL a b = D1) := Hj ((HST.out.trans (if_pos (by rw [HCE2.out]; exact hz))).trans HCE2.out)
        clear HCE hz HST HCE2
        go_wp2
        go_ret
        exact ⟨qag HN.out.symm, HBR.out.trans (hw1.mono HBR.out.size)⟩
    · obtain rfl : k = b.length := by omega
      have HN : Hid (cmpL a b = 1) := Hj (by rw [HE.out, qaz hx, List.drop_length]; rfl)
      have hgt : (b.length : Int) < (a.length : Int) := hka'
      have hgt2 : (b.length : Int) ≤ (a.length : Int) := by omega
      clear hx HE hra hrb hka
      go_wp2
      go_ret
      exact ⟨qag HN.out.symm, hbr⟩
  · obtain rfl : k = a.length := by omega
    by_cases hlt : a.length < b.length
    · have HN : Hid (cmpL a b = -1) := Hj (by
       obtain ⟨y, hy⟩ := qaj hlt
       rw [HE.out, List.drop_length, qaz hy]; rfl)
      have hlt' : (a.length : Int) < (b.length : Int) := by omega
      clear HE hra hrb
      go_wp2
      go_ret
      exact ⟨qag HN.out.symm, hbr⟩
    · have heq : a.length = b.length := by omega
      have HN : Hid (cmpL a b = 0) := Hj (by
       rw [HE.out, List.drop_length, show b.drop a.length = [] from List.drop_eq_nil_of_le (by omega)]; rfl)
      have hlt' : (b.length : Int) ≤ (a.length : Int) := by omega
      have hlt2 : (a.length : Int) ≤ (b.length : Int) := by omega
      clear HE hra hrb heq
      go_wp2
      go_ret
      exact ⟨qag HN.out.symm, hbr⟩
end
section
set_option maxHeartbeats 2000000
set_option maxRecDepth 100000
open Go.RowKit
attribute [local go_sem ↓] Go.wp_at_zero Go.wp_at_succ
theorem nanI_any (a : Int) (w : World) : Calls Tryz.prog 226 #[.int .i64 a] w fun e w' => e = .returned (.bool false) ∧ w = w' := by
 go_enter Tryz.func226, Tryz.ntmps226
 go_wp2
 go_ret
 exact ⟨rfl, rfl⟩
theorem cmpI_any (a b : Int) (w : World) : Calls Tryz.prog 197 #[.int .i64 a, .int .i64 b] w fun e w' => e = .returned (.int .i64 (ordI a b)) ∧ w = w' := by
 rcases Int.lt_trichotomy a b with h | h | h
 · have H : Hid (ordI a b = -1) := Hj (by unfold ordI; rw [if_pos h])
   skip
   go_enter Tryz.func197, Tryz.ntmps197
   go_wp2_with (go_at_call 226; refine (nanI_any _ _).mono ?_; rintro e w1 ⟨rfl, rfl⟩)
   go_ret
   exact ⟨qag H.out.symm, rfl⟩
 · have H : Hid (ordI a b = 0) := Hj (by unfold ordI; rw [if_neg (by omega), if_neg (by omega)])
   subst h
   go_enter Tryz.func197, Tryz.ntmps197
   go_wp2_with (go_at_call 226; refine (nanI_any _ _).mono ?_; rintro e w1 ⟨rfl, rfl⟩)
   go_ret
   exact ⟨qag H.out.symm, rfl⟩
 · have H : Hid (ordI a b = 1) := Hj (by unfold ordI; rw [if_neg (by omega), if_pos h])
   have h2 : b ≤ a := by omega
   go_enter Tryz.func197, Tryz.ntmps197
   go_wp2_with (go_at_call 226; refine (nanI_any _ _).mono ?_; rintro e w1 ⟨rfl, rfl⟩)
   go_ret
   exact ⟨qag H.out.symm, rfl⟩
theorem byTime_any (x y : Smp) (w : World) : Calls Tryz.prog 162 #[.agg #[.int .i64 x.1, .int .u64 x.2], .agg #[.int .i64 y.1, .int .u64 y.2]] w fun e w' => e = .returned (.int .i64 (cmpT x y)) ∧ Below w.heap.size w w' := by
 obtain ⟨x1, x2⟩ := x
 obtain ⟨y1, y2⟩ := y
 have hb := ((Below.refl w.heap.size w).alloc (Nat.le_refl _) (.cells #[.int .i64 x1, .int .u64 x2] 28)).alloc (by simp) (.cells #[.int .i64 y1, .int .u64 y2] 28)
 have HB := Hj hb
 clear hb
 go_enter Tryz.func162, Tryz.ntmps162
 go_wp2_with (go_at_call 197; refine (cmpI_any _ _ _).mono ?_; rintro e w1 ⟨rfl, hw1⟩)
 go_ret
 exact ⟨rfl, hw1 ▸ HB.out⟩
theorem bySet_any (x y : Hdr) (a b : List Lab) (w : World) (ha : RdL w x.lv a) (hb : RdL w y.lv b) (hla : a.length ≤ 1099511627776) (hlb : b.length ≤ 1099511627776) :
 Calls Tryz.prog 117 #[.agg #[.slice x.la x.ln x.lc, .slice x.sa x.sn x.sc], .agg #[.slice y.la y.ln y.lc, .slice y.sa y.sn y.sc]] w fun e w' => e = .returned (.int .i64 (cmpL a b)) ∧ Below w.heap.size w w' := by
 obtain ⟨xa, xn, xc, xsa, xsn, xsc⟩ := x
 obtain ⟨ya, yn, yc, ysa, ysn, ysc⟩ := y
 have hbb := ((Below.refl w.heap.size w).alloc (Nat.le_refl _) (.cells #[.slice xa xn xc, .slice xsa xsn xsc] 97)).alloc (by simp) (.cells #[.slice ya yn yc, .slice ysa ysn ysc] 97)
 have HBB := Hj hbb
 have H := Hj (fun w' hw' => compare_any (.slice xa xn xc) (.slice ya yn yc) a b w' (ha.below hw') (hb.below hw') hla hlb)
 clear hbb ha hb hla hlb
 go_enter Tryz.func117, Tryz.ntmps117
 go_wp2_with (go_at_call 163; refine (H.out _ HBB.out).mono ?_; rintro e w1 ⟨rfl, hw1⟩)
 go_ret
 exact ⟨rfl, HBB.out.trans (hw1.mono HBB.out.size)⟩
theorem asc_step {α : Type} (c : α → α → Int) (eq : Int) {l : List α} {j : Nat} {x y : α} (hx : l[j]? = some x) (hy : l[j + 1]? = some y) :
 ascE c eq (l.drop j) = if c x y = 0 then eq else if 0 < c x y then 16 else ascE c eq (l.drop (j + 1)) := by
 rw [qaz hx, qaz hy]
 rfl
theorem asc_end {α : Type} (c : α → α → Int) (eq : Int) {l : List α} {j : Nat} (h : l.length ≤ j + 1) : ascE c eq (l.drop j) = 0 := by
 have hl : (l.drop j).length ≤ 1 := by rw [List.length_drop]; omega
 match hd : l.drop j, hl with
 | [], _ => rfl
 | [_], _ => rfl
 | _ :: _ :: _, h => simp at h
theorem ascS_any (v : Value) (l : List Smp) (w : World) (h : RdS w v l) (hl : l.length ≤ 1099511627776) (eq : Int) :
 Calls Tryz.prog 161 #[v, .func (.func 162) #[] #[], .int .i64 eq] w fun e w' => e = .returned (.int .i64 (ascE cmpT eq l)) ∧ Below w.heap.size w w' := by
 have HH := Hj h
 obtain ⟨ad, cap, rfl, hcap⟩ := Rd.slice h
 clear h
 go_enter Tryz.func161, Tryz.ntmps161
 go_wp2
 go_step3
 go_wp2
 go_step3
 go_wp2
 go_loopw [7, 8] (fun e7 i wr => ∃ j : Nat, (j + 1 ≤ l.length ∨ j = 0) ∧ e7 = .int .i64 0 ∧ i = .int .i64 ((j : Int) + 1) ∧ Hid (ascE cmpT eq l = ascE cmpT eq (l.drop j)) ∧ Below w.heap.size w wr) (fun _ i _ => l.length + 1 - (intOf i).toNat)
 case atStart => exact ⟨0, .inr rfl, rfl, rfl, Hj rfl, Below.refl _ _⟩
 case round =>
  obtain ⟨j, hj, rfl, rfl, HE, hbr⟩ := hrel
  by_cases hjl : j + 1 < l.length
  · obtain ⟨⟨x1, x2⟩, hx⟩ := qaj (l := l) (k := j) (by omega)
    obtain ⟨⟨y1, y2⟩, hy⟩ := qaj hjl
    have hrd := HH.out.below hbr
    obtain ⟨b, off, rfl, c1, c2⟩ := RdS.at hrd hx
    obtain ⟨b', off', hbb, c3, c4⟩ := RdS.at hrd hy
    simp only [Option.some.injEq, Addr.mk.injEq, and_true] at hbb
    obtain ⟨rfl, rfl⟩ := hbb
    have CC : Hid (∀ wq, Below wr.heap.size wr wq → wq.cell? ⟨b, off + j * 2, none⟩ = some (.int .i64 x1) ∧ wq.cell? ⟨b, off + j * 2 + 1, none⟩ = some (.int .u64 x2) ∧ wq.cell? ⟨b, off + (j + 1) * 2, none⟩ = some (.int .i64 y1) ∧ wq.cell? ⟨b, off + (j + 1) * 2 + 1, none⟩ = some (.int .u64 y2) ∧ True) := Hj (fun wq h => by
     refine ⟨?_, ?_, ?_, ?_, trivial⟩
     · rw [h.cell (World.block_lt_of_cell? wr _ c1)]; exact c1
     · rw [h.cell (World.block_lt_of_cell? wr _ c2)]; exact c2
     · rw [h.cell (World.block_lt_of_cell? wr _ c3)]; exact c3
     · rw [h.cell (World.block_lt_of_cell? wr _ c4)]; exact c4)
    have CB : Hid (∀ wq, Below wr.heap.size wr wq → Calls Tryz.prog 162 #[.agg #[.int .i64 x1, .int .u64 x2], .agg #[.int .i64 y1, .int .u64 y2]] wq fun e w' => e = .returned (.int .i64 (cmpT (x1, x2) (y1, y2))) ∧ Below wr.heap.size wr w') := Hj (fun wq h => (byTime_any (x1, x2) (y1, y2) wq).mono fun e w' ⟨he, hb⟩ => ⟨he, h.trans (hb.mono h.size)⟩)
    obtain ⟨D, hD⟩ : ∃ D, D = cmpT (x1, x2) (y1, y2) := ⟨_, rfl⟩
    have HST : Hid (ascE cmpT eq l = if D = 0 then eq else if 0 < D then 16 else ascE cmpT eq (l.drop (j + 1))) := Hj (by rw [HE.out, asc_step cmpT eq hx hy, hD])
    rw [← hD] at CB
    have HBR := Hj hbr
    have hj0 : (0 : Int) ≤ (j : Int) := by omega
    have hj1 : (0 : Int) ≤ (j : Int) + 1 := by omega
    have hjl1 : (j : Int) < (l.length : Int) := by omega
    have hjl2 : (j : Int) + 1 < (l.length : Int) := by omega
    have hjw : IntKind.i64.wrap (j : Int) = (j : Int) := by rw [IntKind.wrap_i64]; omega
    clear hx hy hrd c1 c2 c3 c4 hjl hD HE hj hbr
    go_wp2_with fail
    refine qas (fun x => Below wr.heap.size wr x) (by kernel_rfl) (by kernel_rfl) ((Below.refl _ _).drew) ?_
    repeat (
     refine wpQuiet_step (fun K hK => ?_)
     go_simp
     first
      | (refine hK _ ?_; clear hK K)
      | (refine ⟨_, fun _ _ => rfl, hK _ ?_⟩; clear hK K)
      | (apply Exists.intro
         refine ⟨fun wq hwq => ?_, hK _ ?_⟩
         (first
          | (go_at_call 162; exact CB.out _ hwq)
          | (have hc := CC.out _ hwq; go_simp; exact rfl)
          | (obtain ⟨hc0, hc1, hc2, hc3, hc4⟩ := CC.out _ hwq; go_simp; exact rfl))
         clear hK K))
    refine wpQuiet_nil ?_
    intro wq hwq
    have HBQ := Hj (HBR.out.trans (hwq.mono HBR.out.size))
    clear hwq CC CB HBR
    by_cases hz : D = 0
    · have he : (D == 0) = true := by simpa using hz
      have HF := Hj (HST.out.trans (if_pos hz))
      clear hz HST
      go_wp2
      (try rw [Exit.noGoto_ret]); go_ret
      exact ⟨qag HF.out.symm, HBQ.out⟩
    · have he : (D == 0) = false := by simpa using hz
      have HST2 := Hj (HST.out.trans (if_neg hz))
      by_cases hp : 0 < D
      · have HF := Hj (HST2.out.trans (if_pos hp))
        clear hz HST HST2
        go_wp2
        (try rw [Exit.noGoto_ret]); go_ret
        exact ⟨qag HF.out.symm, HBQ.out⟩
      · have hp2 : D ≤ 0 := by omega
        have HF := Hj (HST2.out.trans (if_neg hp))
        clear hz HST HST2 hp
        go_wp2
        exact ⟨⟨j + 1, .inl (by omega), rfl, rfl, HF, HBQ.out⟩, by simp [intOf]; omega⟩
  · have HF : Hid (ascE cmpT eq l = 0) := Hj (by rw [HE.out]; exact asc_end cmpT eq (by omega))
    have hjl2 : (l.length : Int) ≤ (j : Int) + 1 := by omega
    clear HE hj
    go_wp2
    (try rw [Exit.noGoto_ret]); go_ret
    exact ⟨qag HF.out.symm, hbr⟩
theorem ascB_any (v : Value) (l : List Hdr) (bs : List Ser) (w : World) (h : RdB w v l bs) (hl : l.length ≤ 1099511627776) (hlab : ∀ x ∈ bs, x.1.length ≤ 1099511627776) (eq : Int) :
 Calls Tryz.prog 116 #[v, .func (.func 117) #[] #[], .int .i64 eq] w fun e w' => e = .returned (.int .i64 (ascE cmpB eq bs)) ∧ Below w.heap.size w w' := by
 have HH := Hj h
 have HLN := Hj h.1
 obtain ⟨ad, cap, rfl, hcap⟩ := Rd.slice h.2.1
 clear h
 go_enter Tryz.func116, Tryz.ntmps116
 go_wp2
 go_step3
 go_wp2
 go_step3
 go_wp2
 go_loopw [7, 8] (fun e7 i wr => ∃ j : Nat, (j + 1 ≤ l.length ∨ j = 0) ∧ e7 = .int .i64 0 ∧ i = .int .i64 ((j : Int) + 1) ∧ Hid (ascE cmpB eq bs = ascE cmpB eq (bs.drop j)) ∧ Below w.heap.size w wr) (fun _ i _ => l.length + 1 - (intOf i).toNat)
 case atStart => exact ⟨0, .inr rfl, rfl, rfl, Hj rfl, Below.refl _ _⟩
 case round =>
  obtain ⟨j, hj, rfl, rfl, HE, hbr⟩ := hrel
  by_cases hjl : j + 1 < l.length
  · obtain ⟨x, hx⟩ := qaj (l := l) (k := j) (by omega)
    obtain ⟨y, hy⟩ := qaj hjl
    obtain ⟨p, hp⟩ := qaj (l := bs) (k := j) (by have := HLN.out; omega)
    obtain ⟨q, hq⟩ := qaj (l := bs) (k := j + 1) (by have := HLN.out; omega)
    have hrd := HH.out.below hbr
    have s1 := hrd.2.2 _ _ _ hx hp
    have s2 := hrd.2.2 _ _ _ hy hq
    obtain ⟨b, off, rfl, c1, c2⟩ := RdH.at hrd.2.1 hx
    obtain ⟨b', off', hbb, c3, c4⟩ := RdH.at hrd.2.1 hy
    simp only [Option.some.injEq, Addr.mk.injEq, and_true] at hbb
    obtain ⟨rfl, rfl⟩ := hbb
    have CB : Hid (∀ wq, Below wr.heap.size wr wq → Calls Tryz.prog 117 #[.agg #[.slice x.la x.ln x.lc, .slice x.sa x.sn x.sc], .agg #[.slice y.la y.ln y.lc, .slice y.sa y.sn y.sc]] wq fun e w' => e = .returned (.int .i64 (cmpB p q)) ∧ Below wr.heap.size wr w') := Hj (fun wq h => (bySet_any x y p.1 q.1 wq (s1.below h).1 (s2.below h).1 (hlab _ (List.mem_of_getElem? hp)) (hlab _ (List.mem_of_getElem? hq))).mono fun e w' ⟨he, hb⟩ => ⟨he, h.trans (hb.mono h.size)⟩)
    obtain ⟨xa, xn, xc, xsa, xsn, xsc⟩ := x
    obtain ⟨ya, yn, yc, ysa, ysn, ysc⟩ := y
    have CC : Hid (∀ wq, Below wr.heap.size wr wq → wq.cell? ⟨b, off + j * 2, none⟩ = some (.slice xa xn xc) ∧ wq.cell? ⟨b, off + j * 2 + 1, none⟩ = some (.slice xsa xsn xsc) ∧ wq.cell? ⟨b, off + (j + 1) * 2, none⟩ = some (.slice ya yn yc) ∧ wq.cell? ⟨b, off + (j + 1) * 2 + 1, none⟩ = some (.slice ysa ysn ysc) ∧ True) := Hj (fun wq h => by
     refine ⟨?_, ?_, ?_, ?_, trivial⟩
     · rw [h.cell (World.block_lt_of_cell? wr _ c1)]; exact c1
     · rw [h.cell (World.block_lt_of_cell? wr _ c2)]; exact c2
     · rw [h.cell (World.block_lt_of_cell? wr _ c3)]; exact c3
     · rw [h.cell (World.block_lt_of_cell? wr _ c4)]; exact c4)
    obtain ⟨D, hD⟩ : ∃ D, D = cmpB p q := ⟨_, rfl⟩
    have HST : Hid (ascE cmpB eq bs = if D = 0 then eq else if 0 < D then 16 else ascE cmpB eq (bs.drop (j + 1))) := Hj (by rw [HE.out, asc_step cmpB eq hp hq, hD])
    rw [← hD] at CB
    have HBR := Hj hbr
    have hj0 : (0 : Int) ≤ (j : Int) := by omega
    have hj1 : (0 : Int) ≤ (j : Int) + 1 := by omega
    have hjl1 : (j : Int) < (l.length : Int) := by omega
    have hjl2 : (j : Int) + 1 < (l.length : Int) := by omega
    have hjw : IntKind.i64.wrap (j : Int) = (j : Int) := by rw [IntKind.wrap_i64]; omega
    clear hx hy hp hq hrd s1 s2 c1 c2 c3 c4 hjl hD HE hj hbr
    go_wp2_with fail
    refine qas (fun x => Below wr.heap.size wr x) (by kernel_rfl) (by kernel_rfl) ((Below.refl _ _).drew) ?_
    repeat (
     refine wpQuiet_step (fun K hK => ?_)
     go_simp
     first
      | (refine hK _ ?_; clear hK K)
      | (refine ⟨_, fun _ _ => rfl, hK _ ?_⟩; clear hK K)
      | (apply Exists.intro
         refine ⟨fun wq hwq => ?_, hK _ ?_⟩
         (first
          | (go_at_call 117; exact CB.out _ hwq)
          | (have hc := CC.out _ hwq; go_simp; exact rfl)
          | (obtain ⟨hc0, hc1, hc2, hc3, hc4⟩ := CC.out _ hwq; go_simp; exact rfl))
         clear hK K))
    refine wpQuiet_nil ?_
    intro wq hwq
    have HBQ := Hj (HBR.out.trans (hwq.mono HBR.out.size))
    clear hwq CC CB HBR
    by_cases hz : D = 0
    · have he : (D == 0) = true := by simpa using hz
      have HF := Hj (HST.out.trans (if_pos hz))
      clear hz HST
      go_wp2
      (try rw [Exit.noGoto_ret]); go_ret
      exact ⟨qag HF.out.symm, HBQ.out⟩
    · have he : (D == 0) = false := by simpa using hz
      have HST2 := Hj (HST.out.trans (if_neg hz))
      by_cases hp : 0 < D
      · have HF := Hj (HST2.out.trans (if_pos hp))
        clear hz HST HST2
        go_wp2
        (try rw [Exit.noGoto_ret]); go_ret
        exact ⟨qag HF.out.symm, HBQ.out⟩
      · have hp2 : D ≤ 0 := by omega
        have HF := Hj (HST2.out.trans (if_neg hp))
        clear hz HST HST2 hp
        go_wp2
        exact ⟨⟨j + 1, .inl (by omega), rfl, rfl, HF, HBQ.out⟩, by simp [intOf]; omega⟩
  · have HF : Hid (ascE cmpB eq bs = 0) := Hj (by rw [HE.out]; exact asc_end cmpB eq (by have := HLN.out; omega))
    have hjl2 : (l.length : Int) ≤ (j : Int) + 1 := by omega
    clear HE hj
    go_wp2
    (try rw [Exit.noGoto_ret]); go_ret
    exact ⟨qag HF.out.symm, hbr⟩
end
section
set_option maxHeartbeats 2000000
set_option maxRecDepth 100000
open Go.RowKit
attribute [local go_sem ↓] Go.wp_at_zero Go.wp_at_succ
theorem qgh (w : World) (u v : Value) (t : TypeId) : (w.alloc (.cells #[u, v] t)).cell? ⟨w.heap.size, 0, none⟩ = some u ∧ (w.alloc (.cells #[u, v] t)).cell? ⟨w.heap.size, 1, none⟩ = some v := by
 constructor <;> (rw [cell_of_row _ _ _ _ _ _ (heap_alloc_new w _)]; rfl)
theorem ordI_ways (a b : Int) : (ordI a b = -1 ∧ a < b) ∨ (ordI a b = 0 ∧ a = b) ∨ (ordI a b = 1 ∧ b < a) := by
 unfold ordI
 rcases Int.lt_trichotomy a b with h | h | h
 · rw [if_pos h]; exact .inl ⟨rfl, h⟩
 · rw [if_neg (by omega), if_neg (by omega)]; exact .inr (.inl ⟨rfl, h⟩)
 · rw [if_neg (by omega), if_pos h]; exact .inr (.inr ⟨rfl, h⟩)
theorem times_any (v : Value) (l : List Smp) (w : World) (h : RdS w v l) (hl : l.length ≤ 1099511627776) :
 Calls Tryz.prog 60 #[v] w fun e w' => e = .returned (.int .i64 (ascE cmpT 20 l)) ∧ Below w.heap.size w w' := by
 have HH := Hj h
 obtain ⟨ad, cap, rfl, hcap⟩ := Rd.slice h
 clear h
 go_enter Tryz.func60, Tryz.ntmps60
 go_wp2
 go_loopw [3] (fun i wr => ∃ j : Nat, (j + 1 ≤ l.length ∨ j = 0) ∧ i = .int .i64 ((j : Int) + 1) ∧ Hid (ascE cmpT 20 l = ascE cmpT 20 (l.drop j)) ∧ Below w.heap.size w wr) (fun i _ => l.length + 1 - (intOf i).toNat)
 case atStart => exact ⟨0, .inr rfl, rfl, Hj rfl, Below.refl _ _⟩
 case round =>
  obtain ⟨j, hj, rfl, HE, hbr⟩ := hrel
  by_cases hjl : j + 1 < l.length
  · obtain ⟨⟨x1, x2⟩, hx⟩ := qaj (l := l) (k := j) (by omega)
    obtain ⟨⟨y1, y2⟩, hy⟩ := qaj hjl
    have hrd := HH.out.below hbr
    obtain ⟨b, off, rfl, c1, c2⟩ := RdS.at hrd hx
    obtain ⟨b', off', hbb, c3, c4⟩ := RdS.at hrd hy
    simp only [Option.some.injEq, Addr.mk.injEq, and_true] at hbb
    obtain ⟨rfl, rfl⟩ := hbb
    have HST : Hid (ascE cmpT 20 l = if ordI x1 y1 = 0 then 20 else if 0 < ordI x1 y1 then 16 else ascE cmpT 20 (l.drop (j + 1))) := Hj (by rw [HE.out, asc_step cmpT 20 hx hy]; rfl)
    have HBR := Hj hbr
    have hj0 : (0 : Int) ≤ (j : Int) := by omega
    have hj1 : (0 : Int) ≤ (j : Int) + 1 := by omega
    have hjl1 : (j : Int) < (l.length : Int) := by omega
    have hjl2 : (j : Int) + 1 < (l.length : Int) := by omega
    have hjw : IntKind.i64.wrap (j : Int) = (j : Int) := by rw [IntKind.wrap_i64]; omega
    clear hx hy hrd c2 c4 hjl HE hj hbr
    rcases ordI_ways x1 y1 with ⟨hD, hc⟩ | ⟨hD, hc⟩ | ⟨hD, hc⟩
    · have he : (y1 == x1) = false := by rw [beq_eq_false_iff_ne]; omega
      have hg : x1 ≤ y1 := by omega
      have HF : Hid (ascE cmpT 20 l = ascE cmpT 20 (l.drop (j + 1))) := Hj (HST.out.trans (by rw [hD]; rfl))
      clear HST hD hc
      go_wp2_with fail
      go_quiet (fail)
      go_wp2
      go_quiet (fail)
      go_wp2
      exact ⟨⟨j + 1, .inl (by omega), rfl, HF, qav HBR.out _⟩, by simp [intOf]; omega⟩
    · have he : (y1 == x1) = true := by rw [beq_iff_eq]; omega
      have HF : Hid (ascE cmpT 20 l = 20) := Hj (HST.out.trans (by rw [hD]; rfl))
      clear HST hD hc
      go_wp2_with fail
      go_quiet (fail)
      go_wp2
      go_ret
      exact ⟨qag HF.out.symm, by first | exact qav HBR.out _ | exact qav (qav HBR.out _) _⟩
    · have he : (y1 == x1) = false := by rw [beq_eq_false_iff_ne]; omega
      have HF : Hid (ascE cmpT 20 l = 16) := Hj (HST.out.trans (by rw [hD]; rfl))
      clear HST hD
      go_wp2_with fail
      go_quiet (fail)
      go_wp2
      go_quiet (fail)
      go_wp2
      go_ret
      exact ⟨qag HF.out.symm, by first | exact qav HBR.out _ | exact qav (qav HBR.out _) _⟩
  · have HF : Hid (ascE cmpT 20 l = 0) := Hj (by rw [HE.out]; exact asc_end cmpT 20 (by omega))
    have hjl2 : (l.length : Int) ≤ (j : Int) + 1 := by omega
    clear HE hj
    go_wp2
    go_ret
    exact ⟨qag HF.out.symm, hbr⟩
theorem samples_any (v : Value) (hs : List Hdr) (b : List Ser) (w : World) (h : RdB w v hs b) (hl : hs.length ≤ 1099511627776) (hN : qai b ≤ 1099511627776) :
 Calls Tryz.prog 37 #[v] w fun e w' => e = .returned (.int .i64 ((qai b : Nat) : Int)) ∧ Below w.heap.size w w' := by
 have HH := Hj h
 have HLN := Hj h.1
 have HN := Hj hN
 obtain ⟨ad, cap, rfl, hcap⟩ := Rd.slice h.2.1
 clear h hN
 go_enter Tryz.func37, Tryz.ntmps37
 go_wp2
 go_loopw [3, 8] (fun n i wr => ∃ k : Nat, k ≤ hs.length ∧ n = .int .i64 ((qai (b.take k) : Nat) : Int) ∧ i = .int .i64 (k : Nat) ∧ Below w.heap.size w wr) (fun _ i _ => hs.length - (intOf i).toNat)
 case atStart => exact ⟨0, by omega, by simp [qai], rfl, Below.refl _ _⟩
 case round =>
  obtain ⟨k, hk, rfl, rfl, hbr⟩ := hrel
  by_cases hkl : k < hs.length
  · obtain ⟨x, hx⟩ := qaj hkl
    obtain ⟨p, hp⟩ := qaj (l := b) (k := k) (by have := HLN.out; omega)
    have hrd := HH.out.below hbr
    have s1 := hrd.2.2 _ _ _ hx hp
    obtain ⟨bb, off, rfl, c1, c2⟩ := RdH.at hrd.2.1 hx
    obtain ⟨e1, e2⟩ := s1.lens
    obtain ⟨xa, xn, xc, xsa, xsn, xsc⟩ := x
    simp only at e1 e2
    subst e1 e2
    have hkl' : (k : Int) < (hs.length : Int) := by omega
    have hk0 : (0 : Int) ≤ (k : Int) := by omega
    have hst := qgg b k p hp
    have hle := qiw b (k + 1)
    have hN := HN.out
    obtain ⟨N, hNN⟩ : ∃ N, N = qai (b.take k) := ⟨_, rfl⟩
    obtain ⟨M, hM⟩ : ∃ M, M = p.2.length := ⟨_, rfl⟩
    rw [← hNN, ← hM] at hst
    rw [← hM] at c2
    rw [← hNN]
    have hw : IntKind.i64.wrap ((N : Int) + (M : Int)) = (N : Int) + (M : Int) := by rw [IntKind.wrap_i64]; omega
    have HST : Hid (((qai (b.take (k + 1)) : Nat) : Int) = (N : Int) + (M : Int)) := Hj (by omega)
    have HB1 := Hj (hbr.alloc hbr.size (.cells #[.slice xa p.1.length xc, .slice xsa M xsc] 97))
    obtain ⟨n1, n2⟩ := qgh wr (.slice xa p.1.length xc) (.slice xsa M xsc) 97
    have HBR := Hj hbr
    clear hst hle hN hNN hM hx hp hrd s1 hkl hbr
    go_wp2
    exact ⟨⟨k + 1, by omega, by rw [HST.out], rfl, HB1.out⟩, by simp [intOf]; omega⟩
  · obtain rfl : k = hs.length := by omega
    have HF : Hid (qai (b.take hs.length) = qai b) := Hj (by rw [HLN.out, List.take_length])
    rw [HF.out]
    clear hk
    go_wp2
    go_ret
    exact ⟨rfl, hbr⟩
theorem qkg (v : Value) (hs : List Hdr) (b : List Ser) (w : World) (h : RdB w v hs b) (hl : hs.length ≤ 1099511627776) (hN : qai b ≤ 1099511627776) :
 Calls Tryz.prog 112 #[v] w fun e w' => e = .returned (.int .i64 ((qai b : Nat) : Int)) ∧ Below w.heap.size w w' := by
 have HH := Hj h
 have HLN := Hj h.1
 have HN := Hj hN
 obtain ⟨ad, cap, rfl, hcap⟩ := Rd.slice h.2.1
 clear h hN
 go_enter Tryz.func112, Tryz.ntmps112
 go_wp2
 go_loopw [3, 4] (fun n i wr => ∃ k : Nat, k ≤ hs.length ∧ n = .int .i64 ((qai (b.take k) : Nat) : Int) ∧ i = .int .i64 (k : Nat) ∧ Below w.heap.size w wr) (fun _ i _ => hs.length - (intOf i).toNat)
 case atStart => exact ⟨0, by omega, by simp [qai], rfl, Below.refl _ _⟩
 case round =>
  obtain ⟨k, hk, rfl, rfl, hbr⟩ := hrel
  by_cases hkl : k < hs.length
  · obtain ⟨x, hx⟩ := qaj hkl
    obtain ⟨p, hp⟩ := qaj (l := b) (k := k) (by have := HLN.out; omega)
    have hrd := HH.out.below hbr
    have s1 := hrd.2.2 _ _ _ hx hp
    obtain ⟨bb, off, rfl, c1, c2⟩ := RdH.at hrd.2.1 hx
    obtain ⟨e1, e2⟩ := s1.lens
    obtain ⟨xa, xn, xc, xsa, xsn, xsc⟩ := x
    simp only at e1 e2
    subst e1 e2
    have hkl' : (k : Int) < (hs.length : Int) := by omega
    have hk0 : (0 : Int) ≤ (k : Int) := by omega
    have hst := qgg b k p hp
    have hle := qiw b (k + 1)
    have hN := HN.out
    obtain ⟨N, hNN⟩ : ∃ N, N = qai (b.take k) := ⟨_, rfl⟩
    obtain ⟨M, hM⟩ : ∃ M, M = p.2.length := ⟨_, rfl⟩
    rw [← hNN, ← hM] at hst
    rw [← hM] at c2
    rw [← hNN]
    have hw : IntKind.i64.wrap ((N : Int) + (M : Int)) = (N : Int) + (M : Int) := by rw [IntKind.wrap_i64]; omega
    have HST : Hid (((qai (b.take (k + 1)) : Nat) : Int) = (N : Int) + (M : Int)) := Hj (by omega)
    have HB1 := Hj (hbr.alloc hbr.size (.cells #[.slice xa p.1.length xc, .slice xsa M xsc] 97))
    obtain ⟨n1, n2⟩ := qgh wr (.slice xa p.1.length xc) (.slice xsa M xsc) 97
    have HBR := Hj hbr
    clear hst hle hN hNN hM hx hp hrd s1 hkl hbr
    go_wp2
    exact ⟨⟨k + 1, by omega, by rw [HST.out], rfl, HBR.out⟩, by simp [intOf]; omega⟩
  · obtain rfl : k = hs.length := by omega
    have HF : Hid (qai (b.take hs.length) = qai b) := Hj (by rw [HLN.out, List.take_length])
    rw [HF.out]
    clear hk
    go_wp2
    go_ret
    exact ⟨rfl, hbr⟩
theorem mcheck0_any (v : Value) (hs : List Hdr) (b : List Ser) (w : World) (h : RdB w v hs b) (hl : hs.length ≤ 1099511627776) (hN : qai b ≤ 1099511627776) :
 Calls Tryz.prog 114 #[v] w fun e w' => e = .returned (if 1048576 < b.length ∨ 16777216 < qai b then .int .i64 7 else .int .i64 0) ∧ Below w.heap.size w w' := by
 have H := Hj (samples_any v hs b w h hl hN)
 have HLN := Hj h.1
 obtain ⟨ad, cap, rfl, hcap⟩ := Rd.slice h.2.1
 obtain ⟨M, hM⟩ : ∃ M, M = qai b := ⟨_, rfl⟩
 rw [← hM] at H hN ⊢
 rw [← HLN.out]
 clear hM h
 by_cases h1 : 1048576 < hs.length
 · rw [if_pos (.inl h1)]
   have h1' : (1048576 : Int) < (hs.length : Int) := by omega
   clear h1
   go_enter Tryz.func114, Tryz.ntmps114
   go_wp2
   go_ret
   exact ⟨rfl, Below.refl _ _⟩
 · have h1' : (hs.length : Int) ≤ 1048576 := by omega
   by_cases h2 : 16777216 < M
   · rw [if_pos (.inr h2)]
     have h2' : (16777216 : Int) < (M : Int) := by omega
     clear h1 h2
     go_enter Tryz.func114, Tryz.ntmps114
     go_wp2_with (go_at_call 37; refine H.out.mono ?_; rintro e w1 ⟨rfl, hb1⟩)
     go_ret
     exact ⟨rfl, hb1⟩
   · rw [if_neg (by omega)]
     have h2' : (M : Int) ≤ 16777216 := by omega
     clear h1 h2
     go_enter Tryz.func114, Tryz.ntmps114
     go_wp2_with (go_at_call 37; refine H.out.mono ?_; rintro e w1 ⟨rfl, hb1⟩)
     go_ret
     exact ⟨by first | rfl | (simp; done) | (simp; omega), hb1⟩
theorem rlarge_any (v : Value) (hs : List Hdr) (b : List Ser) (w : World) (h : RdB w v hs b) (hl : hs.length ≤ 1099511627776) (hN : qai b ≤ 1099511627776) :
 Calls Tryz.prog 58 #[v] w fun e w' => e = .returned (if 1048576 < b.length ∨ 16777216 < qai b then .bool true else .bool false) ∧ Below w.heap.size w w' := by
 have H := Hj (qkg v hs b w h hl hN)
 have HLN := Hj h.1
 obtain ⟨ad, cap, rfl, hcap⟩ := Rd.slice h.2.1
 obtain ⟨M, hM⟩ : ∃ M, M = qai b := ⟨_, rfl⟩
 rw [← hM] at H hN ⊢
 rw [← HLN.out]
 clear hM h
 by_cases h1 : 1048576 < hs.length
 · rw [if_pos (.inl h1)]
   have h1' : (1048576 : Int) < (hs.length : Int) := by omega
   clear h1
   go_enter Tryz.func58, Tryz.ntmps58
   go_wp2
   go_ret
   exact ⟨rfl, Below.refl _ _⟩
 · have h1' : (hs.length : Int) ≤ 1048576 := by omega
   by_cases h2 : 16777216 < M
   · rw [if_pos (.inr h2)]
     have h2' : (16777216 : Int) < (M : Int) := by omega
     clear h1 h2
     go_enter Tryz.func58, Tryz.ntmps58
     go_wp2_with (go_at_call 112; refine H.out.mono ?_; rintro e w1 ⟨rfl, hb1⟩)
     go_ret
     exact ⟨rfl, hb1⟩
   · rw [if_neg (by omega)]
     have h2' : (M : Int) ≤ 16777216 := by omega
     clear h1 h2
     go_enter Tryz.func58, Tryz.ntmps58
     go_wp2_with (go_at_call 112; refine H.out.mono ?_; rintro e w1 ⟨rfl, hb1⟩)
     go_ret
     exact ⟨by first | rfl | (simp; done) | (simp; omega), hb1⟩
end
section
set_option maxHeartbeats 4000000
set_option maxRecDepth 100000
open Go.RowKit
attribute [local go_sem ↓] Go.wp_at_zero Go.wp_at_succ
def Fit (p : Ser) : Prop := p.1.length ≤ 1099511627776 ∧ p.2.length ≤ 1099511627776
theorem msingle_any (x : Hdr) (p : Ser) (w : World) (h : SerOk w x p) (hf : Fit p) :
 Calls Tryz.prog 115 #[.agg #[.slice x.la x.ln x.lc, .slice x.sa x.sn x.sc]] w fun e w' => e = .returned (.int .i64 (serE p)) ∧ Below w.heap.size w w' := by
 obtain ⟨e1, e2⟩ := h.lens
 obtain ⟨W0, hW0⟩ : ∃ W0, W0 = w.alloc (.cells #[.slice x.la x.ln x.lc, .slice x.sa x.sn x.sc] 97) := ⟨_, rfl⟩
 have hb0 : Below w.heap.size w W0 := by rw [hW0]; exact (Below.refl _ _).alloc (Nat.le_refl _) _
 obtain ⟨d1, d2⟩ := qgh w (.slice x.la x.ln x.lc) (.slice x.sa x.sn x.sc) 97
 rw [← hW0] at d1 d2
 have H1 := Hj (check_any x.lv p.1 W0 (h.below hb0).1 hf.1)
 have H2 := Hj (fun wq (hq : Below W0.heap.size W0 wq) => ascS_any x.sv p.2 wq ((h.below hb0).below hq).2 hf.2 20)
 have HD2 := Hj d2
 have HB0 := Hj hb0
 have HSE : Hid (serE p = if chkE none p.1 ≠ 0 then chkE none p.1 else if p.2.length = 0 then 21 else ascE cmpT 20 p.2) := Hj rfl
 obtain ⟨xa, xn, xc, xsa, xsn, xsc⟩ := x
 simp only at e1 e2
 subst e1 e2
 simp only [Hdr.lv, Hdr.sv] at H1 H2 HD2
 obtain ⟨E, hE⟩ : ∃ E, E = chkE none p.1 := ⟨_, rfl⟩
 obtain ⟨A, hA⟩ : ∃ A, A = ascE cmpT 20 p.2 := ⟨_, rfl⟩
 rw [← hE] at H1 HSE
 rw [← hA] at H2 HSE
 clear hE hA hf h hb0 d2
 by_cases hz : E = 0
 · subst hz
   have HSE2 := Hj (HSE.out.trans (if_neg (by decide)))
   clear HSE
   by_cases hl : p.2.length = 0
   · have HF := Hj (HSE2.out.trans (if_pos hl))
     have hl2 : ((p.2.length : Int) == 0) = true := by rw [beq_iff_eq]; omega
     clear HSE2 hl
     go_enter Tryz.func115, Tryz.ntmps115
     go_wp2_with fail
     rw [← hW0]
     go_wp2_with (go_at_call 160; refine H1.out.mono ?_; rintro e w1 ⟨rfl, hb1⟩; have d3 := (hb1.cell (World.block_lt_of_cell? W0 _ HD2.out)).trans HD2.out)
     go_ret
     exact ⟨qag HF.out.symm, HB0.out.trans (hb1.mono HB0.out.size)⟩
   · have HF := Hj (HSE2.out.trans (if_neg hl))
     have hl2 : ((p.2.length : Int) == 0) = false := by rw [beq_eq_false_iff_ne]; omega
     clear HSE2 hl
     go_enter Tryz.func115, Tryz.ntmps115
     go_wp2_with fail
     rw [← hW0]
     go_wp2_with (first
      | (go_at_call 160; refine H1.out.mono ?_; rintro e w1 ⟨rfl, hb1⟩; have d3 := (hb1.cell (World.block_lt_of_cell? W0 _ HD2.out)).trans HD2.out)
      | (go_at_call 161; refine (H2.out _ hb1).mono ?_; rintro e w2 ⟨rfl, hb2⟩))
     go_ret
     have hb3 := hb1.trans (hb2.mono hb1.size)
     exact ⟨qag HF.out.symm, HB0.out.trans (hb3.mono HB0.out.size)⟩
 · have HF := Hj (HSE.out.trans (if_pos hz))
   have hn : (E != 0) = true := by simpa using hz
   clear HSE hz
   go_enter Tryz.func115, Tryz.ntmps115
   go_wp2_with fail
   rw [← hW0]
   go_wp2_with (go_at_call 160; refine H1.out.mono ?_; rintro e w1 ⟨rfl, hb1⟩)
   go_ret
   exact ⟨qag HF.out.symm, HB0.out.trans (hb1.mono HB0.out.size)⟩
theorem Rd.sub {k : Nat} {w : World} {b off n cap : Nat} {xs : List Value} (h : Rd k w (.slice (some ⟨b, off, none⟩) n cap) n xs) (lo hi : Nat) (h1 : lo ≤ hi) (h2 : hi ≤ n) (c : Nat) (hc : hi - lo ≤ c) :
 Rd k w (.slice (some ⟨b, off + lo * k, none⟩) (hi - lo) c) (hi - lo) ((xs.drop (lo * k)).take ((hi - lo) * k)) := by
 obtain ⟨hl, ad, cap', hv, hcap, h⟩ := h
 simp only [Value.slice.injEq] at hv
 obtain ⟨rfl, _, rfl⟩ := hv
 have hm1 : lo * k ≤ hi * k := Nat.mul_le_mul_right k h1
 have hm2 : hi * k ≤ n * k := Nat.mul_le_mul_right k h2
 have hm3 : (hi - lo) * k = hi * k - lo * k := Nat.sub_mul ..
 refine ⟨by rw [List.length_take, List.length_drop]; omega, _, c, rfl, hc, ?_⟩
 rcases h with h | ⟨bl, o, he, hcell⟩
 · exact .inl (by omega)
 · simp only [Option.some.injEq, Addr.mk.injEq, and_true] at he
   obtain ⟨rfl, rfl⟩ := he
   refine .inr ⟨b, off + lo * k, rfl, fun j u hj => ?_⟩
   rw [List.getElem?_take] at hj
   split at hj
   · rw [List.getElem?_drop] at hj
     have := hcell _ u hj
     rw [← Nat.add_assoc] at this
     exact this
   · cases hj
theorem qft {α : Type} (f g : α → Value) : ∀ (l : List α) (k : Nat), (cells2 f g l).drop (k * 2) = cells2 f g (l.drop k)
 | [], k => by simp [cells2]
 | x :: l, 0 => by simp
 | x :: l, k + 1 => by
   have e : cells2 f g (x :: l) = f x :: g x :: cells2 f g l := by simp [cells2]
   rw [show (k + 1) * 2 = k * 2 + 2 by omega, e, List.drop_succ_cons, List.drop_succ_cons, List.drop_succ_cons]
   exact qft f g l k
theorem qfu {α : Type} (f g : α → Value) : ∀ (l : List α) (k : Nat), (cells2 f g l).take (k * 2) = cells2 f g (l.take k)
 | [], k => by simp [cells2]
 | x :: l, 0 => by simp [cells2]
 | x :: l, k + 1 => by
   have e : ∀ r, cells2 f g (x :: r) = f x :: g x :: cells2 f g r := fun r => by simp [cells2]
   rw [show (k + 1) * 2 = k * 2 + 2 by omega, e, List.take_succ_cons, List.take_succ_cons, List.take_succ_cons, e, qfu f g l k]
theorem RdB.sub {w : World} {b off cap : Nat} {hs : List Hdr} {bs : List Ser} (h : RdB w (.slice (some ⟨b, off, none⟩) hs.length cap) hs bs) (lo hi : Nat) (h1 : lo ≤ hi) (h2 : hi ≤ hs.length) (c : Nat) (hc : hi - lo ≤ c) :
 RdB w (.slice (some ⟨b, off + lo * 2, none⟩) (hi - lo) c) ((hs.drop lo).take (hi - lo)) ((bs.drop lo).take (hi - lo)) := by
 obtain ⟨hl, hr, hs'⟩ := h
 have hlen : ((hs.drop lo).take (hi - lo)).length = hi - lo := by rw [List.length_take, List.length_drop]; omega
 refine ⟨by rw [List.length_take, List.length_drop, List.length_take, List.length_drop, hl], ?_, ?_⟩
 · have := Rd.sub (k := 2) hr lo hi h1 h2 c hc
   unfold RdH
   rw [hlen]
   unfold hdrC at this ⊢
   rw [qft, qfu] at this
   exact this
 · intro i h x hi' hx
   rw [List.getElem?_take] at hi' hx
   split at hi'
   · rename_i hlt
     rw [if_pos hlt] at hx
     rw [List.getElem?_drop] at hi' hx
     exact hs' _ _ _ hi' hx
   · cases hi'
def prevB (b : List Ser) (k : Nat) : Option Ser := if k = 0 then none else b[k - 1]?
theorem qgw (b : List Ser) (k : Nat) : prevB b (k + 1) = b[k]? := by unfold prevB; rw [if_neg (by omega), Nat.add_sub_cancel]
theorem qhv (p : Option Ser) (x : Ser) (r : List Ser) (h : serE x ≠ 0) : bloE p (x :: r) = serE x := by unfold bloE; rw [if_pos h]
theorem qkr (x : Ser) (r : List Ser) (h : serE x = 0) : bloE none (x :: r) = bloE (some x) r := by rw [bloE, if_neg (by simpa using h)]
theorem qgi (q x : Ser) (r : List Ser) (h : serE x = 0) : bloE (some q) (x :: r) = if cmpB q x = 0 then 19 else if 0 < cmpB q x then 16 else bloE (some x) r := by rw [bloE, if_neg (by simpa using h)]
def MRel (b : List Ser) (w : World) (i : Value) (wr : World) : Prop := ∃ k : Nat, k ≤ b.length ∧ i = .int .i64 (k : Nat) ∧ Hid (bloE none b = bloE (prevB b k) (b.drop k)) ∧ Below w.heap.size w wr
theorem MRel.next {b : List Ser} {w wr : World} {k : Nat} {x : Ser} {p : Option Ser} (hx : b[k]? = some x) (hE : bloE none b = bloE p (b.drop k)) (h : bloE p (x :: b.drop (k + 1)) = bloE (some x) (b.drop (k + 1))) (hb : Below w.heap.size w wr) : MRel b w (.int .i64 ((k : Int) + 1)) wr :=
 ⟨k + 1, (List.getElem?_eq_some_iff.1 hx).1, rfl, Hj (by rw [hE, qaz hx, h, qgw, hx]), hb⟩
theorem qks (v : Value) (hs : List Hdr) (b : List Ser) (w : World) (h : RdB w v hs b) (hl : hs.length ≤ 1099511627776) (hN : qai b ≤ 1099511627776) (hf : ∀ x ∈ b, Fit x) :
 Calls Tryz.prog 61 #[v] w fun e w' => e = .returned (.int .i64 (modE b)) ∧ Below w.heap.size w w' := by
 have H0 := Hj (mcheck0_any v hs b w h hl hN)
 have HH := Hj h
 have HLN := Hj h.1
 obtain ⟨ad, cap, rfl, hcap⟩ := Rd.slice h.2.1
 clear h hN
 by_cases hbig : 1048576 < b.length ∨ 16777216 < qai b
 · have HF : Hid (modE b = 7) := Hj (by unfold modE; rw [if_pos hbig])
   rw [if_pos hbig] at H0
   clear hbig
   go_enter Tryz.func61, Tryz.ntmps61
   go_wp2_with (go_at_call 114; refine H0.out.mono ?_; rintro e w1 ⟨rfl, hb1⟩)
   go_ret
   exact ⟨qag HF.out.symm, hb1⟩
 · have HM : Hid (modE b = bloE none b) := Hj (by unfold modE; rw [if_neg hbig])
   rw [if_neg hbig] at H0
   clear hbig
   go_enter Tryz.func61, Tryz.ntmps61
   go_wp2_with (go_at_call 114; refine H0.out.mono ?_; rintro e w1 ⟨rfl, hb1⟩)
   have HB1 := Hj hb1
   clear hb1 H0
   go_loopw [15] (fun i wr => MRel b w i wr) (fun i _ => hs.length - (intOf i).toNat)
   case atStart => exact ⟨0, by omega, rfl, Hj rfl, HB1.out⟩
   case round =>
    obtain ⟨k, hk, rfl, HE, hbr⟩ := hrel
    by_cases hkl : k < hs.length
    · obtain ⟨x, hx⟩ := qaj hkl
      obtain ⟨p, hp⟩ := qaj (l := b) (k := k) (by have := HLN.out; omega)
      have hrd := HH.out.below hbr
      have s1 := hrd.2.2 _ _ _ hx hp
      obtain ⟨bb, off, rfl, c1, c2⟩ := RdH.at hrd.2.1 hx
      have hkl' : (k : Int) < (hs.length : Int) := by omega
      have hk0 : (0 : Int) ≤ (k : Int) := by omega
      obtain ⟨W1, hW1⟩ : ∃ W1, W1 = wr.alloc (.cells #[.slice x.la x.ln x.lc, .slice x.sa x.sn x.sc] 97) := ⟨_, rfl⟩
      obtain ⟨n1, n2⟩ := qgh wr (.slice x.la x.ln x.lc) (.slice x.sa x.sn x.sc) 97
      rw [← hW1] at n1 n2
      have hbW : Below wr.heap.size wr W1 := by rw [hW1]; exact (Below.refl _ _).alloc (Nat.le_refl _) _
      have HSG := Hj (msingle_any x p W1 (s1.below hbW) (hf _ (List.mem_of_getElem? hp)))
      have HBW := Hj hbW; have HP := Hj hp; have HX := Hj hx; have HRD := Hj hrd; have HBR := Hj hbr
      obtain ⟨E, hE⟩ : ∃ E, E = serE p := ⟨_, rfl⟩
      rw [← hE] at HSG
      have HLE := Hj hE
      clear hx hp hrd s1 hE hbW hbr hkl
      obtain ⟨xa, xn, xc, xsa, xsn, xsc⟩ := x
      by_cases hz : E = 0
      · subst hz
        rcases Nat.eq_zero_or_pos k with rfl | hkp
        · simp only [Nat.zero_mul, Nat.add_zero] at c1 c2
          have h0l : (0 : Int) < (hs.length : Int) := by omega
          have HAS : Hid (∀ wq c, Below wr.heap.size wr wq → 1 ≤ c → Calls Tryz.prog 116 #[.slice (some ⟨bb, off, none⟩) 1 c, .func (.func 117) #[] #[], .int .i64 19] wq fun e w' => e = .returned (.int .i64 0) ∧ Below wq.heap.size wq w') := Hj (fun wq c hq hc => by
           have hw := (HRD.out.below hq).sub 0 1 (by omega) (by omega) c (by omega)
           have h2 := ascB_any _ _ _ wq hw (by rw [List.length_take]; omega) (fun x hx => (hf x (List.mem_of_mem_drop (List.mem_of_mem_take hx))).1) 19
           rw [show ascE cmpB 19 (List.take (1 - 0) (List.drop 0 b)) = 0 from by
            rw [qaz HP.out]; rfl] at h2
           simpa using h2)
          clear hkl' hk hf
          go_wp2_with fail
          rw [← hW1]
          go_wp2_with (go_at_call 115; refine HSG.out.mono ?_; rintro e w3 ⟨rfl, hb3⟩)
          have hb4 : Below wr.heap.size wr w3 := HBW.out.trans (hb3.mono HBW.out.size)
          refine (HAS.out _ cap hb4 (by omega)).mono ?_
          rintro e w4 ⟨rfl, hb5⟩
          have HB5 := Hj (HBR.out.trans ((hb4.trans (hb5.mono hb4.size)).mono HBR.out.size))
          clear hb3 hb4 hb5 HAS
          go_wp2
          exact ⟨MRel.next HP.out HE.out (qkr _ _ HLE.out.symm) HB5.out, by simp [intOf]; omega⟩
        · obtain ⟨j, rfl⟩ : ∃ j, k = j + 1 := ⟨k - 1, by omega⟩
          obtain ⟨q, hq⟩ := qaj (l := b) (k := j) (by have := HLN.out; omega)
          have hj0 : (0 : Int) ≤ (j : Int) := by omega
          have hj1 : (j : Int) + 1 < (hs.length : Int) := by omega
          have hj2 : (j : Int) + 2 ≤ (hs.length : Int) := by omega
          have hjw : IntKind.i64.wrap (j : Int) = (j : Int) := by rw [IntKind.wrap_i64]; omega
          have hjm : max (j : Int) 0 = (j : Int) := by omega
          have hkz : (((j : Int) + 1) == 0) = false := by rw [beq_eq_false_iff_ne]; omega
          have HQ : Hid (bloE none b = bloE (some q) (b.drop (j + 1))) := Hj (by rw [HE.out, qgw, hq])
          have HQQ := Hj hq
          obtain ⟨A, hA⟩ : ∃ A, A = if cmpB q p = 0 then 19 else if 0 < cmpB q p then 16 else (0 : Int) := ⟨_, rfl⟩
          have HAA := Hj hA
          have HAS : Hid (∀ wq c, Below wr.heap.size wr wq → 2 ≤ c → Calls Tryz.prog 116 #[.slice (some ⟨bb, off + j * 2, none⟩) 2 c, .func (.func 117) #[] #[], .int .i64 19] wq fun e w' => e = .returned (.int .i64 A) ∧ Below wq.heap.size wq w') := Hj (fun wq c hq' hc => by
           have hw := (HRD.out.below hq').sub j (j + 2) (by omega) (by omega) c (by omega)
           have h2 := ascB_any _ _ _ wq hw (by rw [List.length_take]; omega) (fun x hx => (hf x (List.mem_of_mem_drop (List.mem_of_mem_take hx))).1) 19
           rw [show ascE cmpB 19 (List.take (j + 2 - j) (List.drop j b)) = A from by
            rw [show j + 2 - j = 2 by omega, qaz HQQ.out, qaz HP.out, HAA.out]; rfl, show j + 2 - j = 2 by omega] at h2
           exact h2)
          clear hkp hk hq hkl' hA hf
          go_wp2_with fail
          rw [← hW1]
          go_wp2_with (go_at_call 115; refine HSG.out.mono ?_; rintro e w3 ⟨rfl, hb3⟩)
          rw [show j + 1 + 1 - j = 2 by omega]
          have hb4 : Below wr.heap.size wr w3 := HBW.out.trans (hb3.mono HBW.out.size)
          have hbl := HQ.out.trans (by rw [qaz HP.out, qgi q p _ HLE.out.symm])
          by_cases hc0 : cmpB q p = 0
          · obtain rfl : A = 19 := by rw [HAA.out, if_pos hc0]
            rw [if_pos hc0] at hbl
            have HF := Hj hbl
            refine (HAS.out _ (cap - j) hb4 (by omega)).mono ?_
            rintro e w4 ⟨rfl, hb5⟩
            have HB5 := Hj (HBR.out.trans ((hb4.trans (hb5.mono hb4.size)).mono HBR.out.size))
            clear hb3 hb4 hb5 HAS hbl hc0 HAA
            go_wp2
            go_ret
            exact ⟨qag (HM.out.trans HF.out).symm, HB5.out⟩
          · rw [if_neg hc0] at hbl
            by_cases hcp : 0 < cmpB q p
            · obtain rfl : A = 16 := by rw [HAA.out, if_neg hc0, if_pos hcp]
              rw [if_pos hcp] at hbl
              have HF := Hj hbl
              refine (HAS.out _ (cap - j) hb4 (by omega)).mono ?_
              rintro e w4 ⟨rfl, hb5⟩
              have HB5 := Hj (HBR.out.trans ((hb4.trans (hb5.mono hb4.size)).mono HBR.out.size))
              clear hb3 hb4 hb5 HAS hbl hc0 hcp HAA
              go_wp2
              go_ret
              exact ⟨qag (HM.out.trans HF.out).symm, HB5.out⟩
            · obtain rfl : A = 0 := by rw [HAA.out, if_neg hc0, if_neg hcp]
              rw [if_neg hcp] at hbl
              have HF : Hid (bloE (some q) (p :: b.drop (j + 1 + 1)) = bloE (some p) (b.drop (j + 1 + 1))) := Hj (by rw [qgi q p _ HLE.out.symm, if_neg hc0, if_neg hcp])
              refine (HAS.out _ (cap - j) hb4 (by omega)).mono ?_
              rintro e w4 ⟨rfl, hb5⟩
              have HB5 := Hj (HBR.out.trans ((hb4.trans (hb5.mono hb4.size)).mono HBR.out.size))
              clear hb3 hb4 hb5 HAS hbl hc0 hcp HAA
              go_wp2
              exact ⟨MRel.next HP.out HQ.out HF.out HB5.out, by simp [intOf]; omega⟩
      · have hn : (E != 0) = true := by simpa using hz
        have HF : Hid (bloE none b = E) := Hj (by rw [HE.out, qaz HP.out, qhv _ _ _ (by rw [← HLE.out]; exact hz)]; exact HLE.out.symm)
        clear hz hk HE hf
        go_wp2_with fail
        rw [← hW1]
        go_wp2_with (go_at_call 115; refine HSG.out.mono ?_; rintro e w3 ⟨rfl, hb3⟩)
        go_ret
        have hb4 : Below wr.heap.size wr w3 := HBW.out.trans (hb3.mono HBW.out.size)
        exact ⟨qag (HM.out.trans HF.out).symm, HBR.out.trans (hb4.mono HBR.out.size)⟩
    · obtain rfl : k = hs.length := by have := HLN.out; omega
      have HF : Hid (bloE none b = 0) := Hj (by rw [HE.out, HLN.out, List.drop_length]; unfold bloE; rfl)
      clear HE
      go_wp2
      go_ret
      exact ⟨qag (HM.out.trans HF.out).symm, hbr⟩
end
section
open Go.RowKit
section
variable {P : Program} {ops : Array Oper} {Q : Exit → Act → World → Prop}
theorem qhl {rest : List Oper} {o : Oper} {a : Act} {w : World} (hgd : o.guard = none) (v : Value) (hv : (execOp a.eval o).run P w = .ok (.value v) w) (h : wpList P ops Q rest (a.put o.dst v) w) : wpList P ops Q (o :: rest) a w :=
 wpList_plain hgd fun _ hK => by
  unfold Oper.wp
  rw [hv]
  exact hK _ _ h
theorem wp_two_zero {id : Nat} {a : Act} {w : World} (o0 o1 o2 o3 o4 o5 : Oper) (g0 : o0.guard = none) (g1 : o1.guard = none) (g2 : o2.guard = none) (g3 : o3.guard = none) (g4 : o4.guard = none) (g5 : o5.guard = none)
 (ty ty' : TypeId) (x2 x3 y3 x4 y4 x5 : Operand) (z z' : Array Value) (p0 : o0.op = .build ty #[]) (hz : P.built ty [] = some z) (p1 : o1.op = .build ty' #[]) (hz' : P.built ty' [] = some z') (p2 : o2.op = .move x2) (p3 : o3.op = .store ty x3 y3) (d3 : o3.dst = none) (p4 : o4.op = .store ty' x4 y4) (d4 : o4.dst = none) (p5 : o5.op = .assign x5)
 (b3 b4 : Nat) (old old' : Array Value) (t t' : TypeId) (hb3 : w.heap[b3]? = some (.cells old t (0, 0))) (hb4 : w.heap[b4]? = some (.cells old' t' (0, 0))) (n34 : b3 ≠ b4)
 (hi : (P.info? ty).map (·.size) = some z.size) (hi' : (P.info? ty').map (·.size) = some z'.size) (ho : old.size = z.size) (ho' : old'.size = z'.size) (hc : z.all (·.oneCell') = true) (hc' : z'.all (·.oneCell') = true)
 (A : Act) (hA : A = ((a.put o0.dst (.agg z)).put o1.dst (.agg z')).put o2.dst (((a.put o0.dst (.agg z)).put o1.dst (.agg z')).eval x2))
 (e3 : A.eval x3 = .pointer (some ⟨b3, 0, none⟩)) (v3 : A.eval y3 = .agg z) (e4 : A.eval x4 = .pointer (some ⟨b4, 0, none⟩)) (v4 : A.eval y4 = .agg z')
 (B : Act) (hB : B = A.put o5.dst (A.eval x5)) (e3' : B.eval x3 = .pointer (some ⟨b3, 0, none⟩)) (e4' : B.eval x4 = .pointer (some ⟨b4, 0, none⟩)) (u : Nat) (vu : Value) (hu : B.eval (.tmp u) = vu) (hde : B.defers = [])
 (h : ∀ B W, B.eval x3 = .pointer (some ⟨b3, 0, none⟩) → B.eval x4 = .pointer (some ⟨b4, 0, none⟩) → B.eval (.tmp u) = vu → B.defers = [] → W.heap[b3]? = some (.cells z t (0, 0)) → W.heap[b4]? = some (.cells z' t' (0, 0)) → Keeps (fun k => k = b3 ∨ k = b4) w W → Q .normal B W) :
 (Code.region id [o0, o1, o2, o3, o4, o5].toArray false).wp P Q a w := by
 have n43 : b4 ≠ b3 := fun e => n34 e.symm
 refine wp_region_lit ?_
 refine wpList_build g0 ty #[] p0 (by simp [hz]) ?_
 simp only [List.map_toArray, List.map_nil, hz, Option.getD_some]
 refine wpList_build g1 ty' #[] p1 (by simp [hz']) ?_
 simp only [List.map_toArray, List.map_nil, hz', Option.getD_some]
 refine qhl g2 _ (by unfold execOp; simp only [p2, Sem.run_pure]; rfl) ?_
 rw [← hA]
 refine wpList_store_row g3 ty x3 y3 p3 b3 z e3 v3 t old hb3 hi ho hc ?_
 rw [d3]
 refine wpList_store_row g4 ty' x4 y4 p4 b4 z' e4 v4 t' old' ((setRow_other _ _ _ _ n43).trans hb4) hi' ho' hc' ?_
 rw [d4]
 refine qhl g5 _ (by unfold execOp; simp only [p5, Sem.run_pure]; rfl) ?_
 refine wpList_nil ?_
 refine h _ _ ?_ ?_ ?_ ?_ ((setRow_other _ _ _ _ n34).trans (setRow_heap _ _ _ _ _ _ hb3)) (setRow_heap _ _ _ _ _ _ ((setRow_other _ _ _ _ n43).trans hb4)) (qax (qax (Keeps.refl _ _) _ _ (fun _ => .inl rfl)) _ _ (fun _ => .inr rfl))
 · exact hB ▸ e3'
 · exact hB ▸ e4'
 · exact hB ▸ hu
 · exact hB ▸ hde
end
end
end Go.Proofs.YtfpcgcbehdogjaaGreatDoor
