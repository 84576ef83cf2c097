/-
  WALKS: tsblockref05.Get.
-/
import Derived.Test.YtdniaingipoggaaDoorWRef05b
import Derived.Test.YtdniaingipoggaaDoorWTimesF
import Derived.Test.YtdniaingipoggaaDoorDRef01b
import Derived.Deep.LoopGhost
import Derived.Deep.DeepCutAuto
import Derived.Deep.CutBlock
namespace Go.Proofs.YtdniaingipoggaaDoor
open Go.RowKit

/-- the form as the reference reads it: f bits at most are still to come, j were 1 -/
def formG : Nat → Nat → List Bool → Nat × Nat × Nat
  | 0, j, _ => (j, 0, 0)
  | _ + 1, j, [] => (j, 3, 0)
  | _ + 1, j, false :: _ => (j, 0, 1)
  | f + 1, j, true :: r => ((formG f (j + 1) r).1, (formG f (j + 1) r).2.1, (formG f (j + 1) r).2.2 + 1)
theorem formG_eq (b : List Bool) : formG 4 0 b = formB b := by
  rcases b with _ | ⟨_ | _, _ | ⟨_ | _, _ | ⟨_ | _, _ | ⟨_ | _, b⟩⟩⟩⟩ <;> rfl
/-- in the middle of a read: acc was read, f times are still to come -/
structure Mid (D : Nat × List Int × List Bool) (acc : List Int) (b : List Bool) (t d : Int) (f : Nat) : Prop where
  err : (decT f t d b).1 = D.1
  ok : D.1 = 0 → acc ++ (decT f t d b).2.1 = D.2.1
  bad : D.1 ≠ 0 → D.2.1 = []
  rest : (decT f t d b).2.2 = D.2.2
theorem dec5_start {n : Nat} {b : List Bool} (hn : n ≠ 0) (hl : ¬ b.length < 64) : Mid (dec5 n b) [W (bitsNat (b.take 64))] (b.drop 64) (W (bitsNat (b.take 64))) 0 (n - 1) := by
  have hb := fun h => dec5_bad (n := n) (b := b) h
  unfold dec5 at *
  rw [if_neg hn, if_neg hl] at *
  exact ⟨rfl, fun h => by simp only at h ⊢; rw [if_pos h]; rfl, hb, rfl⟩
theorem Mid.step {D : Nat × List Int × List Bool} {acc : List Int} {b : List Bool} {t d : Int} {f : Nat} {x : Int} {m : Nat} (h : Mid D acc b t d (f + 1)) (hc : changeB b = (x, 0, m)) :
    Mid D (acc ++ [W (t + W (d + x))]) (b.drop m) (W (t + W (d + x))) (W (d + x)) f := by
  obtain ⟨h1, h2, h3, h4⟩ := h
  rw [decT_succ hc] at h1 h2 h4
  simp only [ne_eq, not_true_eq_false, if_false] at h1 h2 h4
  exact ⟨h1, fun h => by rw [← h2 h]; simp, h3, h4⟩
theorem Mid.stop {D : Nat × List Int × List Bool} {acc : List Int} {b : List Bool} {t d : Int} {f : Nat} {x : Int} {e m : Nat} (h : Mid D acc b t d (f + 1)) (hc : changeB b = (x, e, m)) (he : e ≠ 0) : D = (e, [], b.drop m) := by
  obtain ⟨h1, h2, h3, h4⟩ := h
  rw [decT_succ hc, if_pos he] at h1 h4
  have := h3 (by rw [← h1]; exact he)
  obtain ⟨D1, D2, D3⟩ := D
  simp only at h1 h4 this
  rw [← h1, this, ← h4]
theorem Mid.done {D : Nat × List Int × List Bool} {acc : List Int} {b : List Bool} {t d : Int} (h : Mid D acc b t d 0) : D = (0, acc, b) := by
  obtain ⟨h1, h2, h3, h4⟩ := h
  simp only [decT, List.append_nil] at h1 h2 h4
  obtain ⟨D1, D2, D3⟩ := D
  simp only at h1 h2 h4
  rw [← h1, ← h2 h1.symm, ← h4]
/-- what a reader of the reference leaves -/
def Left5 (p : Nat) (vq : Value) (w : World) (D : Nat × List Int × List Bool) (e : Ending) (w' : World) : Prop :=
  ∃ v', e = .returned (.tuple #[v', .int .i64 ((D.1 : Nat) : Int)]) ∧ w'.ownsRow w.heap.size 2 1 v' D.2.1.length (i64s D.2.1) ∧
    (∃ vq', IsQ w' p vq' D.2.2 ∧ ∀ g, vq'.ownBlock = some g → vq.ownBlock = some g) ∧ Keeps (fun k => k = p) w w'
theorem Left5.stop {p : Nat} {vq : Value} {w : World} {D : Nat × List Int × List Bool} {e : Nat} {r : List Bool} (hD : D = (e, [], r)) {w' : World} {vq' : Value} (hq : IsQ w' p vq' r) (hv : ∀ g, vq'.ownBlock = some g → vq.ownBlock = some g) (hk : Keeps (fun k => k = p) w w') :
    Left5 p vq w D (.returned (.tuple #[.slice none 0 0, .int .i64 ((e : Nat) : Int)])) w' := by
  subst hD
  exact ⟨_, rfl, World.ownsRow_nil _ _ _ _, ⟨vq', hq, hv⟩, hk⟩

set_option maxRecDepth 100000 in
set_option maxHeartbeats 4000000 in
theorem ref5Get_any (p : Nat) (vq : Value) (b0 : List Bool) (n : Nat) (w : World) (h : IsQ w p vq b0) (hv : ∀ g, vq.ownBlock = some g → g < w.heap.size) (hn : n ≤ 1000000000) :
    Calls Tryd.prog 20 #[.pointer (some ⟨p, 0, none⟩), .int .i64 n] w (Left5 p vq w (dec5 n b0)) := by
  obtain ⟨i0, hii, hz0, hz1, hz2⟩ := info_parts infoI64
  have hp : p < w.heap.size := (Array.getElem?_eq_some_iff.1 h.blk).1
  have HV := Lib.hid hv
  obtain ⟨D, hD⟩ : ∃ D, D = dec5 n b0 := ⟨_, rfl⟩
  rw [← hD]
  obtain ⟨w1, hw1⟩ : ∃ w1, w1 = w.alloc (.cells widCells 83) := ⟨_, rfl⟩
  have k1 : ∀ S, Keeps S w w1 := fun S => by rw [hw1]; exact (Keeps.refl _ w).alloc _
  have hs1 : w1.heap.size = w.heap.size + 1 := by rw [hw1]; simp
  have hc1 : w1.heap[w.heap.size]? = some (.cells widCells 83 (0, 0)) := by rw [hw1]; exact heap_alloc_new w _
  have HD := Lib.hid hD; have HW1 := Lib.hid hw1; have K1 := Lib.hid k1; have HC1 := Lib.hid hc1
  have HQ1 := Lib.hid (h.keeps (k1 (fun _ => False)) (fun h => h) (fun _ _ h => h))
  clear h hv hD hw1 k1 hc1
  go_enter Tryd.func20, Tryd.ntmps20
  go_wp2
  rw [show w.alloc (.cells #[.int .i64 0, .int .i64 7, .int .i64 12, .int .i64 32, .int .i64 64] 83) = w1 from HW1.out.symm]
  go_loopg [7, 8, 9] n (fun g t7 t8 t9 wr => ∃ (k : Nat) (t d : Int) (acc : List Int) (b : List Bool) (v1 vr : Value), g + k = n ∧ v1 = t7 ∧ t8 = .int .i64 d ∧ t9 = .int .i64 k ∧ acc.length = k ∧ inI t ∧ inI d ∧
      wr.ownsRow w1.heap.size 2 1 v1 acc.length (i64s acc) ∧ IsQ wr p vr b ∧ (∀ g, vr.ownBlock = some g → vq.ownBlock = some g) ∧ Keeps (fun k => k = p) w1 wr ∧
      (k = 0 → b = b0 ∧ d = 0) ∧ (k ≠ 0 → acc[k - 1]? = some t ∧ Mid D acc b t d g))
  case atStart => exact ⟨0, 0, 0, [], b0, _, vq, by omega, rfl, rfl, rfl, rfl, by unfold inI; omega, by unfold inI; omega, World.ownsRow_nil _ _ _ _, HQ1.out, fun _ h => h, Keeps.refl _ _, fun _ => ⟨rfl, rfl⟩, fun h => absurd rfl h⟩
  case round =>
    obtain ⟨k, t, d, acc, b, v1, vr, hg, rfl, rfl, rfl, hacc, ht, hd, hrow, hq, hvr, hkr, h0, h1⟩ := hrel
    have hkw : Keeps (fun k => k = p) w wr := (K1.out _).trans hkr (fun _ _ h => h)
    have hsr : w1.heap.size ≤ wr.heap.size := hkr.size
    by_cases hkn : k < n
    · have hkn' : (k : Int) < n := by omega
      by_cases hk0 : k = 0
      · subst hk0
        obtain ⟨rfl, rfl⟩ := h0 rfl
        obtain rfl : acc = [] := List.eq_nil_of_length_eq_zero hacc
        have HROW := Lib.hid hrow; have HQ := Lib.hid hq; have HVR := Lib.hid hvr; have HKR := Lib.hid hkr; have HKW := Lib.hid hkw
        clear hrow hq hvr hkr hkw h0 h1 hacc
        by_cases hl : b.length < 64
        · have hD2 : D = (3, [], b) := by rw [HD.out]; unfold dec5; rw [if_neg (by omega), if_pos hl]
          have HD2 := Lib.hid hD2
          clear hD2
          go_wp2_with fail
          refine (qbits_eof p vr b 64 wr HQ.out (by decide) hl).mono ?_
          rintro e wz ⟨rfl, rfl⟩
          go_wp2
          go_ret2
          exact Left5.stop HD2.out HQ.out HVR.out HKW.out
        · have hm := dec5_start (n := n) (b := b) (by omega) hl
          rw [← HD.out] at hm
          obtain ⟨X, hX⟩ : ∃ X, X = bitsNat (b.take 64) := ⟨_, rfl⟩
          rw [← hX] at hm
          obtain ⟨t2, ht2⟩ : ∃ t2, t2 = W (X : Int) := ⟨_, rfl⟩
          rw [← ht2] at hm
          have htw : IntKind.i64.wrap (X : Int) = t2 := ht2.symm
          have htw2 : wrap64 (X : Int) = t2 := by rw [ht2, W_wrap64]
          have htI : inI t2 := by rw [ht2]; exact W_in _
          have hgn : n - 1 = gk - 1 := by omega
          rw [hgn] at hm
          have HM := Lib.hid hm; have HX := Lib.hid hX; have HTI := Lib.hid htI
          clear hm hX ht2 htI hgn
          go_wp2_with fail
          refine (qbits_any p vr b 64 wr HQ.out (by decide) (by omega)).mono ?_
          rw [← HX.out]
          rintro e w2 ⟨rfl, ⟨vr2, hq2, hvr2⟩, hk2⟩
          have hrow2 := hk2.row HROW.out (fun g hg e => by have := (HROW.out.lt g hg).1; omega)
          have hkr2 := HKR.out.trans hk2 (fun _ _ h => h)
          have hs2 : w1.heap.size ≤ w2.heap.size := hkr2.size
          obtain ⟨ad, cap, rfl⟩ := row_slice hrow2
          have HQ2 := Lib.hid hq2; have HVR2 : Hid (∀ g, vr2.ownBlock = some g → vq.ownBlock = some g) := Lib.hid (fun g hg => HVR.out g (hvr2 g hg)); have HKR2 := Lib.hid hkr2; have HROW2 := Lib.hid hrow2
          clear hq2 hvr2 hkr2 hk2
          go_wp2_with (at_builtin; refine wpList_append_new _ rfl _ _ 26 rfl w1.heap.size 2 i0 (.int .i64 0) 1 8 Tryd.underlying26 hii hz0 hz1 hz2 rfl (by decide) _ _ _ rfl (hrow2.alloc _) ⟨w2.heap.size, 0, none⟩ 1 1 [.int .i64 t2] rfl rfl ?c1 ?c2 ?c3 ?c4 ?c5 ?_)
          case c1 => exact cell_one_new _ _ _
          case c2 => simp [Value.oneCell']
          case c3 => unfold maxLen; simp
          case c4 => simp
          case c5 => simp; omega
          intro v' w4 hown' hgrow hnew
          have kk : Keeps (own (.slice ad 0 cap)) w2 w4 := ((Keeps.refl (own _) w2).alloc _).grown hgrow (fun k _ e => e)
          have hkw4 := HKR2.out.trans kk (fun k hk e => by have := (HROW2.out.lt k e).1; omega)
          have hq4 := HQ2.out.keeps kk (fun e => by have := (HROW2.out.lt _ e).1; omega) (fun g hg e => by have := (HROW2.out.lt _ e).1; have := HV.out g (HVR2.out g hg); omega)
          have F1 := Lib.hid hkw4; have F2 := Lib.hid hq4; have F3 := Lib.hid hown'
          clear hkw4 hq4 hown' hgrow hnew kk hrow2
          go_wp2
          go_roundg (gk - 1)
          case measure => omega
          case rel => exact ⟨1, t2, 0, [t2], _, v', vr2, by omega, rfl, rfl, rfl, rfl, HTI.out, by unfold inI; omega, by have := F3.out; simpa [i64s, hs1] using this, F2.out, HVR2.out, F1.out, fun h => by omega, fun _ => ⟨rfl, HM.out⟩⟩
      · obtain ⟨hat, hmid⟩ := h1 hk0
        obtain ⟨f, rfl⟩ : ∃ f, gk = f + 1 := ⟨gk - 1, by omega⟩
        obtain ⟨⟨kk, e0, m0⟩, hf⟩ : ∃ q, formB b = q := ⟨_, rfl⟩
        have hfs := formB_sound b
        rw [hf] at hfs
        simp only at hfs
        obtain ⟨hf1, hf2, hf3, hf4, -⟩ := hfs
        have hbad : e0 ≠ 0 → D = (e0, [], b.drop m0) := fun he => hmid.stop (getChange_err b hf he) he
        have hfg : formG 4 0 b = (kk, e0, m0) := by rw [formG_eq, hf]
        have hk0' : ((k : Int) == 0) = false := by simp; omega
        have hkpos : 0 < k := by omega
        have HROW := Lib.hid hrow; have HQ := Lib.hid hq; have HVR := Lib.hid hvr; have HKR := Lib.hid hkr; have HKW := Lib.hid hkw; have HAT := Lib.hid hat; have HMID := Lib.hid hmid; have HF := Lib.hid hf; have HBAD := Lib.hid hbad; have HFG := Lib.hid hfg; have HT := Lib.hid ht; have HDI := Lib.hid hd; have HACC := Lib.hid hacc
        clear hrow hq hvr hkr hkw hat hmid hf hbad hfg h0 h1 hk0 ht hd hacc hf4 hf2
        go_upto_block 2 with fail
        go_cut [12, 13, 14] (fun t12 _ _ wx => ∃ vr2, t12 = .int .i64 (kk : Nat) ∧ e0 = 0 ∧ IsQ wx p vr2 (b.drop m0) ∧ (∀ g, vr2.ownBlock = some g → vq.ownBlock = some g) ∧ Keeps (fun k => k = p) wr wx)
        case first =>
          go_wp2_with fail
          go_loopg [12] 4 (fun g t12 wx => ∃ (j : Nat) (c : List Bool) (vr2 : Value), g + j = 4 ∧ t12 = .int .i64 j ∧ IsQ wx p vr2 c ∧ (∀ g, vr2.ownBlock = some g → vq.ownBlock = some g) ∧ Keeps (fun k => k = p) wr wx ∧ (formG g j c).1 = kk ∧ (formG g j c).2.1 = e0 ∧ c.drop (formG g j c).2.2 = b.drop m0)
          case atStart => exact ⟨0, b, vr, rfl, rfl, HQ.out, HVR.out, Keeps.refl _ _, by rw [HFG.out], by rw [HFG.out], by rw [HFG.out]⟩
          case round =>
            obtain ⟨j, c, vr2, hj, rfl, hq2, hvr2, hk2, g1, g2, g3⟩ := hrel
            rcases gk with _ | g
            · obtain rfl : j = 4 := by omega
              simp only [formG, List.drop_zero] at g1 g2 g3
              have A := Lib.hid hq2; have B := Lib.hid hvr2; have C := Lib.hid hk2; have G1 := Lib.hid g1; have G2 := Lib.hid g2; have G3 := Lib.hid g3
              clear hq2 hvr2 hk2 g1 g2 g3 hj
              go_wp2_with fail
              go_meet
              exact ⟨vr2, by rw [← G1.out], G2.out.symm, by rw [← G3.out]; exact A.out, B.out, C.out⟩
            · have hj4 : (j : Int) < 4 := by omega
              rcases c with _ | ⟨_ | _, c⟩
              · simp only [formG, List.drop_nil] at g1 g2 g3
                have A := Lib.hid hq2; have B := Lib.hid hvr2; have C := Lib.hid hk2; have G1 := Lib.hid g1; have G2 := Lib.hid g2; have G3 := Lib.hid g3
                clear hq2 hvr2 hk2 g1 g2 g3 hj
                go_wp2_with fail
                refine (qbits_eof p vr2 [] 1 _ A.out (by decide) (by decide)).mono ?_
                rintro e wz ⟨rfl, rfl⟩
                go_wp2_with fail
                go_ret2
                refine Left5.stop (e := 3) ?_ A.out B.out (HKW.out.trans C.out (fun _ _ h => h))
                rw [HBAD.out (by rw [← G2.out]; decide), ← G2.out, ← G3.out]
              · simp only [formG, List.drop_succ_cons, List.drop_zero] at g1 g2 g3
                have A := Lib.hid hq2; have B := Lib.hid hvr2; have C := Lib.hid hk2; have G1 := Lib.hid g1; have G2 := Lib.hid g2; have G3 := Lib.hid g3
                have hb1 : bitsNat ((false :: c).take 1) = 0 := rfl
                have HB1 := Lib.hid hb1
                clear hq2 hvr2 hk2 g1 g2 g3 hj hb1
                go_wp2_with fail
                refine (qbits_any p vr2 (false :: c) 1 _ A.out (by decide) (by simp)).mono ?_
                rw [HB1.out]
                rintro e wz ⟨rfl, ⟨vr3, hq3, hvr3⟩, hk3⟩
                have A3 : Hid (IsQ wz p vr3 c) := Lib.hid hq3
                have B3 : Hid (∀ g, vr3.ownBlock = some g → vq.ownBlock = some g) := Lib.hid (fun g hg => B.out g (hvr3 g hg))
                have C3 := Lib.hid (C.out.trans hk3 (fun _ _ h => h))
                clear hq3 hvr3 hk3
                go_wp2_with fail
                go_meet
                exact ⟨vr3, by rw [← G1.out], G2.out.symm, by rw [← G3.out]; exact A3.out, B3.out, C3.out⟩
              · simp only [formG, List.drop_succ_cons] at g1 g2 g3
                have A := Lib.hid hq2; have B := Lib.hid hvr2; have C := Lib.hid hk2; have G1 := Lib.hid g1; have G2 := Lib.hid g2; have G3 := Lib.hid g3
                have hb1 : bitsNat ((true :: c).take 1) = 1 := rfl
                have HB1 := Lib.hid hb1
                clear hq2 hvr2 hk2 g1 g2 g3 hb1
                go_wp2_with fail
                refine (qbits_any p vr2 (true :: c) 1 _ A.out (by decide) (by simp)).mono ?_
                rw [HB1.out]
                rintro e wz ⟨rfl, ⟨vr3, hq3, hvr3⟩, hk3⟩
                have A3 : Hid (IsQ wz p vr3 c) := Lib.hid hq3
                have B3 : Hid (∀ g, vr3.ownBlock = some g → vq.ownBlock = some g) := Lib.hid (fun g hg => B.out g (hvr3 g hg))
                have C3 := Lib.hid (C.out.trans hk3 (fun _ _ h => h))
                clear hq3 hvr3 hk3
                go_wp2_with fail
                go_roundg g
                case measure => omega
                case rel => exact ⟨j + 1, c, vr3, by omega, by go_num, A3.out, B3.out, C3.out, G1.out, G2.out, G3.out⟩
        case rest =>
          obtain ⟨vr2, rfl, rfl, hq2, hvr2, hk2⟩ := hcut
          obtain ⟨wa, hwa⟩ : ∃ wa, wc = wa := ⟨_, rfl⟩
          subst hwa
          obtain ⟨R, hR⟩ : ∃ R, R = b.drop m0 := ⟨_, rfl⟩
          rw [← hR] at hq2
          have hrow2 := hk2.row HROW.out (fun g hg e => by have := (HROW.out.lt g hg).1; omega)
          have hkr2 := HKR.out.trans hk2 (fun _ _ h => h)
          have hkw2 := HKW.out.trans hk2 (fun _ _ h => h)
          obtain ⟨fw, hfw⟩ : ∃ fw, fw = fWidth kk := ⟨_, rfl⟩
          have pw := fWidth_le kk hf1
          rw [← hfw] at pw
          have hRl : ∀ z, R.length < z ↔ b.length < m0 + z := fun z => by
            have := formB_sound b
            rw [HF.out] at this
            rw [hR, List.length_drop]
            have := this.2.1
            simp only at this
            omega
          have heof : R.length < fw → D = (3, [], R) := fun h => by
            rw [hR]; exact HMID.out.stop (getChange_eof b HF.out (by rw [← hfw]; exact (hRl fw).1 h)) (by decide)
          obtain ⟨u, hu⟩ : ∃ u, u = bitsNat (R.take fw) := ⟨_, rfl⟩
          obtain ⟨x, hx⟩ : ∃ x, x = ext u fw := ⟨_, rfl⟩
          have hok : ¬ R.length < fw → changeB b = if formI x ≠ kk then (0, 8, m0 + fw) else (x, 0, m0 + fw) := fun h => by
            have := getChange_ok b HF.out (u := u) (by rw [← hfw, ← hRl fw]; exact h) (by rw [hu, hR, hfw])
            rw [← hfw, ← hx] at this
            exact this
          have hdr : b.drop (m0 + fw) = R.drop fw := by rw [hR, List.drop_drop]
          have hbad8 : ¬ R.length < fw → formI x ≠ kk → D = (8, [], R.drop fw) := fun h h' => by
            rw [← hdr]
            have hc := hok h
            rw [if_pos h'] at hc
            exact HMID.out.stop hc (by decide)
          have hgo : ¬ R.length < fw → formI x = kk → Mid D (acc ++ [W (t + W (d + x))]) (R.drop fw) (W (t + W (d + x))) (W (d + x)) f := fun h h' => by
            rw [← hdr]
            have hc := hok h
            rw [if_neg (by simp [h'])] at hc
            exact HMID.out.step hc
          obtain ⟨-, -, t2⟩ := tab_cells kk hf1
          rw [← hfw] at t2
          have hcw : wc.cell? ⟨w.heap.size, kk, none⟩ = some (.int .i64 (fw : Nat)) := by
            rw [cell_of_row _ _ _ _ _ _ (hkr2.heap HC1.out (by omega))]
            exact t2
          have hu64 : u < 2 ^ fw := by rw [hu]; exact Nat.lt_of_lt_of_le (bitsNat_lt _) (Nat.pow_le_pow_right (by decide) (List.length_take_le _ _))
          have hxe : kk = 0 → x = 0 := fun h => by rw [hx, hfw, h]; rfl
          have hfw1 : kk ≠ 0 → 1 ≤ fw := fun h => by
            have hc : kk = 1 ∨ kk = 2 ∨ kk = 3 ∨ kk = 4 := by omega
            rw [hfw]; rcases hc with rfl | rfl | rfl | rfl <;> simp [fWidth]
          have hfw0 : kk = 0 → fw = 0 := fun h => by rw [hfw, h]; rfl
          have A := Lib.hid hq2; have B := Lib.hid hvr2; have C := Lib.hid hkr2; have CW := Lib.hid hkw2; have HROW2 := Lib.hid hrow2; have EOF := Lib.hid heof; have BAD8 := Lib.hid hbad8; have GO := Lib.hid hgo; have HU := Lib.hid hu; have HXX := Lib.hid hx; have HXE := Lib.hid hxe; have HCW := Lib.hid hcw; have HU64 := Lib.hid hu64; have HFW1 := Lib.hid hfw1; have HFW0 := Lib.hid hfw0
          clear hq2 hvr2 hk2 hR hrow2 hkr2 hkw2 hfw hRl heof hu hx hok hdr hbad8 hgo t2 hcw hu64 hxe hfw1 hfw0
          go_upto_if 54 with fail
          go_cut [15, 16, 17] (fun t15 _ _ wx => ¬ R.length < fw ∧ t15 = .int .i64 x ∧ ∃ vr3, IsQ wx p vr3 (R.drop fw) ∧ (∀ g, vr3.ownBlock = some g → vq.ownBlock = some g) ∧ Keeps (fun k => k = p) wc wx)
          case first =>
            by_cases hkk : kk = 0
            · have hk' : ¬ 0 < kk := by omega
              have hk'' : ¬ (0 : Int) < kk := by omega
              have hk3 : decide ((0 : Int) < kk) = false := by simp; omega
              have hk4 : decide (0 < kk) = false := by simp; omega
              have e0 := HFW0.out hkk
              have e1 := HXE.out hkk
              have E0 := Lib.hid e0; have E1 := Lib.hid e1
              clear e0 e1 hkk
              go_wp2_with fail
              go_meet
              exact ⟨by have := E0.out; omega, by rw [E1.out], vr2, by rw [E0.out]; exact A.out, B.out, Keeps.refl _ _⟩
            · have hk' : 0 < kk := by omega
              have hk'' : (0 : Int) < kk := by omega
              have hk3 : decide ((0 : Int) < kk) = true := by simp; omega
              have hk4 : decide (0 < kk) = true := by simp; omega
              have hk5 : (kk : Int) < 5 := by omega
              have hc := HCW.out
              have f1 := HFW1.out hkk
              by_cases hs : R.length < fw
              · have hD2 := Lib.hid (EOF.out hs)
                clear hkk
                go_wp2_with fail
                refine (qbits_eof p vr2 R fw _ A.out (by omega) hs).mono ?_
                rintro e wz ⟨rfl, rfl⟩
                go_wp2_with fail
                go_ret2
                exact Left5.stop hD2.out A.out B.out CW.out
              · clear hkk
                go_wp2_with fail
                refine (qbits_any p vr2 R fw _ A.out (by omega) (by omega)).mono ?_
                rw [← HU.out]
                rintro e wz ⟨rfl, ⟨vr3, hq3, hvr3⟩, hk3'⟩
                have A3 := Lib.hid hq3
                have B3 : Hid (∀ g, vr3.ownBlock = some g → vq.ownBlock = some g) := Lib.hid (fun g hg => B.out g (hvr3 g hg))
                have C3 := Lib.hid hk3'
                have hc3 := hk3'.cell hc (by simp; omega)
                clear hq3 hvr3 hk3' hc
                go_wp2_with fail
                refine (signed_any u fw _ f1 pw HU64.out).mono ?_
                rw [← HXX.out]
                rintro e wy ⟨rfl, rfl⟩
                go_wp2_with fail
                go_meet
                exact ⟨hs, rfl, vr3, A3.out, B3.out, C3.out⟩
          case rest =>
            obtain ⟨hsh, rfl, vr3, hq3, hvr3, hk3⟩ := hcut
            have hrow3 := hk3.row HROW2.out (fun g hg e => by have := (HROW2.out.lt g hg).1; omega)
            have hkr3 := C.out.trans hk3 (fun _ _ h => h)
            have hkw3 := CW.out.trans hk3 (fun _ _ h => h)
            have A3 := Lib.hid hq3; have B3 := Lib.hid hvr3; have C3 := Lib.hid hkr3; have CW3 := Lib.hid hkw3; have R3 := Lib.hid hrow3
            by_cases hform : formI x = kk
            · have hm := GO.out hsh hform
              obtain ⟨d2, hd2⟩ : ∃ d2, d2 = W (d + x) := ⟨_, rfl⟩
              rw [← hd2] at hm
              have hd2w : IntKind.i64.wrap (d + x) = d2 := hd2.symm
              have hd2I : inI d2 := by rw [hd2]; exact W_in _
              obtain ⟨t2, ht2⟩ : ∃ t2, t2 = W (t + d2) := ⟨_, rfl⟩
              rw [← ht2] at hm
              have ht2w : IntKind.i64.wrap (t + d2) = t2 := ht2.symm
              have ht2I : inI t2 := by rw [ht2]; exact W_in _
              have hal : acc.length ≤ 1000000000 := by have := HACC.out; omega
              obtain ⟨g1, cp1, hv1, hn1, _, hcell, _⟩ := row_cell hrow3 (i := k - 1) (u := .int .i64 t) (by have := HAT.out; simp [i64s, this])
              subst hv1
              obtain ⟨k1, hk1⟩ : ∃ k1, k1 = k - 1 := ⟨_, rfl⟩
              rw [← hk1] at hcell
              have hki : (k : Int) - 1 = k1 := by omega
              have hkw : IntKind.i64.wrap (k1 : Int) = k1 := wrap_nat _ (by omega)
              have hkl : (k1 : Int) < acc.length := by have := HACC.out; omega
              have hs3 : w1.heap.size ≤ wc.heap.size := hkr3.size
              have HM := Lib.hid hm; have D2I := Lib.hid hd2I; have T2I := Lib.hid ht2I; have HFM := Lib.hid hform; have HK1 := Lib.hid hk1
              have hal2 : acc.length < 9223372036854775807 := by omega
              clear hm hd2 hd2I ht2 ht2I hq3 hvr3 hkr3 hkw3 hk3 hsh hform hk1
              go_wp2_with (first | (go_at_call 49; refine (rform_any _ _).mono ?_; rw [HFM.out]; rintro e wz ⟨rfl, rfl⟩) | (at_builtin; refine wpList_append_new _ rfl _ _ 26 rfl w1.heap.size 2 i0 (.int .i64 0) 1 8 Tryd.underlying26 hii hz0 hz1 hz2 rfl (by decide) _ _ _ rfl (hrow3.alloc _) ⟨wc.heap.size, 0, none⟩ 1 1 [.int .i64 t2] rfl rfl ?c1 ?c2 ?c3 ?c4 ?c5 ?_))
              case c1 => exact cell_one_new _ _ _
              case c2 => simp [Value.oneCell']
              case c3 => unfold maxLen; omega
              case c4 => omega
              case c5 => simp; omega
              intro v' w4 hown' hgrow hnew
              have kk1 : Keeps (own (.slice (some ⟨g1, 0, none⟩) acc.length cp1)) wc w4 := ((Keeps.refl (own _) wc).alloc _).grown hgrow (fun k _ e => e)
              have hkw4 := C3.out.trans kk1 (fun k hk e => by have := (R3.out.lt k e).1; omega)
              have hq4 := A3.out.keeps kk1 (fun e => by have := (R3.out.lt _ e).1; omega) (fun g hg e => by have := (R3.out.lt _ e).1; have := HV.out g (B3.out g hg); omega)
              have F1 := Lib.hid hkw4; have F2 := Lib.hid hq4; have F3 := Lib.hid hown'
              clear hkw4 hq4 hown' hgrow hnew kk1 hrow3 hcell
              go_wp2_with fail
              go_roundg f
              case measure => omega
              case rel =>
                refine ⟨k + 1, t2, d2, acc ++ [t2], R.drop fw, v', vr3, by omega, rfl, rfl, by go_num, by have := HACC.out; simp; omega, T2I.out, D2I.out, ?_, F2.out, B3.out, F1.out, fun h => by omega, fun _ => ⟨?_, HM.out⟩⟩
                · have := F3.out; simpa [i64s, hs1] using this
                · have := HACC.out
                  rw [Nat.add_sub_cancel, ← this, List.getElem?_append_right (Nat.le_refl _)]
                  simp
            · have hD2 := Lib.hid (BAD8.out hsh hform)
              have hne : (((formI x : Nat) : Int) != (kk : Int)) = true := by simp; omega
              have hne2 : (((formI x : Nat) : Int) == (kk : Int)) = false := by simp; omega
              clear hsh hform hq3 hvr3 hkr3 hkw3 hk3 hrow3
              go_wp2_with (go_at_call 49; refine (rform_any _ _).mono ?_; rintro e wz ⟨rfl, rfl⟩)
              go_ret2
              exact Left5.stop hD2.out A3.out B3.out CW3.out
    · have ek : k = n := by omega
      have hkn' : ¬ (k : Int) < n := by omega
      have hD2 : D = (0, acc, b) := by
        by_cases hk0 : k = 0
        · obtain ⟨rfl, rfl⟩ := h0 hk0
          obtain rfl : acc = [] := List.eq_nil_of_length_eq_zero (by omega)
          rw [HD.out]; unfold dec5; rw [if_pos (by omega)]
        · have := (h1 hk0).2
          obtain rfl : gk = 0 := by omega
          exact this.done
      have HROW := Lib.hid hrow; have HQ := Lib.hid hq; have HVR := Lib.hid hvr; have HKW := Lib.hid hkw; have HD2 := Lib.hid hD2
      clear hrow hq hvr hkr hkw h0 h1 hD2 ek
      go_wp2
      go_ret2
      rw [HD2.out]
      exact ⟨_, rfl, row_base HROW.out (fun g hg => by have := (HROW.out.lt g hg).1; omega), ⟨_, HQ.out, HVR.out⟩, HKW.out⟩
end Go.Proofs.YtdniaingipoggaaDoor
