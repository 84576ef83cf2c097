/-
  WALKS: tsblockref06.Get.
-/
import Derived.Test.YtdniaingipoggaaDoorWRef06b
import Derived.Test.YtdniaingipoggaaDoorWXorG
import Derived.Test.YtdniaingipoggaaDoorDRef01b
import Derived.Deep.LoopGhost
namespace Go.Proofs.YtdniaingipoggaaDoor
open Go.RowKit

/-- what a reader of the reference leaves -/
def Left6 (p : Nat) (vq : Value) (w : World) (D : Nat × List Nat × List Bool) (e : Ending) (w' : World) : Prop :=
  ∃ v', e = .returned (.tuple #[v', .int .i64 ((D.1 : Nat) : Int)]) ∧ w'.ownsRow w.heap.size 48 1 v' D.2.1.length (u64s D.2.1) ∧
    (∃ vq', IsQ w' p vq' D.2.2 ∧ ∀ g, vq'.ownBlock = some g → vq.ownBlock = some g) ∧ Keeps (fun k => k = p) w w'
theorem Left6.stop {p : Nat} {vq : Value} {w : World} {D : Nat × List Nat × List Bool} {e : Nat} {r : List Bool} (hD : D = (e, [], r)) {w' : World} {vq' : Value} (hq : IsQ w' p vq' r) (hv : ∀ g, vq'.ownBlock = some g → vq.ownBlock = some g) (hk : Keeps (fun k => k = p) w w') :
    Left6 p vq w D (.returned (.tuple #[.slice none 0 0, .int .i64 ((e : Nat) : Int)])) w' := by
  subst hD
  exact ⟨_, rfl, World.ownsRow_nil _ _ _ _, ⟨vq', hq, hv⟩, hk⟩

set_option maxRecDepth 100000 in
set_option maxHeartbeats 16000000 in
theorem ref6Get_any (p : Nat) (vq : Value) (b0 : List Bool) (n : Nat) (w : World) (h : IsQ w p vq b0) (hv : ∀ g, vq.ownBlock = some g → g < w.heap.size) (hn : n ≤ 1000000000) :
    Calls Tryd.prog 36 #[.pointer (some ⟨p, 0, none⟩), .int .i64 n] w (Left6 p vq w (dec6 n b0)) := by
  obtain ⟨i0, hii, hz0, hz1, hz2⟩ := info_parts infoU64
  have hp : p < w.heap.size := (Array.getElem?_eq_some_iff.1 h.blk).1
  have HV := Lib.hid hv
  obtain ⟨D, hD⟩ : ∃ D, D = dec6 n b0 := ⟨_, rfl⟩
  rw [← hD]
  have HD := Lib.hid hD
  have HQ1 := Lib.hid h
  clear h hv hD
  go_enter Tryd.func36, Tryd.ntmps36
  go_wp2
  go_loopg [6, 7, 8, 9] n (fun g t6 t7 t8 t9 wr => ∃ (k last : Nat) (s : Nat × Nat) (acc : List Nat) (b : List Bool) (v1 vr : Value), g + k = n ∧ v1 = t6 ∧ t7 = .int .i64 (refL s) ∧ t8 = .int .i64 (refT s : Nat) ∧ t9 = .int .i64 k ∧ acc.length = k ∧ okWin s ∧ last < 18446744073709551616 ∧
      wr.ownsRow w.heap.size 48 1 v1 acc.length (u64s acc) ∧ IsQ wr p vr b ∧ (∀ g, vr.ownBlock = some g → vq.ownBlock = some g) ∧ Keeps (fun k => k = p) w wr ∧
      (k = 0 → b = b0 ∧ s = win0) ∧ (k ≠ 0 → acc[k - 1]? = some last ∧ Mid6 D acc b s last g))
  case atStart => exact ⟨0, 0, win0, [], b0, _, vq, by omega, rfl, rfl, rfl, rfl, rfl, .inl rfl, by decide, World.ownsRow_nil _ _ _ _, HQ1.out, fun _ h => h, Keeps.refl _ _, fun _ => ⟨rfl, rfl⟩, fun h => absurd rfl h⟩
  case round =>
    obtain ⟨k, last, s, acc, b, v1, vr, hg, rfl, rfl, rfl, rfl, hacc, hs, hla, hrow, hq, hvr, hkr, h0, h1⟩ := hrel
    have hsr : w.heap.size ≤ wr.heap.size := hkr.size
    by_cases hkn : k < n
    · have hkn' : (k : Int) < n := by omega
      by_cases hk0 : k = 0
      · subst hk0
        obtain ⟨rfl, rfl⟩ := h0 rfl
        obtain rfl : acc = [] := List.eq_nil_of_length_eq_zero hacc
        have HROW := Lib.hid hrow; have HQ := Lib.hid hq; have HVR := Lib.hid hvr; have HKR := Lib.hid hkr
        clear hrow hq hvr hkr h0 h1 hacc hs
        by_cases hl : b.length < 64
        · have hD2 : D = (3, [], b) := by rw [HD.out]; unfold dec6; rw [if_neg (by omega), if_pos hl]
          have HD2 := Lib.hid hD2
          clear hD2
          go_wp2_with fail
          refine (qbits_eof p vr b 64 wr HQ.out (by decide) hl).mono ?_
          rintro e wz ⟨rfl, rfl⟩
          go_wp2
          go_ret2
          exact Left6.stop HD2.out HQ.out HVR.out HKR.out
        · have hm := dec6_start (n := n) (b := b) (by omega) hl
          rw [← HD.out] at hm
          obtain ⟨X, hX⟩ : ∃ X, X = bitsNat (b.take 64) := ⟨_, rfl⟩
          have hX64 : X < 18446744073709551616 := by
            have : bitsNat (b.take 64) < 2 ^ 64 := bitsNat_lt' (List.length_take_le _ _)
            omega
          rw [← hX] at hm
          have hgn : n - 1 = gk - 1 := by omega
          rw [hgn] at hm
          have HM := Lib.hid hm; have HX := Lib.hid hX
          clear hm hX hgn
          go_wp2_with fail
          refine (qbits_any p vr b 64 wr HQ.out (by decide) (by omega)).mono ?_
          rw [← HX.out]
          rintro e w2 ⟨rfl, ⟨vr2, hq2, hvr2⟩, hk2⟩
          have hrow2 := hk2.row HROW.out (fun g hg e => by have := (HROW.out.lt g hg).1; omega)
          have hkr2 := HKR.out.trans hk2 (fun _ _ h => h)
          have hs2 : w.heap.size ≤ w2.heap.size := hkr2.size
          obtain ⟨ad, cap, rfl⟩ := row_slice hrow2
          have HQ2 := Lib.hid hq2; have HVR2 : Hid (∀ g, vr2.ownBlock = some g → vq.ownBlock = some g) := Lib.hid (fun g hg => HVR.out g (hvr2 g hg)); have HKR2 := Lib.hid hkr2; have HROW2 := Lib.hid hrow2
          clear hq2 hvr2 hkr2 hk2
          go_wp2_with (at_builtin; refine wpList_append_new _ rfl _ _ 58 rfl w.heap.size 48 i0 (.int .u64 0) 1 8 Tryd.underlying58 hii hz0 hz1 hz2 rfl (by decide) _ _ _ rfl (hrow2.alloc _) ⟨w2.heap.size, 0, none⟩ 1 1 [.int .u64 (X : Nat)] rfl rfl ?c1 ?c2 ?c3 ?c4 ?c5 ?_)
          case c1 => exact cell_one_new _ _ _
          case c2 => simp [Value.oneCell']
          case c3 => unfold maxLen; simp
          case c4 => simp
          case c5 => simp; omega
          intro v' w4 hown' hgrow hnew
          have kk : Keeps (own (.slice ad 0 cap)) w2 w4 := ((Keeps.refl (own _) w2).alloc _).grown hgrow (fun k _ e => e)
          have hkw4 := HKR2.out.trans kk (fun k hk e => by have := (HROW2.out.lt k e).1; omega)
          have hq4 := HQ2.out.keeps kk (fun e => by have := (HROW2.out.lt _ e).1; omega) (fun g hg e => by have := (HROW2.out.lt _ e).1; have := HV.out g (HVR2.out g hg); omega)
          have F1 := Lib.hid hkw4; have F2 := Lib.hid hq4; have F3 := Lib.hid hown'
          clear hkw4 hq4 hown' hgrow hnew kk hrow2
          go_wp2
          go_roundg (gk - 1)
          case measure => omega
          case rel => exact ⟨1, X, win0, [X], _, v', vr2, by omega, rfl, rfl, rfl, rfl, rfl, .inl rfl, hX64, by have := F3.out; simpa [u64s] using this, F2.out, HVR2.out, F1.out, fun h => by omega, fun _ => ⟨rfl, HM.out⟩⟩
      · obtain ⟨hat, hmid⟩ := h1 hk0
        obtain ⟨f, rfl⟩ : ∃ f, gk = f + 1 := ⟨gk - 1, by omega⟩
        obtain ⟨⟨x, e, m, s'⟩, hgx⟩ : ∃ q, getX s b = q := ⟨_, rfl⟩
        have hbd := getX_bounds s b hs
        rw [hgx] at hbd
        simp only at hbd
        have hstop : e ≠ 0 → D = (e, [], b.drop m) := fun he => hmid.stop hgx he
        have hgo : e = 0 → Mid6 D (acc ++ [last ^^^ x]) (b.drop m) s' (last ^^^ x) f := fun he => by subst he; exact hmid.step hgx
        have hk0' : ((k : Int) == 0) = false := by simp; omega
        have hkpos : 0 < k := by omega
        have hal : acc.length ≤ 1000000000 := by omega
        obtain ⟨j1, hj1⟩ : ∃ j1, j1 = k - 1 := ⟨_, rfl⟩
        rw [← hj1] at hat
        have hki : (k : Int) - 1 = j1 := by omega
        have hkl : (j1 : Int) < acc.length := by omega
        have hkw : IntKind.i64.wrap (j1 : Int) = j1 := wrap_nat _ (by omega)
        have hx64 := hbd.2.2.1
        have HROW := Lib.hid hrow; have HQ := Lib.hid hq; have HVR := Lib.hid hvr; have HKR := Lib.hid hkr; have HAT := Lib.hid hat; have HSTOP := Lib.hid hstop; have HGO := Lib.hid hgo; have HACC := Lib.hid hacc; have HS := Lib.hid hs; have HGX := Lib.hid hgx; have HOW := Lib.hid hbd.2.2.2
        clear hrow hq hvr hkr hat hmid hstop hgo h0 h1 hk0 hs hgx hbd hj1 hacc
        cases hb : b with
        | nil =>
          rw [hb] at HGX HQ HSTOP HGO
          have h9 := HGX.out
          simp only [getX, Prod.mk.injEq] at h9
          obtain ⟨rfl, rfl, rfl, rfl⟩ := h9
          clear hb HGX HGO
          have HQ0 := Lib.hid HQ.out; have HVR0 := Lib.hid HVR.out; have HKR0 := Lib.hid HKR.out; have HROW0 := Lib.hid HROW.out
          clear HQ HVR HKR HROW
          go_wp2_with fail
          refine (qbits_eof p vr ([]) 1 wr HQ0.out (by decide) (by decide)).mono ?_
          rintro e wz ⟨rfl, rfl⟩
          go_wp2_with fail
          go_ret2
          exact Left6.stop (by have := HSTOP.out (by decide); exact this) HQ0.out HVR0.out HKR0.out
        | cons q0 b1 =>
          cases q0 with
          | false =>
            rw [hb] at HGX HQ HSTOP HGO
            have h9 := HGX.out
            simp only [getX, Prod.mk.injEq] at h9
            obtain ⟨rfl, rfl, rfl, rfl⟩ := h9
            clear hb HGX HSTOP
            have HQ0 := Lib.hid HQ.out; have HVR0 := Lib.hid HVR.out; have HKR0 := Lib.hid HKR.out; have HROW0 := Lib.hid HROW.out
            clear HQ HVR HKR HROW
            go_wp2_with fail
            refine (qbits_any p vr ((false :: b1)) 1 wr HQ0.out (by decide) (by simp)).mono ?_
            rw [show bitsNat (((false :: b1)).take 1) = 0 from rfl]
            rintro e w1 ⟨rfl, ⟨vr1, hq1, hvr1⟩, hk1⟩
            have HQ1 : Hid (IsQ w1 p vr1 (b1)) := Lib.hid (by simpa using hq1)
            have HVR1 : Hid (∀ g, vr1.ownBlock = some g → vq.ownBlock = some g) := Lib.hid (fun g hg => HVR0.out g (hvr1 g hg))
            have HKR1 := Lib.hid (HKR0.out.trans hk1 (fun _ _ h => h))
            have HROW1 := Lib.hid (hk1.row HROW0.out (fun g hg e => by have := (HROW0.out.lt g hg).1; omega))
            clear hq1 hvr1 hk1
            have hrowA := HROW1.out
            have hsA : w.heap.size ≤ w1.heap.size := HKR1.out.size
            obtain ⟨gA, cpA, hvA, hnA, _, hcellA, _⟩ := row_cell hrowA (i := j1) (u := .int .u64 (last : Nat)) (by have := HAT.out; simp [u64s, this])
            subst hvA
            go_wp2_with (at_builtin; refine wpList_append_new _ rfl _ _ 58 rfl w.heap.size 48 i0 (.int .u64 0) 1 8 Tryd.underlying58 hii hz0 hz1 hz2 rfl (by decide) _ _ _ rfl (hrowA.alloc _) ⟨w1.heap.size, 0, none⟩ 1 1 [.int .u64 (last : Nat)] rfl rfl ?c1 ?c2 ?c3 ?c4 ?c5 ?_)
            case c1 => exact cell_one_new _ _ _
            case c2 => simp [Value.oneCell']
            case c3 => unfold maxLen; omega
            case c4 => omega
            case c5 => simp; omega
            intro v' wv hown' hgrow hnew
            have kk1 : Keeps (own (.slice (some ⟨gA, 0, none⟩) acc.length cpA)) w1 wv := ((Keeps.refl (own _) w1).alloc _).grown hgrow (fun k _ e => e)
            have F1 := Lib.hid (HKR1.out.trans kk1 (fun k hk e => by have := (HROW1.out.lt k e).1; omega))
            have F2 := Lib.hid (HQ1.out.keeps kk1 (fun e => by have := (HROW1.out.lt _ e).1; omega) (fun g hg e => by have := (HROW1.out.lt _ e).1; have := HV.out g (HVR1.out g hg); omega))
            have F3 := Lib.hid hown'
            clear hown' hgrow hnew kk1 hrowA hcellA
            go_wp2_with fail
            go_roundg f
            case measure => omega
            case rel =>
              refine ⟨k + 1, last, s, acc ++ [last], b1, v', vr1, by omega, rfl, ?_, ?_, by go_num, by have := HACC.out; simp; omega, HS.out, hla, ?_, F2.out, HVR1.out, F1.out, fun h => by omega, fun _ => ⟨?_, ?_⟩⟩
              · rfl
              · rfl
              · have := F3.out; simpa [u64s] using this
              · have := HACC.out
                rw [Nat.add_sub_cancel, ← this, List.getElem?_append_right (Nat.le_refl _)]
                simp
              · have := HGO.out (by first | rfl | trivial); rw [Nat.xor_zero] at this; exact this
          | true =>
            cases hb1 : b1 with
            | nil =>
              rw [hb, hb1] at HGX HQ HSTOP HGO
              have h9 := HGX.out
              simp only [getX, Prod.mk.injEq] at h9
              obtain ⟨rfl, rfl, rfl, rfl⟩ := h9
              clear hb hb1 HGX HGO
              have HQ0 := Lib.hid HQ.out; have HVR0 := Lib.hid HVR.out; have HKR0 := Lib.hid HKR.out; have HROW0 := Lib.hid HROW.out
              clear HQ HVR HKR HROW
              go_wp2_with fail
              refine (qbits_any p vr ([true]) 1 wr HQ0.out (by decide) (by simp)).mono ?_
              rw [show bitsNat (([true]).take 1) = 1 from rfl]
              rintro e w1 ⟨rfl, ⟨vr1, hq1, hvr1⟩, hk1⟩
              have HQ1 : Hid (IsQ w1 p vr1 ([])) := Lib.hid (by simpa using hq1)
              have HVR1 : Hid (∀ g, vr1.ownBlock = some g → vq.ownBlock = some g) := Lib.hid (fun g hg => HVR0.out g (hvr1 g hg))
              have HKR1 := Lib.hid (HKR0.out.trans hk1 (fun _ _ h => h))
              have HROW1 := Lib.hid (hk1.row HROW0.out (fun g hg e => by have := (HROW0.out.lt g hg).1; omega))
              clear hq1 hvr1 hk1
              go_wp2_with fail
              refine (qbits_eof p vr1 ([]) 1 w1 HQ1.out (by decide) (by decide)).mono ?_
              rintro e wz ⟨rfl, rfl⟩
              go_wp2_with fail
              go_ret2
              exact Left6.stop (by have := HSTOP.out (by decide); exact this) HQ1.out HVR1.out HKR1.out
            | cons q1 b2 =>
              cases q1 with
              | false =>
                rw [hb, hb1] at HGX HQ HSTOP HGO
                have h9 := HGX.out
                simp only [getX] at h9
                clear hb hb1 HGX
                split at h9
                · rename_i hw
                  simp only [Prod.mk.injEq] at h9
                  obtain ⟨rfl, rfl, rfl, rfl⟩ := h9
                  have hL : refL s = -1 := by rw [hw]; rfl
                  rw [hL]
                  clear HGO hL hw
                  have HQ0 := Lib.hid HQ.out; have HVR0 := Lib.hid HVR.out; have HKR0 := Lib.hid HKR.out; have HROW0 := Lib.hid HROW.out
                  clear HQ HVR HKR HROW
                  go_wp2_with fail
                  refine (qbits_any p vr ((true :: false :: b2)) 1 wr HQ0.out (by decide) (by simp)).mono ?_
                  rw [show bitsNat (((true :: false :: b2)).take 1) = 1 from rfl]
                  rintro e w1 ⟨rfl, ⟨vr1, hq1, hvr1⟩, hk1⟩
                  have HQ1 : Hid (IsQ w1 p vr1 (false :: b2)) := Lib.hid (by simpa using hq1)
                  have HVR1 : Hid (∀ g, vr1.ownBlock = some g → vq.ownBlock = some g) := Lib.hid (fun g hg => HVR0.out g (hvr1 g hg))
                  have HKR1 := Lib.hid (HKR0.out.trans hk1 (fun _ _ h => h))
                  have HROW1 := Lib.hid (hk1.row HROW0.out (fun g hg e => by have := (HROW0.out.lt g hg).1; omega))
                  clear hq1 hvr1 hk1
                  go_wp2_with fail
                  refine (qbits_any p vr1 (false :: b2) 1 w1 HQ1.out (by decide) (by simp)).mono ?_
                  rw [show bitsNat ((false :: b2).take 1) = 0 from rfl]
                  rintro e w2 ⟨rfl, ⟨vr2, hq2, hvr2⟩, hk2⟩
                  have HQ2 : Hid (IsQ w2 p vr2 (b2)) := Lib.hid (by simpa using hq2)
                  have HVR2 : Hid (∀ g, vr2.ownBlock = some g → vq.ownBlock = some g) := Lib.hid (fun g hg => HVR1.out g (hvr2 g hg))
                  have HKR2 := Lib.hid (HKR1.out.trans hk2 (fun _ _ h => h))
                  have HROW2 := Lib.hid (hk2.row HROW1.out (fun g hg e => by have := (HROW1.out.lt g hg).1; omega))
                  clear hq2 hvr2 hk2
                  go_wp2_with fail
                  go_ret2
                  exact Left6.stop (by have := HSTOP.out (by decide); exact this) HQ2.out HVR2.out HKR2.out
                · rename_i hw
                  have hs' : s.1 + s.2 ≤ 63 := HS.out.resolve_left hw
                  obtain ⟨r1, r2⟩ := ref_win hs'
                  have HR1 := Lib.hid r1; have HR2 := Lib.hid r2
                  rw [r1, r2]
                  obtain ⟨A, hA⟩ : ∃ A, A = s.1 := ⟨_, rfl⟩
                  obtain ⟨T, hT⟩ : ∃ T, T = s.2 := ⟨_, rfl⟩
                  obtain ⟨c, hcc⟩ : ∃ c, c = 64 - A - T := ⟨_, rfl⟩
                  rw [← hA, ← hT] at h9 hs' ⊢
                  rw [← hcc] at h9
                  have cv1 : 64 - (A : Int) - (T : Int) = (c : Int) := by omega
                  have cv2 : IntKind.i64.wrap (c : Int) = c := wrap_nat c (by omega)
                  have cv3 : IntKind.i64.wrap (64 - (A : Int)) = 64 - A := IntWalk.i64_in _ (by omega)
                  have hA0 : ¬ (A : Int) < 0 := by omega
                  have hc64 : c ≤ 64 := by omega
                  have HCC := Lib.hid hcc; have HA := Lib.hid hA; have HT := Lib.hid hT
                  clear hcc hA hT r1 r2 hw
                  split at h9
                  · rename_i hsh
                    simp only [Prod.mk.injEq] at h9
                    obtain ⟨rfl, rfl, rfl, rfl⟩ := h9
                    clear HGO
                    have HQ0 := Lib.hid HQ.out; have HVR0 := Lib.hid HVR.out; have HKR0 := Lib.hid HKR.out; have HROW0 := Lib.hid HROW.out
                    clear HQ HVR HKR HROW
                    go_wp2_with fail
                    refine (qbits_any p vr ((true :: false :: b2)) 1 wr HQ0.out (by decide) (by simp)).mono ?_
                    rw [show bitsNat (((true :: false :: b2)).take 1) = 1 from rfl]
                    rintro e w1 ⟨rfl, ⟨vr1, hq1, hvr1⟩, hk1⟩
                    have HQ1 : Hid (IsQ w1 p vr1 (false :: b2)) := Lib.hid (by simpa using hq1)
                    have HVR1 : Hid (∀ g, vr1.ownBlock = some g → vq.ownBlock = some g) := Lib.hid (fun g hg => HVR0.out g (hvr1 g hg))
                    have HKR1 := Lib.hid (HKR0.out.trans hk1 (fun _ _ h => h))
                    have HROW1 := Lib.hid (hk1.row HROW0.out (fun g hg e => by have := (HROW0.out.lt g hg).1; omega))
                    clear hq1 hvr1 hk1
                    go_wp2_with fail
                    refine (qbits_any p vr1 (false :: b2) 1 w1 HQ1.out (by decide) (by simp)).mono ?_
                    rw [show bitsNat ((false :: b2).take 1) = 0 from rfl]
                    rintro e w2 ⟨rfl, ⟨vr2, hq2, hvr2⟩, hk2⟩
                    have HQ2 : Hid (IsQ w2 p vr2 (b2)) := Lib.hid (by simpa using hq2)
                    have HVR2 : Hid (∀ g, vr2.ownBlock = some g → vq.ownBlock = some g) := Lib.hid (fun g hg => HVR1.out g (hvr2 g hg))
                    have HKR2 := Lib.hid (HKR1.out.trans hk2 (fun _ _ h => h))
                    have HROW2 := Lib.hid (hk2.row HROW1.out (fun g hg e => by have := (HROW1.out.lt g hg).1; omega))
                    clear hq2 hvr2 hk2
                    go_wp2_with fail
                    refine (qbits_eof p vr2 (b2) c w2 HQ2.out (hc64) (by omega)).mono ?_
                    rintro e wz ⟨rfl, rfl⟩
                    go_wp2_with fail
                    go_ret2
                    exact Left6.stop (by have := HSTOP.out (by decide); exact this) HQ2.out HVR2.out HKR2.out
                  · rename_i hsh
                    obtain ⟨u, huu⟩ : ∃ u, u = bitsNat (b2.take c) := ⟨_, rfl⟩
                    have hu : u < 2 ^ c := by rw [huu]; exact bitsNat_lt' (List.length_take_le _ _)
                    rw [← huu] at h9
                    have hus := (shl_nat (T := T) hu (by have := HCC.out; omega)).2
                    have HUU := Lib.hid huu; have HUS := Lib.hid hus
                    clear huu hus hu
                    split at h9
                    · rename_i hu0
                      simp only [Prod.mk.injEq] at h9
                      obtain ⟨rfl, rfl, rfl, rfl⟩ := h9
                      subst hu0
                      clear HGO
                      have HQ0 := Lib.hid HQ.out; have HVR0 := Lib.hid HVR.out; have HKR0 := Lib.hid HKR.out; have HROW0 := Lib.hid HROW.out
                      clear HQ HVR HKR HROW
                      go_wp2_with fail
                      refine (qbits_any p vr ((true :: false :: b2)) 1 wr HQ0.out (by decide) (by simp)).mono ?_
                      rw [show bitsNat (((true :: false :: b2)).take 1) = 1 from rfl]
                      rintro e w1 ⟨rfl, ⟨vr1, hq1, hvr1⟩, hk1⟩
                      have HQ1 : Hid (IsQ w1 p vr1 (false :: b2)) := Lib.hid (by simpa using hq1)
                      have HVR1 : Hid (∀ g, vr1.ownBlock = some g → vq.ownBlock = some g) := Lib.hid (fun g hg => HVR0.out g (hvr1 g hg))
                      have HKR1 := Lib.hid (HKR0.out.trans hk1 (fun _ _ h => h))
                      have HROW1 := Lib.hid (hk1.row HROW0.out (fun g hg e => by have := (HROW0.out.lt g hg).1; omega))
                      clear hq1 hvr1 hk1
                      go_wp2_with fail
                      refine (qbits_any p vr1 (false :: b2) 1 w1 HQ1.out (by decide) (by simp)).mono ?_
                      rw [show bitsNat ((false :: b2).take 1) = 0 from rfl]
                      rintro e w2 ⟨rfl, ⟨vr2, hq2, hvr2⟩, hk2⟩
                      have HQ2 : Hid (IsQ w2 p vr2 (b2)) := Lib.hid (by simpa using hq2)
                      have HVR2 : Hid (∀ g, vr2.ownBlock = some g → vq.ownBlock = some g) := Lib.hid (fun g hg => HVR1.out g (hvr2 g hg))
                      have HKR2 := Lib.hid (HKR1.out.trans hk2 (fun _ _ h => h))
                      have HROW2 := Lib.hid (hk2.row HROW1.out (fun g hg e => by have := (HROW1.out.lt g hg).1; omega))
                      clear hq2 hvr2 hk2
                      go_wp2_with fail
                      refine (qbits_any p vr2 (b2) c w2 HQ2.out (hc64) (by omega)).mono ?_
                      rw [show bitsNat ((b2).take c) = 0 from HUU.out.symm]
                      rintro e w3 ⟨rfl, ⟨vr3, hq3, hvr3⟩, hk3⟩
                      have HQ3 : Hid (IsQ w3 p vr3 (b2.drop c)) := Lib.hid (by simpa using hq3)
                      have HVR3 : Hid (∀ g, vr3.ownBlock = some g → vq.ownBlock = some g) := Lib.hid (fun g hg => HVR2.out g (hvr3 g hg))
                      have HKR3 := Lib.hid (HKR2.out.trans hk3 (fun _ _ h => h))
                      have HROW3 := Lib.hid (hk3.row HROW2.out (fun g hg e => by have := (HROW2.out.lt g hg).1; omega))
                      clear hq3 hvr3 hk3
                      go_wp2_with fail
                      refine (outside_any 0 T _ HUS.out (by omega)).mono ?_
                      rw [Nat.zero_mul]
                      rintro e wz ⟨rfl, rfl⟩
                      go_wp2_with fail
                      go_ret2
                      exact Left6.stop (by have := HSTOP.out (by decide); rw [show 2 + c = c + 1 + 1 by omega] at this; simpa using this) HQ3.out HVR3.out HKR3.out
                    · rename_i hu0
                      simp only [Prod.mk.injEq] at h9
                      obtain ⟨rfl, rfl, rfl, rfl⟩ := h9
                      clear HSTOP
                      obtain ⟨X, hXX⟩ : ∃ X, X = u * 2 ^ T := ⟨_, rfl⟩
                      have hX0 : ((X : Int) == 0) = false := beq_eq_false_iff_ne.2 (by have : X ≠ 0 := by { rw [hXX]; exact Nat.mul_ne_zero hu0 (Nat.ne_of_gt (Nat.pow_pos (by decide))) }; omega)
                      rw [← hXX] at hx64 HGO
                      obtain ⟨V, hV⟩ : ∃ V, V = last ^^^ X := ⟨_, rfl⟩
                      have hxor : bits BinOp.xor IntKind.u64 (last : Int) (X : Int) = (V : Int) := by rw [bits_xor_u64_nat last X hla hx64, hV]
                      have hV64 : V < 18446744073709551616 := by rw [hV]; exact xor_lt64 hla hx64
                      rw [← hV] at HGO
                      have HXX := Lib.hid hXX
                      clear hXX hV hu0
                      have HQ0 := Lib.hid HQ.out; have HVR0 := Lib.hid HVR.out; have HKR0 := Lib.hid HKR.out; have HROW0 := Lib.hid HROW.out
                      clear HQ HVR HKR HROW
                      go_wp2_with fail
                      refine (qbits_any p vr ((true :: false :: b2)) 1 wr HQ0.out (by decide) (by simp)).mono ?_
                      rw [show bitsNat (((true :: false :: b2)).take 1) = 1 from rfl]
                      rintro e w1 ⟨rfl, ⟨vr1, hq1, hvr1⟩, hk1⟩
                      have HQ1 : Hid (IsQ w1 p vr1 (false :: b2)) := Lib.hid (by simpa using hq1)
                      have HVR1 : Hid (∀ g, vr1.ownBlock = some g → vq.ownBlock = some g) := Lib.hid (fun g hg => HVR0.out g (hvr1 g hg))
                      have HKR1 := Lib.hid (HKR0.out.trans hk1 (fun _ _ h => h))
                      have HROW1 := Lib.hid (hk1.row HROW0.out (fun g hg e => by have := (HROW0.out.lt g hg).1; omega))
                      clear hq1 hvr1 hk1
                      go_wp2_with fail
                      refine (qbits_any p vr1 (false :: b2) 1 w1 HQ1.out (by decide) (by simp)).mono ?_
                      rw [show bitsNat ((false :: b2).take 1) = 0 from rfl]
                      rintro e w2 ⟨rfl, ⟨vr2, hq2, hvr2⟩, hk2⟩
                      have HQ2 : Hid (IsQ w2 p vr2 (b2)) := Lib.hid (by simpa using hq2)
                      have HVR2 : Hid (∀ g, vr2.ownBlock = some g → vq.ownBlock = some g) := Lib.hid (fun g hg => HVR1.out g (hvr2 g hg))
                      have HKR2 := Lib.hid (HKR1.out.trans hk2 (fun _ _ h => h))
                      have HROW2 := Lib.hid (hk2.row HROW1.out (fun g hg e => by have := (HROW1.out.lt g hg).1; omega))
                      clear hq2 hvr2 hk2
                      go_wp2_with fail
                      refine (qbits_any p vr2 (b2) c w2 HQ2.out (hc64) (by omega)).mono ?_
                      rw [show bitsNat ((b2).take c) = u from HUU.out.symm]
                      rintro e w3 ⟨rfl, ⟨vr3, hq3, hvr3⟩, hk3⟩
                      have HQ3 : Hid (IsQ w3 p vr3 (b2.drop c)) := Lib.hid (by simpa using hq3)
                      have HVR3 : Hid (∀ g, vr3.ownBlock = some g → vq.ownBlock = some g) := Lib.hid (fun g hg => HVR2.out g (hvr3 g hg))
                      have HKR3 := Lib.hid (HKR2.out.trans hk3 (fun _ _ h => h))
                      have HROW3 := Lib.hid (hk3.row HROW2.out (fun g hg e => by have := (HROW2.out.lt g hg).1; omega))
                      clear hq3 hvr3 hk3
                      go_wp2_with fail
                      refine (outside_any u T _ HUS.out (by omega)).mono ?_
                      rw [← HXX.out]
                      rintro e wz ⟨rfl, rfl⟩
                      have hrowA := HROW3.out
                      have hsA : w.heap.size ≤ w3.heap.size := HKR3.out.size
                      obtain ⟨gA, cpA, hvA, hnA, _, hcellA, _⟩ := row_cell hrowA (i := j1) (u := .int .u64 (last : Nat)) (by have := HAT.out; simp [u64s, this])
                      subst hvA
                      go_wp2_with (at_builtin; refine wpList_append_new _ rfl _ _ 58 rfl w.heap.size 48 i0 (.int .u64 0) 1 8 Tryd.underlying58 hii hz0 hz1 hz2 rfl (by decide) _ _ _ rfl (hrowA.alloc _) ⟨w3.heap.size, 0, none⟩ 1 1 [.int .u64 (V : Nat)] rfl rfl ?c1 ?c2 ?c3 ?c4 ?c5 ?_)
                      case c1 => exact cell_one_new _ _ _
                      case c2 => simp [Value.oneCell']
                      case c3 => unfold maxLen; omega
                      case c4 => omega
                      case c5 => simp; omega
                      intro v' wv hown' hgrow hnew
                      have kk1 : Keeps (own (.slice (some ⟨gA, 0, none⟩) acc.length cpA)) w3 wv := ((Keeps.refl (own _) w3).alloc _).grown hgrow (fun k _ e => e)
                      have F1 := Lib.hid (HKR3.out.trans kk1 (fun k hk e => by have := (HROW3.out.lt k e).1; omega))
                      have F2 := Lib.hid (HQ3.out.keeps kk1 (fun e => by have := (HROW3.out.lt _ e).1; omega) (fun g hg e => by have := (HROW3.out.lt _ e).1; have := HV.out g (HVR3.out g hg); omega))
                      have F3 := Lib.hid hown'
                      clear hown' hgrow hnew kk1 hrowA hcellA
                      go_wp2_with fail
                      go_roundg f
                      case measure => omega
                      case rel =>
                        refine ⟨k + 1, V, s, acc ++ [V], b2.drop c, v', vr3, by omega, rfl, ?_, ?_, by go_num, by have := HACC.out; simp; omega, HS.out, hV64, ?_, F2.out, HVR3.out, F1.out, fun h => by omega, fun _ => ⟨?_, ?_⟩⟩
                        · rw [HR1.out, HA.out]
                        · rw [HR2.out, HT.out]
                        · have := F3.out; simpa [u64s] using this
                        · have := HACC.out
                          rw [Nat.add_sub_cancel, ← this, List.getElem?_append_right (Nat.le_refl _)]
                          simp
                        · have := HGO.out (by first | rfl | trivial); rw [show 2 + c = c + 1 + 1 by omega] at this; simpa using this
              | true =>
                rw [hb, hb1] at HGX HQ HSTOP HGO
                have h9 := HGX.out
                simp only [getX] at h9
                clear hb hb1 HGX
                split at h9
                · rename_i hl6
                  simp only [Prod.mk.injEq] at h9
                  obtain ⟨rfl, rfl, rfl, rfl⟩ := h9
                  clear HGO
                  have HQ0 := Lib.hid HQ.out; have HVR0 := Lib.hid HVR.out; have HKR0 := Lib.hid HKR.out; have HROW0 := Lib.hid HROW.out
                  clear HQ HVR HKR HROW
                  go_wp2_with fail
                  refine (qbits_any p vr ((true :: true :: b2)) 1 wr HQ0.out (by decide) (by simp)).mono ?_
                  rw [show bitsNat (((true :: true :: b2)).take 1) = 1 from rfl]
                  rintro e w1 ⟨rfl, ⟨vr1, hq1, hvr1⟩, hk1⟩
                  have HQ1 : Hid (IsQ w1 p vr1 (true :: b2)) := Lib.hid (by simpa using hq1)
                  have HVR1 : Hid (∀ g, vr1.ownBlock = some g → vq.ownBlock = some g) := Lib.hid (fun g hg => HVR0.out g (hvr1 g hg))
                  have HKR1 := Lib.hid (HKR0.out.trans hk1 (fun _ _ h => h))
                  have HROW1 := Lib.hid (hk1.row HROW0.out (fun g hg e => by have := (HROW0.out.lt g hg).1; omega))
                  clear hq1 hvr1 hk1
                  go_wp2_with fail
                  refine (qbits_any p vr1 (true :: b2) 1 w1 HQ1.out (by decide) (by simp)).mono ?_
                  rw [show bitsNat ((true :: b2).take 1) = 1 from rfl]
                  rintro e w2 ⟨rfl, ⟨vr2, hq2, hvr2⟩, hk2⟩
                  have HQ2 : Hid (IsQ w2 p vr2 (b2)) := Lib.hid (by simpa using hq2)
                  have HVR2 : Hid (∀ g, vr2.ownBlock = some g → vq.ownBlock = some g) := Lib.hid (fun g hg => HVR1.out g (hvr2 g hg))
                  have HKR2 := Lib.hid (HKR1.out.trans hk2 (fun _ _ h => h))
                  have HROW2 := Lib.hid (hk2.row HROW1.out (fun g hg e => by have := (HROW1.out.lt g hg).1; omega))
                  clear hq2 hvr2 hk2
                  go_wp2_with fail
                  refine (qbits_eof p vr2 (b2) 6 w2 HQ2.out (by decide) (hl6)).mono ?_
                  rintro e wz ⟨rfl, rfl⟩
                  go_wp2_with fail
                  go_ret2
                  exact Left6.stop (by have := HSTOP.out (by decide); exact this) HQ2.out HVR2.out HKR2.out
                · rename_i hl6
                  obtain ⟨a, haa⟩ : ∃ a, a = bitsNat (b2.take 6) := ⟨_, rfl⟩
                  have ha64 : a < 64 := by rw [haa]; exact bitsNat_lt' (n := 6) (List.length_take_le _ _)
                  rw [← haa] at h9
                  have HAA := Lib.hid haa
                  clear haa
                  split at h9
                  · rename_i hl12
                    simp only [Prod.mk.injEq] at h9
                    obtain ⟨rfl, rfl, rfl, rfl⟩ := h9
                    clear HGO
                    have HQ0 := Lib.hid HQ.out; have HVR0 := Lib.hid HVR.out; have HKR0 := Lib.hid HKR.out; have HROW0 := Lib.hid HROW.out
                    clear HQ HVR HKR HROW
                    go_wp2_with fail
                    refine (qbits_any p vr ((true :: true :: b2)) 1 wr HQ0.out (by decide) (by simp)).mono ?_
                    rw [show bitsNat (((true :: true :: b2)).take 1) = 1 from rfl]
                    rintro e w1 ⟨rfl, ⟨vr1, hq1, hvr1⟩, hk1⟩
                    have HQ1 : Hid (IsQ w1 p vr1 (true :: b2)) := Lib.hid (by simpa using hq1)
                    have HVR1 : Hid (∀ g, vr1.ownBlock = some g → vq.ownBlock = some g) := Lib.hid (fun g hg => HVR0.out g (hvr1 g hg))
                    have HKR1 := Lib.hid (HKR0.out.trans hk1 (fun _ _ h => h))
                    have HROW1 := Lib.hid (hk1.row HROW0.out (fun g hg e => by have := (HROW0.out.lt g hg).1; omega))
                    clear hq1 hvr1 hk1
                    go_wp2_with fail
                    refine (qbits_any p vr1 (true :: b2) 1 w1 HQ1.out (by decide) (by simp)).mono ?_
                    rw [show bitsNat ((true :: b2).take 1) = 1 from rfl]
                    rintro e w2 ⟨rfl, ⟨vr2, hq2, hvr2⟩, hk2⟩
                    have HQ2 : Hid (IsQ w2 p vr2 (b2)) := Lib.hid (by simpa using hq2)
                    have HVR2 : Hid (∀ g, vr2.ownBlock = some g → vq.ownBlock = some g) := Lib.hid (fun g hg => HVR1.out g (hvr2 g hg))
                    have HKR2 := Lib.hid (HKR1.out.trans hk2 (fun _ _ h => h))
                    have HROW2 := Lib.hid (hk2.row HROW1.out (fun g hg e => by have := (HROW1.out.lt g hg).1; omega))
                    clear hq2 hvr2 hk2
                    go_wp2_with fail
                    refine (qbits_any p vr2 (b2) 6 w2 HQ2.out (by decide) (by omega)).mono ?_
                    rw [show bitsNat ((b2).take 6) = a from HAA.out.symm]
                    rintro e w3 ⟨rfl, ⟨vr3, hq3, hvr3⟩, hk3⟩
                    have HQ3 : Hid (IsQ w3 p vr3 (b2.drop 6)) := Lib.hid (by simpa using hq3)
                    have HVR3 : Hid (∀ g, vr3.ownBlock = some g → vq.ownBlock = some g) := Lib.hid (fun g hg => HVR2.out g (hvr3 g hg))
                    have HKR3 := Lib.hid (HKR2.out.trans hk3 (fun _ _ h => h))
                    have HROW3 := Lib.hid (hk3.row HROW2.out (fun g hg e => by have := (HROW2.out.lt g hg).1; omega))
                    clear hq3 hvr3 hk3
                    go_wp2_with fail
                    refine (qbits_eof p vr3 (b2.drop 6) 6 w3 HQ3.out (by decide) (by rw [List.length_drop]; omega)).mono ?_
                    rintro e wz ⟨rfl, rfl⟩
                    go_wp2_with fail
                    go_ret2
                    exact Left6.stop (by have := HSTOP.out (by decide); exact this) HQ3.out HVR3.out HKR3.out
                  · rename_i hl12
                    obtain ⟨y, hyy⟩ : ∃ y, y = bitsNat ((b2.drop 6).take 6) := ⟨_, rfl⟩
                    have hy64 : y < 64 := by rw [hyy]; exact bitsNat_lt' (n := 6) (List.length_take_le _ _)
                    rw [← hyy] at h9
                    have HYY := Lib.hid hyy
                    have av1 : IntKind.i64.wrap (a : Int) = a := wrap_nat a (by omega)
                    have av2 : IntKind.i64.wrap (y : Int) = y := wrap_nat y (by omega)
                    have av3 : IntKind.i64.wrap (63 - (a : Int)) = 63 - a := IntWalk.i64_in _ (by omega)
                    have av4 : IntKind.i64.wrap (63 - (a : Int) - y) = 63 - a - y := IntWalk.i64_in _ (by omega)
                    clear hyy
                    split at h9
                    · rename_i hay
                      simp only [Prod.mk.injEq] at h9
                      obtain ⟨rfl, rfl, rfl, rfl⟩ := h9
                      have hneg : 63 - (a : Int) - y < 0 := by omega
                      clear HGO
                      have HQ0 := Lib.hid HQ.out; have HVR0 := Lib.hid HVR.out; have HKR0 := Lib.hid HKR.out; have HROW0 := Lib.hid HROW.out
                      clear HQ HVR HKR HROW
                      go_wp2_with fail
                      refine (qbits_any p vr ((true :: true :: b2)) 1 wr HQ0.out (by decide) (by simp)).mono ?_
                      rw [show bitsNat (((true :: true :: b2)).take 1) = 1 from rfl]
                      rintro e w1 ⟨rfl, ⟨vr1, hq1, hvr1⟩, hk1⟩
                      have HQ1 : Hid (IsQ w1 p vr1 (true :: b2)) := Lib.hid (by simpa using hq1)
                      have HVR1 : Hid (∀ g, vr1.ownBlock = some g → vq.ownBlock = some g) := Lib.hid (fun g hg => HVR0.out g (hvr1 g hg))
                      have HKR1 := Lib.hid (HKR0.out.trans hk1 (fun _ _ h => h))
                      have HROW1 := Lib.hid (hk1.row HROW0.out (fun g hg e => by have := (HROW0.out.lt g hg).1; omega))
                      clear hq1 hvr1 hk1
                      go_wp2_with fail
                      refine (qbits_any p vr1 (true :: b2) 1 w1 HQ1.out (by decide) (by simp)).mono ?_
                      rw [show bitsNat ((true :: b2).take 1) = 1 from rfl]
                      rintro e w2 ⟨rfl, ⟨vr2, hq2, hvr2⟩, hk2⟩
                      have HQ2 : Hid (IsQ w2 p vr2 (b2)) := Lib.hid (by simpa using hq2)
                      have HVR2 : Hid (∀ g, vr2.ownBlock = some g → vq.ownBlock = some g) := Lib.hid (fun g hg => HVR1.out g (hvr2 g hg))
                      have HKR2 := Lib.hid (HKR1.out.trans hk2 (fun _ _ h => h))
                      have HROW2 := Lib.hid (hk2.row HROW1.out (fun g hg e => by have := (HROW1.out.lt g hg).1; omega))
                      clear hq2 hvr2 hk2
                      go_wp2_with fail
                      refine (qbits_any p vr2 (b2) 6 w2 HQ2.out (by decide) (by omega)).mono ?_
                      rw [show bitsNat ((b2).take 6) = a from HAA.out.symm]
                      rintro e w3 ⟨rfl, ⟨vr3, hq3, hvr3⟩, hk3⟩
                      have HQ3 : Hid (IsQ w3 p vr3 (b2.drop 6)) := Lib.hid (by simpa using hq3)
                      have HVR3 : Hid (∀ g, vr3.ownBlock = some g → vq.ownBlock = some g) := Lib.hid (fun g hg => HVR2.out g (hvr3 g hg))
                      have HKR3 := Lib.hid (HKR2.out.trans hk3 (fun _ _ h => h))
                      have HROW3 := Lib.hid (hk3.row HROW2.out (fun g hg e => by have := (HROW2.out.lt g hg).1; omega))
                      clear hq3 hvr3 hk3
                      go_wp2_with fail
                      refine (qbits_any p vr3 (b2.drop 6) 6 w3 HQ3.out (by decide) (by rw [List.length_drop]; omega)).mono ?_
                      rw [show bitsNat ((b2.drop 6).take 6) = y from HYY.out.symm]
                      rintro e w4 ⟨rfl, ⟨vr4, hq4, hvr4⟩, hk4⟩
                      have HQ4 : Hid (IsQ w4 p vr4 (b2.drop 12)) := Lib.hid (by simpa using hq4)
                      have HVR4 : Hid (∀ g, vr4.ownBlock = some g → vq.ownBlock = some g) := Lib.hid (fun g hg => HVR3.out g (hvr4 g hg))
                      have HKR4 := Lib.hid (HKR3.out.trans hk4 (fun _ _ h => h))
                      have HROW4 := Lib.hid (hk4.row HROW3.out (fun g hg e => by have := (HROW3.out.lt g hg).1; omega))
                      clear hq4 hvr4 hk4
                      go_wp2_with fail
                      go_ret2
                      exact Left6.stop (by have := HSTOP.out (by decide); exact this) HQ4.out HVR4.out HKR4.out
                    · rename_i hay
                      obtain ⟨T, hT⟩ : ∃ T, T = 63 - a - y := ⟨_, rfl⟩
                      have hneg : 63 - (a : Int) - y = (T : Int) := by omega
                      have hT0 : ¬ (T : Int) < 0 := by omega
                      obtain ⟨c, hcc⟩ : ∃ c, c = 1 + y := ⟨_, rfl⟩
                      rw [← hT] at h9
                      rw [← hcc] at h9
                      have cv0 : IntKind.i64.wrap (T : Int) = T := wrap_nat T (by omega)
                      have cv1 : 64 - (a : Int) - (T : Int) = (c : Int) := by omega
                      have cv2 : IntKind.i64.wrap (c : Int) = c := wrap_nat c (by omega)
                      have cv3 : IntKind.i64.wrap (64 - (a : Int)) = 64 - a := IntWalk.i64_in _ (by omega)
                      have hc64 : c ≤ 64 := by omega
                      have hT64 : T ≤ 64 := by omega
                      have hyc : 12 + c = 13 + y := by omega
                      have hcT : c + T ≤ 64 := by omega
                      rw [hneg] at av4
                      clear av4
                      have HTT := Lib.hid hT; have HCC := Lib.hid hcc
                      clear hT hcc
                      split at h9
                      · rename_i hsh
                        simp only [Prod.mk.injEq] at h9
                        obtain ⟨rfl, rfl, rfl, rfl⟩ := h9
                        clear HGO
                        have HQ0 := Lib.hid HQ.out; have HVR0 := Lib.hid HVR.out; have HKR0 := Lib.hid HKR.out; have HROW0 := Lib.hid HROW.out
                        clear HQ HVR HKR HROW
                        go_wp2_with fail
                        refine (qbits_any p vr ((true :: true :: b2)) 1 wr HQ0.out (by decide) (by simp)).mono ?_
                        rw [show bitsNat (((true :: true :: b2)).take 1) = 1 from rfl]
                        rintro e w1 ⟨rfl, ⟨vr1, hq1, hvr1⟩, hk1⟩
                        have HQ1 : Hid (IsQ w1 p vr1 (true :: b2)) := Lib.hid (by simpa using hq1)
                        have HVR1 : Hid (∀ g, vr1.ownBlock = some g → vq.ownBlock = some g) := Lib.hid (fun g hg => HVR0.out g (hvr1 g hg))
                        have HKR1 := Lib.hid (HKR0.out.trans hk1 (fun _ _ h => h))
                        have HROW1 := Lib.hid (hk1.row HROW0.out (fun g hg e => by have := (HROW0.out.lt g hg).1; omega))
                        clear hq1 hvr1 hk1
                        go_wp2_with fail
                        refine (qbits_any p vr1 (true :: b2) 1 w1 HQ1.out (by decide) (by simp)).mono ?_
                        rw [show bitsNat ((true :: b2).take 1) = 1 from rfl]
                        rintro e w2 ⟨rfl, ⟨vr2, hq2, hvr2⟩, hk2⟩
                        have HQ2 : Hid (IsQ w2 p vr2 (b2)) := Lib.hid (by simpa using hq2)
                        have HVR2 : Hid (∀ g, vr2.ownBlock = some g → vq.ownBlock = some g) := Lib.hid (fun g hg => HVR1.out g (hvr2 g hg))
                        have HKR2 := Lib.hid (HKR1.out.trans hk2 (fun _ _ h => h))
                        have HROW2 := Lib.hid (hk2.row HROW1.out (fun g hg e => by have := (HROW1.out.lt g hg).1; omega))
                        clear hq2 hvr2 hk2
                        go_wp2_with fail
                        refine (qbits_any p vr2 (b2) 6 w2 HQ2.out (by decide) (by omega)).mono ?_
                        rw [show bitsNat ((b2).take 6) = a from HAA.out.symm]
                        rintro e w3 ⟨rfl, ⟨vr3, hq3, hvr3⟩, hk3⟩
                        have HQ3 : Hid (IsQ w3 p vr3 (b2.drop 6)) := Lib.hid (by simpa using hq3)
                        have HVR3 : Hid (∀ g, vr3.ownBlock = some g → vq.ownBlock = some g) := Lib.hid (fun g hg => HVR2.out g (hvr3 g hg))
                        have HKR3 := Lib.hid (HKR2.out.trans hk3 (fun _ _ h => h))
                        have HROW3 := Lib.hid (hk3.row HROW2.out (fun g hg e => by have := (HROW2.out.lt g hg).1; omega))
                        clear hq3 hvr3 hk3
                        go_wp2_with fail
                        refine (qbits_any p vr3 (b2.drop 6) 6 w3 HQ3.out (by decide) (by rw [List.length_drop]; omega)).mono ?_
                        rw [show bitsNat ((b2.drop 6).take 6) = y from HYY.out.symm]
                        rintro e w4 ⟨rfl, ⟨vr4, hq4, hvr4⟩, hk4⟩
                        have HQ4 : Hid (IsQ w4 p vr4 (b2.drop 12)) := Lib.hid (by simpa using hq4)
                        have HVR4 : Hid (∀ g, vr4.ownBlock = some g → vq.ownBlock = some g) := Lib.hid (fun g hg => HVR3.out g (hvr4 g hg))
                        have HKR4 := Lib.hid (HKR3.out.trans hk4 (fun _ _ h => h))
                        have HROW4 := Lib.hid (hk4.row HROW3.out (fun g hg e => by have := (HROW3.out.lt g hg).1; omega))
                        clear hq4 hvr4 hk4
                        go_wp2_with fail
                        refine (qbits_eof p vr4 (b2.drop 12) c w4 HQ4.out (hc64) (by rw [List.length_drop]; omega)).mono ?_
                        rintro e wz ⟨rfl, rfl⟩
                        go_wp2_with fail
                        go_ret2
                        exact Left6.stop (by have := HSTOP.out (by decide); exact this) HQ4.out HVR4.out HKR4.out
                      · rename_i hsh
                        obtain ⟨u, huu⟩ : ∃ u, u = bitsNat ((b2.drop 12).take c) := ⟨_, rfl⟩
                        have hu : u < 2 ^ c := by rw [huu]; exact bitsNat_lt' (List.length_take_le _ _)
                        rw [← huu] at h9
                        have hus := (shl_nat (T := T) hu hcT).2
                        have HUU := Lib.hid huu; have HUS := Lib.hid hus
                        clear huu hus hu
                        split at h9
                        · rename_i hu0
                          simp only [Prod.mk.injEq] at h9
                          obtain ⟨rfl, rfl, rfl, rfl⟩ := h9
                          subst hu0
                          clear HGO
                          have HQ0 := Lib.hid HQ.out; have HVR0 := Lib.hid HVR.out; have HKR0 := Lib.hid HKR.out; have HROW0 := Lib.hid HROW.out
                          clear HQ HVR HKR HROW
                          go_wp2_with fail
                          refine (qbits_any p vr ((true :: true :: b2)) 1 wr HQ0.out (by decide) (by simp)).mono ?_
                          rw [show bitsNat (((true :: true :: b2)).take 1) = 1 from rfl]
                          rintro e w1 ⟨rfl, ⟨vr1, hq1, hvr1⟩, hk1⟩
                          have HQ1 : Hid (IsQ w1 p vr1 (true :: b2)) := Lib.hid (by simpa using hq1)
                          have HVR1 : Hid (∀ g, vr1.ownBlock = some g → vq.ownBlock = some g) := Lib.hid (fun g hg => HVR0.out g (hvr1 g hg))
                          have HKR1 := Lib.hid (HKR0.out.trans hk1 (fun _ _ h => h))
                          have HROW1 := Lib.hid (hk1.row HROW0.out (fun g hg e => by have := (HROW0.out.lt g hg).1; omega))
                          clear hq1 hvr1 hk1
                          go_wp2_with fail
                          refine (qbits_any p vr1 (true :: b2) 1 w1 HQ1.out (by decide) (by simp)).mono ?_
                          rw [show bitsNat ((true :: b2).take 1) = 1 from rfl]
                          rintro e w2 ⟨rfl, ⟨vr2, hq2, hvr2⟩, hk2⟩
                          have HQ2 : Hid (IsQ w2 p vr2 (b2)) := Lib.hid (by simpa using hq2)
                          have HVR2 : Hid (∀ g, vr2.ownBlock = some g → vq.ownBlock = some g) := Lib.hid (fun g hg => HVR1.out g (hvr2 g hg))
                          have HKR2 := Lib.hid (HKR1.out.trans hk2 (fun _ _ h => h))
                          have HROW2 := Lib.hid (hk2.row HROW1.out (fun g hg e => by have := (HROW1.out.lt g hg).1; omega))
                          clear hq2 hvr2 hk2
                          go_wp2_with fail
                          refine (qbits_any p vr2 (b2) 6 w2 HQ2.out (by decide) (by omega)).mono ?_
                          rw [show bitsNat ((b2).take 6) = a from HAA.out.symm]
                          rintro e w3 ⟨rfl, ⟨vr3, hq3, hvr3⟩, hk3⟩
                          have HQ3 : Hid (IsQ w3 p vr3 (b2.drop 6)) := Lib.hid (by simpa using hq3)
                          have HVR3 : Hid (∀ g, vr3.ownBlock = some g → vq.ownBlock = some g) := Lib.hid (fun g hg => HVR2.out g (hvr3 g hg))
                          have HKR3 := Lib.hid (HKR2.out.trans hk3 (fun _ _ h => h))
                          have HROW3 := Lib.hid (hk3.row HROW2.out (fun g hg e => by have := (HROW2.out.lt g hg).1; omega))
                          clear hq3 hvr3 hk3
                          go_wp2_with fail
                          refine (qbits_any p vr3 (b2.drop 6) 6 w3 HQ3.out (by decide) (by rw [List.length_drop]; omega)).mono ?_
                          rw [show bitsNat ((b2.drop 6).take 6) = y from HYY.out.symm]
                          rintro e w4 ⟨rfl, ⟨vr4, hq4, hvr4⟩, hk4⟩
                          have HQ4 : Hid (IsQ w4 p vr4 (b2.drop 12)) := Lib.hid (by simpa using hq4)
                          have HVR4 : Hid (∀ g, vr4.ownBlock = some g → vq.ownBlock = some g) := Lib.hid (fun g hg => HVR3.out g (hvr4 g hg))
                          have HKR4 := Lib.hid (HKR3.out.trans hk4 (fun _ _ h => h))
                          have HROW4 := Lib.hid (hk4.row HROW3.out (fun g hg e => by have := (HROW3.out.lt g hg).1; omega))
                          clear hq4 hvr4 hk4
                          go_wp2_with fail
                          refine (qbits_any p vr4 (b2.drop 12) c w4 HQ4.out (hc64) (by rw [List.length_drop]; omega)).mono ?_
                          rw [show bitsNat ((b2.drop 12).take c) = 0 from HUU.out.symm]
                          rintro e w5 ⟨rfl, ⟨vr5, hq5, hvr5⟩, hk5⟩
                          have HQ5 : Hid (IsQ w5 p vr5 (b2.drop (12 + c))) := Lib.hid (by simpa using hq5)
                          have HVR5 : Hid (∀ g, vr5.ownBlock = some g → vq.ownBlock = some g) := Lib.hid (fun g hg => HVR4.out g (hvr5 g hg))
                          have HKR5 := Lib.hid (HKR4.out.trans hk5 (fun _ _ h => h))
                          have HROW5 := Lib.hid (hk5.row HROW4.out (fun g hg e => by have := (HROW4.out.lt g hg).1; omega))
                          clear hq5 hvr5 hk5
                          go_wp2_with fail
                          refine (outside_any 0 T _ HUS.out (by omega)).mono ?_
                          rw [Nat.zero_mul]
                          rintro e wz ⟨rfl, rfl⟩
                          go_wp2_with fail
                          go_ret2
                          exact Left6.stop (by have := HSTOP.out (by decide); rw [show 15 + y = (12 + c) + 1 + 1 by omega] at this; simpa using this) HQ5.out HVR5.out HKR5.out
                        · rename_i hu0
                          obtain ⟨X, hXX⟩ : ∃ X, X = u * 2 ^ T := ⟨_, rfl⟩
                          have hXne : X ≠ 0 := by rw [hXX]; exact Nat.mul_ne_zero hu0 (Nat.ne_of_gt (Nat.pow_pos (by decide)))
                          have hX0 : ((X : Int) == 0) = false := beq_eq_false_iff_ne.2 (by omega)
                          have hX64 : X < 18446744073709551616 := by rw [hXX]; exact HUS.out
                          rw [← hXX] at h9
                          have HXX := Lib.hid hXX
                          have hzr := fun w => zeros_any X w hX64 hXne
                          have hlzt := lz_tz hX64 hXne
                          obtain ⟨P, hP⟩ : ∃ P, P = lz X := ⟨_, rfl⟩
                          obtain ⟨Q, hQ⟩ : ∃ Q, Q = tz X := ⟨_, rfl⟩
                          rw [← hP, ← hQ] at hzr h9 hlzt
                          obtain ⟨LI, hLI⟩ : ∃ LI, LI = refL s := ⟨_, rfl⟩
                          obtain ⟨TI, hTI⟩ : ∃ TI, TI = refT s := ⟨_, rfl⟩
                          rw [← hLI, ← hTI]
                          have hwin : (LI < 0 ∧ fitsX s X = false) ∨ (∃ A : Nat, LI = (A : Int) ∧ fitsX s X = (decide (A ≤ P) && decide (TI ≤ Q))) := by
                            rcases HS.out with hw | hs'
                            · left; exact ⟨by rw [hLI, hw]; simp [refL], by rw [hw]; exact fitsX_none hX64 hXne⟩
                            · obtain ⟨z1, z2⟩ := ref_win hs'
                              refine .inr ⟨s.1, by rw [hLI, z1], ?_⟩
                              rw [hTI, z2, hP, hQ]; rfl
                          have HZR := Lib.hid hzr; have HLI := Lib.hid hLI; have HTI := Lib.hid hTI; have HPP := Lib.hid hP; have HQQ := Lib.hid hQ
                          clear hzr hLI hTI hP hQ hXX hu0 hXne
                          by_cases hbad : P ≠ a ∨ Q ≠ T ∨ fitsX s X = true
                          · rw [if_pos hbad] at h9
                            simp only [Prod.mk.injEq] at h9
                            obtain ⟨rfl, rfl, rfl, rfl⟩ := h9
                            clear HGO
                            have hways : (¬ P = a) ∨ (P = a ∧ ¬ Q = T) ∨ (P = a ∧ Q = T ∧ ∃ A : Nat, LI = (A : Int) ∧ A ≤ P ∧ TI ≤ Q) := by
                              by_cases h1 : P = a
                              · by_cases h2 : Q = T
                                · refine .inr (.inr ⟨h1, h2, ?_⟩)
                                  have h3 := (hbad.resolve_left (fun h => h h1)).resolve_left (fun h => h h2)
                                  rcases hwin with ⟨_, h4⟩ | ⟨A, h5, h6⟩
                                  · rw [h3] at h4; cases h4
                                  · rw [h3] at h6
                                    have h7 := h6.symm
                                    simp only [Bool.and_eq_true, decide_eq_true_eq] at h7
                                    exact ⟨A, h5, h7.1, h7.2⟩
                                · exact .inr (.inl ⟨h1, h2⟩)
                              · exact .inl h1
                            clear hbad hwin
                            rcases hways with h1 | ⟨h1, h2⟩ | ⟨h1, h2, A, rfl, h3, h4⟩
                            · have t1 : ((P : Int) == (a : Int)) = false := beq_eq_false_iff_ne.2 (by omega)
                              have t1' : ((P : Int) != (a : Int)) = true := by rw [bne, t1]; rfl
                              have t2 : ¬ (P : Int) = a := by omega
                              have HQ0 := Lib.hid HQ.out; have HVR0 := Lib.hid HVR.out; have HKR0 := Lib.hid HKR.out; have HROW0 := Lib.hid HROW.out
                              clear HQ HVR HKR HROW
                              go_wp2_with fail
                              refine (qbits_any p vr ((true :: true :: b2)) 1 wr HQ0.out (by decide) (by simp)).mono ?_
                              rw [show bitsNat (((true :: true :: b2)).take 1) = 1 from rfl]
                              rintro e w1 ⟨rfl, ⟨vr1, hq1, hvr1⟩, hk1⟩
                              have HQ1 : Hid (IsQ w1 p vr1 (true :: b2)) := Lib.hid (by simpa using hq1)
                              have HVR1 : Hid (∀ g, vr1.ownBlock = some g → vq.ownBlock = some g) := Lib.hid (fun g hg => HVR0.out g (hvr1 g hg))
                              have HKR1 := Lib.hid (HKR0.out.trans hk1 (fun _ _ h => h))
                              have HROW1 := Lib.hid (hk1.row HROW0.out (fun g hg e => by have := (HROW0.out.lt g hg).1; omega))
                              clear hq1 hvr1 hk1
                              go_wp2_with fail
                              refine (qbits_any p vr1 (true :: b2) 1 w1 HQ1.out (by decide) (by simp)).mono ?_
                              rw [show bitsNat ((true :: b2).take 1) = 1 from rfl]
                              rintro e w2 ⟨rfl, ⟨vr2, hq2, hvr2⟩, hk2⟩
                              have HQ2 : Hid (IsQ w2 p vr2 (b2)) := Lib.hid (by simpa using hq2)
                              have HVR2 : Hid (∀ g, vr2.ownBlock = some g → vq.ownBlock = some g) := Lib.hid (fun g hg => HVR1.out g (hvr2 g hg))
                              have HKR2 := Lib.hid (HKR1.out.trans hk2 (fun _ _ h => h))
                              have HROW2 := Lib.hid (hk2.row HROW1.out (fun g hg e => by have := (HROW1.out.lt g hg).1; omega))
                              clear hq2 hvr2 hk2
                              go_wp2_with fail
                              refine (qbits_any p vr2 (b2) 6 w2 HQ2.out (by decide) (by omega)).mono ?_
                              rw [show bitsNat ((b2).take 6) = a from HAA.out.symm]
                              rintro e w3 ⟨rfl, ⟨vr3, hq3, hvr3⟩, hk3⟩
                              have HQ3 : Hid (IsQ w3 p vr3 (b2.drop 6)) := Lib.hid (by simpa using hq3)
                              have HVR3 : Hid (∀ g, vr3.ownBlock = some g → vq.ownBlock = some g) := Lib.hid (fun g hg => HVR2.out g (hvr3 g hg))
                              have HKR3 := Lib.hid (HKR2.out.trans hk3 (fun _ _ h => h))
                              have HROW3 := Lib.hid (hk3.row HROW2.out (fun g hg e => by have := (HROW2.out.lt g hg).1; omega))
                              clear hq3 hvr3 hk3
                              go_wp2_with fail
                              refine (qbits_any p vr3 (b2.drop 6) 6 w3 HQ3.out (by decide) (by rw [List.length_drop]; omega)).mono ?_
                              rw [show bitsNat ((b2.drop 6).take 6) = y from HYY.out.symm]
                              rintro e w4 ⟨rfl, ⟨vr4, hq4, hvr4⟩, hk4⟩
                              have HQ4 : Hid (IsQ w4 p vr4 (b2.drop 12)) := Lib.hid (by simpa using hq4)
                              have HVR4 : Hid (∀ g, vr4.ownBlock = some g → vq.ownBlock = some g) := Lib.hid (fun g hg => HVR3.out g (hvr4 g hg))
                              have HKR4 := Lib.hid (HKR3.out.trans hk4 (fun _ _ h => h))
                              have HROW4 := Lib.hid (hk4.row HROW3.out (fun g hg e => by have := (HROW3.out.lt g hg).1; omega))
                              clear hq4 hvr4 hk4
                              go_wp2_with fail
                              refine (qbits_any p vr4 (b2.drop 12) c w4 HQ4.out (hc64) (by rw [List.length_drop]; omega)).mono ?_
                              rw [show bitsNat ((b2.drop 12).take c) = u from HUU.out.symm]
                              rintro e w5 ⟨rfl, ⟨vr5, hq5, hvr5⟩, hk5⟩
                              have HQ5 : Hid (IsQ w5 p vr5 (b2.drop (12 + c))) := Lib.hid (by simpa using hq5)
                              have HVR5 : Hid (∀ g, vr5.ownBlock = some g → vq.ownBlock = some g) := Lib.hid (fun g hg => HVR4.out g (hvr5 g hg))
                              have HKR5 := Lib.hid (HKR4.out.trans hk5 (fun _ _ h => h))
                              have HROW5 := Lib.hid (hk5.row HROW4.out (fun g hg e => by have := (HROW4.out.lt g hg).1; omega))
                              clear hq5 hvr5 hk5
                              go_wp2_with fail
                              refine (outside_any u T _ HUS.out (by omega)).mono ?_
                              rw [← HXX.out]
                              rintro e wz ⟨rfl, rfl⟩
                              go_wp2_with fail
                              refine (HZR.out _).mono ?_
                              rintro e wy ⟨rfl, ky⟩
                              have HQ6 := Lib.hid (HQ5.out.keeps ky (fun h => h) (fun _ _ h => h))
                              have HVR6 := Lib.hid HVR5.out
                              have HKR6 := Lib.hid (HKR5.out.trans ky (fun _ _ h => h.elim))
                              have HROW6 := Lib.hid (ky.row HROW5.out (fun _ _ h => h))
                              clear ky
                              go_wp2_with fail
                              go_ret2
                              exact Left6.stop (by have := HSTOP.out (by decide); rw [show 15 + y = (12 + c) + 1 + 1 by omega] at this; simpa using this) HQ6.out HVR6.out HKR6.out
                            · have h1' := h1.symm
                              subst h1'
                              have t1 : ((Q : Int) == (T : Int)) = false := beq_eq_false_iff_ne.2 (by omega)
                              have t1' : ((Q : Int) != (T : Int)) = true := by rw [bne, t1]; rfl
                              have t2 : ¬ (Q : Int) = T := by omega
                              have HQ0 := Lib.hid HQ.out; have HVR0 := Lib.hid HVR.out; have HKR0 := Lib.hid HKR.out; have HROW0 := Lib.hid HROW.out
                              clear HQ HVR HKR HROW
                              go_wp2_with fail
                              refine (qbits_any p vr ((true :: true :: b2)) 1 wr HQ0.out (by decide) (by simp)).mono ?_
                              rw [show bitsNat (((true :: true :: b2)).take 1) = 1 from rfl]
                              rintro e w1 ⟨rfl, ⟨vr1, hq1, hvr1⟩, hk1⟩
                              have HQ1 : Hid (IsQ w1 p vr1 (true :: b2)) := Lib.hid (by simpa using hq1)
                              have HVR1 : Hid (∀ g, vr1.ownBlock = some g → vq.ownBlock = some g) := Lib.hid (fun g hg => HVR0.out g (hvr1 g hg))
                              have HKR1 := Lib.hid (HKR0.out.trans hk1 (fun _ _ h => h))
                              have HROW1 := Lib.hid (hk1.row HROW0.out (fun g hg e => by have := (HROW0.out.lt g hg).1; omega))
                              clear hq1 hvr1 hk1
                              go_wp2_with fail
                              refine (qbits_any p vr1 (true :: b2) 1 w1 HQ1.out (by decide) (by simp)).mono ?_
                              rw [show bitsNat ((true :: b2).take 1) = 1 from rfl]
                              rintro e w2 ⟨rfl, ⟨vr2, hq2, hvr2⟩, hk2⟩
                              have HQ2 : Hid (IsQ w2 p vr2 (b2)) := Lib.hid (by simpa using hq2)
                              have HVR2 : Hid (∀ g, vr2.ownBlock = some g → vq.ownBlock = some g) := Lib.hid (fun g hg => HVR1.out g (hvr2 g hg))
                              have HKR2 := Lib.hid (HKR1.out.trans hk2 (fun _ _ h => h))
                              have HROW2 := Lib.hid (hk2.row HROW1.out (fun g hg e => by have := (HROW1.out.lt g hg).1; omega))
                              clear hq2 hvr2 hk2
                              go_wp2_with fail
                              refine (qbits_any p vr2 (b2) 6 w2 HQ2.out (by decide) (by omega)).mono ?_
                              rw [show bitsNat ((b2).take 6) = a from HAA.out.symm]
                              rintro e w3 ⟨rfl, ⟨vr3, hq3, hvr3⟩, hk3⟩
                              have HQ3 : Hid (IsQ w3 p vr3 (b2.drop 6)) := Lib.hid (by simpa using hq3)
                              have HVR3 : Hid (∀ g, vr3.ownBlock = some g → vq.ownBlock = some g) := Lib.hid (fun g hg => HVR2.out g (hvr3 g hg))
                              have HKR3 := Lib.hid (HKR2.out.trans hk3 (fun _ _ h => h))
                              have HROW3 := Lib.hid (hk3.row HROW2.out (fun g hg e => by have := (HROW2.out.lt g hg).1; omega))
                              clear hq3 hvr3 hk3
                              go_wp2_with fail
                              refine (qbits_any p vr3 (b2.drop 6) 6 w3 HQ3.out (by decide) (by rw [List.length_drop]; omega)).mono ?_
                              rw [show bitsNat ((b2.drop 6).take 6) = y from HYY.out.symm]
                              rintro e w4 ⟨rfl, ⟨vr4, hq4, hvr4⟩, hk4⟩
                              have HQ4 : Hid (IsQ w4 p vr4 (b2.drop 12)) := Lib.hid (by simpa using hq4)
                              have HVR4 : Hid (∀ g, vr4.ownBlock = some g → vq.ownBlock = some g) := Lib.hid (fun g hg => HVR3.out g (hvr4 g hg))
                              have HKR4 := Lib.hid (HKR3.out.trans hk4 (fun _ _ h => h))
                              have HROW4 := Lib.hid (hk4.row HROW3.out (fun g hg e => by have := (HROW3.out.lt g hg).1; omega))
                              clear hq4 hvr4 hk4
                              go_wp2_with fail
                              refine (qbits_any p vr4 (b2.drop 12) c w4 HQ4.out (hc64) (by rw [List.length_drop]; omega)).mono ?_
                              rw [show bitsNat ((b2.drop 12).take c) = u from HUU.out.symm]
                              rintro e w5 ⟨rfl, ⟨vr5, hq5, hvr5⟩, hk5⟩
                              have HQ5 : Hid (IsQ w5 p vr5 (b2.drop (12 + c))) := Lib.hid (by simpa using hq5)
                              have HVR5 : Hid (∀ g, vr5.ownBlock = some g → vq.ownBlock = some g) := Lib.hid (fun g hg => HVR4.out g (hvr5 g hg))
                              have HKR5 := Lib.hid (HKR4.out.trans hk5 (fun _ _ h => h))
                              have HROW5 := Lib.hid (hk5.row HROW4.out (fun g hg e => by have := (HROW4.out.lt g hg).1; omega))
                              clear hq5 hvr5 hk5
                              go_wp2_with fail
                              refine (outside_any u T _ HUS.out (by omega)).mono ?_
                              rw [← HXX.out]
                              rintro e wz ⟨rfl, rfl⟩
                              go_wp2_with fail
                              refine (HZR.out _).mono ?_
                              rintro e wy ⟨rfl, ky⟩
                              have HQ6 := Lib.hid (HQ5.out.keeps ky (fun h => h) (fun _ _ h => h))
                              have HVR6 := Lib.hid HVR5.out
                              have HKR6 := Lib.hid (HKR5.out.trans ky (fun _ _ h => h.elim))
                              have HROW6 := Lib.hid (ky.row HROW5.out (fun _ _ h => h))
                              clear ky
                              go_wp2_with fail
                              go_ret2
                              exact Left6.stop (by have := HSTOP.out (by decide); rw [show 15 + y = (12 + c) + 1 + 1 by omega] at this; simpa using this) HQ6.out HVR6.out HKR6.out
                            · have h1' := h1.symm
                              subst h1'
                              have h2' := h2.symm
                              subst h2'
                              have t1 : (0 : Int) ≤ A := by omega
                              have t2 : (A : Int) ≤ a := by omega
                              have t3 : (TI : Int) ≤ T := by omega
                              have t4 : decide ((A : Int) ≤ (a : Int)) = true := by simp; omega
                              have t5 : decide ((TI : Int) ≤ (T : Int)) = true := by simp; omega
                              have HQ0 := Lib.hid HQ.out; have HVR0 := Lib.hid HVR.out; have HKR0 := Lib.hid HKR.out; have HROW0 := Lib.hid HROW.out
                              clear HQ HVR HKR HROW
                              go_wp2_with fail
                              refine (qbits_any p vr ((true :: true :: b2)) 1 wr HQ0.out (by decide) (by simp)).mono ?_
                              rw [show bitsNat (((true :: true :: b2)).take 1) = 1 from rfl]
                              rintro e w1 ⟨rfl, ⟨vr1, hq1, hvr1⟩, hk1⟩
                              have HQ1 : Hid (IsQ w1 p vr1 (true :: b2)) := Lib.hid (by simpa using hq1)
                              have HVR1 : Hid (∀ g, vr1.ownBlock = some g → vq.ownBlock = some g) := Lib.hid (fun g hg => HVR0.out g (hvr1 g hg))
                              have HKR1 := Lib.hid (HKR0.out.trans hk1 (fun _ _ h => h))
                              have HROW1 := Lib.hid (hk1.row HROW0.out (fun g hg e => by have := (HROW0.out.lt g hg).1; omega))
                              clear hq1 hvr1 hk1
                              go_wp2_with fail
                              refine (qbits_any p vr1 (true :: b2) 1 w1 HQ1.out (by decide) (by simp)).mono ?_
                              rw [show bitsNat ((true :: b2).take 1) = 1 from rfl]
                              rintro e w2 ⟨rfl, ⟨vr2, hq2, hvr2⟩, hk2⟩
                              have HQ2 : Hid (IsQ w2 p vr2 (b2)) := Lib.hid (by simpa using hq2)
                              have HVR2 : Hid (∀ g, vr2.ownBlock = some g → vq.ownBlock = some g) := Lib.hid (fun g hg => HVR1.out g (hvr2 g hg))
                              have HKR2 := Lib.hid (HKR1.out.trans hk2 (fun _ _ h => h))
                              have HROW2 := Lib.hid (hk2.row HROW1.out (fun g hg e => by have := (HROW1.out.lt g hg).1; omega))
                              clear hq2 hvr2 hk2
                              go_wp2_with fail
                              refine (qbits_any p vr2 (b2) 6 w2 HQ2.out (by decide) (by omega)).mono ?_
                              rw [show bitsNat ((b2).take 6) = a from HAA.out.symm]
                              rintro e w3 ⟨rfl, ⟨vr3, hq3, hvr3⟩, hk3⟩
                              have HQ3 : Hid (IsQ w3 p vr3 (b2.drop 6)) := Lib.hid (by simpa using hq3)
                              have HVR3 : Hid (∀ g, vr3.ownBlock = some g → vq.ownBlock = some g) := Lib.hid (fun g hg => HVR2.out g (hvr3 g hg))
                              have HKR3 := Lib.hid (HKR2.out.trans hk3 (fun _ _ h => h))
                              have HROW3 := Lib.hid (hk3.row HROW2.out (fun g hg e => by have := (HROW2.out.lt g hg).1; omega))
                              clear hq3 hvr3 hk3
                              go_wp2_with fail
                              refine (qbits_any p vr3 (b2.drop 6) 6 w3 HQ3.out (by decide) (by rw [List.length_drop]; omega)).mono ?_
                              rw [show bitsNat ((b2.drop 6).take 6) = y from HYY.out.symm]
                              rintro e w4 ⟨rfl, ⟨vr4, hq4, hvr4⟩, hk4⟩
                              have HQ4 : Hid (IsQ w4 p vr4 (b2.drop 12)) := Lib.hid (by simpa using hq4)
                              have HVR4 : Hid (∀ g, vr4.ownBlock = some g → vq.ownBlock = some g) := Lib.hid (fun g hg => HVR3.out g (hvr4 g hg))
                              have HKR4 := Lib.hid (HKR3.out.trans hk4 (fun _ _ h => h))
                              have HROW4 := Lib.hid (hk4.row HROW3.out (fun g hg e => by have := (HROW3.out.lt g hg).1; omega))
                              clear hq4 hvr4 hk4
                              go_wp2_with fail
                              refine (qbits_any p vr4 (b2.drop 12) c w4 HQ4.out (hc64) (by rw [List.length_drop]; omega)).mono ?_
                              rw [show bitsNat ((b2.drop 12).take c) = u from HUU.out.symm]
                              rintro e w5 ⟨rfl, ⟨vr5, hq5, hvr5⟩, hk5⟩
                              have HQ5 : Hid (IsQ w5 p vr5 (b2.drop (12 + c))) := Lib.hid (by simpa using hq5)
                              have HVR5 : Hid (∀ g, vr5.ownBlock = some g → vq.ownBlock = some g) := Lib.hid (fun g hg => HVR4.out g (hvr5 g hg))
                              have HKR5 := Lib.hid (HKR4.out.trans hk5 (fun _ _ h => h))
                              have HROW5 := Lib.hid (hk5.row HROW4.out (fun g hg e => by have := (HROW4.out.lt g hg).1; omega))
                              clear hq5 hvr5 hk5
                              go_wp2_with fail
                              refine (outside_any u T _ HUS.out (by omega)).mono ?_
                              rw [← HXX.out]
                              rintro e wz ⟨rfl, rfl⟩
                              go_wp2_with fail
                              refine (HZR.out _).mono ?_
                              rintro e wy ⟨rfl, ky⟩
                              have HQ6 := Lib.hid (HQ5.out.keeps ky (fun h => h) (fun _ _ h => h))
                              have HVR6 := Lib.hid HVR5.out
                              have HKR6 := Lib.hid (HKR5.out.trans ky (fun _ _ h => h.elim))
                              have HROW6 := Lib.hid (ky.row HROW5.out (fun _ _ h => h))
                              clear ky
                              go_wp2_with fail
                              go_ret2
                              exact Left6.stop (by have := HSTOP.out (by decide); rw [show 15 + y = (12 + c) + 1 + 1 by omega] at this; simpa using this) HQ6.out HVR6.out HKR6.out
                          · rw [if_neg hbad] at h9
                            simp only [Prod.mk.injEq] at h9
                            obtain ⟨rfl, rfl, rfl, rfl⟩ := h9
                            clear HSTOP
                            simp only [not_or, Decidable.not_not, Bool.not_eq_true] at hbad
                            obtain ⟨h1, h2, h3⟩ := hbad
                            have h1' := h1.symm
                            subst h1'
                            have h2' := h2.symm
                            subst h2'
                            obtain ⟨V, hV⟩ : ∃ V, V = last ^^^ X := ⟨_, rfl⟩
                            have hxor : bits BinOp.xor IntKind.u64 (last : Int) (X : Int) = (V : Int) := by rw [bits_xor_u64_nat last X hla hX64, hV]
                            have hV64 : V < 18446744073709551616 := by rw [hV]; exact xor_lt64 hla hX64
                            rw [← hV] at HGO
                            have hwn : okWin (a, T) := .inr hlzt
                            obtain ⟨z1, z2⟩ := ref_win (s := (a, T)) hlzt
                            have HZ1 := Lib.hid z1; have HZ2 := Lib.hid z2; have HWN := Lib.hid hwn
                            have hways : LI < 0 ∨ (∃ A : Nat, LI = (A : Int) ∧ (¬ A ≤ a ∨ (A ≤ a ∧ ¬ TI ≤ T))) := by
                              rcases hwin with ⟨h4, _⟩ | ⟨A, h5, h6⟩
                              · exact .inl h4
                              · rw [h3] at h6
                                have h7 := h6.symm
                                simp only [Bool.and_eq_false_iff, decide_eq_false_iff_not] at h7
                                refine .inr ⟨A, h5, ?_⟩
                                by_cases h8 : A ≤ a
                                · exact .inr ⟨h8, h7.resolve_left (fun h => h h8)⟩
                                · exact .inl h8
                            clear hwin h3 hV z1 z2 hwn
                            rcases hways with h4 | ⟨A, rfl, h4 | ⟨h4, h5⟩⟩
                            · have t1 : ¬ (0 : Int) ≤ LI := by omega
                              have t2 : decide ((0 : Int) ≤ LI) = false := by simp; omega
                              have HQ0 := Lib.hid HQ.out; have HVR0 := Lib.hid HVR.out; have HKR0 := Lib.hid HKR.out; have HROW0 := Lib.hid HROW.out
                              clear HQ HVR HKR HROW
                              go_wp2_with fail
                              refine (qbits_any p vr ((true :: true :: b2)) 1 wr HQ0.out (by decide) (by simp)).mono ?_
                              rw [show bitsNat (((true :: true :: b2)).take 1) = 1 from rfl]
                              rintro e w1 ⟨rfl, ⟨vr1, hq1, hvr1⟩, hk1⟩
                              have HQ1 : Hid (IsQ w1 p vr1 (true :: b2)) := Lib.hid (by simpa using hq1)
                              have HVR1 : Hid (∀ g, vr1.ownBlock = some g → vq.ownBlock = some g) := Lib.hid (fun g hg => HVR0.out g (hvr1 g hg))
                              have HKR1 := Lib.hid (HKR0.out.trans hk1 (fun _ _ h => h))
                              have HROW1 := Lib.hid (hk1.row HROW0.out (fun g hg e => by have := (HROW0.out.lt g hg).1; omega))
                              clear hq1 hvr1 hk1
                              go_wp2_with fail
                              refine (qbits_any p vr1 (true :: b2) 1 w1 HQ1.out (by decide) (by simp)).mono ?_
                              rw [show bitsNat ((true :: b2).take 1) = 1 from rfl]
                              rintro e w2 ⟨rfl, ⟨vr2, hq2, hvr2⟩, hk2⟩
                              have HQ2 : Hid (IsQ w2 p vr2 (b2)) := Lib.hid (by simpa using hq2)
                              have HVR2 : Hid (∀ g, vr2.ownBlock = some g → vq.ownBlock = some g) := Lib.hid (fun g hg => HVR1.out g (hvr2 g hg))
                              have HKR2 := Lib.hid (HKR1.out.trans hk2 (fun _ _ h => h))
                              have HROW2 := Lib.hid (hk2.row HROW1.out (fun g hg e => by have := (HROW1.out.lt g hg).1; omega))
                              clear hq2 hvr2 hk2
                              go_wp2_with fail
                              refine (qbits_any p vr2 (b2) 6 w2 HQ2.out (by decide) (by omega)).mono ?_
                              rw [show bitsNat ((b2).take 6) = a from HAA.out.symm]
                              rintro e w3 ⟨rfl, ⟨vr3, hq3, hvr3⟩, hk3⟩
                              have HQ3 : Hid (IsQ w3 p vr3 (b2.drop 6)) := Lib.hid (by simpa using hq3)
                              have HVR3 : Hid (∀ g, vr3.ownBlock = some g → vq.ownBlock = some g) := Lib.hid (fun g hg => HVR2.out g (hvr3 g hg))
                              have HKR3 := Lib.hid (HKR2.out.trans hk3 (fun _ _ h => h))
                              have HROW3 := Lib.hid (hk3.row HROW2.out (fun g hg e => by have := (HROW2.out.lt g hg).1; omega))
                              clear hq3 hvr3 hk3
                              go_wp2_with fail
                              refine (qbits_any p vr3 (b2.drop 6) 6 w3 HQ3.out (by decide) (by rw [List.length_drop]; omega)).mono ?_
                              rw [show bitsNat ((b2.drop 6).take 6) = y from HYY.out.symm]
                              rintro e w4 ⟨rfl, ⟨vr4, hq4, hvr4⟩, hk4⟩
                              have HQ4 : Hid (IsQ w4 p vr4 (b2.drop 12)) := Lib.hid (by simpa using hq4)
                              have HVR4 : Hid (∀ g, vr4.ownBlock = some g → vq.ownBlock = some g) := Lib.hid (fun g hg => HVR3.out g (hvr4 g hg))
                              have HKR4 := Lib.hid (HKR3.out.trans hk4 (fun _ _ h => h))
                              have HROW4 := Lib.hid (hk4.row HROW3.out (fun g hg e => by have := (HROW3.out.lt g hg).1; omega))
                              clear hq4 hvr4 hk4
                              go_wp2_with fail
                              refine (qbits_any p vr4 (b2.drop 12) c w4 HQ4.out (hc64) (by rw [List.length_drop]; omega)).mono ?_
                              rw [show bitsNat ((b2.drop 12).take c) = u from HUU.out.symm]
                              rintro e w5 ⟨rfl, ⟨vr5, hq5, hvr5⟩, hk5⟩
                              have HQ5 : Hid (IsQ w5 p vr5 (b2.drop (12 + c))) := Lib.hid (by simpa using hq5)
                              have HVR5 : Hid (∀ g, vr5.ownBlock = some g → vq.ownBlock = some g) := Lib.hid (fun g hg => HVR4.out g (hvr5 g hg))
                              have HKR5 := Lib.hid (HKR4.out.trans hk5 (fun _ _ h => h))
                              have HROW5 := Lib.hid (hk5.row HROW4.out (fun g hg e => by have := (HROW4.out.lt g hg).1; omega))
                              clear hq5 hvr5 hk5
                              go_wp2_with fail
                              refine (outside_any u T _ HUS.out (by omega)).mono ?_
                              rw [← HXX.out]
                              rintro e wz ⟨rfl, rfl⟩
                              go_wp2_with fail
                              refine (HZR.out _).mono ?_
                              rintro e wy ⟨rfl, ky⟩
                              have HQ6 := Lib.hid (HQ5.out.keeps ky (fun h => h) (fun _ _ h => h))
                              have HVR6 := Lib.hid HVR5.out
                              have HKR6 := Lib.hid (HKR5.out.trans ky (fun _ _ h => h.elim))
                              have HROW6 := Lib.hid (ky.row HROW5.out (fun _ _ h => h))
                              clear ky
                              have hrowA := HROW6.out
                              have hsA : w.heap.size ≤ wy.heap.size := HKR6.out.size
                              obtain ⟨gA, cpA, hvA, hnA, _, hcellA, _⟩ := row_cell hrowA (i := j1) (u := .int .u64 (last : Nat)) (by have := HAT.out; simp [u64s, this])
                              subst hvA
                              go_wp2_with (at_builtin; refine wpList_append_new _ rfl _ _ 58 rfl w.heap.size 48 i0 (.int .u64 0) 1 8 Tryd.underlying58 hii hz0 hz1 hz2 rfl (by decide) _ _ _ rfl (hrowA.alloc _) ⟨wy.heap.size, 0, none⟩ 1 1 [.int .u64 (V : Nat)] rfl rfl ?c1 ?c2 ?c3 ?c4 ?c5 ?_)
                              case c1 => exact cell_one_new _ _ _
                              case c2 => simp [Value.oneCell']
                              case c3 => unfold maxLen; omega
                              case c4 => omega
                              case c5 => simp; omega
                              intro v' wv hown' hgrow hnew
                              have kk1 : Keeps (own (.slice (some ⟨gA, 0, none⟩) acc.length cpA)) wy wv := ((Keeps.refl (own _) wy).alloc _).grown hgrow (fun k _ e => e)
                              have F1 := Lib.hid (HKR6.out.trans kk1 (fun k hk e => by have := (HROW6.out.lt k e).1; omega))
                              have F2 := Lib.hid (HQ6.out.keeps kk1 (fun e => by have := (HROW6.out.lt _ e).1; omega) (fun g hg e => by have := (HROW6.out.lt _ e).1; have := HV.out g (HVR6.out g hg); omega))
                              have F3 := Lib.hid hown'
                              clear hown' hgrow hnew kk1 hrowA hcellA
                              go_wp2_with fail
                              go_roundg f
                              case measure => omega
                              case rel =>
                                refine ⟨k + 1, V, (a, T), acc ++ [V], b2.drop (12 + c), v', vr5, by omega, rfl, ?_, ?_, by go_num, by have := HACC.out; simp; omega, HWN.out, hV64, ?_, F2.out, HVR6.out, F1.out, fun h => by omega, fun _ => ⟨?_, ?_⟩⟩
                                · rw [HZ1.out]
                                · rw [HZ2.out]
                                · have := F3.out; simpa [u64s] using this
                                · have := HACC.out
                                  rw [Nat.add_sub_cancel, ← this, List.getElem?_append_right (Nat.le_refl _)]
                                  simp
                                · have := HGO.out (by first | rfl | trivial); rw [show 15 + y = (12 + c) + 1 + 1 by omega] at this; simpa using this
                            · have t1 : ¬ (A : Int) ≤ a := by omega
                              have t2 : decide ((A : Int) ≤ (a : Int)) = false := by simp; omega
                              have HQ0 := Lib.hid HQ.out; have HVR0 := Lib.hid HVR.out; have HKR0 := Lib.hid HKR.out; have HROW0 := Lib.hid HROW.out
                              clear HQ HVR HKR HROW
                              go_wp2_with fail
                              refine (qbits_any p vr ((true :: true :: b2)) 1 wr HQ0.out (by decide) (by simp)).mono ?_
                              rw [show bitsNat (((true :: true :: b2)).take 1) = 1 from rfl]
                              rintro e w1 ⟨rfl, ⟨vr1, hq1, hvr1⟩, hk1⟩
                              have HQ1 : Hid (IsQ w1 p vr1 (true :: b2)) := Lib.hid (by simpa using hq1)
                              have HVR1 : Hid (∀ g, vr1.ownBlock = some g → vq.ownBlock = some g) := Lib.hid (fun g hg => HVR0.out g (hvr1 g hg))
                              have HKR1 := Lib.hid (HKR0.out.trans hk1 (fun _ _ h => h))
                              have HROW1 := Lib.hid (hk1.row HROW0.out (fun g hg e => by have := (HROW0.out.lt g hg).1; omega))
                              clear hq1 hvr1 hk1
                              go_wp2_with fail
                              refine (qbits_any p vr1 (true :: b2) 1 w1 HQ1.out (by decide) (by simp)).mono ?_
                              rw [show bitsNat ((true :: b2).take 1) = 1 from rfl]
                              rintro e w2 ⟨rfl, ⟨vr2, hq2, hvr2⟩, hk2⟩
                              have HQ2 : Hid (IsQ w2 p vr2 (b2)) := Lib.hid (by simpa using hq2)
                              have HVR2 : Hid (∀ g, vr2.ownBlock = some g → vq.ownBlock = some g) := Lib.hid (fun g hg => HVR1.out g (hvr2 g hg))
                              have HKR2 := Lib.hid (HKR1.out.trans hk2 (fun _ _ h => h))
                              have HROW2 := Lib.hid (hk2.row HROW1.out (fun g hg e => by have := (HROW1.out.lt g hg).1; omega))
                              clear hq2 hvr2 hk2
                              go_wp2_with fail
                              refine (qbits_any p vr2 (b2) 6 w2 HQ2.out (by decide) (by omega)).mono ?_
                              rw [show bitsNat ((b2).take 6) = a from HAA.out.symm]
                              rintro e w3 ⟨rfl, ⟨vr3, hq3, hvr3⟩, hk3⟩
                              have HQ3 : Hid (IsQ w3 p vr3 (b2.drop 6)) := Lib.hid (by simpa using hq3)
                              have HVR3 : Hid (∀ g, vr3.ownBlock = some g → vq.ownBlock = some g) := Lib.hid (fun g hg => HVR2.out g (hvr3 g hg))
                              have HKR3 := Lib.hid (HKR2.out.trans hk3 (fun _ _ h => h))
                              have HROW3 := Lib.hid (hk3.row HROW2.out (fun g hg e => by have := (HROW2.out.lt g hg).1; omega))
                              clear hq3 hvr3 hk3
                              go_wp2_with fail
                              refine (qbits_any p vr3 (b2.drop 6) 6 w3 HQ3.out (by decide) (by rw [List.length_drop]; omega)).mono ?_
                              rw [show bitsNat ((b2.drop 6).take 6) = y from HYY.out.symm]
                              rintro e w4 ⟨rfl, ⟨vr4, hq4, hvr4⟩, hk4⟩
                              have HQ4 : Hid (IsQ w4 p vr4 (b2.drop 12)) := Lib.hid (by simpa using hq4)
                              have HVR4 : Hid (∀ g, vr4.ownBlock = some g → vq.ownBlock = some g) := Lib.hid (fun g hg => HVR3.out g (hvr4 g hg))
                              have HKR4 := Lib.hid (HKR3.out.trans hk4 (fun _ _ h => h))
                              have HROW4 := Lib.hid (hk4.row HROW3.out (fun g hg e => by have := (HROW3.out.lt g hg).1; omega))
                              clear hq4 hvr4 hk4
                              go_wp2_with fail
                              refine (qbits_any p vr4 (b2.drop 12) c w4 HQ4.out (hc64) (by rw [List.length_drop]; omega)).mono ?_
                              rw [show bitsNat ((b2.drop 12).take c) = u from HUU.out.symm]
                              rintro e w5 ⟨rfl, ⟨vr5, hq5, hvr5⟩, hk5⟩
                              have HQ5 : Hid (IsQ w5 p vr5 (b2.drop (12 + c))) := Lib.hid (by simpa using hq5)
                              have HVR5 : Hid (∀ g, vr5.ownBlock = some g → vq.ownBlock = some g) := Lib.hid (fun g hg => HVR4.out g (hvr5 g hg))
                              have HKR5 := Lib.hid (HKR4.out.trans hk5 (fun _ _ h => h))
                              have HROW5 := Lib.hid (hk5.row HROW4.out (fun g hg e => by have := (HROW4.out.lt g hg).1; omega))
                              clear hq5 hvr5 hk5
                              go_wp2_with fail
                              refine (outside_any u T _ HUS.out (by omega)).mono ?_
                              rw [← HXX.out]
                              rintro e wz ⟨rfl, rfl⟩
                              go_wp2_with fail
                              refine (HZR.out _).mono ?_
                              rintro e wy ⟨rfl, ky⟩
                              have HQ6 := Lib.hid (HQ5.out.keeps ky (fun h => h) (fun _ _ h => h))
                              have HVR6 := Lib.hid HVR5.out
                              have HKR6 := Lib.hid (HKR5.out.trans ky (fun _ _ h => h.elim))
                              have HROW6 := Lib.hid (ky.row HROW5.out (fun _ _ h => h))
                              clear ky
                              have hrowA := HROW6.out
                              have hsA : w.heap.size ≤ wy.heap.size := HKR6.out.size
                              obtain ⟨gA, cpA, hvA, hnA, _, hcellA, _⟩ := row_cell hrowA (i := j1) (u := .int .u64 (last : Nat)) (by have := HAT.out; simp [u64s, this])
                              subst hvA
                              go_wp2_with (at_builtin; refine wpList_append_new _ rfl _ _ 58 rfl w.heap.size 48 i0 (.int .u64 0) 1 8 Tryd.underlying58 hii hz0 hz1 hz2 rfl (by decide) _ _ _ rfl (hrowA.alloc _) ⟨wy.heap.size, 0, none⟩ 1 1 [.int .u64 (V : Nat)] rfl rfl ?c1 ?c2 ?c3 ?c4 ?c5 ?_)
                              case c1 => exact cell_one_new _ _ _
                              case c2 => simp [Value.oneCell']
                              case c3 => unfold maxLen; omega
                              case c4 => omega
                              case c5 => simp; omega
                              intro v' wv hown' hgrow hnew
                              have kk1 : Keeps (own (.slice (some ⟨gA, 0, none⟩) acc.length cpA)) wy wv := ((Keeps.refl (own _) wy).alloc _).grown hgrow (fun k _ e => e)
                              have F1 := Lib.hid (HKR6.out.trans kk1 (fun k hk e => by have := (HROW6.out.lt k e).1; omega))
                              have F2 := Lib.hid (HQ6.out.keeps kk1 (fun e => by have := (HROW6.out.lt _ e).1; omega) (fun g hg e => by have := (HROW6.out.lt _ e).1; have := HV.out g (HVR6.out g hg); omega))
                              have F3 := Lib.hid hown'
                              clear hown' hgrow hnew kk1 hrowA hcellA
                              go_wp2_with fail
                              go_roundg f
                              case measure => omega
                              case rel =>
                                refine ⟨k + 1, V, (a, T), acc ++ [V], b2.drop (12 + c), v', vr5, by omega, rfl, ?_, ?_, by go_num, by have := HACC.out; simp; omega, HWN.out, hV64, ?_, F2.out, HVR6.out, F1.out, fun h => by omega, fun _ => ⟨?_, ?_⟩⟩
                                · rw [HZ1.out]
                                · rw [HZ2.out]
                                · have := F3.out; simpa [u64s] using this
                                · have := HACC.out
                                  rw [Nat.add_sub_cancel, ← this, List.getElem?_append_right (Nat.le_refl _)]
                                  simp
                                · have := HGO.out (by first | rfl | trivial); rw [show 15 + y = (12 + c) + 1 + 1 by omega] at this; simpa using this
                            · have t1 : ¬ (TI : Int) ≤ T := by omega
                              have t2 : decide ((TI : Int) ≤ (T : Int)) = false := by simp; omega
                              have t3 : (A : Int) ≤ a := by omega
                              have t4 : decide ((A : Int) ≤ (a : Int)) = true := by simp; omega
                              have HQ0 := Lib.hid HQ.out; have HVR0 := Lib.hid HVR.out; have HKR0 := Lib.hid HKR.out; have HROW0 := Lib.hid HROW.out
                              clear HQ HVR HKR HROW
                              go_wp2_with fail
                              refine (qbits_any p vr ((true :: true :: b2)) 1 wr HQ0.out (by decide) (by simp)).mono ?_
                              rw [show bitsNat (((true :: true :: b2)).take 1) = 1 from rfl]
                              rintro e w1 ⟨rfl, ⟨vr1, hq1, hvr1⟩, hk1⟩
                              have HQ1 : Hid (IsQ w1 p vr1 (true :: b2)) := Lib.hid (by simpa using hq1)
                              have HVR1 : Hid (∀ g, vr1.ownBlock = some g → vq.ownBlock = some g) := Lib.hid (fun g hg => HVR0.out g (hvr1 g hg))
                              have HKR1 := Lib.hid (HKR0.out.trans hk1 (fun _ _ h => h))
                              have HROW1 := Lib.hid (hk1.row HROW0.out (fun g hg e => by have := (HROW0.out.lt g hg).1; omega))
                              clear hq1 hvr1 hk1
                              go_wp2_with fail
                              refine (qbits_any p vr1 (true :: b2) 1 w1 HQ1.out (by decide) (by simp)).mono ?_
                              rw [show bitsNat ((true :: b2).take 1) = 1 from rfl]
                              rintro e w2 ⟨rfl, ⟨vr2, hq2, hvr2⟩, hk2⟩
                              have HQ2 : Hid (IsQ w2 p vr2 (b2)) := Lib.hid (by simpa using hq2)
                              have HVR2 : Hid (∀ g, vr2.ownBlock = some g → vq.ownBlock = some g) := Lib.hid (fun g hg => HVR1.out g (hvr2 g hg))
                              have HKR2 := Lib.hid (HKR1.out.trans hk2 (fun _ _ h => h))
                              have HROW2 := Lib.hid (hk2.row HROW1.out (fun g hg e => by have := (HROW1.out.lt g hg).1; omega))
                              clear hq2 hvr2 hk2
                              go_wp2_with fail
                              refine (qbits_any p vr2 (b2) 6 w2 HQ2.out (by decide) (by omega)).mono ?_
                              rw [show bitsNat ((b2).take 6) = a from HAA.out.symm]
                              rintro e w3 ⟨rfl, ⟨vr3, hq3, hvr3⟩, hk3⟩
                              have HQ3 : Hid (IsQ w3 p vr3 (b2.drop 6)) := Lib.hid (by simpa using hq3)
                              have HVR3 : Hid (∀ g, vr3.ownBlock = some g → vq.ownBlock = some g) := Lib.hid (fun g hg => HVR2.out g (hvr3 g hg))
                              have HKR3 := Lib.hid (HKR2.out.trans hk3 (fun _ _ h => h))
                              have HROW3 := Lib.hid (hk3.row HROW2.out (fun g hg e => by have := (HROW2.out.lt g hg).1; omega))
                              clear hq3 hvr3 hk3
                              go_wp2_with fail
                              refine (qbits_any p vr3 (b2.drop 6) 6 w3 HQ3.out (by decide) (by rw [List.length_drop]; omega)).mono ?_
                              rw [show bitsNat ((b2.drop 6).take 6) = y from HYY.out.symm]
                              rintro e w4 ⟨rfl, ⟨vr4, hq4, hvr4⟩, hk4⟩
                              have HQ4 : Hid (IsQ w4 p vr4 (b2.drop 12)) := Lib.hid (by simpa using hq4)
                              have HVR4 : Hid (∀ g, vr4.ownBlock = some g → vq.ownBlock = some g) := Lib.hid (fun g hg => HVR3.out g (hvr4 g hg))
                              have HKR4 := Lib.hid (HKR3.out.trans hk4 (fun _ _ h => h))
                              have HROW4 := Lib.hid (hk4.row HROW3.out (fun g hg e => by have := (HROW3.out.lt g hg).1; omega))
                              clear hq4 hvr4 hk4
                              go_wp2_with fail
                              refine (qbits_any p vr4 (b2.drop 12) c w4 HQ4.out (hc64) (by rw [List.length_drop]; omega)).mono ?_
                              rw [show bitsNat ((b2.drop 12).take c) = u from HUU.out.symm]
                              rintro e w5 ⟨rfl, ⟨vr5, hq5, hvr5⟩, hk5⟩
                              have HQ5 : Hid (IsQ w5 p vr5 (b2.drop (12 + c))) := Lib.hid (by simpa using hq5)
                              have HVR5 : Hid (∀ g, vr5.ownBlock = some g → vq.ownBlock = some g) := Lib.hid (fun g hg => HVR4.out g (hvr5 g hg))
                              have HKR5 := Lib.hid (HKR4.out.trans hk5 (fun _ _ h => h))
                              have HROW5 := Lib.hid (hk5.row HROW4.out (fun g hg e => by have := (HROW4.out.lt g hg).1; omega))
                              clear hq5 hvr5 hk5
                              go_wp2_with fail
                              refine (outside_any u T _ HUS.out (by omega)).mono ?_
                              rw [← HXX.out]
                              rintro e wz ⟨rfl, rfl⟩
                              go_wp2_with fail
                              refine (HZR.out _).mono ?_
                              rintro e wy ⟨rfl, ky⟩
                              have HQ6 := Lib.hid (HQ5.out.keeps ky (fun h => h) (fun _ _ h => h))
                              have HVR6 := Lib.hid HVR5.out
                              have HKR6 := Lib.hid (HKR5.out.trans ky (fun _ _ h => h.elim))
                              have HROW6 := Lib.hid (ky.row HROW5.out (fun _ _ h => h))
                              clear ky
                              have hrowA := HROW6.out
                              have hsA : w.heap.size ≤ wy.heap.size := HKR6.out.size
                              obtain ⟨gA, cpA, hvA, hnA, _, hcellA, _⟩ := row_cell hrowA (i := j1) (u := .int .u64 (last : Nat)) (by have := HAT.out; simp [u64s, this])
                              subst hvA
                              go_wp2_with (at_builtin; refine wpList_append_new _ rfl _ _ 58 rfl w.heap.size 48 i0 (.int .u64 0) 1 8 Tryd.underlying58 hii hz0 hz1 hz2 rfl (by decide) _ _ _ rfl (hrowA.alloc _) ⟨wy.heap.size, 0, none⟩ 1 1 [.int .u64 (V : Nat)] rfl rfl ?c1 ?c2 ?c3 ?c4 ?c5 ?_)
                              case c1 => exact cell_one_new _ _ _
                              case c2 => simp [Value.oneCell']
                              case c3 => unfold maxLen; omega
                              case c4 => omega
                              case c5 => simp; omega
                              intro v' wv hown' hgrow hnew
                              have kk1 : Keeps (own (.slice (some ⟨gA, 0, none⟩) acc.length cpA)) wy wv := ((Keeps.refl (own _) wy).alloc _).grown hgrow (fun k _ e => e)
                              have F1 := Lib.hid (HKR6.out.trans kk1 (fun k hk e => by have := (HROW6.out.lt k e).1; omega))
                              have F2 := Lib.hid (HQ6.out.keeps kk1 (fun e => by have := (HROW6.out.lt _ e).1; omega) (fun g hg e => by have := (HROW6.out.lt _ e).1; have := HV.out g (HVR6.out g hg); omega))
                              have F3 := Lib.hid hown'
                              clear hown' hgrow hnew kk1 hrowA hcellA
                              go_wp2_with fail
                              go_roundg f
                              case measure => omega
                              case rel =>
                                refine ⟨k + 1, V, (a, T), acc ++ [V], b2.drop (12 + c), v', vr5, by omega, rfl, ?_, ?_, by go_num, by have := HACC.out; simp; omega, HWN.out, hV64, ?_, F2.out, HVR6.out, F1.out, fun h => by omega, fun _ => ⟨?_, ?_⟩⟩
                                · rw [HZ1.out]
                                · rw [HZ2.out]
                                · have := F3.out; simpa [u64s] using this
                                · have := HACC.out
                                  rw [Nat.add_sub_cancel, ← this, List.getElem?_append_right (Nat.le_refl _)]
                                  simp
                                · have := HGO.out (by first | rfl | trivial); rw [show 15 + y = (12 + c) + 1 + 1 by omega] at this; simpa using this
    · have ek : k = n := by omega
      have hkn' : ¬ (k : Int) < n := by omega
      have hD2 : D = (0, acc, b) := by
        by_cases hk0 : k = 0
        · obtain ⟨rfl, rfl⟩ := h0 hk0
          obtain rfl : acc = [] := List.eq_nil_of_length_eq_zero (by omega)
          rw [HD.out]; unfold dec6; rw [if_pos (by omega)]
        · have := (h1 hk0).2
          obtain rfl : gk = 0 := by omega
          exact this.done
      have HROW := Lib.hid hrow; have HQ := Lib.hid hq; have HVR := Lib.hid hvr; have HKR := Lib.hid hkr; have HD2 := Lib.hid hD2
      clear hrow hq hvr hkr h0 h1 hD2 ek hs
      go_wp2
      go_ret2
      rw [HD2.out]
      exact ⟨_, rfl, HROW.out, ⟨_, HQ.out, HVR.out⟩, HKR.out⟩
end Go.Proofs.YtdniaingipoggaaDoor
