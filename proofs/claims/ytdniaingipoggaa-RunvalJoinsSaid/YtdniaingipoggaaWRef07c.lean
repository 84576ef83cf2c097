/-
  WALKS: tsblockref07.Get.
-/
import Derived.Test.YtdniaingipoggaaWRef07b
import Derived.Test.YtdniaingipoggaaWRunF
namespace Go.Proofs.Ytdniaingipoggaa
open Go.RowKit

/-- what was read last, as the reference sees it -/
def lastOk (acc : List (Nat × Nat)) (xl cl : Nat) : Prop := (acc = [] ∧ cl = 128) ∨ ∃ pre, acc = pre ++ [(xl, cl)] ∧ 1 ≤ cl
theorem lastOk_val {acc : List (Nat × Nat)} {xl cl : Nat} (h : lastOk acc xl cl) : (acc = [] ∧ cl = 128 ∧ (joinOf acc).length = 0) ∨ (0 < (joinOf acc).length ∧ (joinOf acc)[(joinOf acc).length - 1]? = some xl) := by
  rcases h with ⟨rfl, h⟩ | ⟨pre, rfl, h⟩
  · exact .inl ⟨rfl, h, rfl⟩
  · refine .inr ?_
    obtain ⟨m, rfl⟩ : ∃ m, cl = m + 1 := ⟨cl - 1, by omega⟩
    have e : joinOf (pre ++ [(xl, m + 1)]) = (joinOf pre ++ List.replicate m xl) ++ [xl] := by
      rw [joinOf_append, joinOf_cons]; simp [joinOf, List.replicate_succ']
    rw [e]
    constructor
    · simp; omega
    · rw [List.length_append, List.length_singleton, Nat.add_sub_cancel, List.getElem?_append_right (Nat.le_refl _)]
      simp

set_option maxRecDepth 100000 in
set_option maxHeartbeats 2000000 in
theorem ref7Get_any (p : Nat) (vq : Value) (b0 : List Bool) (n : Nat) (w : World) (h : IsQ w p vq b0) (hv : ∀ g, vq.ownBlock = some g → g < w.heap.size) (hn : n ≤ 1000000000) :
    Calls Try.prog 53 #[.pointer (some ⟨p, 0, none⟩), .int .i64 n] w fun e w' => ∃ v', e = .returned (.tuple #[v', .int .i64 (((rget n n (0, 128) b0).1 : Nat) : Int)]) ∧
      w'.ownsRow w.heap.size 35 1 v' (getVals (rget n n (0, 128) b0)).length (u64s (getVals (rget n n (0, 128) b0))) ∧
      (∃ vq', IsQ w' p vq' (rget n n (0, 128) b0).2.2 ∧ ∀ g, vq'.ownBlock = some g → vq.ownBlock = some g) ∧ Keeps (fun k => k = p) w w' := by
  obtain ⟨i0, hii, hz0, hz1, hz2⟩ := info_parts infoU64
  have hQ := Lib.hid h; have HV := Lib.hid hv
  have hp : p < w.heap.size := (Array.getElem?_eq_some_iff.1 h.blk).1
  clear h hv
  obtain ⟨res, hres⟩ : ∃ res, res = rget n n (0, 128) b0 := ⟨_, rfl⟩
  rw [← hres]
  have HRES := Lib.hid hres
  clear hres
  go_enter Try.func53, Try.ntmps53
  go_wp2
  go_loopw [6, 7] (fun t6 t7 wr => ∃ (f m xl cl : Nat) (acc : List (Nat × Nat)) (b : List Bool) (v1 vr : Value), m ≤ f ∧ (joinOf acc).length + m = n ∧ v1 = t6 ∧ t7 = .int .i64 cl ∧ lastOk acc xl cl ∧
      wr.ownsRow w.heap.size 35 1 v1 (joinOf acc).length (u64s (joinOf acc)) ∧ IsQ wr p vr b ∧ (∀ g, vr.ownBlock = some g → vq.ownBlock = some g) ∧ Keeps (fun k => k = p) w wr ∧ after acc (rget f m (xl, cl) b) = res) (fun t6 _ _ => n - (match t6 with | .slice _ k _ => k | _ => 0))
  case atStart => exact ⟨n, n, 0, 128, [], b0, _, vq, by omega, by simp [joinOf], rfl, rfl, .inl ⟨rfl, rfl⟩, World.ownsRow_nil _ _ _ _, hQ.out, fun _ h => h, Keeps.refl _ _, HRES.out.symm⟩
  case round =>
    obtain ⟨f, m, xl, cl, acc, b, v1, vr, hf, hmn, rfl, rfl, hlast, hrow, hq, hvr, hkr, hres⟩ := hrel
    have hlv := lastOk_val hlast
    obtain ⟨len, hlen⟩ : ∃ len, len = (joinOf acc).length := ⟨_, rfl⟩
    rw [← hlen] at hmn hrow hlv
    obtain ⟨a1, c1, rfl⟩ := row_slice hrow
    have hws := hkr.size
    by_cases hm : m = 0
    · rw [rget_done _ _ _ _ hm] at hres
      simp only [after, List.append_nil] at hres
      have hnl : ¬ (len : Int) < n := by omega
      have HRS := Lib.hid hres; have HLEN := Lib.hid hlen; have HROW := Lib.hid hrow; have HQ := Lib.hid hq; have HVR := Lib.hid hvr; have HKR := Lib.hid hkr
      clear hres hlen hrow hq hvr hkr hlv hlast hmn hm
      go_wp2
      go_ret2
      refine ⟨_, by rw [← HRS.out]; rfl, ?_, ⟨vr, by rw [← HRS.out]; exact HQ.out, HVR.out⟩, HKR.out⟩
      have := HROW.out
      rw [← HRS.out]
      show _
      simp only [getVals, if_true]
      rw [← HLEN.out]
      exact this
    · obtain ⟨f1, rfl⟩ : ∃ f1, f = f1 + 1 := ⟨f - 1, by omega⟩
      have hnl : (len : Int) < n := by omega
      have HLEN := Lib.hid hlen; have HROW := Lib.hid hrow; have HQ := Lib.hid hq; have HVR := Lib.hid hvr; have HKR := Lib.hid hkr; have HLV := Lib.hid hlv; have HLAST := Lib.hid hlast
      have hlenQ := (show True from trivial)
      by_cases h1 : b.length < 64
      · rw [rget_eof1 _ _ _ _ hm h1] at hres
        have HRS := Lib.hid hres
        clear hres hlen hrow hq hvr hkr hlv hlast hm
        go_wp2_with fail
        refine (qbits_eof p vr b 64 wr HQ.out (by decide) h1).mono ?_
        rintro e w1 ⟨rfl, rfl⟩
        go_wp2
        go_ret2
        refine ⟨_, by rw [← HRS.out]; rfl, ?_, ⟨vr, by rw [← HRS.out]; exact HQ.out, HVR.out⟩, HKR.out⟩
        rw [getVals_bad (by rw [← HRS.out]; show (3 : Nat) ≠ 0; decide)]
        exact World.ownsRow_nil _ _ _ _
      · obtain ⟨x, hx⟩ : ∃ x, bitsNat (b.take 64) = x := ⟨_, rfl⟩
        have HX := Lib.hid hx
        have hx64 : x ≤ 18446744073709551615 := by
          have := bitsNat_lt (b.take 64)
          have h64 : 2 ^ (b.take 64).length ≤ 2 ^ 64 := Nat.pow_le_pow_right (by decide) (List.length_take_le _ _)
          omega
        by_cases h2 : b.length < 71
        · rw [rget_eof2 _ _ _ _ hm (by omega) h2] at hres
          have HRS := Lib.hid hres
          clear hres hlen hrow hq hvr hkr hlv hlast hm hx
          go_wp2_with fail
          refine (qbits_any p vr b 64 wr HQ.out (by decide) (by omega)).mono ?_
          rw [HX.out]
          rintro e w1 ⟨rfl, ⟨vr1, hq1, hvr1⟩, hk1⟩
          have HQ1 := Lib.hid hq1; have HVR1 := Lib.hid hvr1; have HK1 := Lib.hid (HKR.out.trans hk1 (fun _ _ h => h))
          have hbl : (b.drop 64).length < 7 := by rw [List.length_drop]; omega
          clear hq1 hvr1 hk1
          go_wp2_with fail
          refine (qbits_eof p vr1 _ 7 w1 HQ1.out (by decide) hbl).mono ?_
          rintro e w2 ⟨rfl, rfl⟩
          go_wp2
          go_ret2
          refine ⟨_, by rw [← HRS.out]; rfl, ?_, ⟨vr1, by rw [← HRS.out]; exact HQ1.out, fun g hg => HVR.out g (HVR1.out g hg)⟩, HK1.out⟩
          rw [getVals_bad (by rw [← HRS.out]; show (3 : Nat) ≠ 0; decide)]
          exact World.ownsRow_nil _ _ _ _
        · obtain ⟨c7, hc7⟩ : ∃ c7, bitsNat ((b.drop 64).take 7) = c7 := ⟨_, rfl⟩
          have hc7b : c7 < 128 := by
            have := bitsNat_lt ((b.drop 64).take 7)
            have h7 : 2 ^ ((b.drop 64).take 7).length ≤ 2 ^ 7 := Nat.pow_le_pow_right (by decide) (List.length_take_le _ _)
            omega
          have HC7 := Lib.hid hc7
          have hstep := fun hb => rget_step f1 m x (c7 + 1) (xl, cl) b hm (by omega) hx (by rw [hc7]) hb
          have hbad := fun hb => rget_bad f1 m x (c7 + 1) (xl, cl) b hm (by omega) hx (by rw [hc7]) hb
          have hclb : (cl : Nat) = cl := rfl
          have hres0 := Lib.hid hres; have HST := Lib.hid hstep; have HBD := Lib.hid hbad
          have hw0 : IntKind.i64.wrap (c7 : Int) = c7 := wrap_nat _ (by omega)
          have hw1 : IntKind.i64.wrap ((c7 : Int) + 1) = c7 + 1 := IntWalk.i64_in _ (by omega)
          have hlb : len ≤ 1000000000 := by omega
          have hbl : 7 ≤ (b.drop 64).length := by rw [List.length_drop]; omega
          clear hres hstep hbad hlen hrow hq hvr hkr hlv hlast hm hx hc7 hclb
          go_upto_region 7 with (first | (go_at_call 34; refine (qbits_any p vr b 64 wr HQ.out (by decide) (by omega)).mono ?_; rw [HX.out]; rintro e w1 ⟨rfl, ⟨vr1, hq1, hvr1⟩, hk1⟩))
          have HQ1 := Lib.hid hq1; have HVR1 := Lib.hid hvr1; have HK1 := Lib.hid (HKR.out.trans hk1 (fun _ _ h => h))
          have hr1 := hk1.row HROW.out (fun g hg e => by have := (HROW.out.lt g hg).1; omega)
          have HR1 := Lib.hid hr1
          clear hq1 hvr1 hk1 hr1
          go_upto_region 10 with (first | (go_at_call 34; refine (qbits_any p vr1 _ 7 w1 HQ1.out (by decide) hbl).mono ?_; rw [HC7.out, List.drop_drop]; rintro e w2 ⟨rfl, ⟨vr2, hq2, hvr2⟩, hk2⟩))
          have HQ2 : Hid (IsQ w2 p vr2 (b.drop 71)) := Lib.hid hq2
          have HK2 := Lib.hid (HK1.out.trans hk2 (fun _ _ h => h))
          have hr2 := hk2.row HR1.out (fun g hg e => by have := (HR1.out.lt g hg).1; omega)
          have HR2 := Lib.hid hr2
          have HVR2 : Hid (∀ g, vr2.ownBlock = some g → vq.ownBlock = some g) := Lib.hid (fun g hg => HVR.out g (HVR1.out g (hvr2 g hg)))
          clear hq2 hvr2 hk2 hr2
          by_cases hbig : m < c7 + 1
          · have h9 := hres0.out
            rw [HBD.out (.inl hbig)] at h9
            have HRS := Lib.hid h9
            have hN : (n : Int) < (len : Int) + c7 + 1 := by omega
            clear h9 hbig
            go_wp2
            go_ret2
            refine ⟨_, by rw [← HRS.out]; rfl, ?_, ⟨vr2, by rw [← HRS.out]; exact HQ2.out, HVR2.out⟩, HK2.out⟩
            rw [getVals_bad (by rw [← HRS.out]; show (8 : Nat) ≠ 0; decide)]
            exact World.ownsRow_nil _ _ _ _
          · have hN : ¬ (n : Int) < (len : Int) + c7 + 1 := by omega
            by_cases hrep : x = xl ∧ cl < 128
            · have h9 := hres0.out
              rw [HBD.out (.inr hrep)] at h9
              have HRS := Lib.hid h9
              obtain ⟨rfl, hcl⟩ := hrep
              obtain ⟨hl1, hl2⟩ : 0 < len ∧ (joinOf acc)[len - 1]? = some x := by
                rcases HLV.out with ⟨_, h, _⟩ | ⟨h1, h2⟩
                · omega
                · exact ⟨h1, h2⟩
              obtain ⟨g1, cp1, hv1, hn1, _, hcell, _⟩ := row_cell HR2.out (i := len - 1) (u := .int .u64 (x : Nat)) (by simp [u64s, hl2])
              simp only [Value.slice.injEq] at hv1
              obtain ⟨rfl, _, rfl⟩ := hv1
              obtain ⟨k1, hk1⟩ : ∃ k1, k1 = len - 1 := ⟨_, rfl⟩
              rw [← hk1] at hcell
              have hki : (len : Int) - 1 = k1 := by omega
              have hkw : IntKind.i64.wrap (k1 : Int) = k1 := wrap_nat _ (by omega)
              have hkl : (k1 : Int) < len := by omega
              have dl : decide (0 < len) = true := by simpa using hl1
              have HK9 := Lib.hid hk1
              clear hk1
              have hcl' : (cl : Int) < 128 := by omega
              clear h9 hl2 hbig
              go_wp2
              go_ret2
              refine ⟨_, by rw [← HRS.out]; rfl, ?_, ⟨vr2, by rw [← HRS.out]; exact HQ2.out, HVR2.out⟩, HK2.out⟩
              rw [getVals_bad (by rw [← HRS.out]; show (8 : Nat) ≠ 0; decide)]
              exact World.ownsRow_nil _ _ _ _
            · have h9 := hres0.out
              rw [HST.out (fun h => h.elim hbig hrep), after_after] at h9
              have HRS := Lib.hid h9
              clear h9
              have hcs : len = 0 ∨ (0 < len ∧ (joinOf acc)[len - 1]? = some xl ∧ (((xl : Int) == (x : Int)) = false ∨ (xl = x ∧ ¬ (cl : Int) < 128))) := by
                rcases HLV.out with ⟨_, _, h⟩ | ⟨h1, h2⟩
                · exact .inl h
                · refine .inr ⟨h1, h2, ?_⟩
                  by_cases hxx : xl = x
                  · exact .inr ⟨hxx, fun h => hrep ⟨hxx.symm, by omega⟩⟩
                  · exact .inl (by simp; omega)
              clear hrep hbig
              rcases hcs with hl0 | ⟨hl1, hl2, hxx | ⟨hxx, hcl⟩⟩
              · have dl : decide (0 < len) = false := by simp [hl0]
                have hl0' : ¬ 0 < len := by omega
                clear hl0
                go_wp2
                go_loopw [6, 11] (fun t6 t11 wr => ∃ (j : Nat) (v2 : Value), j ≤ c7 + 1 ∧ v2 = t6 ∧ t11 = .int .i64 j ∧ wr.ownsRow w.heap.size 35 1 v2 (joinOf acc ++ List.replicate j x).length (u64s (joinOf acc ++ List.replicate j x)) ∧ IsQ wr p vr2 (b.drop 71) ∧ Keeps (fun k => k = p) w wr) (fun _ t11 _ => (c7 + 1) - (intOf t11).toNat)
                case atStart => exact ⟨0, _, by omega, rfl, rfl, by have := HR2.out; rw [HLEN.out] at this; rw [HLEN.out]; simpa using this, HQ2.out, HK2.out⟩
                case round =>
                  obtain ⟨j, v2, hj, rfl, rfl, hrow, hq, hkq⟩ := hrel
                  by_cases hjc : j < c7 + 1
                  · have hjN : (j : Int) < (c7 : Int) + 1 := by omega
                    have hjd : (joinOf acc ++ List.replicate j x).length = len + j := by rw [List.length_append, List.length_replicate, ← HLEN.out]
                    have hrep : joinOf acc ++ List.replicate (j + 1) x = (joinOf acc ++ List.replicate j x) ++ [x] := by rw [List.replicate_succ', List.append_assoc]
                    have hb1 : w.heap.size ≤ wr.heap.size := hkq.size
                    generalize joinOf acc ++ List.replicate j x = cur at *
                    rw [hjd] at hrow
                    obtain ⟨ad2, cap2, rfl⟩ := row_slice hrow
                    have HJD := Lib.hid hjd; have HR := Lib.hid hrow; have HKQ := Lib.hid hkq; have HQ := Lib.hid hq; have HREP := Lib.hid hrep
                    clear hjd hkq hq hrep
                    go_wp2_with (at_builtin; refine wpList_append_new _ rfl _ _ 76 rfl w.heap.size 35 i0 (.int .u64 0) 1 8 Try.underlying76 hii hz0 hz1 hz2 rfl (by decide) _ _ _ rfl (hrow.alloc _) ⟨wr.heap.size, 0, none⟩ 1 1 [.int .u64 (x : Nat)] rfl rfl ?c1 ?c2 ?c3 ?c4 ?c5 ?_)
                    case c1 => exact cell_one_new _ _ _
                    case c2 => simp [Value.oneCell']
                    case c3 => unfold maxLen; omega
                    case c4 => omega
                    case c5 => simp; omega
                    intro v' w1 hown' hgrow hnew
                    have k1 : Keeps (own (.slice ad2 (len + j) cap2)) wr w1 := ((Keeps.refl (own _) wr).alloc _).grown hgrow (fun k _ e => e)
                    have hkw1 := HKQ.out.trans k1 (fun k hk e => by have := (HR.out.lt k e).1; omega)
                    have hq1 := HQ.out.keeps k1 (fun e => by have := (HR.out.lt _ e).1; omega) (fun g hg e => by have := (HR.out.lt _ e).1; have := HV.out g (HVR2.out g hg); omega)
                    obtain ⟨ad3, cap3, rfl⟩ := row_slice hown'
                    have F1 := Lib.hid hkw1; have F2 := Lib.hid hq1; have F3 := Lib.hid hown'
                    clear hkw1 hq1 hown' hgrow hnew k1 hrow
                    go_wp2
                    refine ⟨⟨j + 1, _, by omega, rfl, by go_num, ?_, F2.out, F1.out⟩, by simp [intOf]; omega⟩
                    rw [HREP.out, List.length_append, List.length_singleton, HJD.out]
                    have := F3.out
                    simpa [u64s] using this
                  · have hjN : ¬ (j : Int) < (c7 : Int) + 1 := by omega
                    have ej : j = c7 + 1 := by omega
                    rw [ej] at hrow
                    have hjo : joinOf (acc ++ [(x, c7 + 1)]) = joinOf acc ++ List.replicate (c7 + 1) x := by rw [joinOf_append, joinOf_cons]; simp [joinOf]
                    rw [← hjo] at hrow
                    have hjl : (joinOf (acc ++ [(x, c7 + 1)])).length = len + (c7 + 1) := by rw [hjo, List.length_append, List.length_replicate, ← HLEN.out]
                    obtain ⟨ad2, cap2, rfl⟩ := row_slice hrow
                    have HR := Lib.hid hrow; have HKQ := Lib.hid hkq; have HQ := Lib.hid hq; have HJL := Lib.hid hjl
                    clear hrow hkq hq hjo hjl
                    go_wp2
                    refine ⟨⟨f1, m - (c7 + 1), x, c7 + 1, acc ++ [(x, c7 + 1)], b.drop 71, _, vr2, by omega, by rw [HJL.out]; omega, rfl, by go_num, .inr ⟨acc, rfl, by omega⟩, HR.out, HQ.out, HVR2.out, HKQ.out, HRS.out⟩, ?_⟩
                    simp only [HJL.out]
                    omega
              · obtain ⟨g1, cp1, hv1, hn1, _, hcell, _⟩ := row_cell HR2.out (i := len - 1) (u := .int .u64 (xl : Nat)) (by simp [u64s, hl2])
                simp only [Value.slice.injEq] at hv1
                obtain ⟨rfl, _, rfl⟩ := hv1
                obtain ⟨k1, hk1⟩ : ∃ k1, k1 = len - 1 := ⟨_, rfl⟩
                rw [← hk1] at hcell
                have hki : (len : Int) - 1 = k1 := by omega
                have hkw : IntKind.i64.wrap (k1 : Int) = k1 := wrap_nat _ (by omega)
                have hkl : (k1 : Int) < len := by omega
                have dl : decide (0 < len) = true := by simpa using hl1
                have HK9 := Lib.hid hk1
                clear hk1
                clear hl2
                go_wp2
                go_loopw [6, 11] (fun t6 t11 wr => ∃ (j : Nat) (v2 : Value), j ≤ c7 + 1 ∧ v2 = t6 ∧ t11 = .int .i64 j ∧ wr.ownsRow w.heap.size 35 1 v2 (joinOf acc ++ List.replicate j x).length (u64s (joinOf acc ++ List.replicate j x)) ∧ IsQ wr p vr2 (b.drop 71) ∧ Keeps (fun k => k = p) w wr) (fun _ t11 _ => (c7 + 1) - (intOf t11).toNat)
                case atStart => exact ⟨0, _, by omega, rfl, rfl, by have := HR2.out; rw [HLEN.out] at this; rw [HLEN.out]; simpa using this, HQ2.out, HK2.out⟩
                case round =>
                  obtain ⟨j, v2, hj, rfl, rfl, hrow, hq, hkq⟩ := hrel
                  by_cases hjc : j < c7 + 1
                  · have hjN : (j : Int) < (c7 : Int) + 1 := by omega
                    have hjd : (joinOf acc ++ List.replicate j x).length = len + j := by rw [List.length_append, List.length_replicate, ← HLEN.out]
                    have hrep : joinOf acc ++ List.replicate (j + 1) x = (joinOf acc ++ List.replicate j x) ++ [x] := by rw [List.replicate_succ', List.append_assoc]
                    have hb1 : w.heap.size ≤ wr.heap.size := hkq.size
                    generalize joinOf acc ++ List.replicate j x = cur at *
                    rw [hjd] at hrow
                    obtain ⟨ad2, cap2, rfl⟩ := row_slice hrow
                    have HJD := Lib.hid hjd; have HR := Lib.hid hrow; have HKQ := Lib.hid hkq; have HQ := Lib.hid hq; have HREP := Lib.hid hrep
                    clear hjd hkq hq hrep
                    go_wp2_with (at_builtin; refine wpList_append_new _ rfl _ _ 76 rfl w.heap.size 35 i0 (.int .u64 0) 1 8 Try.underlying76 hii hz0 hz1 hz2 rfl (by decide) _ _ _ rfl (hrow.alloc _) ⟨wr.heap.size, 0, none⟩ 1 1 [.int .u64 (x : Nat)] rfl rfl ?c1 ?c2 ?c3 ?c4 ?c5 ?_)
                    case c1 => exact cell_one_new _ _ _
                    case c2 => simp [Value.oneCell']
                    case c3 => unfold maxLen; omega
                    case c4 => omega
                    case c5 => simp; omega
                    intro v' w1 hown' hgrow hnew
                    have k1 : Keeps (own (.slice ad2 (len + j) cap2)) wr w1 := ((Keeps.refl (own _) wr).alloc _).grown hgrow (fun k _ e => e)
                    have hkw1 := HKQ.out.trans k1 (fun k hk e => by have := (HR.out.lt k e).1; omega)
                    have hq1 := HQ.out.keeps k1 (fun e => by have := (HR.out.lt _ e).1; omega) (fun g hg e => by have := (HR.out.lt _ e).1; have := HV.out g (HVR2.out g hg); omega)
                    obtain ⟨ad3, cap3, rfl⟩ := row_slice hown'
                    have F1 := Lib.hid hkw1; have F2 := Lib.hid hq1; have F3 := Lib.hid hown'
                    clear hkw1 hq1 hown' hgrow hnew k1 hrow
                    go_wp2
                    refine ⟨⟨j + 1, _, by omega, rfl, by go_num, ?_, F2.out, F1.out⟩, by simp [intOf]; omega⟩
                    rw [HREP.out, List.length_append, List.length_singleton, HJD.out]
                    have := F3.out
                    simpa [u64s] using this
                  · have hjN : ¬ (j : Int) < (c7 : Int) + 1 := by omega
                    have ej : j = c7 + 1 := by omega
                    rw [ej] at hrow
                    have hjo : joinOf (acc ++ [(x, c7 + 1)]) = joinOf acc ++ List.replicate (c7 + 1) x := by rw [joinOf_append, joinOf_cons]; simp [joinOf]
                    rw [← hjo] at hrow
                    have hjl : (joinOf (acc ++ [(x, c7 + 1)])).length = len + (c7 + 1) := by rw [hjo, List.length_append, List.length_replicate, ← HLEN.out]
                    obtain ⟨ad2, cap2, rfl⟩ := row_slice hrow
                    have HR := Lib.hid hrow; have HKQ := Lib.hid hkq; have HQ := Lib.hid hq; have HJL := Lib.hid hjl
                    clear hrow hkq hq hjo hjl
                    go_wp2
                    refine ⟨⟨f1, m - (c7 + 1), x, c7 + 1, acc ++ [(x, c7 + 1)], b.drop 71, _, vr2, by omega, by rw [HJL.out]; omega, rfl, by go_num, .inr ⟨acc, rfl, by omega⟩, HR.out, HQ.out, HVR2.out, HKQ.out, HRS.out⟩, ?_⟩
                    simp only [HJL.out]
                    omega
              · subst hxx
                obtain ⟨g1, cp1, hv1, hn1, _, hcell, _⟩ := row_cell HR2.out (i := len - 1) (u := .int .u64 (xl : Nat)) (by simp [u64s, hl2])
                simp only [Value.slice.injEq] at hv1
                obtain ⟨rfl, _, rfl⟩ := hv1
                obtain ⟨k1, hk1⟩ : ∃ k1, k1 = len - 1 := ⟨_, rfl⟩
                rw [← hk1] at hcell
                have hki : (len : Int) - 1 = k1 := by omega
                have hkw : IntKind.i64.wrap (k1 : Int) = k1 := wrap_nat _ (by omega)
                have hkl : (k1 : Int) < len := by omega
                have dl : decide (0 < len) = true := by simpa using hl1
                have HK9 := Lib.hid hk1
                clear hk1
                have dcl : decide ((cl : Int) < 128) = false := by simpa using hcl
                clear hl2
                go_wp2
                go_loopw [6, 11] (fun t6 t11 wr => ∃ (j : Nat) (v2 : Value), j ≤ c7 + 1 ∧ v2 = t6 ∧ t11 = .int .i64 j ∧ wr.ownsRow w.heap.size 35 1 v2 (joinOf acc ++ List.replicate j xl).length (u64s (joinOf acc ++ List.replicate j xl)) ∧ IsQ wr p vr2 (b.drop 71) ∧ Keeps (fun k => k = p) w wr) (fun _ t11 _ => (c7 + 1) - (intOf t11).toNat)
                case atStart => exact ⟨0, _, by omega, rfl, rfl, by have := HR2.out; rw [HLEN.out] at this; rw [HLEN.out]; simpa using this, HQ2.out, HK2.out⟩
                case round =>
                  obtain ⟨j, v2, hj, rfl, rfl, hrow, hq, hkq⟩ := hrel
                  by_cases hjc : j < c7 + 1
                  · have hjN : (j : Int) < (c7 : Int) + 1 := by omega
                    have hjd : (joinOf acc ++ List.replicate j xl).length = len + j := by rw [List.length_append, List.length_replicate, ← HLEN.out]
                    have hrep : joinOf acc ++ List.replicate (j + 1) xl = (joinOf acc ++ List.replicate j xl) ++ [xl] := by rw [List.replicate_succ', List.append_assoc]
                    have hb1 : w.heap.size ≤ wr.heap.size := hkq.size
                    generalize joinOf acc ++ List.replicate j xl = cur at *
                    rw [hjd] at hrow
                    obtain ⟨ad2, cap2, rfl⟩ := row_slice hrow
                    have HJD := Lib.hid hjd; have HR := Lib.hid hrow; have HKQ := Lib.hid hkq; have HQ := Lib.hid hq; have HREP := Lib.hid hrep
                    clear hjd hkq hq hrep
                    go_wp2_with (at_builtin; refine wpList_append_new _ rfl _ _ 76 rfl w.heap.size 35 i0 (.int .u64 0) 1 8 Try.underlying76 hii hz0 hz1 hz2 rfl (by decide) _ _ _ rfl (hrow.alloc _) ⟨wr.heap.size, 0, none⟩ 1 1 [.int .u64 (xl : Nat)] rfl rfl ?c1 ?c2 ?c3 ?c4 ?c5 ?_)
                    case c1 => exact cell_one_new _ _ _
                    case c2 => simp [Value.oneCell']
                    case c3 => unfold maxLen; omega
                    case c4 => omega
                    case c5 => simp; omega
                    intro v' w1 hown' hgrow hnew
                    have k1 : Keeps (own (.slice ad2 (len + j) cap2)) wr w1 := ((Keeps.refl (own _) wr).alloc _).grown hgrow (fun k _ e => e)
                    have hkw1 := HKQ.out.trans k1 (fun k hk e => by have := (HR.out.lt k e).1; omega)
                    have hq1 := HQ.out.keeps k1 (fun e => by have := (HR.out.lt _ e).1; omega) (fun g hg e => by have := (HR.out.lt _ e).1; have := HV.out g (HVR2.out g hg); omega)
                    obtain ⟨ad3, cap3, rfl⟩ := row_slice hown'
                    have F1 := Lib.hid hkw1; have F2 := Lib.hid hq1; have F3 := Lib.hid hown'
                    clear hkw1 hq1 hown' hgrow hnew k1 hrow
                    go_wp2
                    refine ⟨⟨j + 1, _, by omega, rfl, by go_num, ?_, F2.out, F1.out⟩, by simp [intOf]; omega⟩
                    rw [HREP.out, List.length_append, List.length_singleton, HJD.out]
                    have := F3.out
                    simpa [u64s] using this
                  · have hjN : ¬ (j : Int) < (c7 : Int) + 1 := by omega
                    have ej : j = c7 + 1 := by omega
                    rw [ej] at hrow
                    have hjo : joinOf (acc ++ [(xl, c7 + 1)]) = joinOf acc ++ List.replicate (c7 + 1) xl := by rw [joinOf_append, joinOf_cons]; simp [joinOf]
                    rw [← hjo] at hrow
                    have hjl : (joinOf (acc ++ [(xl, c7 + 1)])).length = len + (c7 + 1) := by rw [hjo, List.length_append, List.length_replicate, ← HLEN.out]
                    obtain ⟨ad2, cap2, rfl⟩ := row_slice hrow
                    have HR := Lib.hid hrow; have HKQ := Lib.hid hkq; have HQ := Lib.hid hq; have HJL := Lib.hid hjl
                    clear hrow hkq hq hjo hjl
                    go_wp2
                    refine ⟨⟨f1, m - (c7 + 1), xl, c7 + 1, acc ++ [(xl, c7 + 1)], b.drop 71, _, vr2, by omega, by rw [HJL.out]; omega, rfl, by go_num, .inr ⟨acc, rfl, by omega⟩, HR.out, HQ.out, HVR2.out, HKQ.out, HRS.out⟩, ?_⟩
                    simp only [HJL.out]
                    omega
end Go.Proofs.Ytdniaingipoggaa
