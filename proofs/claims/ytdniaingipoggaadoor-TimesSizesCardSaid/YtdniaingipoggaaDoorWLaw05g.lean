/-
  WALKS: TimesSizes.
-/
import Derived.Test.YtdniaingipoggaaDoorWAlive05
import Derived.Test.YtdniaingipoggaaDoorPTimes3
import Derived.Test.YtdniaingipoggaaDoorPQuiet
namespace Go.Proofs.YtdniaingipoggaaDoor
open Go.RowKit

/-- the head of a slice -/
theorem Holds.head {w : World} {a : Option Addr} {n cap : Nat} {xs : List Value} (h : Holds w (.slice a n cap) xs) (k : Nat) (hk : k ≤ xs.length) : Holds w (.slice a k cap) (xs.take k) ∧ k ≤ cap := by
  obtain ⟨ad, cap', hv, hc, hcells⟩ := h
  simp only [Value.slice.injEq] at hv
  obtain ⟨rfl, rfl, rfl⟩ := hv
  have hl : (xs.take k).length = k := by rw [List.length_take]; omega
  refine ⟨⟨a, cap, by rw [hl], by rw [hl]; omega, ?_⟩, by omega⟩
  rcases hcells with h | ⟨b, off, rfl, h⟩
  · subst h; exact .inl (by simp)
  · refine .inr ⟨b, off, rfl, fun j u hj => h j u ?_⟩
    rw [List.getElem?_take] at hj
    split at hj
    · exact hj
    · cases hj
set_option maxRecDepth 100000 in
set_option maxHeartbeats 4000000 in
theorem timesSizes_any (start step : Int) (n : Nat) (v : Value) (l : List Int) (w : World) (hs : inI start) (ht : inI step) (hn : n ≤ 255) (h : Holds w v (i64s l)) (hX : ∀ x ∈ l, inI x) (hT : TabF w) :
    Calls Tryd.prog 5 #[.agg #[.int .i64 start, .int .i64 step], .int .u8 n, v] w fun e w' => e = .returned (.bool true) ∧ Keeps (fun _ => False) w w' := by
  obtain ⟨i0, hii, hz0, hz1, hz2⟩ := info_parts infoI64
  have HH := Lib.hid h; have HX := Lib.hid hX; have HT := Lib.hid hT; have HS := Lib.hid hs; have HST := Lib.hid ht
  obtain ⟨ad, cap, rfl, hc, _⟩ := h
  rw [i64s_length] at hc HH ⊢
  obtain ⟨w1, hw1⟩ : ∃ w1, w1 = w.alloc (.cells #[.int .i64 start, .int .i64 step] 42) := ⟨_, rfl⟩
  have k1 : Keeps (fun _ => False) w w1 := by rw [hw1]; exact (Keeps.refl _ w).alloc _
  have hb1 : w1.heap[w.heap.size]? = some (.cells #[.int .i64 start, .int .i64 step] 42 (0, 0)) := by rw [hw1]; exact heap_alloc_new w _
  have c0 : w1.cell? ⟨w.heap.size, 0, none⟩ = some (.int .i64 start) := by rw [cell_of_row _ _ _ _ _ _ hb1]; rfl
  have c1 : w1.cell? ⟨w.heap.size, 1, none⟩ = some (.int .i64 step) := by rw [cell_of_row _ _ _ _ _ _ hb1]; rfl
  have HW1 := Lib.hid hw1; have K1 := Lib.hid k1
  clear hX hT hs ht hw1 k1 hb1
  by_cases hl : l.length ≤ 300
  · have hl' : ¬ 300 < (l.length : Int) := by omega
    go_enter Tryd.func5, Tryd.ntmps5
    go_wp2
    rw [← HW1.out]
    go_quiet (fail)
    obtain ⟨w2, hw2⟩ : ∃ w2, w2 = w1.drewN nq := ⟨_, rfl⟩
    rw [← hw2]
    have k2 : Keeps (fun _ => False) w w2 := by rw [hw2]; exact K1.out.drewN nq
    have K2 := Lib.hid k2
    clear hw2 k2 c0 c1
    go_wp2
    go_loopw [9, 10, 22] (fun m t i wr => ∃ (k : Nat) (tt : Int) (acc : List Int) (vm : Value), k ≤ n ∧ vm = m ∧ t = .int .i64 tt ∧ i = .int .u8 k ∧ inI tt ∧ acc.length = k ∧ acc ++ lineOf tt step (n - k) = lineOf start step n ∧ wr.ownsRow w2.heap.size 2 1 vm acc.length (i64s acc) ∧ Keeps (fun _ => False) w2 wr) (fun _ _ i _ => n - (intOf i).toNat)
    case atStart => exact ⟨0, start, [], _, by omega, rfl, rfl, rfl, HS.out, rfl, rfl, World.ownsRow_nil _ _ _ _, Keeps.refl _ _⟩
    case round =>
      obtain ⟨k, tt, acc, vm, hk, rfl, rfl, rfl, htt, hacc, hline, hrow, hkr⟩ := hrel
      have hws : w2.heap.size ≤ wr.heap.size := hkr.size
      obtain ⟨adm, capm, rfl⟩ := row_slice hrow
      by_cases hlt : k < n
      · have hkn : (k : Int) < n := by omega
        obtain ⟨t2, ht2⟩ : ∃ t2, t2 = W (tt + step) := ⟨_, rfl⟩
        have ht2w : IntKind.i64.wrap (tt + step) = t2 := ht2.symm
        have ht2I : inI t2 := by rw [ht2]; exact W_in _
        have hk8 : IntKind.u8.wrap ((k : Int) + 1) = k + 1 := IntWalk.u8_in _ (by omega)
        have hl2 : (acc ++ [tt]) ++ lineOf t2 step (n - (k + 1)) = lineOf start step n := by
          rw [← hline, show n - k = (n - (k + 1)) + 1 by omega, lineOf, ht2, List.append_assoc]
          rfl
        have hal : acc.length ≤ 255 := by omega
        have HL := Lib.hid hl2; have HR := Lib.hid hrow; have HK := Lib.hid hkr; have HA := Lib.hid hacc; have T2 := Lib.hid ht2I
        clear hl2 hline hkr hacc ht2 ht2I htt
        go_wp2_with (at_builtin; refine wpList_append_new _ rfl _ _ 26 rfl w2.heap.size 2 i0 (.int .i64 0) 1 8 Tryd.underlying26 hii hz0 hz1 hz2 rfl (by decide) _ _ _ rfl (hrow.alloc _) ⟨wr.heap.size, 0, none⟩ 1 1 [.int .i64 tt] rfl rfl ?c1 ?c2 ?c3 ?c4 ?c5 ?_)
        case c1 => exact cell_one_new _ _ _
        case c2 => simp [Value.oneCell']
        case c3 => unfold maxLen; omega
        case c4 => omega
        case c5 => simp; omega
        intro v' w4 hown' hgrow hnew
        have kk : Keeps (own (.slice adm acc.length capm)) wr w4 := ((Keeps.refl (own _) wr).alloc _).grown hgrow (fun k _ e => e)
        have hkw4 := HK.out.trans kk (fun k hk e => by have := (HR.out.lt k e).1; omega)
        have F1 := Lib.hid hkw4; have F3 := Lib.hid hown'
        clear hkw4 hown' hgrow hnew kk hrow
        go_wp2
        exact ⟨⟨k + 1, t2, acc ++ [tt], v', by omega, rfl, rfl, by go_num, T2.out, by have := HA.out; simp; omega, HL.out, by have := F3.out; simpa [i64s] using this, F1.out⟩, by simp [intOf]; omega⟩
      · obtain rfl : k = n := by omega
        rw [Nat.sub_self, lineOf, List.append_nil] at hline
        have hml := hacc
        have hh : Holds wr (.slice adm acc.length capm) (i64s acc) := holds_row hrow
        have hmX : ∀ x ∈ acc, inI x := by rw [hline]; exact lineOf_in _ _ _ HS.out
        have kw : Keeps (fun _ => False) w wr := K2.out.trans hkr (fun _ _ h => h)
        have HMX := Lib.hid hmX; have HM := Lib.hid hh; have KW := Lib.hid kw; have HLINE := Lib.hid hline
        have hmn : acc.length = k := hacc
        clear hmX hh kw hline hrow hkr hacc hml htt
        rw [hmn] at HM ⊢
        have HMN := Lib.hid hmn
        clear hmn
        by_cases h2 : 2 ≤ k
        · obtain ⟨j, rfl⟩ : ∃ j, k = j + 2 := ⟨k - 2, by omega⟩
          have hln := enc5_line start step HS.out HST.out j
          rw [← HLINE.out] at hln
          have he1 := enc5_length acc
          have he2 := enc5_length (acc.take 2)
          obtain ⟨hh2, hcap2⟩ := HM.out.head 2 (by rw [i64s_length, HMN.out]; omega)
          have hcap3 : (2 : Int) ≤ capm := by omega
          have e2 : (i64s acc).take 2 = i64s (acc.take 2) := by simp [i64s]
          rw [e2] at hh2
          have hl2 : (acc.take 2).length = 2 := by rw [List.length_take, HMN.out]; omega
          have hX2 : ∀ x ∈ acc.take 2, inI x := fun x hx => HMX.out x (List.mem_of_mem_take hx)
          rw [HMN.out] at he1
          rw [hl2] at he2
          obtain ⟨S, hS⟩ : ∃ S, S = (enc5 acc).length := ⟨_, rfl⟩
          obtain ⟨S2, hS2⟩ : ∃ S2, S2 = (enc5 (acc.take 2)).length := ⟨_, rfl⟩
          rw [← hS, ← hS2] at hln
          rw [← hS] at he1
          rw [← hS2] at he2
          obtain ⟨M, hM⟩ : ∃ M, M = S2 + (j + 2) := ⟨_, rfl⟩
          have e3 : (S2 : Int) + ((j + 2 : Nat) : Int) = (M : Int) := by omega
          have e4 : IntKind.i64.wrap (M : Int) = M := wrap_nat M (by omega)
          have e5 : (M : Int) - 2 = (S : Int) := by omega
          have e6 : IntKind.i64.wrap (S : Int) = S := wrap_nat S (by omega)
          have e7 : IntKind.i64.wrap ((S2 : Int) + ((j + 2 : Nat) : Int)) = (M : Int) := by rw [e3, e4]
          have e8 : IntKind.i64.wrap ((M : Int) - 2) = (S : Int) := by rw [e5, e6]
          have dk : decide ((2 : Int) ≤ ((j + 2 : Nat) : Int)) = true := by simp; omega
          obtain ⟨q, hq⟩ : ∃ q, q = j + 2 := ⟨_, rfl⟩
          rw [← hq] at e3 e7 dk hn HM HMN ⊢
          have hq2 : (2 : Int) ≤ (q : Int) := by omega
          obtain ⟨C, hC⟩ : ∃ C : World → Prop, C = fun w' => Keeps (fun _ => False) wr w' := ⟨_, rfl⟩
          have cw : C { wr with drawn := wr.drawn + 1 } := by rw [hC]; exact (Keeps.refl (fun _ => False) wr).drew
          have c1 : ∀ wq, C wq → Calls Tryd.prog 24 #[.slice adm q capm] wq fun e w' => e = .returned (.int .i64 (S : Nat)) ∧ C w' := by
            rw [hC]
            exact fun wq hk => (size5_any _ acc wq (by rw [HMN.out]; omega) (HM.out.keeps hk (fun _ _ h => h)) HMX.out (HT.out.keeps (KW.out.trans hk (fun _ _ h => h)) (fun h => h))).mono fun e w' ⟨he, hk'⟩ => ⟨by rw [he, hS], hk.trans hk' (fun _ _ h => h)⟩
          have c2' : ∀ wq, C wq → Calls Tryd.prog 24 #[.slice adm 2 capm] wq fun e w' => e = .returned (.int .i64 (S2 : Nat)) ∧ C w' := by
            rw [hC]
            exact fun wq hk => (size5_any _ (acc.take 2) wq (by rw [hl2]; omega) (hh2.keeps hk (fun _ _ h => h)) hX2 (HT.out.keeps (KW.out.trans hk (fun _ _ h => h)) (fun h => h))).mono fun e w' ⟨he, hk'⟩ => ⟨by rw [he, hS2], hk.trans hk' (fun _ _ h => h)⟩
          have ck : ∀ wq, C wq → Keeps (fun _ => False) w wq := by rw [hC]; exact fun wq hk => KW.out.trans hk (fun _ _ h => h)
          have CW := Lib.hid cw; have C1 := Lib.hid c1; have C2 := Lib.hid c2'; have CK := Lib.hid ck
          clear cw c1 c2' ck hC hS hS2 hln he1 he2 hh2 e2 hl2 hX2 hM hq h2
          go_wp2_with fail
          refine wp_region_class C (by kernel_rfl) (by kernel_rfl) CW.out ?_
          repeat (
            refine wpQuiet_step (fun K hK => ?_)
            go_simp
            first
              | (refine hK _ ?_; clear hK K)
              | (refine ⟨_, fun _ _ => rfl, hK _ ?_⟩; clear hK K)
              | (apply Exists.intro
                 refine ⟨fun wq hwq => ?_, hK _ ?_⟩
                 (go_at_call 24; first | (with_reducible exact C1.out _ hwq) | (with_reducible exact C2.out _ hwq))
                 clear hK K))
          refine wpQuiet_nil ?_
          intro wz hwz
          have KZ := Lib.hid (CK.out _ hwz)
          clear hwz e3 e4 e5 e6 e7 e8 dk hq2 hcap2 hcap3 CW C1 C2 CK HM
          have HHz := Lib.hid (HH.out.keeps KZ.out (fun _ _ h => h))
          have KZ2 := Lib.hid KZ.out
          obtain ⟨E, hE⟩ : ∃ E, E = (enc5 l).length := ⟨_, rfl⟩
          have hel := enc5_length l
          rw [← hE] at hel
          have hE1 : IntKind.i64.wrap (68 * (l.length : Int)) = 68 * (l.length : Int) := IntWalk.i64_in _ (by omega)
          have hE2 : (E : Int) ≤ 68 * (l.length : Int) := by omega
          have HE := Lib.hid hE
          clear hE hel
          go_wp2_with fail
          refine (alive05_any wz (HT.out.keeps KZ.out (fun h => h))).mono ?_
          rintro e w5 ⟨rfl, k5⟩
          have K5 := Lib.hid (KZ.out.trans k5 (fun _ _ h => h)); have HH5 := Lib.hid (HHz.out.keeps k5 (fun _ _ h => h))
          clear k5
          go_wp2_with fail
          refine (size5_any _ l w5 (by omega) HH5.out HX.out (HT.out.keeps K5.out (fun h => h))).mono ?_
          rw [← HE.out]
          rintro e w6 ⟨rfl, k6⟩
          have K6 := Lib.hid (K5.out.trans k6 (fun _ _ h => h))
          clear k6
          go_wp2_with fail
          refine (size5_any _ [] w6 (by simp) (Holds.nil _) (by simp) (HT.out.keeps K6.out (fun h => h))).mono ?_
          rintro e w7 ⟨rfl, k7⟩
          have K7 := Lib.hid (K6.out.trans k7 (fun _ _ h => h))
          have hn0 : ((enc5 []).length : Int) = 0 := rfl
          have hn1 : (((enc5 []).length : Int) == 0) = true := by simp [enc5]
          clear k7
          go_wp2
          go_ret
          exact ⟨rfl, K7.out⟩
        · have hk2 : ¬ (2 : Int) ≤ (k : Int) := by omega
          have dk : decide ((2 : Int) ≤ (k : Int)) = false := by simp; omega
          go_wp2
          go_quiet (fail)
          obtain ⟨wz, hwz⟩ : ∃ wz, wz = wr.drewN nq := ⟨_, rfl⟩
          rw [← hwz]
          have KZ : Hid (Keeps (fun _ => False) w wz) := Lib.hid (by rw [hwz]; exact KW.out.drewN nq)
          clear hwz
          have HHz := Lib.hid (HH.out.keeps KZ.out (fun _ _ h => h))
          have KZ2 := Lib.hid KZ.out
          obtain ⟨E, hE⟩ : ∃ E, E = (enc5 l).length := ⟨_, rfl⟩
          have hel := enc5_length l
          rw [← hE] at hel
          have hE1 : IntKind.i64.wrap (68 * (l.length : Int)) = 68 * (l.length : Int) := IntWalk.i64_in _ (by omega)
          have hE2 : (E : Int) ≤ 68 * (l.length : Int) := by omega
          have HE := Lib.hid hE
          clear hE hel
          go_wp2_with fail
          refine (alive05_any wz (HT.out.keeps KZ.out (fun h => h))).mono ?_
          rintro e w5 ⟨rfl, k5⟩
          have K5 := Lib.hid (KZ.out.trans k5 (fun _ _ h => h)); have HH5 := Lib.hid (HHz.out.keeps k5 (fun _ _ h => h))
          clear k5
          go_wp2_with fail
          refine (size5_any _ l w5 (by omega) HH5.out HX.out (HT.out.keeps K5.out (fun h => h))).mono ?_
          rw [← HE.out]
          rintro e w6 ⟨rfl, k6⟩
          have K6 := Lib.hid (K5.out.trans k6 (fun _ _ h => h))
          clear k6
          go_wp2_with fail
          refine (size5_any _ [] w6 (by simp) (Holds.nil _) (by simp) (HT.out.keeps K6.out (fun h => h))).mono ?_
          rintro e w7 ⟨rfl, k7⟩
          have K7 := Lib.hid (K6.out.trans k7 (fun _ _ h => h))
          have hn0 : ((enc5 []).length : Int) = 0 := rfl
          have hn1 : (((enc5 []).length : Int) == 0) = true := by simp [enc5]
          clear k7
          go_wp2
          go_ret
          exact ⟨rfl, K7.out⟩
  · have hl' : 300 < (l.length : Int) := by omega
    go_enter Tryd.func5, Tryd.ntmps5
    go_wp2
    rw [← HW1.out]
    go_quiet (fail)
    obtain ⟨w2, hw2⟩ : ∃ w2, w2 = w1.drewN nq := ⟨_, rfl⟩
    rw [← hw2]
    have k2 : Keeps (fun _ => False) w w2 := by rw [hw2]; exact K1.out.drewN nq
    have K2 := Lib.hid k2
    clear hw2 k2 c0 c1
    go_wp2_with fail
    refine (alive05_any w2 (HT.out.keeps K2.out (fun h => h))).mono ?_
    rintro e w3 ⟨rfl, k3⟩
    have K3 := Lib.hid (K2.out.trans k3 (fun _ _ h => h))
    clear k3
    go_wp2
    go_ret
    exact ⟨rfl, K3.out⟩
end Go.Proofs.YtdniaingipoggaaDoor
