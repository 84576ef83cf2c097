/-
  WALKS: slices.Equal of runs; tsblocklaw07.alive.
-/
import Derived.Test.YtdniaingipoggaaWRef07c
import Derived.Test.YtdniaingipoggaaWEqual
import Derived.Test.YtdniaingipoggaaWLaw01b
namespace Go.Proofs.Ytdniaingipoggaa
open Go.RowKit

theorem HoldsP.cell {w : World} {a : Option Addr} {len cap : Nat} {fs : List (Nat × Int)} (h : HoldsP w (.slice a len cap) fs) {k X : Nat} {N : Int} (hk : fs[k]? = some (X, N)) :
    ∃ b off, a = some ⟨b, off, none⟩ ∧ w.cell? ⟨b, off + k * 2, none⟩ = some (.int .u64 (X : Nat)) ∧ w.cell? ⟨b, off + k * 2 + 1, none⟩ = some (.int .i64 N) := by
  obtain ⟨a', cap', hv, h⟩ := h
  simp only [Value.slice.injEq] at hv
  obtain ⟨rfl, _, _⟩ := hv
  rcases h with rfl | ⟨b, off, rfl, h⟩
  · simp at hk
  · exact ⟨b, off, rfl, (h k X N hk).1, (h k X N hk).2⟩
set_option maxRecDepth 100000 in
set_option maxHeartbeats 1000000 in
theorem equalRuns_same (v v' : Value) (fs : List (Nat × Int)) (w : World) (h : HoldsP w v fs) (h' : HoldsP w v' fs) (hl : fs.length ≤ 9000000000000000000) :
    Calls Try.prog 66 #[v, v'] w fun e w' => e = .returned (.bool true) ∧ ∃ n, w' = w.drewN n := by
  have HH := Lib.hid h; have HH' := Lib.hid h'
  obtain ⟨ad, cap, rfl, _⟩ := h
  obtain ⟨ad', cap', rfl, _⟩ := h'
  go_enter Try.func66, Try.ntmps66
  go_wp2
  go_loopw [13] (fun c wr => ∃ k : Nat, k ≤ fs.length ∧ c = .int .i64 k ∧ ∃ n, wr = w.drewN n) (fun c _ => fs.length - (intOf c).toNat)
  case atStart => exact ⟨0, by omega, rfl, 0, rfl⟩
  case round =>
    obtain ⟨k, hk, rfl, n, hwr⟩ := hrel
    have g1 : HoldsP wr (.slice ad fs.length cap) fs := by rw [hwr]; exact HH.out.keeps ((Keeps.refl (fun _ => False) w).drewN n) (fun _ _ h => h)
    have g2 : HoldsP wr (.slice ad' fs.length cap') fs := by rw [hwr]; exact HH'.out.keeps ((Keeps.refl (fun _ => False) w).drewN n) (fun _ _ h => h)
    have HWR := Lib.hid hwr
    clear hwr
    by_cases hlt : k < fs.length
    · obtain ⟨⟨x, N⟩, hx⟩ : ∃ x, fs[k]? = some x := ⟨fs[k], by simp [hlt]⟩
      obtain ⟨b1, o1, rfl, c1, c1'⟩ := g1.cell hx
      obtain ⟨b2, o2, rfl, c2, c2'⟩ := g2.cell hx
      have hklt : (k : Int) < fs.length := by omega
      clear hx g1 g2 hlt
      go_wp2
      go_quiet (fail)
      go_wp2
      exact ⟨⟨k + 1, by omega, by go_num, n + nq, by rw [HWR.out, World.drewN_drewN]⟩, by simp [intOf]; omega⟩
    · obtain rfl : k = fs.length := by omega
      go_wp2
      go_ret
      exact ⟨rfl, n, HWR.out⟩
theorem rget_packed (l : List Nat) (hX : ∀ x ∈ l, x ≤ 18446744073709551615) :
    rget l.length l.length (0, 128) ((unpackB (packed (encRuns (runsOf l)))).drop 0) = (0, runsOf l, (unpackB (packed (encRuns (runsOf l)))).drop (encRuns (runsOf l)).length) := by
  obtain ⟨L, hL⟩ : ∃ L, L = encRuns (runsOf l) := ⟨_, rfl⟩
  rw [← hL]
  have h1 := bitsFrom_packed L 0 L.length (by omega)
  unfold bitsFrom at h1
  rw [List.drop_zero, List.drop_zero, List.take_length] at h1
  have h2 : unpackB (packed L) = L ++ (unpackB (packed L)).drop L.length := by
    have := List.take_append_drop L.length (unpackB (packed L))
    rw [h1] at this
    exact this.symm
  rw [List.drop_zero, h2, List.drop_left]
  subst hL
  exact rget_complete _ (runsOf l) _ _ _ (Nat.le_refl _) (by rw [joinOf_runsOf]) (fun p hp => by have := hX p.1 (runsOf_mem hp).1; omega) (canon_runsOf l)
/-- a literal of words -/
theorem holds_words (w : World) (l : List Nat) : Holds (w.alloc (.cells (u64s l).toArray 35)) (.slice (some ⟨w.heap.size, 0, none⟩) l.length l.length) (u64s l) := by
  refine ⟨_, l.length, by rw [u64s_length], by rw [u64s_length]; exact Nat.le_refl _, .inr ⟨_, 0, rfl, fun j u hj => ?_⟩⟩
  rw [cell_of_row _ _ _ _ _ _ (heap_alloc_new w _), Nat.zero_add]
  simpa using hj
def pairCells (fs : List (Nat × Int)) : List Value := fs.flatMap fun p => [.int .u64 ((p.1 : Nat) : Int), .int .i64 p.2]
theorem pairCells_get (fs : List (Nat × Int)) (i : Nat) (p : Nat × Int) (h : fs[i]? = some p) : (pairCells fs)[i * 2]? = some (.int .u64 ((p.1 : Nat) : Int)) ∧ (pairCells fs)[i * 2 + 1]? = some (.int .i64 p.2) := by
  induction fs generalizing i with
  | nil => simp at h
  | cons q fs ih =>
    cases i with
    | zero => simp only [List.getElem?_cons_zero, Option.some.injEq] at h; subst h; simp [pairCells]
    | succ i =>
      simp only [List.getElem?_cons_succ] at h
      have := ih i h
      have e1 : (i + 1) * 2 = i * 2 + 2 := by omega
      simpa [pairCells, e1] using this
/-- a literal of runs -/
theorem holds_pairs (w : World) (fs : List (Nat × Int)) : HoldsP (w.alloc (.cells (pairCells fs).toArray 82)) (.slice (some ⟨w.heap.size, 0, none⟩) fs.length fs.length) fs := by
  refine ⟨_, fs.length, rfl, .inr ⟨_, 0, rfl, fun i X N hi => ?_⟩⟩
  obtain ⟨c1, c2⟩ := pairCells_get fs i (X, N) hi
  rw [cell_of_row _ _ _ _ _ _ (heap_alloc_new w _), cell_of_row _ _ _ _ _ _ (heap_alloc_new w _), Nat.zero_add]
  exact ⟨by simpa using c1, by simpa using c2⟩

set_option maxRecDepth 100000 in
set_option maxHeartbeats 4000000 in
theorem alive07_any (w : World) : Calls Try.prog 47 #[] w fun e w' => e = .returned (.bool true) ∧ Keeps (fun _ => False) w w' := by
  go_enter Try.func47, Try.ntmps47
  go_wp2_with fail
  refine (newWriter_any w).mono ?_
  rintro e w1 ⟨rfl, hw1⟩
  have h1 := newWriter_is w w.heap.size (Nat.le_refl _)
  have k1 : Keeps (fun _ => False) w w1 := by rw [hw1]; exact (Keeps.refl _ _).alloc _
  rw [← hw1] at h1
  obtain ⟨B, hB⟩ : ∃ B, B = w.heap.size := ⟨_, rfl⟩
  rw [← hB] at h1 ⊢
  have HB := Lib.hid hB; have H1 := Lib.hid h1; have K1 := Lib.hid k1
  clear hB h1 k1 hw1
  have hh2 := holds_words w1 [7, 7, 9]
  obtain ⟨w2, hw2⟩ : ∃ w2, w2 = w1.alloc (.cells (u64s [7, 7, 9]).toArray 35) := ⟨_, rfl⟩
  rw [← hw2] at hh2
  have h2 := H1.out.keeps (S := fun _ => False) (b := w2) (by rw [hw2]; exact (Keeps.refl _ w1).alloc _) (fun h => h) (fun _ _ h => h)
  have k2 : Keeps (fun _ => False) w w2 := by rw [hw2]; exact K1.out.alloc _
  have hb2 : B < w1.heap.size := H1.out.lt
  have HH2 := Lib.hid hh2; have H2 := Lib.hid h2; have K2 := Lib.hid k2; have HW2 := Lib.hid hw2; have HB2 := Lib.hid hb2
  clear hh2 h2 k2 hw2 hb2
  go_wp2_with fail
  rw [show w1.alloc (.cells #[.int .u64 7, .int .u64 7, .int .u64 9] 35) = w2 from HW2.out.symm]
  refine (put_any B B _ _ [] [7, 7, 9] w2 H2.out (by have := H2.out.lt; omega) (by decide) (by decide) (by decide) HH2.out ?hap).mono ?_
  case hap =>
    rintro k ⟨_, hk⟩ (e | e)
    · simp only [Value.ownBlock, Option.some.injEq] at hk; have := HB2.out; omega
    · simp [Value.ownBlock] at e
  rintro e w3 ⟨rfl, v3, h3, k3, n3⟩
  obtain ⟨L, hL⟩ : ∃ L, L = encRuns (runsOf [7, 7, 9]) := ⟨_, rfl⟩
  have hLl : L.length = 142 := by rw [hL, encRuns_length]; rfl
  have hg : rget 3 3 (0, 128) ((unpackB (packed (encRuns (runsOf [7, 7, 9])))).drop 0) = (0, runsOf [7, 7, 9], (unpackB (packed (encRuns (runsOf [7, 7, 9])))).drop (encRuns (runsOf [7, 7, 9])).length) := rget_packed [7, 7, 9] (by decide)
  rw [List.nil_append, ← hL] at h3
  rw [← hL] at hg
  have kk3 : Keeps (fun _ => False) w w3 := K2.out.trans k3 (fun k hk e => foot_nil (by rw [HB.out]; exact Nat.le_refl _) hk e)
  have H3 := Lib.hid h3; have K3 := Lib.hid kk3; have HG := Lib.hid hg; have HLL := Lib.hid hLl
  clear hL h3 k3 n3 kk3 hg hLl
  go_wp2_with fail
  refine (wbytes_any B B _ L _ H3.out (by rw [HLL.out]; decide)).mono ?_
  rintro e w4 ⟨v4, rfl, r4, k4⟩
  have hpl : (packed L).length = 18 := by rw [packed_length, HLL.out]
  have h4 := H3.out.keeps k4 (fun h => h) (fun _ _ h => h)
  have hh4 := holds_row r4
  have kk4 := K3.out.trans k4 (fun _ _ h => h)
  have H4 := Lib.hid h4; have HH4 := Lib.hid hh4; have K4 := Lib.hid kk4; have HPL := Lib.hid hpl
  clear r4 k4 h4 hh4 kk4 hpl
  go_wp2_with fail
  refine (newReader_any w4.heap.size v4 (packed L) w4 HH4.out (by rw [HPL.out]; decide) (packed_lt L) (Nat.le_refl _)).mono ?_
  rintro e w5 ⟨q, vr, rfl, hq, r5, own5, k5⟩
  have h5 := H4.out.keeps k5 (fun h => h) (fun _ _ h => h)
  have kk5 := K4.out.trans k5 (fun _ _ h => h)
  have hBq : B < q := by have := H4.out.lt; omega
  have HQ4 := Lib.hid hq
  have H5 := Lib.hid h5; have K5 := Lib.hid kk5; have R5 := Lib.hid r5; have HBQ := Lib.hid hBq
  have hqw : w.heap.size ≤ q := by have := K4.out.size; omega
  have HQW := Lib.hid hqw
  clear h5 kk5 r5 own5 k5 hq hBq hqw
  go_wp2_with fail
  refine (get_any _ q vr (packed L) 0 3 w5 R5.out (by rw [HPL.out]; decide) (by omega) (by decide)).mono ?_
  rw [HG.out]
  rintro e w6 ⟨v6, rfl, r6, ⟨i6, hi6, hR6, _⟩, k6⟩
  have hgv : getVals (0, runsOf [7, 7, 9], (unpackB (packed L)).drop L.length) = [7, 7, 9] := by
    unfold getVals
    rw [if_pos rfl]
    exact joinOf_runsOf _
  rw [hgv] at r6
  have h6 := H5.out.keeps k6 (by have := HBQ.out; omega) (fun g hg e => by have := H4.out.own_lt hg; have := HQ4.out; omega)
  have kk6 := K5.out.trans k6 (fun k hk e => by have := HQW.out; omega)
  obtain ⟨ad6, cap6, rfl⟩ := row_slice r6
  have hh6 : Holds w6 (.slice ad6 3 cap6) (u64s [7, 7, 9]) := holds_row r6
  have H6 := Lib.hid h6; have K6 := Lib.hid kk6; have HH6 := Lib.hid hh6
  clear h6 kk6 r6 k6 hR6 hi6 hgv hh6
  have hl142 := HLL.out
  go_wp2_with fail
  refine (wlen_any B B _ L w6 H6.out).mono ?_
  rw [hl142]
  rintro e w7 ⟨rfl, rfl⟩
  clear hl142
  go_wp2_with fail
  have hh7 := holds_words w6 [7, 7, 9]
  obtain ⟨w7, hw7⟩ : ∃ w7, w7 = w6.alloc (.cells (u64s [7, 7, 9]).toArray 35) := ⟨_, rfl⟩
  rw [← hw7] at hh7
  have hk7 : Keeps (fun _ => False) w6 w7 := by rw [hw7]; exact (Keeps.refl _ w6).alloc _
  rw [show w6.alloc (.cells #[.int .u64 7, .int .u64 7, .int .u64 9] 35) = w7 from hw7.symm]
  have HK7 := Lib.hid hk7; have HH7 := Lib.hid (HH6.out.keeps hk7 (fun _ _ h => h)); have HH7b := Lib.hid hh7
  clear hw7 hk7 hh7
  refine (equalU64_any _ _ [7, 7, 9] [7, 7, 9] w7 HH7.out HH7b.out (by decide)).mono ?_
  rintro e w8 ⟨rfl, n8, hw8⟩
  have hk8 : Keeps (fun _ => False) w6 w8 := by rw [hw8]; exact HK7.out.drewN n8
  have HK8 := Lib.hid hk8; have HH8 := Lib.hid (HH6.out.keeps hk8 (fun _ _ h => h))
  clear hw8 hk8
  go_wp2_with fail
  refine (size_any _ [7, 7, 9] w8 (by decide) HH8.out).mono ?_
  have hs9 : 71 * (runsOf [7, 7, 9]).length = 142 := by rfl
  rw [hs9]
  clear hs9
  rintro e w9 ⟨rfl, hk9⟩
  have HK9 := Lib.hid (HK8.out.trans hk9 (fun _ _ h => h)); have HH9 := Lib.hid (HH8.out.keeps hk9 (fun _ _ h => h))
  clear hk9
  go_wp2_with fail
  refine (split_any _ [7, 7, 9] w9 (by decide) HH9.out).mono ?_
  rintro e w10 ⟨v10, rfl, r10, hk10⟩
  have hp10 := holdsP_row r10
  have HK10 := Lib.hid (HK9.out.trans hk10 (fun _ _ h => h)); have HP10 := Lib.hid hp10
  clear r10 hk10 hp10
  go_wp2_with fail
  have hq11 := holds_pairs w10 [(7, 2), (9, 1)]
  obtain ⟨w11, hw11⟩ : ∃ w11, w11 = w10.alloc (.cells (pairCells [(7, 2), (9, 1)]).toArray 82) := ⟨_, rfl⟩
  rw [← hw11] at hq11
  have hk11 : Keeps (fun _ => False) w10 w11 := by rw [hw11]; exact (Keeps.refl _ w10).alloc _
  rw [show w10.alloc (.cells #[.int .u64 7, .int .i64 2, .int .u64 9, .int .i64 1] 82) = w11 from hw11.symm]
  have HP11 : Hid (HoldsP w11 v10 [(7, 2), (9, 1)]) := Lib.hid (HP10.out.keeps hk11 (fun _ _ h => h))
  have HQ11 := Lib.hid hq11
  have HK11 := Lib.hid (HK10.out.trans hk11 (fun _ _ h => h))
  clear hw11 hk11 hq11
  refine (equalRuns_same _ _ [(7, 2), (9, 1)] w11 HP11.out HQ11.out (by decide)).mono ?_
  rintro e w12 ⟨rfl, n12, hw12⟩
  have hk12 : Keeps (fun _ => False) w6 w12 := by rw [hw12]; exact HK11.out.drewN n12
  have HK12 := Lib.hid hk12
  clear hw12 hk12
  go_wp2_with fail
  have hq13 := holds_pairs w12 [(0, 2), (0, 129)]
  obtain ⟨w13, hw13⟩ : ∃ w13, w13 = w12.alloc (.cells (pairCells [(0, 2), (0, 129)]).toArray 82) := ⟨_, rfl⟩
  rw [← hw13] at hq13
  have hk13 : Keeps (fun _ => False) w12 w13 := by rw [hw13]; exact (Keeps.refl _ w12).alloc _
  rw [show w12.alloc (.cells #[.int .u64 0, .int .i64 2, .int .u64 0, .int .i64 129] 82) = w13 from hw13.symm]
  have HQ13 := Lib.hid hq13
  have HK13 := Lib.hid (HK12.out.trans hk13 (fun _ _ h => h))
  clear hw13 hk13 hq13
  refine (join_any _ [(0, 2), (0, 129)] w13 HQ13.out (by decide)).mono ?_
  rintro e w14 ⟨v14, rfl, r14, k14⟩
  have hj : joinI [(0, 2), (0, 129)] = [0, 0] := by decide
  rw [hj] at r14
  obtain ⟨ad14, cap14, rfl⟩ := row_slice r14
  have HK14 := Lib.hid (HK13.out.trans k14 (fun _ _ h => h))
  clear r14 k14 hj
  go_wp2
  go_ret
  exact ⟨rfl, K6.out.trans HK14.out (fun _ _ h => h)⟩
end Go.Proofs.Ytdniaingipoggaa
