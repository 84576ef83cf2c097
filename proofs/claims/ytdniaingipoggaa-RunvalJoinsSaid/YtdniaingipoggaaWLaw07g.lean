/-
  WALKS: RunvalJoins.
-/
import Derived.Test.YtdniaingipoggaaWLaw07a
import Derived.Test.YtdniaingipoggaaWRepeat
import Derived.Test.YtdniaingipoggaaPApp2
namespace Go.Proofs.Ytdniaingipoggaa
open Go.RowKit

theorem pairCells_snoc (fs : List (Nat × Int)) (p : Nat × Int) : pairCells (fs ++ [p]) = pairCells fs ++ [.int .u64 ((p.1 : Nat) : Int), .int .i64 p.2] := by simp [pairCells]
theorem holdsP_prow {w : World} {base : Nat} {v : Value} {fs : List (Nat × Int)} (h : w.ownsRow base 82 2 v fs.length (pairCells fs)) : HoldsP w v fs := by
  rcases h.2 with ⟨rfl, h0⟩ | ⟨g, cap, cur, rfl, hb, hgg, hcap, _, hcs, htk⟩
  · have : fs = [] := List.eq_nil_of_length_eq_zero h0
    subst this
    exact ⟨none, 0, rfl, .inl rfl⟩
  · refine ⟨some ⟨g, 0, none⟩, cap, rfl, .inr ⟨g, 0, rfl, fun i X N hi => ?_⟩⟩
    obtain ⟨c1, c2⟩ := pairCells_get fs i (X, N) hi
    rw [Nat.zero_add]
    exact ⟨take_cell hgg htk c1, take_cell hgg htk c2⟩
theorem holdsF_P {w : World} {base : Nat} {v : Value} {fs : List (Nat × Int)} (h : HoldsF w base v fs) : HoldsP w v fs := by
  obtain ⟨a, cap, rfl, h | ⟨b, off, rfl, _, h⟩⟩ := h
  · exact ⟨a, cap, rfl, .inl h⟩
  · exact ⟨_, cap, rfl, .inr ⟨b, off, rfl, h⟩⟩
theorem joinI_take {fs : List (Nat × Int)} {k X : Nat} {N : Int} (h : fs[k]? = some (X, N)) : joinI (fs.take (k + 1)) = joinI (fs.take k) ++ (if N ≤ 128 then List.replicate N.toNat X else []) := by rw [take_snoc_pair h, joinI_snoc]

set_option maxRecDepth 100000 in
set_option maxHeartbeats 4000000 in
theorem runvalJoins_any (v : Value) (fs : List (Nat × Int)) (w : World) (h : HoldsP w v fs) :
    Calls Try.prog 20 #[v] w fun e w' => e = .returned (.bool true) ∧ Keeps (fun _ => False) w w' := by
  obtain ⟨i0, hi, hz0, hz1, hz2⟩ := info_parts infoU64
  obtain ⟨j0, ji, jz0, jz1, jz2⟩ := info_parts infoRun
  have HH := Lib.hid h
  obtain ⟨ad, cap, rfl, _⟩ := h
  by_cases hl : fs.length ≤ 20
  · have hl' : ¬ 20 < (fs.length : Int) := by omega
    go_enter Try.func20, Try.ntmps20
    go_wp2
    go_loopw [3, 4, 13] (fun t3 t4 c wr => ∃ (k : Nat) (v3 v4 : Value), k ≤ fs.length ∧ v3 = t3 ∧ v4 = t4 ∧ c = .int .i64 k ∧ wr.ownsRow w.heap.size 82 2 v3 k (pairCells (fs.take k)) ∧
      wr.ownsRow w.heap.size 35 1 v4 (joinI (fs.take k)).length (u64s (joinI (fs.take k))) ∧ Keeps (fun _ => False) w wr) (fun _ _ c _ => fs.length - (intOf c).toNat)
    case atStart => exact ⟨0, _, _, by omega, rfl, rfl, rfl, World.ownsRow_nil _ _ _ _, World.ownsRow_nil _ _ _ _, Keeps.refl _ _⟩
    case round =>
      obtain ⟨k, v3, v4, hk, rfl, rfl, rfl, hr3, hr4, hkw⟩ := hrel
      by_cases hlt : k < fs.length
      · obtain ⟨⟨X, N⟩, hfk⟩ : ∃ f, fs[k]? = some f := ⟨fs[k], by simp [hlt]⟩
        obtain ⟨b, off, rfl, p0, p1⟩ := (HH.out.keeps hkw (fun _ _ h => h)).cell hfk
        have hklt : (k : Int) < fs.length := by omega
        have hjn := joinI_take hfk
        have hpn : pairCells (fs.take (k + 1)) = pairCells (fs.take k) ++ [.int .u64 (X : Nat), .int .i64 N] := by rw [take_snoc_pair hfk, pairCells_snoc]
        have hle := joinI_length (fs.take k)
        have htk : (fs.take k).length ≤ 20 := Nat.le_trans (List.length_take_le _ _) (by omega)
        obtain ⟨acc, hacc⟩ : ∃ acc, acc = joinI (fs.take k) := ⟨_, rfl⟩
        rw [← hacc] at hr4 hjn hle
        have hal : acc.length ≤ 2560 := by omega
        have hb1 : w.heap.size ≤ wr.heap.size := hkw.size
        obtain ⟨wx, hwx⟩ : ∃ wx, wx = wr.alloc (.cells #[.int .u64 (X : Nat), .int .i64 N] 96) := ⟨_, rfl⟩
        have hxb : wx.heap[wr.heap.size]? = some (.cells #[.int .u64 (X : Nat), .int .i64 N] 96 (0, 0)) := by rw [hwx]; exact heap_alloc_new wr _
        have kx : Keeps (fun _ => False) wr wx := by rw [hwx]; exact (Keeps.refl _ wr).alloc _
        have hr3x := kx.row hr3 (fun _ _ h => h)
        have hr4x := kx.row hr4 (fun _ _ h => h)
        have hkwx := hkw.trans kx (fun _ _ h => h)
        have cx0 : wx.cell? ⟨wr.heap.size, 0, none⟩ = some (.int .u64 (X : Nat)) := by rw [cell_of_row _ _ _ _ _ _ hxb]; rfl
        have cx1 : wx.cell? ⟨wr.heap.size, 1, none⟩ = some (.int .i64 N) := by rw [cell_of_row _ _ _ _ _ _ hxb]; rfl
        have hbx : w.heap.size ≤ wx.heap.size := hkwx.size
        obtain ⟨D, hD⟩ : ∃ D, D = wr.heap.size := ⟨_, rfl⟩
        rw [← hD] at hxb cx0 cx1
        have HWX := Lib.hid hwx; have HXB := Lib.hid hxb; have HR3 := Lib.hid hr3x; have HR4 := Lib.hid hr4x; have HKW := Lib.hid hkwx; have HJN := Lib.hid hjn; have HPN := Lib.hid hpn; have HACC := Lib.hid hacc; have HD := Lib.hid hD; have HFK := Lib.hid hfk
        clear hwx hxb hr3 hr4 hr4x hkwx hjn hpn hacc hD hkw kx hle hfk
        go_upto_region 8 with (fail)
        rw [← HWX.out, ← HD.out]
        obtain ⟨a3, c3, rfl⟩ := row_slice hr3x
        go_wp2_with (at_builtin; refine wpList_append_new _ rfl _ _ 79 rfl w.heap.size 82 j0 (.agg #[.int .u64 0, .int .i64 0]) 2 16 Try.underlying79 ji jz0 jz1 jz2 rfl (by decide) _ _ _ rfl (hr3x.alloc _) ⟨wx.heap.size, 0, none⟩ 1 1 [.int .u64 (X : Nat), .int .i64 N] rfl rfl ?c1 ?c2 ?c3 ?c4 ?c5 ?_)
        case c1 =>
          intro j u hj
          rw [addr_add, Nat.zero_add, cell_of_row _ _ _ _ _ _ (heap_alloc_new wx _)]
          simpa using hj
        case c2 => simp [Value.oneCell']
        case c3 => unfold maxLen; omega
        case c4 => omega
        case c5 => simp; omega
        intro v3' w2 hown3 hgrow3 hnew3
        have kg : Keeps (own (.slice a3 k c3)) wx w2 := ((Keeps.refl (own _) wx).alloc _).grown hgrow3 (fun k _ e => e)
        have hxb2 := kg.heap HXB.out (fun e => by
          obtain ⟨c', hc'⟩ := row_type HR3.out e
          exact ne_of_types hc' HXB.out (by decide) rfl)
        have d0 : w2.cell? ⟨D, 0, none⟩ = some (.int .u64 (X : Nat)) := by rw [cell_of_row _ _ _ _ _ _ hxb2]; rfl
        have d1 : w2.cell? ⟨D, 1, none⟩ = some (.int .i64 N) := by rw [cell_of_row _ _ _ _ _ _ hxb2]; rfl
        have hr42 := row_other HR4.out HR3.out kg (by decide)
        have hkw2 := HKW.out.trans kg (fun k hk e => by have := (HR3.out.lt k e).1; omega)
        have hown3' : w2.ownsRow w.heap.size 82 2 v3' (k + 1) (pairCells (fs.take (k + 1))) := by rw [HPN.out]; exact hown3
        obtain ⟨a3', c3', rfl⟩ := row_slice hown3'
        have G3 := Lib.hid hown3'; have G4 := Lib.hid hr42; have GK := Lib.hid hkw2; have HXB2 := Lib.hid hxb2
        have hb2 : w.heap.size ≤ w2.heap.size := hkw2.size
        clear hown3 hown3' hgrow3 hnew3 kg hxb2 hr42 hkw2 hr3x cx0 cx1
        by_cases hN : 1 ≤ N ∧ N ≤ 128
        · obtain ⟨hN1, hN2⟩ := hN
          obtain ⟨M, rfl⟩ : ∃ M : Nat, N = M := ⟨N.toNat, by omega⟩
          have hjM : joinI (fs.take (k + 1)) = acc ++ List.replicate M X := by rw [HJN.out, if_pos hN2]; simp
          have HJM := Lib.hid hjM
          have hDlt : D < w2.heap.size := (Array.getElem?_eq_some_iff.1 HXB2.out).1
          have d1a : ∀ o, (w2.alloc o).cell? ⟨D, 1, none⟩ = some (.int .i64 (M : Nat)) := fun o => (cell_alloc_below w2 o ⟨D, 1, none⟩ hDlt).trans d1
          clear hjM
          go_wp2_with fail
          clear d1a
          have hh := holds_words w2 [X]
          obtain ⟨w3, hw3⟩ : ∃ w3, w3 = w2.alloc (.cells (u64s [X]).toArray 35) := ⟨_, rfl⟩
          rw [← hw3] at hh
          have k23 : Keeps (fun _ => False) w2 w3 := by rw [hw3]; exact (Keeps.refl _ w2).alloc _
          rw [show w2.alloc (.cells #[.int .u64 (X : Nat)] 35) = w3 from hw3.symm]
          have HHX := Lib.hid hh
          have G33 := Lib.hid (k23.row G3.out (fun _ _ h => h)); have G43 := Lib.hid (k23.row G4.out (fun _ _ h => h)); have GK3 := Lib.hid (GK.out.trans k23 (fun _ _ h => h))
          clear hh hw3 k23
          refine (repeat_any _ _ X M w3 HHX.out (by omega)).mono ?_
          rintro e w4 ⟨v5, rfl, r5, k4⟩
          have h5 := holds_row r5
          have G34 := Lib.hid (k4.row G33.out (fun _ _ h => h)); have hr44 := k4.row G43.out (fun _ _ h => h); have GK4 := Lib.hid (GK3.out.trans k4 (fun _ _ h => h))
          have hb4 : w.heap.size ≤ w4.heap.size := (GK4.out).size
          have H5 := Lib.hid h5; have G44 := Lib.hid hr44
          clear r5 k4 h5 hr44 d0 d1
          go_wp2_with (at_builtin; refine wpList_append_holds _ rfl _ _ 76 rfl w.heap.size 35 i0 (.int .u64 0) 8 Try.underlying76 hi hz0 hz1 hz2 rfl _ _ (u64s acc) (u64s (List.replicate M X)) rfl rfl (by rw [u64s_length]; exact G44.out) H5.out (u64s_one _) (by rw [u64s_length, u64s_length, List.length_replicate]; unfold maxLen; omega) (by rw [u64s_length, u64s_length, List.length_replicate]; omega) hb4 ?_)
          intro v6 w6 h6
          have F3 := row_other G34.out G44.out h6.keeps (by decide)
          have F4 := h6.row
          have FK := GK4.out.trans h6.keeps (fun k hk e => by have := (G44.out.lt k e).1; omega)
          have HF3 := Lib.hid F3; have HF4 := Lib.hid F4; have HFK := Lib.hid FK
          clear h6 F3 F4 FK
          go_wp2
          refine ⟨⟨k + 1, _, _, by omega, rfl, rfl, by go_num, HF3.out, ?_, HFK.out⟩, by simp [intOf]; omega⟩
          rw [HJM.out]
          have := HF4.out
          rw [show u64s acc ++ u64s (List.replicate M X) = u64s (acc ++ List.replicate M X) by simp [u64s], u64s_length] at this
          exact this
        · have hjM : joinI (fs.take (k + 1)) = acc := by
            rw [HJN.out]
            split
            · rw [show N.toNat = 0 by omega]; simp
            · simp
          have HJM := Lib.hid hjM
          have hcs : (¬ 1 ≤ N) ∨ (1 ≤ N ∧ ¬ N ≤ 128) := by omega
          clear hjM hN
          rcases hcs with hN1 | ⟨hN1, hN2⟩
          · have dd : decide (1 ≤ N) = false := by simpa using hN1
            go_wp2
            exact ⟨⟨k + 1, _, _, by omega, rfl, rfl, by go_num, G3.out, by rw [HJM.out]; exact G4.out, GK.out⟩, by simp [intOf]; omega⟩
          · have dd : decide (N ≤ 128) = false := by simpa using hN2
            go_wp2
            exact ⟨⟨k + 1, _, _, by omega, rfl, rfl, by go_num, G3.out, by rw [HJM.out]; exact G4.out, GK.out⟩, by simp [intOf]; omega⟩
      · obtain rfl : k = fs.length := by omega
        rw [List.take_length] at hr3 hr4
        have hp3 := holdsP_prow hr3
        have hjl := joinI_length fs
        obtain ⟨a3, c3, rfl⟩ := row_slice hr3
        obtain ⟨a4, c4, rfl⟩ := row_slice hr4
        have P3 := Lib.hid hp3; have P4 := Lib.hid (holds_row hr4); have PK := Lib.hid hkw
        obtain ⟨J, hJ⟩ : ∃ J, J = joinI fs := ⟨_, rfl⟩
        rw [← hJ] at P4 hjl ⊢
        have HJ := Lib.hid hJ
        clear hr3 hr4 hkw hp3 hJ
        go_wp2_with fail
        refine (alive07_any wr).mono ?_
        rintro e w1 ⟨rfl, k1⟩
        have P31 := Lib.hid (P3.out.keeps k1 (fun _ _ h => h)); have P41 := Lib.hid (P4.out.keeps k1 (fun _ _ h => h)); have PK1 := Lib.hid (PK.out.trans k1 (fun _ _ h => h))
        clear k1
        go_wp2_with fail
        refine (join_any _ fs w1 P31.out (by omega)).mono ?_
        rw [← HJ.out]
        rintro e w2 ⟨v5, rfl, r5, k2⟩
        have P5 := Lib.hid (holds_row r5); have P42 := Lib.hid (P41.out.keeps k2 (fun _ _ h => h)); have PK2 := Lib.hid (PK1.out.trans k2 (fun _ _ h => h))
        clear r5 k2
        go_wp2_with fail
        refine (equalU64_any _ _ J J w2 P5.out P42.out (by omega)).mono ?_
        have dl : decide (J = J) = true := by simp
        rw [dl]
        clear dl
        rintro e w3 ⟨rfl, n3, hw3⟩
        have PK3 : Hid (Keeps (fun _ => False) w w3) := Lib.hid (by rw [hw3]; exact PK2.out.drewN n3)
        clear hw3
        go_wp2
        go_ret
        exact ⟨by simp, PK3.out⟩
  · have hl' : 20 < (fs.length : Int) := by omega
    go_enter Try.func20, Try.ntmps20
    go_wp2_with fail
    refine (alive07_any w).mono ?_
    rintro e w1 ⟨rfl, k1⟩
    go_wp2
    go_ret
    exact ⟨rfl, k1⟩
end Go.Proofs.Ytdniaingipoggaa
