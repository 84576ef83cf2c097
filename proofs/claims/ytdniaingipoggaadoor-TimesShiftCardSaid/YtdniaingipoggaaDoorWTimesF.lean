/-
  WALKS: times.Get.
-/
import Derived.Test.YtdniaingipoggaaDoorWTimesE
import Derived.Test.YtdniaingipoggaaDoorDHelp
import Derived.WalkSpells
import Derived.WalkLawsBesides
import Derived.Laws.OwnMore
namespace Go.Proofs.YtdniaingipoggaaDoor
open Go.RowKit

theorem infoI64 : (Tryd.prog.info? 2).map (fun i => (i.zero, i.size, i.bytes)) = some (some (.int .i64 0), 1, 8) := by kernel_rfl

set_option maxHeartbeats 400000 in
theorem tget_nil (n : Int) (w : World) : Calls Tryd.prog 17 #[.pointer none, .int .i64 n] w fun e w' => e = .returned (.tuple #[.slice none 0 0, .int .i64 1]) ∧ w = w' := by
  go_enter Tryd.func17, Tryd.ntmps17
  go_wp2
  go_ret2
  exact ⟨rfl, rfl⟩
set_option maxHeartbeats 400000 in
theorem tget_bad (p : Nat) (n : Int) (w : World) (h : n < 0) : Calls Tryd.prog 17 #[.pointer (some ⟨p, 0, none⟩), .int .i64 n] w fun e w' => e = .returned (.tuple #[.slice none 0 0, .int .i64 2]) ∧ w = w' := by
  go_enter Tryd.func17, Tryd.ntmps17
  go_wp2
  go_ret2
  exact ⟨rfl, rfl⟩
set_option maxHeartbeats 400000 in
theorem tget_zero (p : Nat) (w : World) : Calls Tryd.prog 17 #[.pointer (some ⟨p, 0, none⟩), .int .i64 0] w fun e w' => e = .returned (.tuple #[.slice none 0 0, .int .i64 0]) ∧ w = w' := by
  go_enter Tryd.func17, Tryd.ntmps17
  go_wp2
  go_ret2
  exact ⟨rfl, rfl⟩
theorem decT_succ {n : Nat} {t d : Int} {b : List Bool} {x : Int} {e m : Nat} (h : changeB b = (x, e, m)) :
    decT (n + 1) t d b = if e ≠ 0 then (e, [], b.drop m) else ((decT n (W (t + W (d + x))) (W (d + x)) (b.drop m)).1, W (t + W (d + x)) :: (decT n (W (t + W (d + x))) (W (d + x)) (b.drop m)).2.1, (decT n (W (t + W (d + x))) (W (d + x)) (b.drop m)).2.2) := by
  rw [decT, h]

set_option maxRecDepth 100000 in
set_option maxHeartbeats 2000000 in
theorem tget_any (base p : Nat) (v : Value) (bs : List Nat) (i n : Nat) (w : World) (h : IsR w base p v bs i) (hl : bs.length ≤ 1099511627776) (hi : i ≤ 8 * bs.length) (hn : n ≤ 1000000000) (hT : TabF w) (hbase : 0 < base) :
    Calls Tryd.prog 17 #[.pointer (some ⟨p, 0, none⟩), .int .i64 n] w fun e w' => ∃ v', e = .returned (.tuple #[v', .int .i64 (((dec5 n ((unpackB bs).drop i)).1 : Nat) : Int)]) ∧
      w'.ownsRow w.heap.size 2 1 v' (dec5 n ((unpackB bs).drop i)).2.1.length (i64s (dec5 n ((unpackB bs).drop i)).2.1) ∧
      (∃ i', i' ≤ 8 * bs.length ∧ IsR w' base p v bs i' ∧ (dec5 n ((unpackB bs).drop i)).2.2 = (unpackB bs).drop i') ∧ Keeps (fun k => k = p) w w' := by
  obtain ⟨i0, hii, hz0, hz1, hz2⟩ := info_parts infoI64
  by_cases hn0 : n = 0
  · subst hn0
    refine (tget_zero p w).mono ?_
    rintro e w' ⟨rfl, rfl⟩
    exact ⟨_, rfl, World.ownsRow_nil _ _ _ _, ⟨i, hi, h, rfl⟩, Keeps.refl _ _⟩
  have hp0 : 0 < p := Nat.lt_of_lt_of_le hbase h.base
  have hpl := h.lt
  obtain ⟨b, hb⟩ : ∃ b, b = (unpackB bs).drop i := ⟨_, rfl⟩
  have hbl : b.length = 8 * bs.length - i := by rw [hb, rest_length']
  obtain ⟨D, hD⟩ : ∃ D, D = dec5 n b := ⟨_, rfl⟩
  have hnn : ¬ (n : Int) < 0 := by omega
  have hnz : ¬ (n : Int) = 0 := by omega
  have hnz' : ((n : Int) == 0) = false := by simp; omega
  rw [← hb, ← hD]
  have HR := Lib.hid h; have HT := Lib.hid hT
  clear h hT
  have hcon := rbits_all base p v bs i ((64 : Nat) : Int) w HR.out (by omega) hi
  by_cases hshort : b.length < 64
  · have hst := stepB_eof 64 b (by decide) hshort
    rw [← hb, hst] at hcon
    unfold dec5 at hD
    rw [if_neg hn0, if_pos hshort] at hD
    have HCON := Lib.hid hcon; have HD := Lib.hid hD; have HB := Lib.hid hb
    clear hcon hst hD hb hbl hshort hn0
    go_enter Tryd.func17, Tryd.ntmps17
    go_wp2_with fail
    refine HCON.out.mono ?_
    rintro e w1 ⟨rfl, hR1, hk1⟩
    have HR1 := Lib.hid hR1; have HK1 := Lib.hid hk1
    clear hR1 hk1
    go_wp2
    go_ret2
    rw [HD.out]
    exact ⟨_, rfl, World.ownsRow_nil _ _ _ _, ⟨i, hi, HR1.out, HB.out⟩, HK1.out⟩
  · have hst := stepB_in 64 b (by decide) (by omega)
    rw [← hb, hst] at hcon
    unfold dec5 at hD
    rw [if_neg hn0, if_neg hshort] at hD
    obtain ⟨X, hX⟩ : ∃ X, X = bitsNat (b.take 64) := ⟨_, rfl⟩
    rw [← hX] at hD hcon
    obtain ⟨q, hq⟩ : ∃ q, decT (n - 1) (W (X : Int)) 0 (b.drop 64) = q := ⟨_, rfl⟩
    rw [hq] at hD
    obtain ⟨t0, ht0⟩ : ∃ t0, t0 = W (X : Int) := ⟨_, rfl⟩
    have htin : inI t0 := by rw [ht0]; exact W_in _
    have htw : IntKind.i64.wrap (X : Int) = t0 := ht0.symm
    have htw2 : wrap64 (X : Int) = t0 := by rw [ht0, W_eq]; unfold wrap64; simp <;> omega
    have hX64 : X < 18446744073709551616 := by
      have h1 := bitsNat_lt (b.take 64)
      have h2 : 2 ^ (b.take 64).length ≤ 2 ^ 64 := Nat.pow_le_pow_right (by decide) (List.length_take_le _ _)
      omega
    rw [← ht0] at hD hq
    obtain ⟨N, hN⟩ : ∃ N : Nat, N = n - 1 := ⟨_, rfl⟩
    have hNn : (n : Int) - 1 = N := by omega
    have hNw : IntKind.i64.wrap (N : Int) = N := wrap_nat _ (by omega)
    rw [← hN] at hq
    have hN9 : N ≤ 1000000000 := by omega
    have hi64 : i + 64 ≤ 8 * bs.length := by omega
    have hq2 : decT N t0 0 ((unpackB bs).drop (i + 64)) = q := by rw [← hq, hb, List.drop_drop]
    have HCON := Lib.hid hcon; have HD := Lib.hid hD; have HQ := Lib.hid hq2
    clear hcon hst hD hb hbl hshort hn0 hq hq2 hX ht0 hN
    go_enter Tryd.func17, Tryd.ntmps17
    go_wp2_with fail
    refine HCON.out.mono ?_
    rintro e w1 ⟨rfl, hR1, hk1⟩
    have hT1 := HT.out.keeps hk1 (by omega)
    have hs1 := hk1.size
    have HR1 := Lib.hid hR1; have HK1 := Lib.hid hk1; have HT1 := Lib.hid hT1
    clear hR1 hk1 hT1
    go_wp2
    obtain ⟨w2, hw2⟩ : ∃ w2, w2 = w1.alloc (.cells #[.int .i64 t0] 2) := ⟨_, rfl⟩
    rw [← hw2]
    have hk2 : ∀ S, Keeps S w1 w2 := fun S => by rw [hw2]; exact (Keeps.refl S w1).alloc _
    have hrow2 : w2.ownsRow w.heap.size 2 1 (.slice (some ⟨w1.heap.size, 0, none⟩) 1 1) [t0].length (i64s [t0]) := by
      rw [hw2]
      exact World.ownsRow_lit (base := w.heap.size) (e := 2) (size := 1) w1 #[.int .i64 t0] 1 hs1 (by decide) rfl
    have hR2 := HR1.out.keeps (hk2 (fun _ => False)) (fun h => h) (fun _ _ h => h)
    have hkw2 := HK1.out.trans (hk2 (fun k => k = p)) (fun _ _ h => h)
    clear hk2 hw2
    go_loopw [8, 9, 10, 36] (fun t8 t9 t10 t36 wr => ∃ (f c i' : Nat) (t d : Int) (acc : List Int), f + c = N ∧ acc.length = c + 1 ∧ t8 = .int .i64 t ∧ t9 = .int .i64 d ∧ t36 = .int .i64 c ∧ inI t ∧ inI d ∧ wr.ownsRow w.heap.size 2 1 t10 acc.length (i64s acc) ∧
        i' ≤ 8 * bs.length ∧ IsR wr base p v bs i' ∧ Keeps (fun k => k = p) w wr ∧ (decT f t d ((unpackB bs).drop i')).1 = q.1 ∧ acc ++ (decT f t d ((unpackB bs).drop i')).2.1 = t0 :: q.2.1 ∧ (decT f t d ((unpackB bs).drop i')).2.2 = q.2.2) (fun _ _ _ t36 _ => N - (intOf t36).toNat)
    case atStart => exact ⟨N, 0, i + 64, t0, 0, [t0], by omega, rfl, rfl, rfl, rfl, htin, by unfold inI; omega, hrow2, hi64, hR2, hkw2, by rw [HQ.out], by rw [HQ.out]; rfl, by rw [HQ.out]⟩
    case round =>
      obtain ⟨f, c, i', t, d, acc, hfc, hacc, rfl, rfl, rfl, ht, hd, hrow, hi', hRr, hkr, q1, q2, q3⟩ := hrel
      clear hR2 hkw2 hrow2
      cases f with
      | zero =>
        have hcN : ¬ (c : Int) < N := by omega
        simp only [decT, List.append_nil] at q1 q2 q3
        have A1 := Lib.hid hrow; have A2 := Lib.hid hRr; have A3 := Lib.hid hkr; have Q1 := Lib.hid q1; have Q2 := Lib.hid q2; have Q3 := Lib.hid q3
        clear hrow hRr hkr q1 q2 q3
        go_wp2
        go_ret2
        rw [HD.out, ← Q1.out]
        refine ⟨_, rfl, ?_, ⟨i', hi', A2.out, by rw [← Q3.out]⟩, A3.out⟩
        rw [if_pos rfl, ← Q2.out]
        exact A1.out
      | succ f =>
        have hcN : (c : Int) < N := by omega
        have hTr := HT.out.keeps hkr (by omega)
        have hg := getChange_any base p v bs i' wr hRr hl hi' hTr hbase
        obtain ⟨b', hb'⟩ : ∃ b', b' = (unpackB bs).drop i' := ⟨_, rfl⟩
        obtain ⟨⟨x, e, m⟩, hc⟩ : ∃ q, changeB b' = q := ⟨_, rfl⟩
        obtain ⟨c1, c2⟩ := changeB_err b'
        have hbl : b'.length = 8 * bs.length - i' := by rw [hb', rest_length']
        rw [← hb'] at q1 q2 q3 hg
        rw [decT_succ hc] at q1 q2 q3
        rw [hc] at hg c1 c2
        simp only at hg c1 c2
        have hm : i' + m ≤ 8 * bs.length := by omega
        have hdr : b'.drop m = (unpackB bs).drop (i' + m) := by rw [hb', List.drop_drop]
        rw [hdr] at q1 q2 q3
        have hxin : e = 0 → inI x := fun he => by subst he; exact (changeB_sound hc).2.1
        have hpr : p < wr.heap.size := hRr.lt
        have hpo : ∀ g, v.ownBlock = some g → g < w.heap.size := fun g hg => HR.out.own_lt hg
        have A1 := Lib.hid hrow; have A3 := Lib.hid hkr; have Q1 := Lib.hid q1; have Q2 := Lib.hid q2; have Q3 := Lib.hid q3; have G := Lib.hid hg; have XIN := Lib.hid hxin; have PO := Lib.hid hpo
        clear hrow hRr hkr q1 q2 q3 hg hxin hb' hbl hdr c1 hc hTr hpo hi64
        go_wp2_with fail
        refine G.out.mono ?_
        rintro e1 w3 ⟨y, rfl, hy, hR3, hk3⟩
        have hrow3 := hk3.row A1.out (fun g hg e => by have := (A1.out.lt g hg).1; omega)
        have hkw3 := A3.out.trans hk3 (fun _ _ h => h)
        have R3 := Lib.hid hR3; have B1 := Lib.hid hrow3; have B3 := Lib.hid hkw3; have Y := Lib.hid hy
        clear hR3 hrow3 hkw3 hk3 hy
        by_cases he : e = 0
        · subst he
          obtain rfl := Y.out rfl
          have hx := XIN.out rfl
          simp only [ne_eq, not_true_eq_false, if_false] at Q1 Q2 Q3
          have Q1 : Hid ((decT f (W (t + W (d + y))) (W (d + y)) ((unpackB bs).drop (i' + m))).1 = q.1) := Lib.hid (by simpa using Q1.out)
          have Q2 : Hid (acc ++ (W (t + W (d + y)) :: (decT f (W (t + W (d + y))) (W (d + y)) ((unpackB bs).drop (i' + m))).2.1) = t0 :: q.2.1) := Lib.hid (by simpa using Q2.out)
          have Q3 : Hid ((decT f (W (t + W (d + y))) (W (d + y)) ((unpackB bs).drop (i' + m))).2.2 = q.2.2) := Lib.hid (by simpa using Q3.out)
          obtain ⟨d2, hd2⟩ : ∃ d2, d2 = W (d + y) := ⟨_, rfl⟩
          have hd2w : IntKind.i64.wrap (d + y) = d2 := hd2.symm
          have hd2in : inI d2 := by rw [hd2]; exact W_in _
          rw [← hd2] at Q1 Q2 Q3
          obtain ⟨t2, ht2⟩ : ∃ t2, t2 = W (t + d2) := ⟨_, rfl⟩
          have ht2w : IntKind.i64.wrap (t + d2) = t2 := ht2.symm
          have ht2in : inI t2 := by rw [ht2]; exact W_in _
          rw [← ht2] at Q1 Q2 Q3
          have hrow := B1.out
          obtain ⟨ad2, cap2, rfl⟩ := row_slice hrow
          have hws : w.heap.size ≤ w3.heap.size := B3.out.size
          have hal : acc.length ≤ 1000000001 := by omega
          have TI := Lib.hid ht2in; have DI := Lib.hid hd2in; have HACC := Lib.hid hacc
          clear hd2 ht2 hd2in ht2in hx ht hd hacc
          go_wp2_with (at_builtin; refine wpList_append_new _ rfl _ _ 26 rfl w.heap.size 2 i0 (.int .i64 0) 1 8 Tryd.underlying26 hii hz0 hz1 hz2 rfl (by decide) _ _ _ rfl (hrow.alloc _) ⟨w3.heap.size, 0, none⟩ 1 1 [.int .i64 t2] rfl rfl ?c1 ?c2 ?c3 ?c4 ?c5 ?_)
          case c1 => exact cell_one_new _ _ _
          case c2 => simp [Value.oneCell']
          case c3 => unfold maxLen; omega
          case c4 => omega
          case c5 => simp; omega
          intro v' w4 hown' hgrow hnew
          have k1 : Keeps (own (.slice ad2 acc.length cap2)) w3 w4 := ((Keeps.refl (own _) w3).alloc _).grown hgrow (fun k _ e => e)
          have hkw4 := B3.out.trans k1 (fun k hk e => by have := (B1.out.lt k e).1; omega)
          have hR4 := R3.out.keeps k1 (fun e => by have := (B1.out.lt _ e).1; omega) (fun g hg e => by have := (B1.out.lt _ e).1; have := PO.out g hg; omega)
          have F1 := Lib.hid hkw4; have F2 := Lib.hid hR4; have F3 := Lib.hid hown'
          clear hkw4 hR4 hown' hgrow hnew k1 hrow
          go_wp2
          refine ⟨⟨f, c + 1, i' + m, t2, d2, acc ++ [t2], by omega, by have := HACC.out; simp; omega, rfl, rfl, by go_num, TI.out, DI.out, ?_, hm, F2.out, F1.out, Q1.out, by rw [List.append_assoc]; exact Q2.out, Q3.out⟩, by simp [intOf]; omega⟩
          have := F3.out
          simpa [i64s] using this
        · have Q1 : Hid (e = q.1) := Lib.hid (by have := Q1.out; rw [if_pos he] at this; exact this)
          have Q3 : Hid ((unpackB bs).drop (i' + m) = q.2.2) := Lib.hid (by have := Q3.out; rw [if_pos he] at this; exact this)
          have he2 : ¬ (e : Int) = 0 := by omega
          have he' : ((e : Int) == 0) = false := by simp; omega
          have HE := Lib.hid he
          go_wp2
          go_ret2
          rw [HD.out, ← Q1.out]
          refine ⟨_, rfl, ?_, ⟨i' + m, hm, R3.out, by rw [← Q3.out]⟩, B3.out⟩
          rw [if_neg HE.out]
          exact World.ownsRow_nil _ _ _ _
end Go.Proofs.YtdniaingipoggaaDoor
