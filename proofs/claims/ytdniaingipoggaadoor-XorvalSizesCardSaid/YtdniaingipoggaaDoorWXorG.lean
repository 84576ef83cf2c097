/-
  WALKS: xorval.Get.
-/
import Derived.Test.YtdniaingipoggaaDoorWXorF
import Derived.Laws.OwnMore
import Derived.Deep.QuietTactic
import Derived.BigQuiet
namespace Go.Proofs.YtdniaingipoggaaDoor
open Go.RowKit

/-- in the middle of a read: acc was read, f values are still to come -/
structure Mid6 (D : Nat × List Nat × List Bool) (acc : List Nat) (b : List Bool) (s : Nat × Nat) (p f : Nat) : Prop where
  err : (decX f s p b).1 = D.1
  ok : D.1 = 0 → acc ++ (decX f s p b).2.1 = D.2.1
  bad : D.1 ≠ 0 → D.2.1 = []
  rest : (decX f s p b).2.2 = D.2.2
theorem dec6_start {n : Nat} {b : List Bool} (hn : n ≠ 0) (hl : ¬ b.length < 64) : Mid6 (dec6 n b) [bitsNat (b.take 64)] (b.drop 64) win0 (bitsNat (b.take 64)) (n - 1) := by
  have hb := fun h => dec6_bad (n := n) (b := b) h
  unfold dec6 at *
  rw [if_neg hn, if_neg hl] at *
  exact ⟨rfl, fun h => by simp only at h ⊢; rw [if_pos h]; rfl, hb, rfl⟩
theorem Mid6.step {D : Nat × List Nat × List Bool} {acc : List Nat} {b : List Bool} {s s' : Nat × Nat} {p f x m : Nat} (h : Mid6 D acc b s p (f + 1)) (hc : getX s b = (x, 0, m, s')) :
    Mid6 D (acc ++ [p ^^^ x]) (b.drop m) s' (p ^^^ x) f := by
  obtain ⟨h1, h2, h3, h4⟩ := h
  rw [decX_succ hc] at h1 h2 h4
  simp only [ne_eq, not_true_eq_false, if_false] at h1 h2 h4
  exact ⟨h1, fun h => by rw [← h2 h]; simp, h3, h4⟩
theorem Mid6.stop {D : Nat × List Nat × List Bool} {acc : List Nat} {b : List Bool} {s s' : Nat × Nat} {p f x e m : Nat} (h : Mid6 D acc b s p (f + 1)) (hc : getX s b = (x, e, m, s')) (he : e ≠ 0) : D = (e, [], b.drop m) := by
  obtain ⟨h1, h2, h3, h4⟩ := h
  rw [decX_succ hc, if_pos he] at h1 h4
  have := h3 (by rw [← h1]; exact he)
  obtain ⟨D1, D2, D3⟩ := D
  simp only at h1 h4 this
  rw [← h1, this, ← h4]
theorem Mid6.done {D : Nat × List Nat × List Bool} {acc : List Nat} {b : List Bool} {s : Nat × Nat} {p : Nat} (h : Mid6 D acc b s p 0) : D = (0, acc, b) := by
  obtain ⟨h1, h2, h3, h4⟩ := h
  simp only [decX, List.append_nil] at h1 h2 h4
  obtain ⟨D1, D2, D3⟩ := D
  simp only at h1 h2 h4
  rw [← h1, ← h2 h1.symm, ← h4]
set_option maxHeartbeats 400000 in
theorem xget_bad (p : Nat) (n : Int) (w : World) (h : n < 0) : Calls Tryd.prog 35 #[.pointer (some ⟨p, 0, none⟩), .int .i64 n] w fun e w' => e = .returned (.tuple #[.slice none 0 0, .int .i64 2]) ∧ w = w' := by
  go_enter Tryd.func35, Tryd.ntmps35
  go_wp2
  go_ret2
  exact ⟨rfl, rfl⟩
set_option maxHeartbeats 400000 in
theorem xget_zero (p : Nat) (w : World) : Calls Tryd.prog 35 #[.pointer (some ⟨p, 0, none⟩), .int .i64 0] w fun e w' => e = .returned (.tuple #[.slice none 0 0, .int .i64 0]) ∧ w = w' := by
  go_enter Tryd.func35, Tryd.ntmps35
  go_wp2
  go_ret2
  exact ⟨rfl, rfl⟩

theorem DS.beside {w w' : World} {base p : Nat} {v : Value} {bs : List Nat} {i D last : Nat} {s : Nat × Nat} {err : Nat} (h : DS w base p v bs i D last s err) {b1 n : Nat} {u : Value} {xs : List Value} (hr : w.ownsRow b1 48 1 u n xs) (k : Keeps (own u) w w') : DS w' base p v bs i D last s err := by
  have hne : ∀ {B : Nat} {cs : Array Value} {t : TypeId} {fr : Nat × Nat}, w.heap[B]? = some (.cells cs t fr) → t ≠ 48 → ¬ own u B := fun hB ht e => by
    obtain ⟨c', hc'⟩ := row_type hr e
    exact ne_of_types hB hc' ht rfl
  refine ⟨h.rd.keeps k (hne h.rd.blk (by decide)) (fun g hg => ?_), k.heap h.dec (hne h.dec (by decide))⟩
  obtain ⟨c', hc'⟩ := row_type h.rd.row hg
  exact hne hc' (by decide)
set_option maxRecDepth 100000 in
set_option maxHeartbeats 4000000 in
theorem xget_any (base p : Nat) (v : Value) (bs : List Nat) (i n : Nat) (w : World) (h : IsR w base p v bs i) (hl : bs.length ≤ 1099511627776) (hi : i ≤ 8 * bs.length) (hn : n ≤ 1000000000) (hT : TabZ w) (hbase : 1 < base) :
    Calls Tryd.prog 35 #[.pointer (some ⟨p, 0, none⟩), .int .i64 n] w fun e w' => ∃ v', e = .returned (.tuple #[v', .int .i64 (((dec6 n ((unpackB bs).drop i)).1 : Nat) : Int)]) ∧
      w'.ownsRow w.heap.size 48 1 v' (dec6 n ((unpackB bs).drop i)).2.1.length (u64s (dec6 n ((unpackB bs).drop i)).2.1) ∧
      (∃ i', i' ≤ 8 * bs.length ∧ IsR w' base p v bs i' ∧ (dec6 n ((unpackB bs).drop i)).2.2 = (unpackB bs).drop i') ∧ Keeps (fun k => k = p) w w' := by
  obtain ⟨i0, hii, hz0, hz1, hz2⟩ := info_parts infoU64
  by_cases hn0 : n = 0
  · subst hn0
    refine (xget_zero p w).mono ?_
    rintro e w' ⟨rfl, rfl⟩
    exact ⟨_, rfl, World.ownsRow_nil _ _ _ _, ⟨i, hi, h, rfl⟩, Keeps.refl _ _⟩
  have hpl := h.lt
  have hpb : 1 < p := Nat.lt_of_lt_of_le hbase h.base
  obtain ⟨b, hb⟩ : ∃ b, b = (unpackB bs).drop i := ⟨_, rfl⟩
  obtain ⟨D, hD⟩ : ∃ D, D = dec6 n b := ⟨_, rfl⟩
  rw [← hb, ← hD]
  obtain ⟨E, hE⟩ : ∃ E, E = w.heap.size := ⟨_, rfl⟩
  obtain ⟨w1, hw1⟩ : ∃ w1, w1 = w.alloc (.cells (decCells 0 win0 p 0) 103) := ⟨_, rfl⟩
  have k1 : Keeps (fun _ => False) w w1 := by rw [hw1]; exact (Keeps.refl _ w).alloc _
  have d1 : DS w1 base p v bs i E 0 win0 0 := ⟨h.keeps k1 (fun h => h) (fun _ _ h => h), by rw [hw1, hE]; exact heap_alloc_new w _⟩
  have hs1 : w1.heap.size = E + 1 := by rw [hw1, hE]; simp
  have hbE : 1 < E := by rw [hE]; exact hT.pos
  have hpE : p < E := by rw [hE]; exact hpl
  have hbl : b.length = 8 * bs.length - i := by rw [hb]; exact rest_length' bs i
  -- the first word
  obtain ⟨X, e1, m1, hrd, hst⟩ : ∃ X e1 m1, readD 0 ((64 : Nat) : Int) ((unpackB bs).drop i) = (X, e1, m1) ∧ ((e1 = 0 ∧ m1 = 64 ∧ ¬ b.length < 64 ∧ X = bitsNat (b.take 64)) ∨ (e1 = 3 ∧ m1 = 0 ∧ X = 0 ∧ b.length < 64)) := by
    rw [readD_zero, ← hb]
    by_cases hs : b.length < 64
    · exact ⟨_, _, _, stepB_eof 64 b (by decide) hs, .inr ⟨rfl, rfl, rfl, hs⟩⟩
    · exact ⟨_, _, _, stepB_in 64 b (by decide) (by omega), .inl ⟨rfl, rfl, hs, rfl⟩⟩
  have hX64 : X < 18446744073709551616 := by
    rcases hst with ⟨_, _, _, rfl⟩ | ⟨_, _, rfl, _⟩
    · have : bitsNat (b.take 64) < 2 ^ 64 := bitsNat_lt' (List.length_take_le _ _)
      omega
    · decide
  have him : i + m1 ≤ 8 * bs.length := by rcases hst with ⟨_, rfl, h2, _⟩ | ⟨_, rfl, _, _⟩ <;> omega
  have hinv : (e1 = 0 ∧ Mid6 D [X] ((unpackB bs).drop (i + m1)) win0 X (n - 1)) ∨ (e1 ≠ 0 ∧ D = (e1, [], (unpackB bs).drop (i + m1))) := by
    rcases hst with ⟨h1, h2, h3, h4⟩ | ⟨h1, h2, h3, h4⟩
    · refine .inl ⟨h1, ?_⟩
      have := dec6_start (n := n) hn0 h3
      rw [← h4, ← hD, hb, List.drop_drop] at this
      rw [h2]; exact this
    · refine .inr ⟨by omega, ?_⟩
      rw [h1, h2, hD, Nat.add_zero, ← hb]
      unfold dec6
      rw [if_neg hn0, if_pos h4]
  have hc1 := dbits_gen base p v bs i E 0 win0 w1 0 64 X e1 m1 d1 hl hi hrd
  have hnn : ¬ (n : Int) < 0 := by omega
  have hnz : ¬ (n : Int) = 0 := by omega
  have hnz' : ((n : Int) == 0) = false := by simp; omega
  have hn1 : 1 ≤ n := by omega
  have HC1 := Lib.hid hc1; have K1 := Lib.hid k1; have D1 := Lib.hid d1; have HINV := Lib.hid hinv; have HT := Lib.hid hT; have HW1 := Lib.hid hw1; have HS1 := Lib.hid hs1
  clear hb hD hw1 k1 d1 hrd hst hinv hc1 hT h hbl hn0 hs1
  subst hE
  go_enter Tryd.func35, Tryd.ntmps35
  go_wp2_with fail
  rw [show w.alloc (.cells #[.int .u64 0, .int .i64 0, .int .i64 0, .pointer (some ⟨p, 0, none⟩), .int .i64 0] 103) = w1 from HW1.out.symm]
  refine HC1.out.mono ?_
  rintro e w2 ⟨rfl, d2, k2⟩
  obtain ⟨c0, _, _, _, c4, cf⟩ := d2.cells
  have cf0 := cf 0
  obtain ⟨w3, hw3⟩ : ∃ w3, w3 = w2.setCell ⟨w.heap.size, 0, none⟩ (.int .u64 (X : Nat)) := ⟨_, rfl⟩
  obtain ⟨d3, k3⟩ := d2.setLast (e := X)
  rw [← hw3] at d3 k3
  have b0 := d3.cells.1
  have hk3 : Keeps (fun k => k = p ∨ w.heap.size ≤ k) w w3 := (((K1.out.mono (fun _ _ h => h.elim)).trans k2 (fun k _ e => e.imp id (fun e => by omega))).trans k3 (fun k _ e => .inr (by omega)))
  have HW3 := Lib.hid hw3; have D3 := Lib.hid d3; have HK3 := Lib.hid hk3
  have hs3 : w.heap.size + 1 ≤ w3.heap.size := by have := HS1.out; have := k2.size; have := k3.size; omega
  clear cf d2 k2 d3 k3 hw3 hk3
  go_upto_region 9 with fail
  rw [← HW3.out]
  clear c0 c4 cf0
  go_wp2_with fail
  obtain ⟨w4, hw4⟩ : ∃ w4, w4 = w3.alloc (.cells #[.int .u64 (X : Nat)] 48) := ⟨_, rfl⟩
  rw [← hw4]
  have k4 : ∀ S, Keeps S w3 w4 := fun S => by rw [hw4]; exact (Keeps.refl S w3).alloc _
  have hrow4 : w4.ownsRow (w.heap.size + 1) 48 1 (.slice (some ⟨w3.heap.size, 0, none⟩) 1 1) [X].length (u64s [X]) := by
    rw [hw4]
    exact World.ownsRow_lit (base := w.heap.size + 1) (e := 48) (size := 1) w3 #[.int .u64 (X : Nat)] 1 hs3 (by decide) rfl
  have D4 := Lib.hid (D3.out.keeps (k4 _)); have HK4 := Lib.hid (HK3.out.trans (k4 (fun _ => False)) (fun _ _ h => h.elim)); have HR4 := Lib.hid hrow4
  clear k4 hrow4 hw4 b0
  go_loopw [7, 8] (fun t7 t8 wr => ∃ (c f last err i' : Nat) (s : Nat × Nat) (acc : List Nat), c ≤ n ∧ 1 ≤ c ∧ t8 = .int .i64 c ∧ acc.length = c ∧ wr.ownsRow (w.heap.size + 1) 48 1 t7 acc.length (u64s acc) ∧ i' ≤ 8 * bs.length ∧ DS wr base p v bs i' w.heap.size last s err ∧ Keeps (fun k => k = p ∨ w.heap.size ≤ k) w wr ∧
      ((err = 0 ∧ okWin s ∧ last < 18446744073709551616 ∧ c + f = n ∧ Mid6 D acc ((unpackB bs).drop i') s last f) ∨ (err ≠ 0 ∧ D = (err, [], (unpackB bs).drop i')))) (fun _ t8 _ => n - (intOf t8).toNat)
  case atStart => exact ⟨1, n - 1, X, e1, i + m1, win0, [X], hn1, by omega, rfl, rfl, HR4.out, him, D4.out, HK4.out, HINV.out.imp (fun h => ⟨h.1, .inl rfl, hX64, by omega, h.2⟩) id⟩
  case round =>
    obtain ⟨c, f, last, err, i', s, acc, hcn, hc1, rfl, hacc, hrow, hi', hd, hk, hinv⟩ := hrel
    have g4 := hd.cells.2.2.2.2.1
    by_cases he : err = 0
    · subst he
      obtain ⟨hs, hla, hcf, hmid⟩ : okWin s ∧ last < 18446744073709551616 ∧ c + f = n ∧ Mid6 D acc ((unpackB bs).drop i') s last f := by
        rcases hinv with h | h
        · exact h.2
        · exact absurd rfl h.1
      by_cases hlt : c < n
      · have hcn' : (c : Int) < n := by omega
        obtain ⟨g, rfl⟩ : ∃ g, f = g + 1 := ⟨f - 1, by omega⟩
        obtain ⟨⟨x, e, m, s'⟩, hg⟩ : ∃ q, getX s ((unpackB bs).drop i') = q := ⟨_, rfl⟩
        have hbd := getX_bounds s ((unpackB bs).drop i') hs
        rw [hg, rest_length'] at hbd
        simp only at hbd
        have hT' := HT.out.keeps hk (by omega)
        have hget := dget_any base p v bs i' w.heap.size last s wr hd hl hi' hs hla hT' hbase hbE x e m s' hg
        have hnext : (e = 0 ∧ (c + 1) + g = n ∧ Mid6 D (acc ++ [last ^^^ x]) ((unpackB bs).drop (i' + m)) s' (last ^^^ x) g) ∨ (e ≠ 0 ∧ D = (e, [], (unpackB bs).drop (i' + m))) := by
          rw [← List.drop_drop]
          by_cases h0 : e = 0
          · subst h0
            exact .inl ⟨rfl, by omega, hmid.step hg⟩
          · exact .inr ⟨h0, hmid.stop hg h0⟩
        have hst : i' + m ≤ 8 * bs.length := by omega
        obtain ⟨ad, cap, rfl⟩ := row_slice hrow
        have HGET := Lib.hid hget; have HNEXT := Lib.hid hnext; have HROW := Lib.hid hrow; have HK := Lib.hid hk; have HOW := Lib.hid hbd.2.2.2; have HXL := Lib.hid hbd.2.2.1; have HACC := Lib.hid hacc; have HS := Lib.hid hs
        have hss : w.heap.size + 1 ≤ wr.heap.size := by have := hk.size; have := HS1.out; have := (Array.getElem?_eq_some_iff.1 hd.dec).1; omega
        clear hget hnext hrow hk hbd hacc hs hmid hinv hT' hg
        have HD := Lib.hid hd
        clear hd
        go_wp2_with fail
        refine HGET.out.mono ?_
        rintro e2 w5 ⟨y, last2, s2, rfl, hyx, d5, k5⟩
        have hrow5 := k5.row HROW.out (fun g hg e => by have := (HROW.out.lt g hg).1; rcases e with e | e <;> omega)
        have hss5 : w.heap.size + 1 ≤ w5.heap.size := Nat.le_trans hss k5.size
        have HYX := Lib.hid hyx; have D5 := Lib.hid d5; have R5 := Lib.hid hrow5
        have HK5 := Lib.hid (HK.out.trans k5 (fun k _ e => e.imp id (fun e => by omega)))
        have hal : acc.length ≤ 1000000000 := by have := HACC.out; omega
        clear hyx d5 k5 g4
        go_wp2_with (at_builtin; refine wpList_append_new _ rfl _ _ 58 rfl (w.heap.size + 1) 48 i0 (.int .u64 0) 1 8 Tryd.underlying58 hii hz0 hz1 hz2 rfl (by decide) _ _ _ rfl (hrow5.alloc _) ⟨w5.heap.size, 0, none⟩ 1 1 [.int .u64 (y : Nat)] rfl rfl ?c1 ?c2 ?c3 ?c4 ?c5 ?_)
        case c1 => exact cell_one_new _ _ _
        case c2 => simp [Value.oneCell']
        case c3 => unfold maxLen; omega
        case c4 => omega
        case c5 => simp; omega
        intro v' w6 hown' hgrow hnew
        have kk1 : Keeps (own (.slice ad acc.length cap)) w5 w6 := ((Keeps.refl (own _) w5).alloc _).grown hgrow (fun k _ e => e)
        have F1 := Lib.hid (HK5.out.trans kk1 (fun k hk e => .inr (by have := (R5.out.lt k e).1; omega)))
        have F2 := Lib.hid (D5.out.beside R5.out kk1)
        have F3 := Lib.hid hown'
        clear hown' hgrow hnew kk1 hrow5
        go_wp2
        refine ⟨⟨c + 1, g, last2, e, i' + m, s2, acc ++ [y], by omega, by omega, by go_num, by have := HACC.out; simp; omega, by have := F3.out; simpa [u64s] using this, hst, F2.out, F1.out, ?_⟩, by simp [intOf]; omega⟩
        rcases HNEXT.out with ⟨h0, h1, h2⟩ | h
        · obtain ⟨z1, z2, z3⟩ := HYX.out h0
          refine .inl ⟨h0, by rw [z3]; exact HOW.out, by rw [z2, z1]; exact xor_lt64 hla HXL.out, h1, ?_⟩
          rw [z3, z2, z1]
          exact h2
        · exact .inr h
      · obtain rfl : c = n := by omega
        obtain rfl : f = 0 := by omega
        have hD2 := hmid.done
        have hcn' : ¬ (c : Int) < c := by omega
        have HROW := Lib.hid hrow; have HK := Lib.hid hk; have HD := Lib.hid hd; have HD2 := Lib.hid hD2
        clear hrow hk hd hs hmid hinv hD2
        go_wp2
        go_ret2
        rw [HD2.out]
        exact ⟨_, rfl, row_base HROW.out (fun g hg => by have := (HROW.out.lt g hg).1; omega), ⟨i', hi', HD.out.rd, rfl⟩, HK.out.mono (fun k hk e => by omega)⟩
    · have hD2 : D = (err, [], (unpackB bs).drop i') := by
        rcases hinv with h | h
        · exact absurd h.1 he
        · exact h.2
      have e1' : ((err : Int) == 0) = false := by simp; omega
      have e2' : (err : Int) ≠ 0 := by omega
      have HROW := Lib.hid hrow; have HK := Lib.hid hk; have HD := Lib.hid hd; have HD2 := Lib.hid hD2
      clear hrow hk hd hinv hD2 he
      by_cases hlt : c < n
      · have hcn' : (c : Int) < n := by omega
        go_wp2
        go_quiet (fail)
        go_wp2
        go_ret2
        rw [HD2.out]
        exact ⟨_, rfl, World.ownsRow_nil _ _ _ _, ⟨i', hi', HD.out.rd.drewN nq, rfl⟩, (HK.out.mono (fun k hk e => by omega)).drewN nq⟩
      · have hcn' : ¬ (c : Int) < n := by omega
        go_wp2
        go_quiet (fail)
        go_wp2
        go_ret2
        rw [HD2.out]
        exact ⟨_, rfl, World.ownsRow_nil _ _ _ _, ⟨i', hi', HD.out.rd.drewN nq, rfl⟩, (HK.out.mono (fun k hk e => by omega)).drewN nq⟩
end Go.Proofs.YtdniaingipoggaaDoor
