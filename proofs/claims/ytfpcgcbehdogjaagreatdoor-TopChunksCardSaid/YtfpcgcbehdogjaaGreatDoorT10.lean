/-
  Lemmas on which LTopChunks rests, packed out of the texts WTimesF AApp XMem ABridge WVarB PTwo PTwoZ WDoor5; each for all arguments under the hypotheses it names.
-/
import Derived.Test.YtfpcgcbehdogjaaGreatDoorT05
import Derived.Laws.OwnMore
import Derived.Test.YtfpcgcbehdogjaaGreatDoorT06
import Derived.Deep.AppendLies
import Derived.Laws.Tables
import Derived.Laws.ResultCell
import Derived.RegionTactic
import Derived.Deep.RegionHeld
import Derived.Lib.LaidTab
namespace Go.Proofs.YtfpcgcbehdogjaaGreatDoor
section
set_option maxHeartbeats 2000000
set_option maxRecDepth 100000
open Go.RowKit
theorem infoI64 : (Tryz.prog.info? 2).map (fun i => (i.zero, i.size, i.bytes)) = some (some (.int .i64 0), 1, 8) := by kernel_rfl
theorem tget_zero (p : Nat) (w : World) : Calls Tryz.prog 27 #[.pointer (some ⟨p, 0, none⟩), .int .i64 0] w fun e w' => e = .returned (.tuple #[.slice none 0 0, .int .i64 0]) ∧ w = w' := by
 go_enter Tryz.func27, Tryz.ntmps27
 go_wp2
 go_ret2
 exact ⟨rfl, rfl⟩
theorem decT_succ {n : Nat} {t d : Int} {b : List Bool} {x : Int} {e m : Nat} (h : qas b = (x, e, m)) :
 decT (n + 1) t d b = if e ≠ 0 then (e, [], b.drop m) else ((decT n (W (t + W (d + x))) (W (d + x)) (b.drop m)).1, W (t + W (d + x)) :: (decT n (W (t + W (d + x))) (W (d + x)) (b.drop m)).2.1, (decT n (W (t + W (d + x))) (W (d + x)) (b.drop m)).2.2) := by
 rw [decT, h]
theorem tget_any (base p : Nat) (v : Value) (bs : List Nat) (i n : Nat) (w : World) (h : IsR w base p v bs i) (hl : bs.length ≤ 1099511627776) (hi : i ≤ 8 * bs.length) (hn : n ≤ 1000000000) (hT : TabF w) (hbase : 0 < base) :
 Calls Tryz.prog 27 #[.pointer (some ⟨p, 0, none⟩), .int .i64 n] w fun e w' => ∃ v', e = .returned (.tuple #[v', .int .i64 (((dec5 n ((qad bs).drop i)).1 : Nat) : Int)]) ∧
  w'.ownsRow w.heap.size 2 1 v' (dec5 n ((qad bs).drop i)).2.1.length (i64s (dec5 n ((qad bs).drop i)).2.1) ∧
  (∃ i', i' ≤ 8 * bs.length ∧ IsR w' base p v bs i' ∧ (dec5 n ((qad bs).drop i)).2.2 = (qad bs).drop i') ∧ Keeps (fun k => k = p) w w' := by
 obtain ⟨i0, hii, hz0, hz1, hz2⟩ := info_parts infoI64
 by_cases hn0 : n = 0
 · subst hn0
   refine (tget_zero p w).mono ?_
   rintro e w' ⟨rfl, rfl⟩
   exact ⟨_, rfl, World.ownsRow_nil _ _ _ _, ⟨i, hi, h, rfl⟩, Keeps.refl _ _⟩
 have hp0 : 0 < p := Nat.lt_of_lt_of_le hbase h.base
 have hpl := h.lt
 obtain ⟨b, hb⟩ : ∃ b, b = (qad bs).drop i := ⟨_, rfl⟩
 have hbl : b.length = 8 * bs.length - i := by rw [hb, rest_length']
 obtain ⟨D, hD⟩ : ∃ D, D = dec5 n b := ⟨_, rfl⟩
 have hnn : ¬ (n : Int) < 0 := by omega
 have hnz : ¬ (n : Int) = 0 := by omega
 have hnz' : ((n : Int) == 0) = false := by simp; omega
 rw [← hb, ← hD]
 have HR := Hj h; have HT := Hj hT
 clear h hT
 have hcon := qdn base p v bs i ((64 : Nat) : Int) w HR.out (by omega) hi
 by_cases hshort : b.length < 64
 · have hst := qdd 64 b (by decide) hshort
   rw [← hb, hst] at hcon
   unfold dec5 at hD
   rw [if_neg hn0, if_pos hshort] at hD
   have HCON := Hj hcon; have HD := Hj hD; have HB := Hj hb
   clear hcon hst hD hb hbl hshort hn0
   go_enter Tryz.func27, Tryz.ntmps27
   go_wp2_with fail
   refine HCON.out.mono ?_
   rintro e w1 ⟨rfl, hR1, hk1⟩
   have HR1 := Hj hR1; have HK1 := Hj hk1
   clear hR1 hk1
   go_wp2
   go_ret2
   rw [HD.out]
   exact ⟨_, rfl, World.ownsRow_nil _ _ _ _, ⟨i, hi, HR1.out, HB.out⟩, HK1.out⟩
 · have hst := stepB_in 64 b (by decide) (by omega)
   rw [← hb, hst] at hcon
   unfold dec5 at hD
   rw [if_neg hn0, if_neg hshort] at hD
   obtain ⟨X, hX⟩ : ∃ X, X = qae (b.take 64) := ⟨_, rfl⟩
   rw [← hX] at hD hcon
   obtain ⟨q, hq⟩ : ∃ q, decT (n - 1) (W (X : Int)) 0 (b.drop 64) = q := ⟨_, rfl⟩
   rw [hq] at hD
   obtain ⟨t0, ht0⟩ : ∃ t0, t0 = W (X : Int) := ⟨_, rfl⟩
   have htin : inI t0 := by rw [ht0]; exact W_in _
   have htw : IntKind.i64.wrap (X : Int) = t0 := ht0.symm
   have htw2 : wrap64 (X : Int) = t0 := by rw [ht0, W_eq]; unfold wrap64; simp <;> omega
   have hX64 : X < 18446744073709551616 := by
    have h1 := qcw (b.take 64)
    have h2 : 2 ^ (b.take 64).length ≤ 2 ^ 64 := Nat.pow_le_pow_right (by decide) (List.length_take_le _ _)
    omega
   rw [← ht0] at hD hq
   obtain ⟨N, hN⟩ : ∃ N : Nat, N = n - 1 := ⟨_, rfl⟩
   have hNn : (n : Int) - 1 = N := by omega
   have hNw : IntKind.i64.wrap (N : Int) = N := qbk _ (by omega)
   rw [← hN] at hq
   have hN9 : N ≤ 1000000000 := by omega
   have hi64 : i + 64 ≤ 8 * bs.length := by omega
   have hq2 : decT N t0 0 ((qad bs).drop (i + 64)) = q := by rw [← hq, hb, List.drop_drop]
   have HCON := Hj hcon; have HD := Hj hD; have HQ := Hj hq2
   clear hcon hst hD hb hbl hshort hn0 hq hq2 hX ht0 hN
   go_enter Tryz.func27, Tryz.ntmps27
   go_wp2_with fail
   refine HCON.out.mono ?_
   rintro e w1 ⟨rfl, hR1, hk1⟩
   have hT1 := HT.out.keeps hk1 (by omega)
   have hs1 := hk1.size
   have HR1 := Hj hR1; have HK1 := Hj hk1; have HT1 := Hj hT1
   clear hR1 hk1 hT1
   go_wp2
   obtain ⟨w2, hw2⟩ : ∃ w2, w2 = w1.alloc (.cells #[.int .i64 t0] 2) := ⟨_, rfl⟩
   rw [← hw2]
   have hk2 : ∀ S, Keeps S w1 w2 := fun S => by rw [hw2]; exact (Keeps.refl S w1).alloc _
   have hrow2 : w2.ownsRow w.heap.size 2 1 (.slice (some ⟨w1.heap.size, 0, none⟩) 1 1) [t0].length (i64s [t0]) := by
    rw [hw2]
    exact World.ownsRow_lit (base := w.heap.size) (e := 2) (size := 1) w1 #[.int .i64 t0] 1 hs1 (by decide) rfl
   have hR2 := HR1.out.keeps (hk2 (fun _ => False)) (fun h => h) (fun _ _ h => h)
   have hkw2 := HK1.out.trans (hk2 (fun k => k = p)) (fun _ _ h => h)
   clear hk2 hw2
   go_loopw [8, 9, 10, 36] (fun t8 t9 t10 t36 wr => ∃ (f c i' : Nat) (t d : Int) (acc : List Int), f + c = N ∧ acc.length = c + 1 ∧ t8 = .int .i64 t ∧ t9 = .int .i64 d ∧ t36 = .int .i64 c ∧ inI t ∧ inI d ∧ wr.ownsRow w.heap.size 2 1 t10 acc.length (i64s acc) ∧
    i' ≤ 8 * bs.length ∧ IsR wr base p v bs i' ∧ Keeps (fun k => k = p) w wr ∧ (decT f t d ((qad bs).drop i')).1 = q.1 ∧ acc ++ (decT f t d ((qad bs).drop i')).2.1 = t0 :: q.2.1 ∧ (decT f t d ((qad bs).drop i')).2.2 = q.2.2) (fun _ _ _ t36 _ => N - (intOf t36).toNat)
   case atStart => exact ⟨N, 0, i + 64, t0, 0, [t0], by omega, rfl, rfl, rfl, rfl, htin, by unfold inI; omega, hrow2, hi64, hR2, hkw2, by rw [HQ.out], by rw [HQ.out]; rfl, by rw [HQ.out]⟩
   case round =>
    obtain ⟨f, c, i', t, d, acc, hfc, hacc, rfl, rfl, rfl, ht, hd, hrow, hi', hRr, hkr, q1, q2, q3⟩ := hrel
    clear hR2 hkw2 hrow2
    cases f with
    | zero =>
      have hcN : ¬ (c : Int) < N := by omega
      simp only [decT, List.append_nil] at q1 q2 q3
      have A1 := Hj hrow; have A2 := Hj hRr; have A3 := Hj hkr; have Q1 := Hj q1; have Q2 := Hj q2; have Q3 := Hj q3
      clear hrow hRr hkr q1 q2 q3
      go_wp2
      go_ret2
      rw [HD.out, ← Q1.out]
      refine ⟨_, rfl, ?_, ⟨i', hi', A2.out, by rw [← Q3.out]⟩, A3.out⟩
      rw [if_pos rfl, ← Q2.out]
      exact A1.out
    | succ f =>
      have hcN : (c : Int) < N := by omega
      have hTr := HT.out.keeps hkr (by omega)
      have hg := getChange_any base p v bs i' wr hRr hl hi' hTr hbase
      obtain ⟨b', hb'⟩ : ∃ b', b' = (qad bs).drop i' := ⟨_, rfl⟩
      obtain ⟨⟨x, e, m⟩, hc⟩ : ∃ q, qas b' = q := ⟨_, rfl⟩
      obtain ⟨c1, c2⟩ := changeB_err b'
      have hbl : b'.length = 8 * bs.length - i' := by rw [hb', rest_length']
      rw [← hb'] at q1 q2 q3 hg
      rw [decT_succ hc] at q1 q2 q3
      rw [hc] at hg c1 c2
      simp only at hg c1 c2
      have hm : i' + m ≤ 8 * bs.length := by omega
      have hdr : b'.drop m = (qad bs).drop (i' + m) := by rw [hb', List.drop_drop]
      rw [hdr] at q1 q2 q3
      have hxin : e = 0 → inI x := fun he => by subst he; exact (changeB_sound hc).2.1
      have hpr : p < wr.heap.size := hRr.lt
      have hpo : ∀ g, v.ownBlock = some g → g < w.heap.size := fun g hg => HR.out.own_lt hg
      have A1 := Hj hrow; have A3 := Hj hkr; have Q1 := Hj q1; have Q2 := Hj q2; have Q3 := Hj q3; have G := Hj hg; have XIN := Hj hxin; have PO := Hj hpo
      clear hrow hRr hkr q1 q2 q3 hg hxin hb' hbl hdr c1 hc hTr hpo hi64
      go_wp2_with fail
      refine G.out.mono ?_
      rintro e1 w3 ⟨y, rfl, hy, hR3, hk3⟩
      have hrow3 := hk3.row A1.out (fun g hg e => by have := (A1.out.lt g hg).1; omega)
      have hkw3 := A3.out.trans hk3 (fun _ _ h => h)
      have R3 := Hj hR3; have B1 := Hj hrow3; have B3 := Hj hkw3; have Y := Hj hy
      clear hR3 hrow3 hkw3 hk3 hy
      by_cases he : e = 0
      · subst he
        obtain rfl := Y.out rfl
        have hx := XIN.out rfl
        simp only [ne_eq, not_true_eq_false, if_false] at Q1 Q2 Q3
        have Q1 : Hid ((decT f (W (t + W (d + y))) (W (d + y)) ((qad bs).drop (i' + m))).1 = q.1) := Hj (by simpa using Q1.out)
        have Q2 : Hid (acc ++ (W (t + W (d + y)) :: (decT f (W (t + W (d + y))) (W (d + y)) ((qad bs).drop (i' + m))).2.1) = t0 :: q.2.1) := Hj (by simpa using Q2.out)
        have Q3 : Hid ((decT f (W (t + W (d + y))) (W (d + y)) ((qad bs).drop (i' + m))).2.2 = q.2.2) := Hj (by simpa using Q3.out)
        obtain ⟨d2, hd2⟩ : ∃ d2, d2 = W (d + y) := ⟨_, rfl⟩
        have hd2w : IntKind.i64.wrap (d + y) = d2 := hd2.symm
        have hd2in : inI d2 := by rw [hd2]; exact W_in _
        rw [← hd2] at Q1 Q2 Q3
        obtain ⟨t2, ht2⟩ : ∃ t2, t2 = W (t + d2) := ⟨_, rfl⟩
        have ht2w : IntKind.i64.wrap (t + d2) = t2 := ht2.symm
        have ht2in : inI t2 := by rw [ht2]; exact W_in _
        rw [← ht2] at Q1 Q2 Q3
        have hrow := B1.out
        obtain ⟨ad2, cap2, rfl⟩ := qaf hrow
        have hws : w.heap.size ≤ w3.heap.size := B3.out.size
        have hal : acc.length ≤ 1000000001 := by omega
        have TI := Hj ht2in; have DI := Hj hd2in; have HACC := Hj hacc
        clear hd2 ht2 hd2in ht2in hx ht hd hacc
        go_wp2_with (at_builtin; refine qbe _ rfl _ _ 54 rfl w.heap.size 2 i0 (.int .i64 0) 1 8 Tryz.underlying54 hii hz0 hz1 hz2 rfl (by decide) _ _ _ rfl (hrow.alloc _) ⟨w3.heap.size, 0, none⟩ 1 1 [.int .i64 t2] rfl rfl ?c1 ?c2 ?c3 ?c4 ?c5 ?_)
        case c1 => exact cell_one_new _ _ _
        case c2 => simp [Value.oneCell']
        case c3 => unfold maxLen; omega
        case c4 => omega
        case c5 => simp; omega
        intro v' w4 hown' hgrow hnew
        have k1 : Keeps (own (.slice ad2 acc.length cap2)) w3 w4 := ((Keeps.refl (own _) w3).alloc _).grown hgrow (fun k _ e => e)
        have hkw4 := B3.out.trans k1 (fun k hk e => by have := (B1.out.lt k e).1; omega)
        have hR4 := R3.out.keeps k1 (fun e => by have := (B1.out.lt _ e).1; omega) (fun g hg e => by have := (B1.out.lt _ e).1; have := PO.out g hg; omega)
        have F1 := Hj hkw4; have F2 := Hj hR4; have F3 := Hj hown'
        clear hkw4 hR4 hown' hgrow hnew k1 hrow
        go_wp2
        refine ⟨⟨f, c + 1, i' + m, t2, d2, acc ++ [t2], by omega, by have := HACC.out; simp; omega, rfl, rfl, by go_num, TI.out, DI.out, ?_, hm, F2.out, F1.out, Q1.out, by rw [List.append_assoc]; exact Q2.out, Q3.out⟩, by simp [intOf]; omega⟩
        have := F3.out
        simpa [i64s] using this
      · have Q1 : Hid (e = q.1) := Hj (by have := Q1.out; rw [if_pos he] at this; exact this)
        have Q3 : Hid ((qad bs).drop (i' + m) = q.2.2) := Hj (by have := Q3.out; rw [if_pos he] at this; exact this)
        have he2 : ¬ (e : Int) = 0 := by omega
        have he' : ((e : Int) == 0) = false := by simp; omega
        have HE := Hj he
        go_wp2
        go_ret2
        rw [HD.out, ← Q1.out]
        refine ⟨_, rfl, ?_, ⟨i' + m, hm, R3.out, by rw [← Q3.out]⟩, B3.out⟩
        rw [if_neg HE.out]
        exact World.ownsRow_nil _ _ _ _
end
section
open Go.RowKit
structure ElT (P : Program) (t e : TypeId) (k L : Nat) : Prop where
 ht : P.underlying t = some (.slice e)
 hi : ∃ i z, P.info? e = some i ∧ i.zero = some z ∧ i.size = k ∧ L * i.bytes ≤ 140737488355328 ∧ z.cells.size = k
 hk : 0 < k
 hL : L ≤ maxLen
theorem infoS : (Tryz.prog.info? 9).map (fun i => (i.zero, i.size, i.bytes)) = some (some (.string { data := #[] }), 1, 16) := by kernel_rfl
theorem infoL : (Tryz.prog.info? 94).map (fun i => (i.zero, i.size, i.bytes)) = some (some (.agg #[.string { data := #[] }, .string { data := #[] }]), 2, 32) := by kernel_rfl
theorem infoX : (Tryz.prog.info? 97).map (fun i => (i.zero, i.size, i.bytes)) = some (some (.agg #[.slice none 0 0, .slice none 0 0]), 2, 48) := by kernel_rfl
theorem infoM : (Tryz.prog.info? 28).map (fun i => (i.zero, i.size, i.bytes)) = some (some (.agg #[.int .i64 0, .int .u64 0]), 2, 16) := by kernel_rfl
theorem elS : ElT Tryz.prog 132 9 1 8796093022208 := ⟨Tryz.underlying132, by obtain ⟨i, h1, h2, h3, h4⟩ := info_parts infoS; exact ⟨i, _, h1, h2, h3, by rw [h4]; decide, rfl⟩, by decide, by decide⟩
theorem elL : ElT Tryz.prog 95 94 2 4398046511104 := ⟨Tryz.underlying95, by obtain ⟨i, h1, h2, h3, h4⟩ := info_parts infoL; exact ⟨i, _, h1, h2, h3, by rw [h4]; decide, rfl⟩, by decide, by decide⟩
theorem elX : ElT Tryz.prog 37 97 2 2932031007402 := ⟨Tryz.underlying37, by obtain ⟨i, h1, h2, h3, h4⟩ := info_parts infoX; exact ⟨i, _, h1, h2, h3, by rw [h4]; decide, rfl⟩, by decide, by decide⟩
theorem elM : ElT Tryz.prog 22 28 2 8796093022208 := ⟨Tryz.underlying22, by obtain ⟨i, h1, h2, h3, h4⟩ := info_parts infoM; exact ⟨i, _, h1, h2, h3, by rw [h4]; decide, rfl⟩, by decide, by decide⟩
theorem bytes_ok {n m b L : Nat} (h : n + m ≤ L) (hb : L * b ≤ 140737488355328) : (n + m) * b ≤ 140737488355328 :=
 Nat.le_trans (Nat.mul_le_mul_right b h) hb
section
variable {P : Program} {t e : TypeId} {k L : Nat}
theorem run_append_E (E : ElT P t e k L) (w : World) (ty : TypeId) (B : Nat) (v x : Value) (n m : Nat) (xs ys : List Value) (hown : w.ownsRow B e k v n xs) (hx : Rd k w x m ys) (h1 : ∀ u ∈ ys, u.oneCell' = true)
 (hn : n + m ≤ L) (hB : B ≤ w.heap.size) :
 ∃ v' w', (Builtin.append_ #[t, t] ty #[v, x]).run P w = .ok v' w' ∧ w'.ownsRow B e k v' (n + m) (xs ++ ys) ∧ w.grownBy w' v.ownBlock ∧ (∀ g, v'.ownBlock = some g → v.ownBlock = some g ∨ w.heap.size ≤ g) := by
 obtain ⟨i, z, hi, hz, hsz, hby, hzs⟩ := E.hi
 obtain ⟨hl, ad, cap, rfl, hc, h⟩ := hx
 cases ad with
 | none =>
   have hm : m = 0 := by
    rcases h with h | ⟨b, off, hb, _⟩
    · exact h
    · cases hb
   subst hm
   obtain rfl : ys = [] := List.eq_nil_of_length_eq_zero (by rw [hl]; omega)
   obtain ⟨a2, c2, rfl⟩ := qaf hown
   have hcc : n ≤ c2 := by
    rcases hown.2 with ⟨hv, h0⟩ | ⟨g, c3, cur, hv, _, _, h3, _⟩
    · omega
    · simp only [Value.slice.injEq] at hv; omega
   refine ⟨.slice a2 n c2, w, ?_, by simpa using hown, ⟨rfl, rfl, rfl, Nat.le_refl _, fun _ _ _ => rfl⟩, fun g hg => .inl hg⟩
   cases a2 <;> simp [Builtin.append_, run_underlying E.ht, sizeOf, typeInfo, hi, Builtin.lenOf, hcc, Builtin.firstCells, storeCells]
 | some a =>
   have hcell : ∀ j u, ys[j]? = some u → w.cell? (a.add j) = some u := by
    intro j u hj
    rcases h with h | ⟨b, off, hb, h⟩
    · subst h
      have : ys = [] := List.eq_nil_of_length_eq_zero (by rw [hl]; omega)
      subst this
      simp at hj
    · obtain rfl := Option.some.inj hb
      rw [show ((⟨b, off, none⟩ : Addr).add j) = ⟨b, off + j, none⟩ from by unfold Addr.add; split <;> simp_all]
      exact h j u hj
   obtain ⟨v', w', hr, ho, hg, _, hn2⟩ := qct (P := P) w B t ty e i z k i.bytes E.ht hi hz hsz rfl hzs E.hk v n xs hown a m cap ys hl hcell h1 (Nat.le_trans hn E.hL) (bytes_ok hn hby) hB
   exact ⟨v', w', hr, ho, hg, hn2⟩
theorem wp_append_E (E : ElT P t e k L) {w : World} {o : Oper} {a : Act} {K : Act → World → Prop} {Q : Exit → Act → World → Prop} (s x : Operand)
 (ho : o.op = .call { callee := .builtin .append, args := #[s, x], argTypes := #[t, t] }) (B : Nat) (v y : Value) (n m : Nat) (xs ys : List Value) (hs : a.eval s = v) (hxe : a.eval x = y)
 (hown : w.ownsRow B e k v n xs) (hx : Rd k w y m ys) (h1 : ∀ u ∈ ys, u.oneCell' = true) (hn : n + m ≤ L) (hB : B ≤ w.heap.size)
 (h : ∀ v' w', w'.ownsRow B e k v' (n + m) (xs ++ ys) → w.grownBy w' v.ownBlock → (∀ g, v'.ownBlock = some g → v.ownBlock = some g ∨ w.heap.size ≤ g) → K (a.put o.dst v') w') : o.wp P a w K Q := by
 obtain ⟨v', w', hr, h2, h3, h4⟩ := run_append_E E w o.type B v y n m xs ys hown hx h1 hn hB
 unfold Oper.wp execOp
 simp only [ho, resolve, invoke, builtin, Sem.run_bind, Sem.run_pure, Result.andThen_ok, List.map_toArray, List.map_cons, List.map_nil, hs, hxe, hr]
 exact h v' w' h2 h3 h4
theorem appE (E : ElT P t e k L) {w : World} {ops : Array Oper} {rest : List Oper} {o : Oper} {a : Act} {Q : Exit → Act → World → Prop} (hgd : o.guard = none) (s x : Operand)
 (ho : o.op = .call { callee := .builtin .append, args := #[s, x], argTypes := #[t, t] }) (B : Nat) (v y : Value) (n m : Nat) (xs ys : List Value) (hs : a.eval s = v) (hxe : a.eval x = y)
 (hown : w.ownsRow B e k v n xs) (hx : Rd k w y m ys) (h1 : ∀ u ∈ ys, u.oneCell' = true) (hn : n + m ≤ L) (hB : B ≤ w.heap.size)
 (h : ∀ v' w', w'.ownsRow B e k v' (n + m) (xs ++ ys) → w.grownBy w' v.ownBlock → (∀ g, v'.ownBlock = some g → v.ownBlock = some g ∨ w.heap.size ≤ g) → wpList P ops Q rest (a.put o.dst v') w') : wpList P ops Q (o :: rest) a w :=
 wpList_plain hgd fun _ hK => wp_append_E E s x ho B v y n m xs ys hs hxe hown hx h1 hn hB fun v' w' h2 h3 h4 => hK _ _ (h v' w' h2 h3 h4)
theorem sappE (E : ElT P t e k L) {w : World} {ops : Array Oper} {o : Oper} {a : Act} {K : Act → World → Prop} {Q : Exit → Act → World → Prop} {F : Prop} (hgd : o.guard = none) (s x : Operand)
 (ho : o.op = .call { callee := .builtin .append, args := #[s, x], argTypes := #[t, t] }) (B : Nat) (v y : Value) (n m : Nat) (xs ys : List Value) (hs : a.eval s = v) (hxe : a.eval x = y)
 (hown : w.ownsRow B e k v n xs) (hx : Rd k w y m ys) (h1 : ∀ u ∈ ys, u.oneCell' = true) (hn : n + m ≤ L) (hB : B ≤ w.heap.size)
 (h : ∀ v' w', w'.ownsRow B e k v' (n + m) (xs ++ ys) → w.grownBy w' v.ownBlock → (∀ g, v'.ownBlock = some g → v.ownBlock = some g ∨ w.heap.size ≤ g) → K (a.put o.dst v') w') : if Region.wanted o (yielded ops a.tmps) = true then Oper.wp P o a w K Q else F := by
 have hw : Region.wanted o (yielded ops a.tmps) = true := by simp [Region.wanted, hgd]
 rw [if_pos hw]
 exact wp_append_E E s x ho B v y n m xs ys hs hxe hown hx h1 hn hB h
end
theorem rd_new (w : World) (k m : Nat) (cs : List Value) (te : TypeId) (c : Nat) (hl : cs.length = m * k) (hc : m ≤ c) : Rd k (w.alloc (.cells cs.toArray te)) (.slice (some ⟨w.heap.size, 0, none⟩) m c) m cs :=
 ⟨hl, _, c, rfl, hc, .inr ⟨w.heap.size, 0, rfl, fun j u hj => by rw [Nat.zero_add, cell_of_row _ _ _ _ _ _ (heap_alloc_new w _)]; simpa using hj⟩⟩
theorem below_grown {w w' : World} {B n k : Nat} {e : TypeId} {v : Value} {xs : List Value} (hown : w.ownsRow B e k v n xs) (hg : w.grownBy w' v.ownBlock) (hB : B ≤ w.heap.size) : Below B w w' :=
 (Below.refl B w).grown hg hB (fun k hk => (hown.lt k hk).1)
def strC (ss : List ByteArray) : List Value := ss.map Value.string
def RdT (w : World) (v : Value) (ss : List ByteArray) : Prop := Rd 1 w v ss.length (strC ss)
theorem RdT.at {w : World} {ad : Option Addr} {cap : Nat} {l : List ByteArray} (h : RdT w (.slice ad l.length cap) l) {i : Nat} {x : ByteArray} (hx : l[i]? = some x) :
 ∃ b off, ad = some ⟨b, off, none⟩ ∧ w.cell? ⟨b, off + i, none⟩ = some (.string x) := by
 obtain ⟨b, off, e, h⟩ := Rd.at h (List.getElem?_eq_some_iff.1 hx).1
 exact ⟨b, off, e, by have := h 0 (.string x) (by simp [strC, hx]); simpa using this⟩
theorem strC_one (ss : List ByteArray) : ∀ u ∈ strC ss, u.oneCell' = true := by
 intro u hu
 obtain ⟨x, _, rfl⟩ := List.mem_map.1 hu
 rfl
end
section
open Go.RowKit
section
variable {P : Program}
theorem qcz {fn : Func} {p u : Tmp} {ty : TypeId} (h : fn.results = #[.cell p ty, .tmp u]) (tmps : Array Value) (w : World) (g : Nat) (t : TypeId) (cs : Array Value) (fr : Nat × Nat) (d : TypeDesc)
 (hp : tmps.getD p undef = .pointer (some ⟨g, 0, none⟩)) (hg : w.heap[g]? = some (.cells cs t fr))
 (hu : P.underlying ty = some d) (hd : (match d with | .struct _ | .array _ _ => true | _ => false) = true) (hi : (P.info? ty).map (·.size) = some cs.size) :
 (results fn tmps).run P w = .ok (.tuple #[.agg cs, tmps.getD u undef]) w := by
 rw [results_cell_tmp h, hp]
 simp [asAddr, run_loadVar_row w g t ty cs fr d hg hu hd hi, Result.andThen]
theorem qda {fn : Func} {p q u : Tmp} {ty ty' : TypeId} (h : fn.results = #[.cell p ty, .cell q ty', .tmp u]) (tmps : Array Value) (w : World) (g g' : Nat) (t t' : TypeId) (cs cs' : Array Value) (fr fr' : Nat × Nat) (d d' : TypeDesc)
 (hp : tmps.getD p undef = .pointer (some ⟨g, 0, none⟩)) (hg : w.heap[g]? = some (.cells cs t fr)) (hu : P.underlying ty = some d) (hd : (match d with | .struct _ | .array _ _ => true | _ => false) = true) (hi : (P.info? ty).map (·.size) = some cs.size)
 (hp' : tmps.getD q undef = .pointer (some ⟨g', 0, none⟩)) (hg' : w.heap[g']? = some (.cells cs' t' fr')) (hu' : P.underlying ty' = some d') (hd' : (match d' with | .struct _ | .array _ _ => true | _ => false) = true) (hi' : (P.info? ty').map (·.size) = some cs'.size) :
 (results fn tmps).run P w = .ok (.tuple #[.agg cs, .agg cs', tmps.getD u undef]) w := by
 have e1 : tmps[p]?.getD undef = .pointer (some ⟨g, 0, none⟩) := by simpa using hp
 have e2 : tmps[q]?.getD undef = .pointer (some ⟨g', 0, none⟩) := by simpa using hp'
 simp [results, h, e1, e2, asAddr, run_loadVar_row w g t ty cs fr d hg hu hd hi, run_loadVar_row w g' t' ty' cs' fr' d' hg' hu' hd' hi']
end
theorem Keeps.ofBelow {a b : World} (h : Below a.heap.size a b) : Keeps (fun _ => False) a b := ⟨h.os, h.tape, h.output, h.size, fun k hk _ => h.block k hk⟩
theorem _root_.Go.RowKit.Below.toKeeps {a b : World} (h : Below a.heap.size a b) : Keeps (fun _ => False) a b := Keeps.ofBelow h
theorem Keeps.toBelow {a b : World} (h : Keeps (fun _ => False) a b) : Below a.heap.size a b := ⟨h.os, h.tape, h.output, h.size, fun k hk => h.block k hk (fun e => e)⟩
theorem Keeps.toFresh {S : Nat → Prop} {a b : World} (h : Keeps S a b) (hS : ∀ k, k < a.heap.size → ¬ S k) : Keeps (fun _ => False) a b := h.mono (fun k hk e => (hS k hk e).elim)
theorem qbc {S : Nat → Prop} {w w1 : World} (h : Keeps S w w1) (g : Nat) (cs : Array Value) (hg : g < w.heap.size → S g) : Keeps S w (w1.setRow g cs) :=
 h.trans (S' := fun k => k = g) ⟨rfl, rfl, rfl, by simp, fun k _ hk => setRow_other w1 g k cs hk⟩ (fun k hk e => by subst e; exact hg hk)
theorem heap_grown {w w' : World} {base n k g : Nat} {e t : TypeId} {v : Value} {xs : List Value} {c : Array Value} {fr : Nat × Nat} (hg : w.grownBy w' v.ownBlock) (hr : w.ownsRow base e k v n xs) (hb : w.heap[g]? = some (.cells c t fr)) (ht : e ≠ t) : w'.heap[g]? = some (.cells c t fr) :=
 (hg.block g (Array.getElem?_eq_some_iff.1 hb).1 (fun e' => by
   obtain ⟨cur, hc⟩ := qaj hr e'.symm
   exact qag hc hb ht rfl)).trans hb
theorem heap_below {a b : World} {g : Nat} {o : Obj} (h : Below a.heap.size a b) (hg : a.heap[g]? = some o) : b.heap[g]? = some o := (h.block g (Array.getElem?_eq_some_iff.1 hg).1).trans hg
theorem heap_alloc {a : World} {g : Nat} {o : Obj} (p : Obj) (hg : a.heap[g]? = some o) : (a.alloc p).heap[g]? = some o := (Below.heap_alloc a p g (Array.getElem?_eq_some_iff.1 hg).1).trans hg
theorem qap {a : World} {g : Nat} {o : Obj} (hg : a.heap[g]? = some o) : g < a.heap.size := (Array.getElem?_eq_some_iff.1 hg).1
theorem infoI : (Tryz.prog.info? 3).map (fun i => (i.zero, i.size, i.bytes)) = some (some (.int .i64 0), 1, 8) := by kernel_rfl
theorem infoMs : (Tryz.prog.info? 22).map (fun i => (i.zero, i.size, i.bytes)) = some (some (.slice none 0 0), 1, 24) := by kernel_rfl
theorem infoLs : (Tryz.prog.info? 95).map (fun i => (i.zero, i.size, i.bytes)) = some (some (.slice none 0 0), 1, 24) := by kernel_rfl
theorem infoIs : (Tryz.prog.info? 125).map (fun i => (i.zero, i.size, i.bytes)) = some (some (.slice none 0 0), 1, 24) := by kernel_rfl
theorem infoRc : (Tryz.prog.info? 127).map (fun i => (i.zero, i.size, i.bytes)) = some (some (.agg #[.slice none 0 0, .slice none 0 0]), 2, 48) := by kernel_rfl
theorem infoEn : (Tryz.prog.info? 229).map (fun i => (i.zero, i.size, i.bytes)) = some (some (.agg #[.string { data := #[] }, .string { data := #[] }, .slice none 0 0]), 3, 56) := by kernel_rfl
theorem elI : ElT Tryz.prog 125 3 1 17592186044416 := ⟨Tryz.underlying125, by obtain ⟨i, h1, h2, h3, h4⟩ := info_parts infoI; exact ⟨i, _, h1, h2, h3, by rw [h4]; decide, rfl⟩, by decide, by decide⟩
theorem elMs : ElT Tryz.prog 165 22 1 5864062014805 := ⟨Tryz.underlying165, by obtain ⟨i, h1, h2, h3, h4⟩ := info_parts infoMs; exact ⟨i, _, h1, h2, h3, by rw [h4]; decide, rfl⟩, by decide, by decide⟩
theorem elLs : ElT Tryz.prog 124 95 1 5864062014805 := ⟨Tryz.underlying124, by obtain ⟨i, h1, h2, h3, h4⟩ := info_parts infoLs; exact ⟨i, _, h1, h2, h3, by rw [h4]; decide, rfl⟩, by decide, by decide⟩
theorem elIs : ElT Tryz.prog 164 125 1 5864062014805 := ⟨Tryz.underlying164, by obtain ⟨i, h1, h2, h3, h4⟩ := info_parts infoIs; exact ⟨i, _, h1, h2, h3, by rw [h4]; decide, rfl⟩, by decide, by decide⟩
theorem elRc : ElT Tryz.prog 123 127 2 2932031007402 := ⟨Tryz.underlying123, by obtain ⟨i, h1, h2, h3, h4⟩ := info_parts infoRc; exact ⟨i, _, h1, h2, h3, by rw [h4]; decide, rfl⟩, by decide, by decide⟩
theorem elEn : ElT Tryz.prog 138 229 3 2513169434916 := ⟨Tryz.underlying138, by obtain ⟨i, h1, h2, h3, h4⟩ := info_parts infoEn; exact ⟨i, _, h1, h2, h3, by rw [h4]; decide, rfl⟩, by decide, by decide⟩
end
section
open Go.RowKit
section
variable {P : Program}
theorem appEIn {F : Fence} {n0 : Nat} {t e : TypeId} {k L : Nat} (E : ElT P t e k L) {w : World} {ops : Array Oper} {rest : List Oper} {o : Oper} {a : Act} {Q : Exit → Act → World → Prop} (hgd : o.guard = none) (s x : Operand)
 (ho : o.op = .call { callee := .builtin .append, args := #[s, x], argTypes := #[t, t] }) (B : Nat) (v y : Value) (n m : Nat) (xs ys : List Value) (hs : a.eval s = v) (hxe : a.eval x = y)
 (hown : w.ownsRow B e k v n xs) (hx : Rd k w y m ys) (h1 : ∀ u ∈ ys, u.oneCell' = true) (hn : n + m ≤ L) (hB : B ≤ w.heap.size)
 (h : ∀ v' w', w'.ownsRow B e k v' (n + m) (xs ++ ys) → w.grownBy w' v.ownBlock → (∀ g, v'.ownBlock = some g → v.ownBlock = some g ∨ w.heap.size ≤ g) → wpListIn F n0 P ops Q rest (a.put o.dst v') w') : wpListIn F n0 P ops Q (o :: rest) a w := by
 refine wpListIn_plain hgd fun K hK => ?_
 obtain ⟨v', w', hr, h2, h3, h4⟩ := run_append_E E w o.type B v y n m xs ys hown hx h1 hn hB
 unfold Oper.wpIn
 refine ⟨by simp [Oper.about, ho, resolve, Target.leads, Sem.run_pure], ?_⟩
 rw [Oper.semAt_plain F _ _ (by rw [ho]; intro c hc'; cases hc')]
 simp [execOp, ho, resolve, invoke, builtin, hs, hxe, hr, Result.andThen]
 exact hK _ _ (h v' w' h2 h3 h4)
end
end
section
set_option maxHeartbeats 1000000
set_option maxRecDepth 100000
open Go.RowKit
theorem vgo_step (i x c : Nat) (r : List Nat) (h9 : ¬ (i = 9 ∧ 1 < c)) (h0 : ¬ (c = 0 ∧ 0 < i)) (hc : ¬ c < 128) : vgo i x (c :: r) = vgo (i + 1) (x + c % 128 * 2 ^ (7 * i)) r := by
 rw [vgo, if_neg h9, if_neg h0, if_neg hc]
theorem vgo_over (x c : Nat) (r : List Nat) (h : 1 < c) : vgo 9 x (c :: r) = (0, 0, 6) := by rw [vgo, if_pos ⟨rfl, h⟩]
theorem vgo_min (i x : Nat) (r : List Nat) (h0 : 0 < i) : vgo i x (0 :: r) = (0, 0, 5) := by rw [vgo, if_neg (by omega), if_pos ⟨rfl, h0⟩]
theorem vgo_end (i x c : Nat) (r : List Nat) (h9 : ¬ (i = 9 ∧ 1 < c)) (h0 : ¬ (c = 0 ∧ 0 < i)) (hc : c < 128) : vgo i x (c :: r) = (x + c % 128 * 2 ^ (7 * i), i + 1, 0) := by
 rw [vgo, if_neg h9, if_neg h0, if_pos hc]
theorem vgo_acc (x i m : Nat) (c : Nat) (hx : x < 2 ^ (7 * i)) (hm : m = c % 128 * 2 ^ (7 * i)) (hb : x + m ≤ 18446744073709551615) : bits .or .u64 ((x : Nat) : Int) ((m : Nat) : Int) = ((x + m : Nat) : Int) := by
 rw [u64_or_nat _ _ (by omega) (by omega)]
 congr 1
 rw [Nat.or_comm, nat_join (7 * i) m x (by rw [hm]; simp) hx]
 omega
theorem vgo_bound (x i c : Nat) (hx : x < 2 ^ (7 * i)) (hi : i ≤ 9) (hc : i = 9 → c ≤ 1) : x + c % 128 * 2 ^ (7 * i) ≤ 18446744073709551615 ∧ (i < 9 → x + c % 128 * 2 ^ (7 * i) < 2 ^ (7 * (i + 1))) := by
 have h1 : c % 128 * 2 ^ (7 * i) ≤ 127 * 2 ^ (7 * i) := Nat.mul_le_mul_right _ (by omega)
 have h2 : (2 : Nat) ^ (7 * (i + 1)) = 128 * 2 ^ (7 * i) := by rw [show 7 * (i + 1) = 7 * i + 7 by omega, Nat.pow_add]; omega
 rcases Nat.lt_or_ge i 9 with h | h
 · have h3 : (2 : Nat) ^ (7 * (i + 1)) ≤ 2 ^ 63 := Nat.pow_le_pow_right (by decide) (by omega)
   constructor
   · omega
   · intro _; omega
 · obtain rfl : i = 9 := by omega
   have := hc rfl
   have h4 : c % 128 * 2 ^ (7 * 9) ≤ 1 * 2 ^ (7 * 9) := Nat.mul_le_mul_right _ (by omega)
   exact ⟨by omega, fun h => by omega⟩
def vres (at_ : Nat) (r : Nat × Nat × Nat) : Ending := .returned (.tuple #[.int .u64 ((r.1 : Nat) : Int), .int .i64 (((if r.2.2 = 0 then at_ + r.2.1 else 0 : Nat)) : Int), .int .i64 ((r.2.2 : Nat) : Int)])
theorem vget_any (v : Value) (l : List Nat) (j : Nat) (w : World) (h : Holds w v (u8s l)) (hb : ∀ c ∈ l, c < 256) (hj : j ≤ l.length) (hl : l.length ≤ 140737488351232) :
 Calls Tryz.prog 132 #[v, .int .i64 j] w fun e w' => e = vres j (vgo 0 0 (l.drop j)) ∧ w = w' := by
 obtain ⟨i0, hi, hz0, hz1, hz2⟩ := info_parts infoU8
 obtain ⟨ad, cap, rfl, hc, hcells⟩ := h
 rw [qac] at hc
 obtain ⟨a2, cap2, hsl, hh2, _⟩ := run_from (P := Tryz.prog) w 29 5 Tryz.underlying29 hi hz1 (⟨ad, cap, rfl, by rw [qac]; exact hc, hcells⟩ : Holds w (.slice ad (u8s l).length cap) (u8s l)) .i64 j (by rw [qac]; exact hj)
 rw [qac] at hsl hh2 ⊢
 have hd : (u8s l).drop j = u8s (l.drop j) := by simp [u8s]
 rw [hd] at hh2
 have hbd : ∀ c ∈ l.drop j, c < 256 := fun c hc => hb c (List.mem_of_mem_drop hc)
 have hll : (l.drop j).length = l.length - j := by simp
 generalize hm : l.drop j = m at *
 rw [← hll] at hsl hh2
 have HH := Hj hh2; have HB := Hj hbd; have HM := Hj hll
 have hj1 : ¬ (l.length : Int) < j := by omega
 clear hcells hd hbd hll hm hb hh2
 go_enter Tryz.func132, Tryz.ntmps132
 go_wp2
 go_loop [7, 22] (fun x c => ∃ k x' : Nat, k ≤ 9 ∧ k ≤ m.length ∧ x' < 2 ^ (7 * k) ∧ c = .int .i64 k ∧ x = .int .u64 (x' : Nat) ∧ vgo k x' (m.drop k) = vgo 0 0 m) (fun _ c => m.length - (intOf c).toNat)
 case atStart => exact ⟨0, 0, by omega, by omega, by omega, rfl, rfl, rfl⟩
 case round =>
  obtain ⟨k, x, hk9, hk, hx, rfl, rfl, hv⟩ := hrel
  by_cases hlt : k < m.length
  · obtain ⟨c, hck⟩ : ∃ c, m[k]? = some c := ⟨m[k], by simp [hlt]⟩
    obtain ⟨b, off, cap3, hv3, hcell⟩ := HH.out.index (j := k) (u := .int .u8 (c : Nat)) (u8s_get hck)
    simp only [Value.slice.injEq] at hv3
    obtain ⟨rfl, _, rfl⟩ := hv3
    have hdk : m.drop k = c :: m.drop (k + 1) := by rw [List.drop_eq_getElem_cons hlt]; congr 1; rw [List.getElem?_eq_getElem hlt] at hck; simpa using hck
    have hc256 : c < 256 := HB.out c (List.mem_of_getElem? hck)
    rw [hdk] at hv
    have HV := Hj hv
    clear hv hdk hck
    by_cases h9 : k = 9 ∧ 1 < c
    · obtain ⟨rfl, h1c⟩ := h9
      rw [vgo_over x c _ h1c] at HV
      have hcg : (1 : Int) < c := by omega
      go_wp2
      go_ret3
      exact ⟨by rw [← HV.out]; rfl, rfl⟩
    · by_cases h0 : c = 0 ∧ 0 < k
      · obtain ⟨rfl, h0k⟩ := h0
        rw [vgo_min k x _ h0k] at HV
        have h0k' : (0 : Int) < k := by omega
        have h9' : ¬ ((k : Int) == 9) = true ∨ ¬ (1 : Int) < 0 := by omega
        clear h9'
        by_cases hk' : k = 9
        · subst hk'
          go_wp2
          go_ret3
          exact ⟨by rw [← HV.out]; rfl, rfl⟩
        · have hkb : ((k : Int) == 9) = false := by simp; omega
          go_wp2
          go_ret3
          exact ⟨by rw [← HV.out]; rfl, rfl⟩
      · obtain ⟨hb1, hb2⟩ := vgo_bound x k c hx hk9 (fun e => by omega)
        obtain ⟨s, hs⟩ : ∃ s, s = c % 128 := ⟨_, rfl⟩
        obtain ⟨z, hz⟩ : ∃ z, z = c % 128 * 2 ^ (7 * k) := ⟨_, rfl⟩
        have hor := vgo_acc x k z c hx hz (by rw [hz]; exact hb1)
        have hs1 : (c : Int) % 128 = s := by omega
        have hs2 : (c : Int).tmod 128 = s := by rw [Int.tmod_eq_emod_of_nonneg (by omega)]; omega
        have hw7 : IntKind.i64.wrap (7 * (k : Int)) = 7 * k := IntWalk.i64_in _ (by omega)
        obtain ⟨q, hq⟩ : ∃ q, q = 7 * k := ⟨_, rfl⟩
        have hq1 : 7 * (k : Int) = q := by omega
        have hq2 : IntKind.i64.wrap (q : Int) = q := qbk _ (by omega)
        have hq64 : q ≤ 63 := by omega
        have hzz : IntKind.u64.wrap ((s : Int) * 2 ^ q) = z := by
         have e : ((s : Int) * 2 ^ q) = ((s * 2 ^ q : Nat) : Int) := by simp
         rw [e, hs, hq, ← hz]
         exact IntWalk.u64_in _ (by omega)
        have hjk : IntKind.i64.wrap ((j : Int) + k) = j + k := IntWalk.i64_in _ (by have := HM.out; omega)
        have hjk1 : IntKind.i64.wrap ((j : Int) + k + 1) = j + k + 1 := IntWalk.i64_in _ (by have := HM.out; omega)
        have hs128 : s < 128 := by omega
        have Hs := Hj hs; have Hz := Hj hz; have Hq := Hj hq; have Hb1 := Hj hb1; have Hb2 := Hj hb2; have Hx := Hj hx
        clear hs hz hq hb1 hb2 hx
        have hcases : ((((k : Int) == 9) = true ∧ ¬ (1 : Int) < c ∧ ((c : Int) == 0) = false)) ∨ (((k : Int) == 9) = false ∧ ((c : Int) == 0) = false) ∨ (((k : Int) == 9) = false ∧ ((c : Int) == 0) = true ∧ ¬ (0 : Int) < k) := by
         simp only [beq_iff_eq, beq_eq_false_iff_ne, ne_eq]
         omega
        by_cases hc128 : c < 128
        · have hend := vgo_end k x c (m.drop (k + 1)) h9 h0 hc128
          rw [← Hz.out] at hend
          have HE := Hj (HV.out.symm.trans hend)
          have hcg : (c : Int) < 128 := by omega
          clear hend h9 h0
          rcases hcases with ⟨hk1, hc1, hc2⟩ | ⟨hk1, hc2⟩ | ⟨hk1, hc2, hk2⟩
          all_goals
           go_wp2
           go_ret3
           refine ⟨?_, rfl⟩
           rw [HE.out]
           simp only [vres, if_true]
           congr 4
        · have hstep := vgo_step k x c (m.drop (k + 1)) h9 h0 hc128
          rw [← Hz.out] at hstep
          have HE := Hj (hstep.symm.trans HV.out)
          have hcg : ¬ (c : Int) < 128 := by omega
          have hk8 : k < 9 := by omega
          clear hstep h9 h0
          rcases hcases with ⟨hk1, hc1, hc2⟩ | ⟨hk1, hc2⟩ | ⟨hk1, hc2, hk2⟩
          · exact absurd (by simpa using hk1 : (k : Int) = 9) (by omega)
          · go_wp2
            refine ⟨⟨k + 1, x + z, by omega, by omega, by rw [Hz.out]; exact Hb2.out hk8, by go_num, by go_num, HE.out⟩, by simp [intOf]; omega⟩
          · exact absurd (by simpa using hc2 : (c : Int) = 0) (by omega)
  · have hke : k = m.length := by omega
    have hv0 : vgo 0 0 m = (0, 0, 3) := by rw [← hv, hke, List.drop_length]; rfl
    have HV0 := Hj hv0
    clear hv hv0 hke
    go_wp2
    go_ret3
    exact ⟨by rw [HV0.out]; rfl, rfl⟩
end
section
open Go.RowKit
section
variable {P : Program} {ops : Array Oper} {Q : Exit → Act → World → Prop}
theorem yields_row {S : World → Prop} {o : Oper} {a : Act} (hgd : o.guard = none) (ty : TypeId) (x : Operand) (ho : o.op = .load ty x) (g : Nat) (hx : a.eval x = .pointer (some ⟨g, 0, none⟩)) (t : TypeId) (cs : Array Value) (fr : Nat × Nat) (d : TypeDesc)
 (hg : ∀ w, S w → w.heap[g]? = some (.cells cs t fr)) (hu : P.underlying ty = some d) (hd : (match d with | .struct _ | .array _ _ => true | _ => false) = true) (hi : (P.info? ty).map (·.size) = some cs.size) : YieldsIf P ops S o (.agg cs) a := by
 refine .inl ⟨by simp [Region.wanted, hgd], fun w hS => ?_⟩
 unfold execOp
 simp only [ho, hx, Instr.loadAt, Instr.sureAddr, Sem.run_bind, Sem.run_pure, Result.andThen_ok, run_loadVar_row w g t ty cs fr d (hg w hS) hu hd hi]
theorem yields_assign {S : World → Prop} {o : Oper} {a : Act} (hgd : o.guard = none) (x : Operand) (ho : o.op = .assign x) : YieldsIf P ops S o (a.eval x) a := by
 refine .inl ⟨by simp [Region.wanted, hgd], fun w hS => ?_⟩
 unfold execOp
 simp only [ho, Sem.run_pure]
theorem store_step {o : Oper} {a : Act} {w : World} {K : Act → World → Prop} (hgd : o.guard = none) (ty : TypeId) (x y : Operand) (ho : o.op = .store ty x y) (hd : o.dst = none)
 (g : Nat) (cells : Array Value) (hx : a.eval x = .pointer (some ⟨g, 0, none⟩)) (hy : a.eval y = .agg cells)
 (t : TypeId) (old : Array Value) (hg : w.heap[g]? = some (.cells old t (0, 0))) (hi : (P.info? ty).map (·.size) = some cells.size)
 (hold : old.size = cells.size) (h1 : cells.all (·.oneCell') = true)
 (h : K a (w.setRow g cells)) : if Region.wanted o (yielded ops a.tmps) = true then Oper.wp P o a w K Q else K (a.put o.dst undef) w := by
 rw [if_pos (by simp [Region.wanted, hgd])]
 exact wp_store_row ty x y ho g cells hx hy t old hg hi hold h1 (by rw [hd]; exact h)
theorem wp_two_rows {id : Nat} {a : Act} {w : World} (hm : P.follows .mixedOrders = true) (hQ : ∀ d v c a w, Q (.panic c) (Act.put a d v) w → Q (.panic c) a w)
 (o0 o1 o2 o3 o4 : Oper) (h0 : ops[0]? = some o0) (h1 : ops[1]? = some o1) (h2 : ops[2]? = some o2) (h3 : ops[3]? = some o3) (h4 : ops[4]? = some o4) (hz : ops.size = 5) (hs : Region.noSelect ops = true)
 (f0 : Region.free .any ops #[false, false, false, false, false] 0 = true) (r0 : (Region.ready .any ops #[false, false, false, false, false]).contains 0 = true)
 (f1 : Region.free .any ops #[true, false, false, false, false] 1 = true) (r1 : (Region.ready .any ops #[true, false, false, false, false]).contains 1 = true)
 (r2 : Region.ready .any ops #[true, true, false, false, false] = [2]) (r3 : Region.ready .any ops #[true, true, true, false, false] = [3])
 (f4 : Region.free .any ops #[true, true, true, true, false] 4 = true) (r4 : (Region.ready .any ops #[true, true, true, true, false]).contains 4 = true) (rn : Region.ready .any ops #[true, true, true, true, true] = [])
 (g0 : o0.guard = none) (g1 : o1.guard = none) (g2 : o2.guard = none) (g3 : o3.guard = none) (g4 : o4.guard = none)
 (ty ty' : TypeId) (x0 x1 x2 y2 x3 y3 x4 : Operand) (p0 : o0.op = .load ty x0) (p1 : o1.op = .load ty' x1) (p2 : o2.op = .store ty x2 y2) (p3 : o3.op = .store ty' x3 y3) (p4 : o4.op = .assign x4) (d2 : o2.dst = none) (d3 : o3.dst = none)
 (b0 b1 b2 b3 : Nat) (cs cs' old old' : Array Value) (t t' t2 t3 : TypeId) (fr fr' : Nat × Nat) (d d' : TypeDesc)
 (e0 : a.eval x0 = .pointer (some ⟨b0, 0, none⟩)) (e1 : (a.put o0.dst (.agg cs)).eval x1 = .pointer (some ⟨b1, 0, none⟩))
 (hb0 : w.heap[b0]? = some (.cells cs t fr)) (hb1 : w.heap[b1]? = some (.cells cs' t' fr')) (hb2 : w.heap[b2]? = some (.cells old t2 (0, 0))) (hb3 : w.heap[b3]? = some (.cells old' t3 (0, 0)))
 (hu : P.underlying ty = some d) (hd : (match d with | .struct _ | .array _ _ => true | _ => false) = true) (hi : (P.info? ty).map (·.size) = some cs.size)
 (hu' : P.underlying ty' = some d') (hd' : (match d' with | .struct _ | .array _ _ => true | _ => false) = true) (hi' : (P.info? ty').map (·.size) = some cs'.size)
 (A : Act) (hA : A = (a.put o0.dst (.agg cs)).put o1.dst (.agg cs'))
 (e2 : A.eval x2 = .pointer (some ⟨b2, 0, none⟩)) (v2 : A.eval y2 = .agg cs) (e3 : A.eval x3 = .pointer (some ⟨b3, 0, none⟩)) (v3 : A.eval y3 = .agg cs')
 (B : Act) (hB : B = A.put o4.dst (A.eval x4)) (e2' : B.eval x2 = .pointer (some ⟨b2, 0, none⟩)) (e3' : B.eval x3 = .pointer (some ⟨b3, 0, none⟩)) (u : Nat) (vu : Value) (hu4 : B.eval (.tmp u) = vu) (hde : B.defers = [])
 (ho : old.size = cs.size) (ho' : old'.size = cs'.size) (hc : cs.all (·.oneCell') = true) (hc' : cs'.all (·.oneCell') = true)
 (n20 : b2 ≠ b0) (n21 : b2 ≠ b1) (n30 : b3 ≠ b0) (n31 : b3 ≠ b1) (n23 : b2 ≠ b3)
 (h : ∀ B W, B.eval x2 = .pointer (some ⟨b2, 0, none⟩) → B.eval x3 = .pointer (some ⟨b3, 0, none⟩) → B.eval (.tmp u) = vu → B.defers = [] → W.heap[b2]? = some (.cells cs t2 (0, 0)) → W.heap[b3]? = some (.cells cs' t3 (0, 0)) → Keeps (fun k => k = b2 ∨ k = b3) w W → Q .normal B W) : (Code.region id ops true).wp P Q a w := by
 have hk0 : Keeps (fun k => k = b2 ∨ k = b3) w w.drew := (Keeps.refl _ w).drew
 have n32 : b3 ≠ b2 := fun e => n23 e.symm
 refine wp_region_held_drew (S := fun q => q.heap[b0]? = some (.cells cs t fr) ∧ q.heap[b1]? = some (.cells cs' t' fr')) hm ⟨hb0, hb1⟩ (fun hS => ?_)
 rw [hz, show Array.replicate 5 false = #[false, false, false, false, false] from rfl]
 refine wpAnyH_take (v := .agg cs) h0 hs f0 r0 (hQ _ _) (yields_row g0 ty x0 p0 b0 e0 t cs fr d (fun _ h => h.1) hu hd hi) hS ?_
 refine wpAnyH_take (v := .agg cs') h1 hs f1 r1 (hQ _ _) (yields_row g1 ty' x1 p1 b1 e1 t' cs' fr' d' (fun _ h => h.2) hu' hd' hi') hS ?_
 rw [← hA]
 refine wpAnyH_ready r2 (by simp) (AllReadyH.cons h2 (fun K hK => ?_) AllReadyH.nil)
 refine store_step g2 ty x2 y2 p2 d2 b2 cs e2 v2 t2 old hb2 hi ho hc ?_
 have kS : (w.drew.setRow b2 cs).heap[b0]? = some (.cells cs t fr) ∧ (w.drew.setRow b2 cs).heap[b1]? = some (.cells cs' t' fr') := ⟨(setRow_other _ _ _ _ (Ne.symm n20)).trans hb0, (setRow_other _ _ _ _ (Ne.symm n21)).trans hb1⟩
 refine hK.out _ _ kS (fun _ => ?_)
 refine wpAnyH_ready r3 (by simp) (AllReadyH.cons h3 (fun K hK => ?_) AllReadyH.nil)
 refine store_step g3 ty' x3 y3 p3 d3 b3 cs' e3 v3 t3 old' ((setRow_other _ _ _ _ n32).trans hb3) hi' ho' hc' ?_
 have kS2 : ((w.drew.setRow b2 cs).setRow b3 cs').heap[b0]? = some (.cells cs t fr) ∧ ((w.drew.setRow b2 cs).setRow b3 cs').heap[b1]? = some (.cells cs' t' fr') := ⟨(setRow_other _ _ _ _ (Ne.symm n30)).trans kS.1, (setRow_other _ _ _ _ (Ne.symm n31)).trans kS.2⟩
 refine hK.out _ _ kS2 (fun _ => ?_)
 refine wpAnyH_take h4 hs f4 r4 (hQ _ _) (yields_assign g4 x4 p4) kS2 ?_
 rw [← hB]
 refine wpAnyH_done rn (h B _ e2' e3' hu4 hde ?_ ?_ ?_) _
 · exact (setRow_other _ _ _ _ n23).trans (setRow_heap _ _ _ _ _ _ hb2)
 · exact setRow_heap _ _ _ _ _ _ ((setRow_other _ _ _ _ n32).trans hb3)
 · exact qbc (qbc hk0 _ _ (fun _ => .inl rfl)) _ _ (fun _ => .inr rfl)
end
end
section
open Go.RowKit
section
variable {P : Program} {ops : Array Oper} {Q : Exit → Act → World → Prop}
theorem wpList_value {rest : List Oper} {o : Oper} {a : Act} {w : World} (hgd : o.guard = none) (v : Value) (hv : (execOp a.eval o).run P w = .ok (.value v) w) (h : wpList P ops Q rest (a.put o.dst v) w) : wpList P ops Q (o :: rest) a w :=
 wpList_plain hgd fun _ hK => by
  unfold Oper.wp
  rw [hv]
  exact hK _ _ h
theorem wp_two_zero {id : Nat} {a : Act} {w : World} (o0 o1 o2 o3 o4 o5 : Oper) (g0 : o0.guard = none) (g1 : o1.guard = none) (g2 : o2.guard = none) (g3 : o3.guard = none) (g4 : o4.guard = none) (g5 : o5.guard = none)
 (ty ty' : TypeId) (x2 x3 y3 x4 y4 x5 : Operand) (z z' : Array Value) (p0 : o0.op = .build ty #[]) (hz : P.built ty [] = some z) (p1 : o1.op = .build ty' #[]) (hz' : P.built ty' [] = some z') (p2 : o2.op = .move x2) (p3 : o3.op = .store ty x3 y3) (d3 : o3.dst = none) (p4 : o4.op = .store ty' x4 y4) (d4 : o4.dst = none) (p5 : o5.op = .assign x5)
 (b3 b4 : Nat) (old old' : Array Value) (t t' : TypeId) (hb3 : w.heap[b3]? = some (.cells old t (0, 0))) (hb4 : w.heap[b4]? = some (.cells old' t' (0, 0))) (n34 : b3 ≠ b4)
 (hi : (P.info? ty).map (·.size) = some z.size) (hi' : (P.info? ty').map (·.size) = some z'.size) (ho : old.size = z.size) (ho' : old'.size = z'.size) (hc : z.all (·.oneCell') = true) (hc' : z'.all (·.oneCell') = true)
 (A : Act) (hA : A = ((a.put o0.dst (.agg z)).put o1.dst (.agg z')).put o2.dst (((a.put o0.dst (.agg z)).put o1.dst (.agg z')).eval x2))
 (e3 : A.eval x3 = .pointer (some ⟨b3, 0, none⟩)) (v3 : A.eval y3 = .agg z) (e4 : A.eval x4 = .pointer (some ⟨b4, 0, none⟩)) (v4 : A.eval y4 = .agg z')
 (B : Act) (hB : B = A.put o5.dst (A.eval x5)) (e3' : B.eval x3 = .pointer (some ⟨b3, 0, none⟩)) (e4' : B.eval x4 = .pointer (some ⟨b4, 0, none⟩)) (u : Nat) (vu : Value) (hu : B.eval (.tmp u) = vu) (hde : B.defers = [])
 (h : ∀ B W, B.eval x3 = .pointer (some ⟨b3, 0, none⟩) → B.eval x4 = .pointer (some ⟨b4, 0, none⟩) → B.eval (.tmp u) = vu → B.defers = [] → W.heap[b3]? = some (.cells z t (0, 0)) → W.heap[b4]? = some (.cells z' t' (0, 0)) → Keeps (fun k => k = b3 ∨ k = b4) w W → Q .normal B W) :
 (Code.region id [o0, o1, o2, o3, o4, o5].toArray false).wp P Q a w := by
 have n43 : b4 ≠ b3 := fun e => n34 e.symm
 refine wp_region_lit ?_
 refine wpList_build g0 ty #[] p0 (by simp [hz]) ?_
 simp only [List.map_toArray, List.map_nil, hz, Option.getD_some]
 refine wpList_build g1 ty' #[] p1 (by simp [hz']) ?_
 simp only [List.map_toArray, List.map_nil, hz', Option.getD_some]
 refine wpList_value g2 _ (by unfold execOp; simp only [p2, Sem.run_pure]; rfl) ?_
 rw [← hA]
 refine wpList_store_row g3 ty x3 y3 p3 b3 z e3 v3 t old hb3 hi ho hc ?_
 rw [d3]
 refine wpList_store_row g4 ty' x4 y4 p4 b4 z' e4 v4 t' old' ((setRow_other _ _ _ _ n43).trans hb4) hi' ho' hc' ?_
 rw [d4]
 refine wpList_value g5 _ (by unfold execOp; simp only [p5, Sem.run_pure]; rfl) ?_
 refine wpList_nil ?_
 refine h _ _ ?_ ?_ ?_ ?_ ((setRow_other _ _ _ _ n34).trans (setRow_heap _ _ _ _ _ _ hb3)) (setRow_heap _ _ _ _ _ _ ((setRow_other _ _ _ _ n43).trans hb4)) (qbc (qbc (Keeps.refl _ _) _ _ (fun _ => .inl rfl)) _ _ (fun _ => .inr rfl))
 · exact hB ▸ e3'
 · exact hB ▸ e4'
 · exact hB ▸ hu
 · exact hB ▸ hde
end
end
section
open Go.RowKit
section
variable {H : Type} {enc : TypeId × Value → H} {P : Program} {w : World} {base : Nat} {sp : Nat → Bool} {held : Bool} {fuel : Nat}
theorem int_at {cs : List Value} {o c : Nat} {k : IntKind} {z : Int} {t : TypeId} {y : DataW H × List MemPlace} (ht : P.underlying t = some (.int k))
 (h : DataW.trod enc P w base sp held fuel t ((cs.drop o).take c) = some y) (h1 : c = 1) (hy : y.1 = .lit (.int k z)) : cs[o]? = some (.int k z) := by
 subst h1
 obtain ⟨n, hc, hx, _⟩ := DataW.trod_int ht h
 subst hx
 simp only [DataW.lit.injEq, Lit.int.injEq, true_and] at hy
 subst hy
 have := congrArg (·[0]?) hc
 simpa [List.getElem?_take, List.getElem?_drop] using this
end
theorem cells_form : Tryz.prog.cellsOf 109 = 3 := by kernel_rfl
theorem cells_forms : Tryz.prog.cellsOf 110 = 15 := by kernel_rfl
theorem cells_u64 : Tryz.prog.cellsOf 23 = 1 := by kernel_rfl
theorem cells_int : Tryz.prog.cellsOf 3 = 1 := by kernel_rfl
theorem form_at {H : Type} {enc : TypeId × Value → H} {w : World} {base : Nat} {sp : Nat → Bool} {held : Bool} {fuel : Nat} {cs : List Value} {o : Nat} {a b c : Int} {y : DataW H × List MemPlace}
 (h : DataW.trod enc Tryz.prog w base sp held fuel 109 ((cs.drop o).take 3) = some y) (hy : y.1 = .agg [.lit (.int .u64 a), .lit (.int .i64 b), .lit (.int .i64 c)]) :
 cs[o]? = some (.int .u64 a) ∧ cs[o + 1]? = some (.int .i64 b) ∧ cs[o + 2]? = some (.int .i64 c) := by
 obtain ⟨xs, n, rfl, rfl, hl, hlen, hf⟩ := DataW.trod_struct Tryz.underlying109 h
 match xs, hlen with
 | [y0, y1, y2], _ =>
   simp only [List.map_cons, List.map_nil, DataW.agg.injEq, List.cons.injEq, and_true] at hy
   obtain ⟨e0, e1, e2⟩ := hy
   have c0 := int_at (cs := (cs.drop o).take 3) (o := 0) Tryz.underlying23 (hf 0 _ rfl) cells_u64 e0
   have c1 := int_at (cs := (cs.drop o).take 3) (o := 1) Tryz.underlying3 (hf 1 _ rfl) cells_int e1
   have c2 := int_at (cs := (cs.drop o).take 3) (o := 2) Tryz.underlying3 (hf 2 _ rfl) cells_int e2
   simp only [List.getElem?_take, List.getElem?_drop] at c0 c1 c2
   exact ⟨by simpa using c0, by simpa using c1, by simpa using c2⟩
theorem forms_cells {H : Type} {enc : TypeId × Value → H} {w : World} {base : Nat} {sp : Nat → Bool} {held : Bool} {fuel : Nat} {cs : List Value} {p : List MemPlace}
 (h : DataW.trod enc Tryz.prog w base sp held fuel 110 cs = some (Rows.laid_tsblock_times_forms, p)) : cs = formCells.toList := by
 obtain ⟨xs, m, rfl, hx, hl, hlen, hf⟩ := DataW.trod_array Tryz.underlying110 h
 rw [cells_forms] at hl
 match xs, hlen with
 | [y0, y1, y2, y3, y4], _ =>
   simp only [Rows.laid_tsblock_times_forms, Prod.mk.injEq, DataW.agg.injEq, List.map_cons, List.map_nil, List.cons.injEq, and_true] at hx
   obtain ⟨⟨e0, e1, e2, e3, e4⟩, _⟩ := hx
   simp only [cells_form] at hf
   have f0 := form_at (cs := cs) (hf 0 (by decide)) e0.symm
   have f1 := form_at (cs := cs) (hf 1 (by decide)) e1.symm
   have f2 := form_at (cs := cs) (hf 2 (by decide)) e2.symm
   have f3 := form_at (cs := cs) (hf 3 (by decide)) e3.symm
   have f4 := form_at (cs := cs) (hf 4 (by decide)) e4.symm
   apply List.ext_getElem?
   intro i
   by_cases hi : i < 15
   · have hc : i = 0 ∨ i = 1 ∨ i = 2 ∨ i = 3 ∨ i = 4 ∨ i = 5 ∨ i = 6 ∨ i = 7 ∨ i = 8 ∨ i = 9 ∨ i = 10 ∨ i = 11 ∨ i = 12 ∨ i = 13 ∨ i = 14 := by omega
     rcases hc with rfl | rfl | rfl | rfl | rfl | rfl | rfl | rfl | rfl | rfl | rfl | rfl | rfl | rfl | rfl
     · exact f0.1
     · exact f0.2.1
     · exact f0.2.2
     · exact f1.1
     · exact f1.2.1
     · exact f1.2.2
     · exact f2.1
     · exact f2.2.1
     · exact f2.2.2
     · exact f3.1
     · exact f3.2.1
     · exact f3.2.2
     · exact f4.1
     · exact f4.2.1
     · exact f4.2.2
   · rw [List.getElem?_eq_none (by omega), List.getElem?_eq_none (by simp [formCells]; omega)]
theorem gForms : Tryz.prog.globalNamed "tsblock/times.forms" = some 0 := by kernel_rfl
theorem gFormsType : (Tryz.prog.globals[(0 : Nat)]?).map (·.type) = some 110 := by kernel_rfl
end
end Go.Proofs.YtfpcgcbehdogjaaGreatDoor
