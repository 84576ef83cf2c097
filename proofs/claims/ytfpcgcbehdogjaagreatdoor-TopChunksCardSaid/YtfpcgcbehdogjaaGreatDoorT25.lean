/-
  Lemmas on which LTopChunks rests, packed out of the texts XRdB XPsD XSyD; each for all arguments under the hypotheses it names.
-/
import Derived.Test.YtfpcgcbehdogjaaGreatDoorT23
namespace Go.Proofs.YtfpcgcbehdogjaaGreatDoor
section
set_option maxHeartbeats 4000000
set_option maxRecDepth 100000
open Go.RowKit
theorem rd_next (w : World) (o : Obj) (k m : Nat) (cs : List Value) (te : TypeId) (c : Nat) (hl : cs.length = m * k) (hc : m ≤ c) : Rd k ((w.alloc o).alloc (.cells cs.toArray te)) (.slice (some ⟨w.heap.size + 1, 0, none⟩) m c) m cs := by
 have h := rd_new (w.alloc o) k m cs te c hl hc
 rwa [World.size_alloc] at h
theorem listI_one {q p : Nat} {tv v : Value} {l : List Nat} {i j k j2 : Nat} {w : World} (hq : RRd w q p tv l.length) (h : IsRd w p v l i 0) (hr : rdUint l i 0 18446744073709551615 = (1, j, 0)) (hn : 1 ≤ l.length - j) (hl : l.length ≤ 1000000000) (hr2 : rdUint l j 0 18446744073709551615 = (k, j2, 0)) (h1 : 1 ≤ k) (h2 : k ≤ 2147483647) :
 Calls Tryz.prog 185 #[.pointer (some ⟨q, 0, none⟩), .func (.func 186) #[.pointer (some ⟨q, 0, none⟩)] #[]] w fun e w' => ∃ v', e = .returned v' ∧ w'.ownsRow w.heap.size 3 1 v' 1 [.int .i64 (k : Int)] ∧ IsRd w' p v l j2 0 ∧ Keeps (fun k => k = p) w w' := by
 have hne := hq.ne h
 have hlt := h.lt
 have HC := Hj (rcount_ok hq h hr hn hl)
 have HQ := Hj hq; have HR2 := Hj hr2
 clear h hr hq hr2
 go_enter Tryz.func185, Tryz.ntmps185
 go_wp2_with (go_at_call 182; refine HC.out.mono ?_; rintro e w1 ⟨rfl, hi1, hk1⟩)
 have HI1 := Hj hi1; have HK1 := Hj hk1
 clear hi1 hk1 HC
 go_loopw [5, 9] (fun c i wr => (c = .slice none 0 0 ∧ i = .int .i64 0 ∧ wr = w1) ∨ (i = .int .i64 1 ∧ Hid (wr.ownsRow w.heap.size 3 1 c 1 [.int .i64 (k : Int)]) ∧ Hid (IsRd wr p v l j2 0) ∧ Hid (Keeps (fun k => k = p) w wr))) (fun _ i _ => 1 - (intOf i).toNat)
 case atStart => exact .inl ⟨rfl, rfl, rfl⟩
 case round =>
  rcases hrel with ⟨rfl, rfl, hwr⟩ | ⟨rfl, HO, HI, HK⟩
  · obtain rfl := hwr.symm
    have HQ1 := Hj (HQ.out.keeps HK1.out hne)
    have HL := Hj (rlength_ok HQ1.out HI1.out HR2.out h1 h2)
    go_wp2_with (first
     | (go_at_call 186
        refine HL.out.mono ?_
        rintro e w2 ⟨rfl, hi2, hk2⟩
        have c2 := (HQ1.out.keeps hk2 hne).c0
        have her := qch hi2
        have HI2 := Hj hi2; have HK2 := Hj hk2
        clear hi2 hk2)
     | (go_at_call 134; refine her.mono ?_; rintro e w3 ⟨rfl, rfl⟩)
     | (at_builtin
        refine appE elI rfl _ _ rfl w.heap.size _ _ 0 1 [] [.int .i64 (k : Int)] rfl rfl (World.ownsRow_nil _ _ _ _) (rd_new _ 1 1 [.int .i64 (k : Int)] 3 1 rfl (Nat.le_refl _)) (by simp [Value.oneCell']) (by omega) (by have := HK1.out.size; have := HK2.out.size; simp; omega) ?_
        intro v6 w6 hown6 hg6' hn6
        have hg6 : (w3.alloc (.cells #[.int .i64 (k : Int)] 3)).grownBy w6 none := hg6'
        have HO6 := Hj hown6; have HG6 := Hj hg6
        clear hown6 hg6' hg6 hn6))
    have k6 : Keeps (fun _ => False) w3 w6 := ((Keeps.refl (fun _ => False) w3).alloc _).grown HG6.out (fun k hk e => by cases e)
    exact ⟨.inr ⟨rfl, HO6, Hj (HI2.out.keep k6), Hj ((HK1.out.trans HK2.out (fun _ _ e => e)).trans k6 (fun _ _ e => e.elim))⟩, by simp [intOf]⟩
  · obtain ⟨a9, c9, rfl⟩ := qaf HO.out
    go_wp2_with fail
    go_ret
    exact ⟨_, rfl, HO.out, HI.out, HK.out⟩
theorem listL_one {q p : Nat} {ta : Option Addr} {tc : Nat} {v : Value} {l : List Nat} {tb : List ByteArray} {i j k j2 k2 j3 : Nat} {s s2 : ByteArray} {w : World} (hq : RRd w q p (.slice ta tb.length tc) l.length) (h : IsRd w p v l i 0) (hT : RdT w (.slice ta tb.length tc) tb) (hTp : ∀ g, (Value.slice ta tb.length tc).ownBlock = some g → g ≠ p) (hr : rdUint l i 0 18446744073709551615 = (1, j, 0)) (hn : 1 ≤ l.length - j) (hl : l.length ≤ 1000000000)
 (hr2 : rdUint l j 0 18446744073709551615 = (k, j2, 0)) (hs : tb[k]? = some s) (hr3 : rdUint l j2 0 18446744073709551615 = (k2, j3, 0)) (hs2 : tb[k2]? = some s2) (htl : tb.length ≤ 1000000000) :
 Calls Tryz.prog 183 #[.pointer (some ⟨q, 0, none⟩), .func (.func 184) #[.pointer (some ⟨q, 0, none⟩)] #[]] w fun e w' => ∃ v', e = .returned v' ∧ w'.ownsRow w.heap.size 94 2 v' 1 [.string s, .string s2] ∧ IsRd w' p v l j3 0 ∧ Keeps (fun k => k = p) w w' := by
 have hne := hq.ne h
 have hlt := h.lt
 have HC := Hj (rcount_ok hq h hr hn hl)
 have HQ := Hj hq; have HR2 := Hj hr2; have HR3 := Hj hr3; have HT := Hj hT; have HTP := Hj hTp; have HS := Hj hs; have HS2 := Hj hs2
 clear h hr hq hr2 hr3 hT hTp hs hs2
 go_enter Tryz.func183, Tryz.ntmps183
 go_wp2_with (go_at_call 182; refine HC.out.mono ?_; rintro e w1 ⟨rfl, hi1, hk1⟩)
 have HI1 := Hj hi1; have HK1 := Hj hk1
 clear hi1 hk1 HC
 go_loopw [5, 9] (fun c i wr => (c = .slice none 0 0 ∧ i = .int .i64 0 ∧ wr = w1) ∨ (i = .int .i64 1 ∧ Hid (wr.ownsRow w.heap.size 94 2 c 1 [.string s, .string s2]) ∧ Hid (IsRd wr p v l j3 0) ∧ Hid (Keeps (fun k => k = p) w wr))) (fun _ i _ => 1 - (intOf i).toNat)
 case atStart => exact .inl ⟨rfl, rfl, rfl⟩
 case round =>
  rcases hrel with ⟨rfl, rfl, hwr⟩ | ⟨rfl, HO, HI, HK⟩
  · obtain rfl := hwr.symm
    have HQ1 := Hj (HQ.out.keeps HK1.out hne)
    have HL := Hj (rlabel_ok HQ1.out HI1.out (Rd.keeps HT.out HK1.out (fun g hg e => HTP.out g hg e)) HTP.out HR2.out HS.out HR3.out HS2.out htl)
    go_wp2_with (first
     | (go_at_call 184
        refine HL.out.mono ?_
        rintro e w2 ⟨rfl, hi2, hk2⟩
        have hk2b : Keeps (fun _ => False) w2 (w2.alloc (.cells #[.string s, .string s2] 94)) := (Keeps.refl _ _).alloc _
        have c2 := ((HQ1.out.keeps hk2 hne).keeps hk2b (fun e => e)).c0
        have her := qch (hi2.keep hk2b)
        have hrow := heap_alloc_new w2 (.cells #[.string s, .string s2] 94)
        have HI2 := Hj (hi2.keep hk2b); have HK2 := Hj (hk2.trans hk2b (fun _ _ e => e.elim)); have HROW := Hj hrow
        clear hi2 hk2 hk2b hrow)
     | (go_at_call 134; refine her.mono ?_; rintro e w3 ⟨rfl, hw3⟩; obtain rfl := hw3.symm)
     | (refine wpList_store_row rfl 94 _ _ rfl w2.heap.size #[.string s, .string s2] rfl rfl 94 _ (heap_alloc_new w2 _) (by kernel_rfl) rfl (by simp [Value.oneCell']) ?_
        rw [World.setRow_alloc_new])
     | (refine wpList_load_row rfl 94 _ rfl w2.heap.size rfl 94 _ (0, 0) _ HROW.out Tryz.underlying94 rfl (by kernel_rfl) ?_)
     | (at_builtin
        refine appE elL rfl _ _ rfl w.heap.size _ _ 0 1 [] [.string s, .string s2] rfl rfl (World.ownsRow_nil _ _ _ _) (rd_next _ _ 2 1 [.string s, .string s2] 94 1 rfl (Nat.le_refl _)) (by simp [Value.oneCell']) (by omega) (by have := HK1.out.size; have := HK2.out.size; rw [World.size_alloc]; omega) ?_
        intro v6 w6 hown6 hg6' hn6
        have hg6 : ((w2.alloc (.cells #[.string s, .string s2] 94)).alloc (.cells #[.string s, .string s2] 94)).grownBy w6 none := hg6'
        have HO6 := Hj hown6; have HG6 := Hj hg6
        clear hown6 hg6' hg6 hn6))
    have k6 : Keeps (fun _ => False) (w2.alloc (.cells #[.string s, .string s2] 94)) w6 := ((Keeps.refl (fun _ => False) _).alloc _).grown HG6.out (fun k hk e => by cases e)
    exact ⟨.inr ⟨rfl, HO6, Hj (HI2.out.keep k6), Hj ((HK1.out.trans HK2.out (fun _ _ e => e)).trans k6 (fun _ _ e => e.elim))⟩, by simp [intOf]⟩
  · obtain ⟨a9, c9, rfl⟩ := qaf HO.out
    go_wp2_with fail
    go_ret
    exact ⟨_, rfl, HO.out, HI.out, HK.out⟩
theorem record_one {q p : Nat} {ta : Option Addr} {tc : Nat} {v : Value} {l : List Nat} {tb : List ByteArray} {i j k j2 k2 j3 j4 n j5 : Nat} {s s2 : ByteArray} {w : World} (hq : RRd w q p (.slice ta tb.length tc) l.length) (h : IsRd w p v l i 0) (hT : RdT w (.slice ta tb.length tc) tb) (hTp : ∀ g, (Value.slice ta tb.length tc).ownBlock = some g → g ≠ p) (hr : rdUint l i 0 18446744073709551615 = (1, j, 0)) (hn : 1 ≤ l.length - j) (hl : l.length ≤ 1000000000)
 (hr2 : rdUint l j 0 18446744073709551615 = (k, j2, 0)) (hs : tb[k]? = some s) (hr3 : rdUint l j2 0 18446744073709551615 = (k2, j3, 0)) (hs2 : tb[k2]? = some s2) (htl : tb.length ≤ 1000000000)
 (hr4 : rdUint l j3 0 18446744073709551615 = (1, j4, 0)) (hn4 : 1 ≤ l.length - j4) (hr5 : rdUint l j4 0 18446744073709551615 = (n, j5, 0)) (h1 : 1 ≤ n) (h2 : n ≤ 2147483647) :
 Calls Tryz.prog 136 #[.pointer (some ⟨q, 0, none⟩)] w fun e w' => ∃ v1 v2, e = .returned (.agg #[v1, v2]) ∧ w'.ownsRow w.heap.size 94 2 v1 1 [.string s, .string s2] ∧ w'.ownsRow w.heap.size 3 1 v2 1 [.int .i64 (n : Int)] ∧ IsRd w' p v l j5 0 ∧ Keeps (fun k => k = p) w w' := by
 have hne := hq.ne h
 have hlt := h.lt
 obtain ⟨W0, hW0⟩ : ∃ W0, W0 = w.alloc (.cells #[.slice none 0 0, .slice none 0 0] 127) := ⟨_, rfl⟩
 have hk0 : Keeps (fun _ => False) w W0 := by rw [hW0]; exact (Keeps.refl _ _).alloc _
 have hr0 : W0.heap[w.heap.size]? = some (.cells #[.slice none 0 0, .slice none 0 0] 127 (0, 0)) := by rw [hW0]; exact heap_alloc_new w _
 have HC := Hj (listL_one (hq.keeps hk0 (fun e => e)) (h.keep hk0) (Rd.keeps hT hk0 (fun _ _ e => e)) hTp hr hn hl hr2 hs hr3 hs2 htl)
 have HQ := Hj (hq.keeps hk0 (fun e => e)); have HR4 := Hj hr4; have HR5 := Hj hr5
 have HW0 := Hj hW0; have HR0 := Hj hr0; have HK0 := Hj hk0
 clear h hr hq hr2 hr3 hT hTp hs hs2 hr4 hr5 hW0 hr0 hk0
 go_enter Tryz.func136, Tryz.ntmps136
 go_upto_region 2 with (first
  | (go_at_call 183
     rw [← HW0.out]
     refine HC.out.mono ?_
     rintro e w1 ⟨v1, rfl, ho1, hi1, hk1⟩
     obtain ⟨a1, c1, rfl⟩ := qaf ho1
     have HO1 := Hj ho1; have HI1 := Hj hi1; have HK1 := Hj hk1
     clear ho1 hi1 hk1 HC)
  | (refine wpList_store_row rfl 127 _ _ rfl w1.heap.size #[.slice a1 1 c1, .slice none 0 0] rfl rfl 127 _ (heap_alloc_new w1 _) (by kernel_rfl) rfl (by simp [Value.oneCell']) ?_
     rw [World.setRow_alloc_new]))
 obtain ⟨W2, hW2⟩ : ∃ W2, W2 = w1.alloc (.cells #[.slice a1 1 c1, .slice none 0 0] 127) := ⟨_, rfl⟩
 have hk2 : Keeps (fun _ => False) w1 W2 := by rw [hW2]; exact (Keeps.refl _ _).alloc _
 have hr2 : W2.heap[w1.heap.size]? = some (.cells #[.slice a1 1 c1, .slice none 0 0] 127 (0, 0)) := by rw [hW2]; exact heap_alloc_new w1 _
 have hs2 : W2.heap.size = w1.heap.size + 1 := by rw [hW2]; simp
 rw [← hW2]
 have hwp : p < w1.heap.size := by have := HK1.out.size; have := HK0.out.size; omega
 have HC2 := Hj (listI_one ((HQ.out.keeps HK1.out hne).keeps hk2 (fun e => e)) (HI1.out.keep hk2) HR4.out hn4 hl HR5.out h1 h2)
 have HK2 := Hj hk2; have HR2 := Hj hr2; have HS2 := Hj hs2
 clear hk2 hr2 hs2 hW2
 go_upto_region 3 with (go_at_call 185
                        refine HC2.out.mono ?_
                        rintro e w3 ⟨v2, rfl, ho3, hi3, hk3⟩
                        obtain ⟨a2, c2, rfl⟩ := qaf ho3
                        have hr3 := hk3.heap HR2.out (by omega)
                        have e1 : w3.cell? ⟨w1.heap.size, 1, none⟩ = some (.slice none 0 0) := by rw [cell_of_row _ _ _ _ _ _ hr3]; rfl
                        have e2 : w3.frozen? ⟨w1.heap.size, 1, none⟩ = false := frozen_of_row _ _ _ _ _ hr3
                        have HO3 := Hj ho3; have HI3 := Hj hi3; have HK3 := Hj hk3; have HR3 := Hj hr3
                        clear ho3 hi3 hk3 hr3 HC2)
 clear e1 e2
 obtain ⟨W4, hW4⟩ : ∃ W4, W4 = w3.setCell ⟨w1.heap.size, 1, none⟩ (.slice a2 1 c2) := ⟨_, rfl⟩
 have hk4 : Keeps (fun k => k = w1.heap.size) w3 W4 := by rw [hW4]; exact (Keeps.refl (fun k => k = w1.heap.size) w3).setCell (p := ⟨w1.heap.size, 1, none⟩) (fun _ => rfl) _
 have hr4 : W4.heap[w1.heap.size]? = some (.cells #[.slice a1 1 c1, .slice a2 1 c2] 127 (0, 0)) := by rw [hW4]; exact (heap_setCell_same w3 w1.heap.size 1 _ _ (.slice a2 1 c2) HR3.out).trans rfl
 rw [← hW4]
 have d1 : W4.cell? ⟨w1.heap.size, 1, none⟩ = some (.slice a2 1 c2) := by rw [cell_of_row _ _ _ _ _ _ hr4]; rfl
 have hw0 : w.heap.size < w1.heap.size := by have := HK1.out.size; have := qap HR0.out; omega
 have hz4 := hk4.heap (HK3.out.heap (HK2.out.heap (HK1.out.heap HR0.out (by omega)) (fun e => e)) (by omega)) (by omega)
 have HZ4 := Hj hz4; have HR4' := Hj hr4; have HK4 := Hj hk4
 clear hz4 hr4 hk4 hW4
 go_wp2_with (first
  | (refine wpList_load_row rfl 127 _ rfl w1.heap.size rfl 127 _ (0, 0) _ HR4'.out Tryz.underlying127 rfl (by kernel_rfl) ?_)
  | (refine wpList_store_row rfl 127 _ _ rfl w.heap.size #[.slice a1 1 c1, .slice a2 1 c2] rfl rfl 127 _ HZ4.out (by kernel_rfl) rfl (by simp [Value.oneCell']) ?_))
 obtain ⟨W5, hW5⟩ : ∃ W5, W5 = W4.setRow w.heap.size #[.slice a1 1 c1, .slice a2 1 c2] := ⟨_, rfl⟩
 rw [← hW5]
 have k5 : Keeps (fun k => k = w.heap.size) W4 W5 := by rw [hW5]; exact qbc (Keeps.refl _ _) _ _ (fun _ => rfl)
 have r5 : W5.heap[w.heap.size]? = some (.cells #[.slice a1 1 c1, .slice a2 1 c2] 127 (0, 0)) := by rw [hW5]; exact setRow_heap _ _ _ _ _ _ HZ4.out
 have hs0 : W0.heap.size = w.heap.size + 1 := by rw [HW0.out]; simp
 refine bodyPost_ret (results_cell_row Tryz.results136 _ _ w.heap.size 127 _ (0, 0) _ rfl r5 Tryz.underlying127 rfl (by kernel_rfl)) rfl ?_
 refine ⟨_, _, rfl, ?_, ?_, ?_, ?_⟩
 · have q1 := HO1.out
   have hg : ∀ g, (Value.slice a1 1 c1).ownBlock = some g → w.heap.size < g ∧ g < w1.heap.size ∧ g ≠ p := fun g hg => ⟨by have := (q1.lt g hg).1; omega, (q1.lt g hg).2, by
    obtain ⟨cur, hc⟩ := qaj q1 hg
    exact qag hc HI1.out.blk (by decide)⟩
   exact qam (k5.row (HK4.out.row (HK3.out.row (HK2.out.row q1 (fun _ _ e => e)) (fun g h e => (hg g h).2.2 e)) (fun g h e => by have := (hg g h).2.1; omega)) (fun g h e => by have := (hg g h).1; omega)) (fun g h => by have := (hg g h).1; omega)
 · have q3 := HO3.out
   have hs2 := HS2.out
   have hg : ∀ g, (Value.slice a2 1 c2).ownBlock = some g → w1.heap.size < g := fun g hg => by have := (q3.lt g hg).1; omega
   exact qam (k5.row (HK4.out.row q3 (fun g h e => by have := hg g h; omega)) (fun g h e => by have := hg g h; omega)) (fun g h => by have := hg g h; omega)
 · have q := HI3.out
   refine (q.keeps HK4.out (by omega) (fun g hg e => ?_)).keeps k5 (by omega) (fun g hg e => ?_)
   · obtain ⟨cur, hc⟩ := qaj q.row hg
     exact qag hc HR3.out (by decide) e
   · obtain ⟨cur, hc⟩ := qaj q.row hg
     exact qag hc (HK3.out.heap (HK2.out.heap (HK1.out.heap HR0.out (by omega)) (fun e => e)) (by omega)) (by decide) e
 · exact (((((HK0.out.mono (S' := fun k => k = p) (fun _ _ e => e.elim)).trans HK1.out (fun _ _ e => e)).trans HK2.out (fun _ _ e => e.elim)).trans HK3.out (fun _ _ e => e)).trans HK4.out (fun k hk e => by omega)).trans k5 (fun k hk e => by omega)
theorem listR_one {q p : Nat} {ta : Option Addr} {tc : Nat} {v : Value} {l : List Nat} {tb : List ByteArray} {i0 i j k j2 k2 j3 j4 n j5 : Nat} {s s2 : ByteArray} {w : World} (hq : RRd w q p (.slice ta tb.length tc) l.length) (h : IsRd w p v l i0 0) (hT : RdT w (.slice ta tb.length tc) tb) (hTp : ∀ g, (Value.slice ta tb.length tc).ownBlock = some g → g ≠ p) (hr0 : rdUint l i0 0 18446744073709551615 = (1, i, 0)) (hn0 : 1 ≤ l.length - i) (hr : rdUint l i 0 18446744073709551615 = (1, j, 0)) (hn : 1 ≤ l.length - j) (hl : l.length ≤ 1000000000)
 (hr2 : rdUint l j 0 18446744073709551615 = (k, j2, 0)) (hs : tb[k]? = some s) (hr3 : rdUint l j2 0 18446744073709551615 = (k2, j3, 0)) (hs2 : tb[k2]? = some s2) (htl : tb.length ≤ 1000000000)
 (hr4 : rdUint l j3 0 18446744073709551615 = (1, j4, 0)) (hn4 : 1 ≤ l.length - j4) (hr5 : rdUint l j4 0 18446744073709551615 = (n, j5, 0)) (h1 : 1 ≤ n) (h2 : n ≤ 2147483647) :
 Calls Tryz.prog 135 #[.pointer (some ⟨q, 0, none⟩), .func (.func 136) #[.pointer (some ⟨q, 0, none⟩)] #[]] w fun e w' => ∃ v' v1 v2, e = .returned v' ∧ w'.ownsRow w.heap.size 127 2 v' 1 [v1, v2] ∧ w'.ownsRow w.heap.size 94 2 v1 1 [.string s, .string s2] ∧ w'.ownsRow w.heap.size 3 1 v2 1 [.int .i64 (n : Int)] ∧ IsRd w' p v l j5 0 ∧ Keeps (fun k => k = p) w w' := by
 have hne := hq.ne h
 have hlt := h.lt
 have HC := Hj (rcount_ok hq h hr0 hn0 hl)
 have hgo : ∀ w1, IsRd w1 p v l i 0 → Keeps (fun k => k = p) w w1 → Calls Tryz.prog 136 #[.pointer (some ⟨q, 0, none⟩)] w1 fun e w' => ∃ v1 v2, e = .returned (.agg #[v1, v2]) ∧ w'.ownsRow w1.heap.size 94 2 v1 1 [.string s, .string s2] ∧ w'.ownsRow w1.heap.size 3 1 v2 1 [.int .i64 (n : Int)] ∧ IsRd w' p v l j5 0 ∧ Keeps (fun k => k = p) w1 w' := fun w1 hi hk => record_one (hq.keeps hk hne) hi (Rd.keeps hT hk (fun g hg e => hTp g hg e)) hTp hr hn hl hr2 hs hr3 hs2 htl hr4 hn4 hr5 h1 h2
 have HQ := Hj hq; have HGO := Hj hgo
 clear h hr hq hr2 hr3 hT hTp hs hs2 hr4 hr5 hr0 hgo
 go_enter Tryz.func135, Tryz.ntmps135
 go_wp2_with (go_at_call 182; refine HC.out.mono ?_; rintro e w1 ⟨rfl, hi1, hk1⟩)
 have HI1 := Hj hi1; have HK1 := Hj hk1
 clear hi1 hk1 HC
 go_loopw [5, 9] (fun c i wr => (c = .slice none 0 0 ∧ i = .int .i64 0 ∧ wr = w1) ∨ (i = .int .i64 1 ∧ ∃ v1 v2, Hid (wr.ownsRow w.heap.size 127 2 c 1 [v1, v2]) ∧ Hid (wr.ownsRow w.heap.size 94 2 v1 1 [.string s, .string s2]) ∧ Hid (wr.ownsRow w.heap.size 3 1 v2 1 [.int .i64 (n : Int)]) ∧ Hid (IsRd wr p v l j5 0) ∧ Hid (Keeps (fun k => k = p) w wr))) (fun _ i _ => 1 - (intOf i).toNat)
 case atStart => exact .inl ⟨rfl, rfl, rfl⟩
 case round =>
  rcases hrel with ⟨rfl, rfl, hwr⟩ | ⟨rfl, v1, v2, HO, HO1, HO2, HI, HK⟩
  · obtain rfl := hwr.symm
    have HQ1 := Hj (HQ.out.keeps HK1.out hne)
    have HL := Hj (HGO.out _ HI1.out HK1.out)
    go_wp2_with (first
     | (go_at_call 136
        refine HL.out.mono ?_
        rintro e w2 ⟨v1, v2, rfl, ho1, ho2, hi2, hk2⟩
        obtain ⟨a1, c1, rfl⟩ := qaf ho1
        obtain ⟨a2, c2, rfl⟩ := qaf ho2
        have hk2b : Keeps (fun _ => False) w2 (w2.alloc (.cells #[.slice a1 1 c1, .slice a2 1 c2] 127)) := (Keeps.refl _ _).alloc _
        have d2 := ((HQ1.out.keeps hk2 hne).keeps hk2b (fun e => e)).c0
        have her := qch (hi2.keep hk2b)
        have hrow := heap_alloc_new w2 (.cells #[.slice a1 1 c1, .slice a2 1 c2] 127)
        have HI2 := Hj (hi2.keep hk2b); have HK2 := Hj (hk2.trans hk2b (fun _ _ e => e.elim)); have HROW := Hj hrow
        have HO1 := Hj (hk2b.row ho1 (fun _ _ e => e)); have HO2 := Hj (hk2b.row ho2 (fun _ _ e => e))
        clear hi2 hk2 hk2b hrow ho1 ho2)
     | (go_at_call 134; refine her.mono ?_; rintro e w3 ⟨rfl, hw3⟩; obtain rfl := hw3.symm)
     | (refine wpList_store_row rfl 127 _ _ rfl w2.heap.size #[.slice a1 1 c1, .slice a2 1 c2] rfl rfl 127 _ (heap_alloc_new w2 _) (by kernel_rfl) rfl (by simp [Value.oneCell']) ?_
        rw [World.setRow_alloc_new])
     | (refine wpList_load_row rfl 127 _ rfl w2.heap.size rfl 127 _ (0, 0) _ HROW.out Tryz.underlying127 rfl (by kernel_rfl) ?_)
     | (at_builtin
        refine appE elRc rfl _ _ rfl w.heap.size _ _ 0 1 [] [.slice a1 1 c1, .slice a2 1 c2] rfl rfl (World.ownsRow_nil _ _ _ _) (rd_next _ _ 2 1 [.slice a1 1 c1, .slice a2 1 c2] 127 1 rfl (Nat.le_refl _)) (by simp [Value.oneCell']) (by omega) (by have := HK1.out.size; have := HK2.out.size; rw [World.size_alloc]; omega) ?_
        intro v6 w6 hown6 hg6' hn6
        have hg6 : ((w2.alloc (.cells #[.slice a1 1 c1, .slice a2 1 c2] 127)).alloc (.cells #[.slice a1 1 c1, .slice a2 1 c2] 127)).grownBy w6 none := hg6'
        have HO6 := Hj hown6; have HG6 := Hj hg6
        clear hown6 hg6' hg6 hn6))
    have k6 : Keeps (fun _ => False) (w2.alloc (.cells #[.slice a1 1 c1, .slice a2 1 c2] 127)) w6 := ((Keeps.refl (fun _ => False) _).alloc _).grown HG6.out (fun k hk e => by cases e)
    have hz1 := HK1.out.size
    exact ⟨.inr ⟨rfl, _, _, HO6, Hj (qam (k6.row HO1.out (fun _ _ e => e)) (fun g hg => by have := (HO1.out.lt g hg).1; omega)), Hj (qam (k6.row HO2.out (fun _ _ e => e)) (fun g hg => by have := (HO2.out.lt g hg).1; omega)), Hj (HI2.out.keep k6), Hj ((HK1.out.trans HK2.out (fun _ _ e => e)).trans k6 (fun _ _ e => e.elim))⟩, by simp [intOf]⟩
  · obtain ⟨a9, c9, rfl⟩ := qaf HO.out
    go_wp2_with fail
    go_ret
    exact ⟨_, v1, v2, rfl, HO.out, HO1.out, HO2.out, HI.out, HK.out⟩
theorem recdec_one {ta : Option Addr} {tc : Nat} {vb : Value} {l : List Nat} {tb : List ByteArray} {i j k j2 k2 j3 j4 n : Nat} {s s2 : ByteArray} {w : World} (hT : RdT w (.slice ta tb.length tc) tb) (hb : Holds w vb (u8s l)) (hl : l.length ≤ 1000000000) (hlb : ∀ c ∈ l, c < 256) (hr0 : rdUint l 0 0 18446744073709551615 = (1, i, 0)) (hn0 : 1 ≤ l.length - i) (hr : rdUint l i 0 18446744073709551615 = (1, j, 0)) (hn : 1 ≤ l.length - j)
 (hr2 : rdUint l j 0 18446744073709551615 = (k, j2, 0)) (hs : tb[k]? = some s) (hr3 : rdUint l j2 0 18446744073709551615 = (k2, j3, 0)) (hs2 : tb[k2]? = some s2) (htl : tb.length ≤ 1000000000)
 (hr4 : rdUint l j3 0 18446744073709551615 = (1, j4, 0)) (hn4 : 1 ≤ l.length - j4) (hr5 : rdUint l j4 0 18446744073709551615 = (n, l.length, 0)) (h1 : 1 ≤ n) (h2 : n ≤ 2147483647) :
 Calls Tryz.prog 77 #[.slice ta tb.length tc, vb] w fun e w' => ∃ v' v1 v2, e = .returned (.tuple #[v', .int .i64 0]) ∧ w'.ownsRow w.heap.size 127 2 v' 1 [v1, v2] ∧ w'.ownsRow w.heap.size 94 2 v1 1 [.string s, .string s2] ∧ w'.ownsRow w.heap.size 3 1 v2 1 [.int .i64 (n : Int)] ∧ Keeps (fun _ => False) w w' := by
 have HN := Hj (wnew_any vb l w hb (by omega) hlb)
 obtain ⟨ab, nb, cb, rfl⟩ : ∃ d n p, vb = .slice d n p := by obtain ⟨d, p, h, _⟩ := hb; exact ⟨d, _, p, h⟩
 have hnb : nb = l.length := by obtain ⟨d, p, h, _⟩ := hb; simp only [Value.slice.injEq] at h; rw [h.2.1, qac]
 subst hnb
 have hgo : ∀ w1 q p v, RRd w1 q p (.slice ta tb.length tc) l.length → IsRd w1 p v l 0 0 → w.heap.size ≤ p → Keeps (fun _ => False) w w1 → Calls Tryz.prog 135 #[.pointer (some ⟨q, 0, none⟩), .func (.func 136) #[.pointer (some ⟨q, 0, none⟩)] #[]] w1 fun e w' => ∃ v' v1 v2, e = .returned v' ∧ w'.ownsRow w1.heap.size 127 2 v' 1 [v1, v2] ∧ w'.ownsRow w1.heap.size 94 2 v1 1 [.string s, .string s2] ∧ w'.ownsRow w1.heap.size 3 1 v2 1 [.int .i64 (n : Int)] ∧ IsRd w' p v l l.length 0 ∧ Keeps (fun k => k = p) w1 w' := fun w1 q p v hq hi hp hk => listR_one hq hi (Rd.keeps hT hk (fun _ _ e => e)) (fun g hg e => by have := Rd.lt hT (by decide) ⟨by have := (List.getElem?_eq_some_iff.1 hs).1; omega, hg⟩; omega) hr0 hn0 hr hn hl hr2 hs hr3 hs2 htl hr4 hn4 hr5 h1 h2
 have HGO := Hj hgo
 clear hr hr2 hr3 hT hs hs2 hr4 hr5 hr0 hgo hb hlb
 go_enter Tryz.func77, Tryz.ntmps77
 go_wp2_with (first
  | (go_at_call 85
     refine HN.out.mono ?_
     rintro e w1 ⟨p, v, rfl, hp, hi1, hv1, hk1⟩
     have hk2 : Keeps (fun _ => False) w1 (w1.alloc (.cells #[.pointer (some ⟨p, 0, none⟩), .slice ta tb.length tc, .int .i64 (l.length : Int)] 246)) := (Keeps.refl _ _).alloc _
     have hq2 : RRd (w1.alloc (.cells #[.pointer (some ⟨p, 0, none⟩), .slice ta tb.length tc, .int .i64 (l.length : Int)] 246)) w1.heap.size p (.slice ta tb.length tc) l.length := heap_alloc_new w1 _
     have hpl := hi1.lt
     have HL := Hj (HGO.out _ _ _ _ hq2 (hi1.keep hk2) hp (hk1.trans hk2 (fun _ _ e => e)))
     have HK2 := Hj (hk1.trans hk2 (fun _ _ e => e)); have HQ2 := Hj hq2
     clear hi1 hv1 hk1 hk2 hq2)
  | (go_at_call 135
     refine HL.out.mono ?_
     rintro e w3 ⟨v', v1, v2, rfl, ho, ho1, ho2, hi3, hk3⟩
     obtain ⟨a3, c3, rfl⟩ := qaf ho
     have d3 := (HQ2.out.keeps hk3 (by omega)).c0
     have hend := wend_any hi3
     rw [if_pos rfl, if_neg (Nat.lt_irrefl _)] at hend
     have HO := Hj ho; have HO1 := Hj ho1; have HO2 := Hj ho2; have HK3 := Hj hk3
     clear ho ho1 ho2 hi3 hk3)
  | (go_at_call 93; refine hend.mono ?_; rintro e w4 ⟨rfl, hw4⟩; obtain rfl := hw4.symm))
 have hz := HK2.out.size
 have hw : w.heap.size ≤ w1.heap.size := by simp at hz; omega
 go_ret2
 exact ⟨_, v1, v2, rfl, qam HO.out (fun g hg => by have := (HO.out.lt g hg).1; omega), qam HO1.out (fun g hg => by have := (HO1.out.lt g hg).1; omega), qam HO2.out (fun g hg => by have := (HO2.out.lt g hg).1; omega), HK2.out.trans HK3.out (fun k hk e => by omega)⟩
end
section
set_option maxHeartbeats 4000000
set_option maxRecDepth 100000
open Go.RowKit
def PRd (w : World) (q p : Nat) (tv : Value) (n : Nat) : Prop := w.heap[q]? = some (.cells #[.pointer (some ⟨p, 0, none⟩), tv, .int .i64 (n : Int)] 256 (0, 0))
theorem PRd.c0 {w : World} {q p : Nat} {tv : Value} {n : Nat} (h : PRd w q p tv n) : w.cell? ⟨q, 0, none⟩ = some (.pointer (some ⟨p, 0, none⟩)) := by rw [cell_of_row _ _ _ _ _ _ h]; rfl
theorem PRd.c1 {w : World} {q p : Nat} {tv : Value} {n : Nat} (h : PRd w q p tv n) : w.cell? ⟨q, 1, none⟩ = some tv := by rw [cell_of_row _ _ _ _ _ _ h]; rfl
theorem PRd.c2 {w : World} {q p : Nat} {tv : Value} {n : Nat} (h : PRd w q p tv n) : w.cell? ⟨q, 2, none⟩ = some (.int .i64 (n : Int)) := by rw [cell_of_row _ _ _ _ _ _ h]; rfl
theorem PRd.ne {w : World} {q p : Nat} {tv v : Value} {n i e : Nat} {l : List Nat} (h : PRd w q p tv n) (hr : IsRd w p v l i e) : q ≠ p := qag h hr.blk (by decide)
theorem PRd.keeps {S : Nat → Prop} {a b : World} {q p : Nat} {tv : Value} {n : Nat} (h : PRd a q p tv n) (k : Keeps S a b) (hS : ¬ S q) : PRd b q p tv n := k.heap h hS
theorem pcheck_ok {q p : Nat} {tv v : Value} {n : Nat} {l : List Nat} {i : Nat} {w : World} (hq : PRd w q p tv n) (h : IsRd w p v l i 0) (y : Nat) :
 Calls Tryz.prog 143 #[.pointer (some ⟨q, 0, none⟩), .bool true, .int .i64 (y : Int)] w fun e w' => e = .returned (.bool true) ∧ w' = w := by
 have c0 := hq.c0
 have her := qch h
 clear h hq
 go_enter Tryz.func143, Tryz.ntmps143
 go_wp2_with (go_at_call 134; refine her.mono ?_; rintro e w2 ⟨rfl, rfl⟩)
 go_ret
 exact ⟨rfl, rfl⟩
theorem pcount_ok {q p : Nat} {tv v : Value} {l : List Nat} {i n j : Nat} {w : World} (hq : PRd w q p tv l.length) (h : IsRd w p v l i 0) (hr : rdUint l i 0 18446744073709551615 = (n, j, 0)) (hn : n ≤ l.length - j) (hl : l.length ≤ 1000000000) :
 Calls Tryz.prog 141 #[.pointer (some ⟨q, 0, none⟩)] w fun e w' => e = .returned (.int .i64 (n : Int)) ∧ IsRd w' p v l j 0 ∧ Keeps (fun k => k = p) w w' := by
 have c0 := hq.c0
 have hne := hq.ne h
 have HU := Hj (qdp h 18446744073709551615)
 rw [hr] at HU
 have HQ := Hj hq
 clear h hr hq
 go_enter Tryz.func141, Tryz.ntmps141
 go_upto_region 2 with (go_at_call 188; refine HU.out.mono ?_; rintro e w1 ⟨rfl, hrd, hk⟩)
 have hq1 := HQ.out.keeps hk hne
 have c0' := hq1.c0
 have c2' := hq1.c2
 have hjl := hrd.le
 have hat := fun k => wat_any (hrd.keep (qbq w1 k))
 have hck := fun k => pcheck_ok (hq1.keeps (qbq w1 k) (fun e => e)) (hrd.keep (qbq w1 k)) 3
 have hw1 : IntKind.i64.wrap ((l.length : Int) - (j : Int)) = ((l.length - j : Nat) : Int) := by rw [IntWalk.i64_in _ (by omega)]; omega
 have hw2 : IntKind.u64.wrap ((l.length - j : Nat) : Int) = ((l.length - j : Nat) : Int) := by rw [IntWalk.u64_in _ (by omega)]
 have hw3 : decide (n ≤ l.length - j) = true := by simp; omega
 have HRD := Hj hrd; have HK := Hj hk
 obtain ⟨L, hL⟩ : ∃ L, L = l.length - j := ⟨_, rfl⟩
 rw [← hL] at hw1 hw2 hw3
 clear hrd hk c0 hL hq1
 go_quiet (first | (go_at_call 143; exact Calls.quiet_of_same (hck _)) | (go_at_call 87; exact Calls.quiet_of_same (hat _)))
 have hw4 : IntKind.i64.wrap (n : Int) = n := by rw [IntWalk.i64_in _ (by omega)]
 go_wp2_with fail
 go_ret
 exact ⟨rfl, HRD.out.keep (qbq _ _), HK.out.drewN _⟩
theorem psymbol_ok {q p : Nat} {ta : Option Addr} {tc : Nat} {v : Value} {l : List Nat} {tb : List ByteArray} {i k j : Nat} {s : ByteArray} {w : World} (hq : PRd w q p (.slice ta tb.length tc) l.length) (h : IsRd w p v l i 0) (hT : RdT w (.slice ta tb.length tc) tb) (hTp : ∀ g, (Value.slice ta tb.length tc).ownBlock = some g → g ≠ p) (hr : rdUint l i 0 18446744073709551615 = (k, j, 0)) (hs : tb[k]? = some s) (hl : tb.length ≤ 1000000000) :
 Calls Tryz.prog 142 #[.pointer (some ⟨q, 0, none⟩)] w fun e w' => e = .returned (.string s) ∧ IsRd w' p v l j 0 ∧ Keeps (fun k => k = p) w w' := by
 have c0 := hq.c0
 have hne := hq.ne h
 have HU := Hj (qdp h 18446744073709551615)
 rw [hr] at HU
 have HQ := Hj hq; have HT := Hj hT; have HTP := Hj hTp; have HS := Hj hs
 have hk : k < tb.length := (List.getElem?_eq_some_iff.1 hs).1
 clear h hr hq hT hTp hs
 go_enter Tryz.func142, Tryz.ntmps142
 go_upto_region 2 with (go_at_call 188; refine HU.out.mono ?_; rintro e w1 ⟨rfl, hrd, hk⟩)
 have hq1 := HQ.out.keeps hk hne
 have c0' := hq1.c0
 have c1' := hq1.c1
 have hck := pcheck_ok hq1 hrd 14
 have hT1 : RdT w1 (.slice ta tb.length tc) tb := Rd.keeps HT.out hk (fun g hg e => HTP.out g hg e)
 obtain ⟨b, o, ea, cs⟩ := RdT.at hT1 HS.out
 subst ea
 have hw2 : IntKind.u64.wrap (tb.length : Int) = (tb.length : Int) := by rw [IntWalk.u64_in _ (by omega)]
 have hw3 : decide (k < tb.length) = true := by simp; omega
 have hw5 : decide ((k : Int) < tb.length) = true := by simp; omega
 have HRD := Hj hrd; have HK := Hj hk
 clear hrd hk c0 hT1 hq1
 have hk0 : (0 : Int) ≤ k := by omega
 have hk1 : (k : Int) < tb.length := by omega
 go_wp2_with (go_at_call 143; refine hck.mono ?_; rintro e w2 ⟨rfl, rfl⟩)
 go_ret
 exact ⟨rfl, HRD.out, HK.out⟩
theorem pseries_one {q p : Nat} {tv v : Value} {l : List Nat} {i j j2 : Nat} {w : World} (hq : PRd w q p tv l.length) (h : IsRd w p v l i 0) (hr : rdUint l i 0 18446744073709551615 = (1, j, 0)) (hn : 1 ≤ l.length - j) (hl : l.length ≤ 1000000000) (hr2 : rdUint l j 0 18446744073709551615 = (0, j2, 0)) :
 Calls Tryz.prog 144 #[.pointer (some ⟨q, 0, none⟩), .int .u64 1] w fun e w' => ∃ v', e = .returned v' ∧ w'.ownsRow w.heap.size 3 1 v' 1 [.int .i64 0] ∧ IsRd w' p v l j2 0 ∧ Keeps (fun k => k = p) w w' := by
 have hne := hq.ne h
 have hlt := h.lt
 have HC := Hj (pcount_ok hq h hr hn hl)
 have HQ := Hj hq; have HR2 := Hj hr2
 clear h hr hq hr2
 go_enter Tryz.func144, Tryz.ntmps144
 go_wp2_with (first
  | (go_at_call 141
     refine HC.out.mono ?_
     rintro e w1 ⟨rfl, hi1, hk1⟩
     have hck := pcheck_ok (HQ.out.keeps hk1 hne) hi1 22)
  | (go_at_call 143; refine hck.mono ?_; rintro e w2 ⟨rfl, hw2⟩; obtain rfl := hw2.symm))
 have HI1 := Hj hi1; have HK1 := Hj hk1
 clear hi1 hk1 HC hck
 go_loopw [6, 7, 17] (fun c d i wr => (c = .slice none 0 0 ∧ d = .int .u64 0 ∧ i = .int .i64 0 ∧ wr = w1) ∨ (i = .int .i64 1 ∧ Hid (wr.ownsRow w.heap.size 3 1 c 1 [.int .i64 0]) ∧ Hid (IsRd wr p v l j2 0) ∧ Hid (Keeps (fun k => k = p) w wr))) (fun _ _ i _ => 1 - (intOf i).toNat)
 case atStart => exact .inl ⟨rfl, rfl, rfl, rfl⟩
 case round =>
  rcases hrel with ⟨rfl, rfl, rfl, hwr⟩ | ⟨rfl, HO, HI, HK⟩
  · obtain rfl := hwr.symm
    have hq1 := HQ.out.keeps HK1.out hne
    have c0 := hq1.c0
    have HQ1 := Hj hq1
    have HU := Hj (qdp HI1.out 18446744073709551615)
    rw [HR2.out] at HU
    clear hq1
    go_wp2_with (first
     | (go_at_call 188
        refine HU.out.mono ?_
        rintro e w2 ⟨rfl, hi2, hk2⟩
        have hck := pcheck_ok (HQ1.out.keeps hk2 hne) hi2 22
        have HI2 := Hj hi2; have HK2 := Hj hk2
        clear hi2 hk2)
     | (go_at_call 143; refine hck.mono ?_; rintro e w3 ⟨rfl, hw3⟩; obtain rfl := hw3.symm)
     | (at_builtin
        refine appE elI rfl _ _ rfl w.heap.size _ _ 0 1 [] [.int .i64 0] rfl rfl (World.ownsRow_nil _ _ _ _) (rd_new _ 1 1 [.int .i64 0] 3 1 rfl (Nat.le_refl _)) (by simp [Value.oneCell']) (by omega) (by have := HK1.out.size; have := HK2.out.size; simp; omega) ?_
        intro v6 w6 hown6 hg6' hn6
        have hg6 : (w2.alloc (.cells #[.int .i64 0] 3)).grownBy w6 none := hg6'
        have HO6 := Hj hown6; have HG6 := Hj hg6
        clear hown6 hg6' hg6 hn6))
    have k6 : Keeps (fun _ => False) w2 w6 := ((Keeps.refl (fun _ => False) w2).alloc _).grown HG6.out (fun k hk e => by cases e)
    exact ⟨.inr ⟨rfl, HO6, Hj (HI2.out.keep k6), Hj ((HK1.out.trans HK2.out (fun _ _ e => e)).trans k6 (fun _ _ e => e.elim))⟩, by simp [intOf]⟩
  · obtain ⟨a9, c9, rfl⟩ := qaf HO.out
    go_wp2_with fail
    go_ret
    exact ⟨_, rfl, HO.out, HI.out, HK.out⟩
theorem IsRd.setOther {w : World} {p B : Nat} {v : Value} {l : List Nat} {i e : Nat} (h : IsRd w p v l i e) {cs : Array Value} (hB : w.heap[B]? = some (.cells cs 229 (0, 0))) (hne : B ≠ p) (j : Nat) (x : Value) : IsRd (w.setCell ⟨B, j, none⟩ x) p v l i e :=
 h.keeps ((Keeps.refl (fun k => k = B) w).setCell (p := ⟨B, j, none⟩) (fun _ => rfl) x) (fun e => hne e.symm) (fun g hg e => by
  obtain ⟨cur, hc⟩ := qaj h.row hg
  exact qag hc hB (by decide) e)
theorem postdec_one {ta : Option Addr} {tc : Nat} {vb : Value} {l : List Nat} {tb : List ByteArray} {i k j2 k2 j3 j4 : Nat} {s s2 : ByteArray} {w : World} (hT : RdT w (.slice ta tb.length tc) tb) (hb : Holds w vb (u8s l)) (hl : l.length ≤ 1000000000) (hlb : ∀ c ∈ l, c < 256) (hr0 : rdUint l 0 0 18446744073709551615 = (1, i, 0)) (hn0 : 1 ≤ l.length - i)
 (hr2 : rdUint l i 0 18446744073709551615 = (k, j2, 0)) (hs : tb[k]? = some s) (hr3 : rdUint l j2 0 18446744073709551615 = (k2, j3, 0)) (hs2 : tb[k2]? = some s2) (htl : tb.length ≤ 1000000000)
 (hr4 : rdUint l j3 0 18446744073709551615 = (1, j4, 0)) (hn4 : 1 ≤ l.length - j4) (hr5 : rdUint l j4 0 18446744073709551615 = (0, l.length, 0)) :
 Calls Tryz.prog 84 #[.slice ta tb.length tc, .int .i64 1, vb] w fun e w' => ∃ v' v2, e = .returned (.tuple #[v', .int .i64 0]) ∧ w'.ownsRow w.heap.size 229 3 v' 1 [.string s, .string s2, v2] ∧ w'.ownsRow w.heap.size 3 1 v2 1 [.int .i64 0] ∧ Keeps (fun _ => False) w w' := by
 have HN := Hj (wnew_any vb l w hb (by omega) hlb)
 obtain ⟨ab, nb, cb, rfl⟩ : ∃ d n p, vb = .slice d n p := by obtain ⟨d, p, h, _⟩ := hb; exact ⟨d, _, p, h⟩
 have hnb : nb = l.length := by obtain ⟨d, p, h, _⟩ := hb; simp only [Value.slice.injEq] at h; rw [h.2.1, qac]
 subst hnb
 have HT := Hj hT; have HS := Hj hs; have HS2 := Hj hs2; have HR0 := Hj hr0; have HR2 := Hj hr2; have HR3 := Hj hr3; have HR4 := Hj hr4; have HR5 := Hj hr5
 have HTG : Hid (∀ g, (Value.slice ta tb.length tc).ownBlock = some g → g < w.heap.size) := Hj (fun g hg => Rd.lt hT (by decide) ⟨by have := (List.getElem?_eq_some_iff.1 hs).1; omega, hg⟩)
 clear hT hs hs2 hr0 hr2 hr3 hr4 hr5 hb hlb
 go_enter Tryz.func84, Tryz.ntmps84
 go_wp2_with (first
  | (go_at_call 85
     refine HN.out.mono ?_
     rintro e w1 ⟨p, v, rfl, hp, hi1, hv1, hk1⟩
     have hk2 : Keeps (fun _ => False) w1 (w1.alloc (.cells #[.pointer (some ⟨p, 0, none⟩), .slice ta tb.length tc, .int .i64 (l.length : Int)] 256)) := (Keeps.refl _ _).alloc _
     have hq2 : PRd (w1.alloc (.cells #[.pointer (some ⟨p, 0, none⟩), .slice ta tb.length tc, .int .i64 (l.length : Int)] 256)) w1.heap.size p (.slice ta tb.length tc) l.length := heap_alloc_new w1 _
     have hpl := hi1.lt
     have HCT := Hj (pcount_ok hq2 (hi1.keep hk2) HR0.out hn0 hl)
     have HK2 := Hj (hk1.trans hk2 (fun _ _ e => e)); have HQ2 := Hj hq2
     clear hi1 hv1 hk1 hk2 hq2)
  | (go_at_call 141; refine HCT.out.mono ?_; rintro e w3 ⟨rfl, hi3, hk3⟩))
 have hwz : w.heap.size ≤ w1.heap.size ∧ w1.heap.size + 1 ≤ w3.heap.size := by have h1 := HK2.out.size; have h2 := hk3.size; simp at h1 h2; exact ⟨by omega, h2⟩
 have HQ3 := Hj (HQ2.out.keeps hk3 (by omega))
 have HI3 := Hj hi3
 have HK3 : Hid (Keeps (fun k => k = p) w w3) := Hj ((HK2.out.mono (S' := fun k => k = p) (fun _ _ e => e.elim)).trans hk3 (fun _ _ e => e))
 clear hi3 hk3 HCT HK2 HQ2 HN
 go_loopw [9, 24] (fun c i wr => (c = .slice none 0 0 ∧ i = .int .i64 0 ∧ wr = w3) ∨ (i = .int .i64 1 ∧ ∃ v2, Hid (wr.ownsRow (p + 1) 229 3 c 1 [.string s, .string s2, v2]) ∧ Hid (wr.ownsRow (p + 1) 3 1 v2 1 [.int .i64 0]) ∧ Hid (PRd wr w1.heap.size p (.slice ta tb.length tc) l.length) ∧ Hid (IsRd wr p v l l.length 0) ∧ Hid (Keeps (fun k => k = p) w wr))) (fun _ i _ => 1 - (intOf i).toNat)
 case atStart => exact .inl ⟨rfl, rfl, rfl⟩
 case round =>
  rcases hrel with ⟨rfl, rfl, hwr⟩ | ⟨rfl, v2, HO, HO2, HQ, HI, HK⟩
  · obtain rfl := hwr.symm
    obtain ⟨W4, hW4⟩ : ∃ W4, W4 = w3.alloc (.cells #[.string ⟨#[]⟩, .string ⟨#[]⟩, .slice none 0 0] 229) := ⟨_, rfl⟩
    have hk4 : Keeps (fun _ => False) w3 W4 := by rw [hW4]; exact (Keeps.refl _ _).alloc _
    have hr4 : W4.heap[w3.heap.size]? = some (.cells #[.string ⟨#[]⟩, .string ⟨#[]⟩, .slice none 0 0] 229 (0, 0)) := by rw [hW4]; exact heap_alloc_new w3 _
    have HP1 := Hj (psymbol_ok (HQ3.out.keeps hk4 (fun e => e)) (HI3.out.keep hk4) (Rd.keeps HT.out (HK3.out.trans hk4 (fun _ _ e => e.elim)) (fun g hg e => by have := HTG.out g hg; omega)) (fun g hg => by have := HTG.out g hg; omega) HR2.out HS.out htl)
    have HK4 := Hj hk4; have HR4' := Hj hr4; have HW4 := Hj hW4
    clear hk4 hr4 hW4
    go_upto_region 10 with (go_at_call 142
                            rw [← HW4.out]
                            refine HP1.out.mono ?_
                            rintro e w5 ⟨rfl, hi5, hk5⟩
                            have hr5 := hk5.heap HR4'.out (by omega)
                            have e1 : w5.cell? ⟨w3.heap.size, 0, none⟩ = some (.string ⟨#[]⟩) := by rw [cell_of_row _ _ _ _ _ _ hr5]; rfl
                            have e2 : w5.frozen? ⟨w3.heap.size, 0, none⟩ = false := frozen_of_row _ _ _ _ _ hr5
                            have HI5 := Hj hi5; have HK5 := Hj hk5; have HR5' := Hj hr5
                            clear hi5 hk5 hr5 HP1)
    clear e1 e2
    have HALL : Hid (∀ q, Keeps (fun k => k = p ∨ k = w3.heap.size) W4 q → PRd q w1.heap.size p (.slice ta tb.length tc) l.length ∧ RdT q (.slice ta tb.length tc) tb) := Hj (fun q hq => ⟨(HQ3.out.keeps HK4.out (fun e => e)).keeps hq (fun e => by omega), Rd.keeps HT.out (((HK3.out.trans HK4.out (fun _ _ e => e.elim)).mono (S' := fun k => k = p ∨ w3.heap.size ≤ k) (fun _ _ e => .inl e)).trans hq (fun k hk e => by omega)) (fun g hg e => by have := HTG.out g hg; omega)⟩)
    obtain ⟨W6, hW6⟩ : ∃ W6, W6 = w5.setCell ⟨w3.heap.size, 0, none⟩ (.string s) := ⟨_, rfl⟩
    have hi6 := HI5.out.setOther HR5'.out (by omega) 0 (.string s)
    have hk6 : Keeps (fun k => k = p ∨ k = w3.heap.size) W4 W6 := by rw [hW6]; exact (HK5.out.mono (fun k _ e => .inl e)).setCell (p := ⟨w3.heap.size, 0, none⟩) (fun _ => .inr rfl) _
    have hr6 : W6.heap[w3.heap.size]? = some (.cells #[.string s, .string ⟨#[]⟩, .slice none 0 0] 229 (0, 0)) := by rw [hW6]; exact (heap_setCell_same w5 w3.heap.size 0 _ _ (.string s) HR5'.out).trans rfl
    rw [← hW6] at hi6 ⊢
    have HP2 := Hj (psymbol_ok (HALL.out _ hk6).1 hi6 (HALL.out _ hk6).2 (fun g hg => by have := HTG.out g hg; omega) HR3.out HS2.out htl)
    have HK6 := Hj hk6; have HR6 := Hj hr6
    clear hi6 hk6 hr6 hW6 HI5 HK5 HR5'
    go_upto_region 11 with (go_at_call 142
                            refine HP2.out.mono ?_
                            rintro e w7 ⟨rfl, hi7, hk7⟩
                            have hr7 := hk7.heap HR6.out (by omega)
                            have e1 : w7.cell? ⟨w3.heap.size, 1, none⟩ = some (.string ⟨#[]⟩) := by rw [cell_of_row _ _ _ _ _ _ hr7]; rfl
                            have e2 : w7.frozen? ⟨w3.heap.size, 1, none⟩ = false := frozen_of_row _ _ _ _ _ hr7
                            have HI7 := Hj hi7; have HK7 := Hj hk7; have HR7 := Hj hr7
                            clear hi7 hk7 hr7 HP2)
    clear e1 e2
    obtain ⟨W8, hW8⟩ : ∃ W8, W8 = w7.setCell ⟨w3.heap.size, 1, none⟩ (.string s2) := ⟨_, rfl⟩
    have hi8 := HI7.out.setOther HR7.out (by omega) 1 (.string s2)
    have hk8 : Keeps (fun k => k = p ∨ k = w3.heap.size) W4 W8 := by rw [hW8]; exact (HK6.out.trans HK7.out (fun k _ e => .inl e)).setCell (p := ⟨w3.heap.size, 1, none⟩) (fun _ => .inr rfl) _
    have hr8 : W8.heap[w3.heap.size]? = some (.cells #[.string s, .string s2, .slice none 0 0] 229 (0, 0)) := by rw [hW8]; exact (heap_setCell_same w7 w3.heap.size 1 _ _ (.string s2) HR7.out).trans rfl
    rw [← hW8] at hi8 ⊢
    have hck := fun k => pcheck_ok ((HALL.out _ hk8).1.keeps (qbq W8 k) (fun e => e)) (hi8.keep (qbq W8 k)) 16
    have HI8 := Hj hi8; have HK8 := Hj hk8; have HR8 := Hj hr8
    clear hi8 hk8 hr8 hW8 HI7 HK7 HR7 HK6 HR6
    go_quiet ((go_at_call 143; exact Calls.quiet_of_same (hck _)))
    obtain ⟨V, hV⟩ : ∃ V, V = W8.drewN nq := ⟨_, rfl⟩
    have hkv : Keeps (fun k => k = p ∨ k = w3.heap.size) W4 V := by rw [hV]; exact HK8.out.drewN nq
    have hiv : IsRd V p v l j3 0 := by rw [hV]; exact HI8.out.keep (qbq W8 nq)
    have hrv : V.heap[w3.heap.size]? = some (.cells #[.string s, .string s2, .slice none 0 0] 229 (0, 0)) := by rw [hV]; exact HR8.out
    rw [← hV]
    have hlv := qap hrv
    have HSE := Hj (pseries_one (HALL.out _ hkv).1 hiv HR4.out hn4 hl HR5.out)
    have HKV := Hj hkv; have HRV := Hj hrv
    clear hkv hiv hrv hV HK8 HI8 HR8 hck
    go_upto_region 13 with (go_at_call 144
                            refine HSE.out.mono ?_
                            rintro e w9 ⟨v2, rfl, ho9, hi9, hk9⟩
                            obtain ⟨a2, c2, rfl⟩ := qaf ho9
                            have hr9 := hk9.heap HRV.out (by omega)
                            have e1 : w9.cell? ⟨w3.heap.size, 2, none⟩ = some (.slice none 0 0) := by rw [cell_of_row _ _ _ _ _ _ hr9]; rfl
                            have e2 : w9.frozen? ⟨w3.heap.size, 2, none⟩ = false := frozen_of_row _ _ _ _ _ hr9
                            have HO9 := Hj ho9; have HI9 := Hj hi9; have HK9 := Hj hk9; have HR9 := Hj hr9
                            clear ho9 hi9 hk9 hr9 HSE)
    clear e1 e2
    obtain ⟨WA, hWA⟩ : ∃ WA, WA = w9.setCell ⟨w3.heap.size, 2, none⟩ (.slice a2 1 c2) := ⟨_, rfl⟩
    have hia := HI9.out.setOther HR9.out (by omega) 2 (.slice a2 1 c2)
    have hka : Keeps (fun k => k = w3.heap.size) w9 WA := by rw [hWA]; exact (Keeps.refl (fun k => k = w3.heap.size) w9).setCell (p := ⟨w3.heap.size, 2, none⟩) (fun _ => rfl) _
    have hra : WA.heap[w3.heap.size]? = some (.cells #[.string s, .string s2, .slice a2 1 c2] 229 (0, 0)) := by rw [hWA]; exact (heap_setCell_same w9 w3.heap.size 2 _ _ (.slice a2 1 c2) HR9.out).trans rfl
    rw [← hWA] at hia ⊢
    have hkx : Keeps (fun k => k = p ∨ k = w3.heap.size) W4 WA := (HKV.out.trans HK9.out (fun k _ e => .inl e)).trans hka (fun k _ e => .inr e)
    have c0 := (HALL.out _ hkx).1.c0
    have her := qch hia
    have hza : w3.heap.size < WA.heap.size := qap hra
    have HIA := Hj hia; have HKA := Hj hka; have HRA := Hj hra; have HKX := Hj hkx
    clear hia hka hra hkx hWA
    go_wp2_with (first
     | (go_at_call 134; refine her.mono ?_; rintro e wx ⟨rfl, hwx⟩; obtain rfl := hwx.symm)
     | (refine wpList_load_row rfl 229 _ rfl w3.heap.size rfl 229 _ (0, 0) _ HRA.out Tryz.underlying229 rfl (by kernel_rfl) ?_)
     | (at_builtin
        refine appE elEn rfl _ _ rfl (p + 1) _ _ 0 1 [] [.string s, .string s2, .slice a2 1 c2] rfl rfl (World.ownsRow_nil _ _ _ _) (rd_new _ 3 1 [.string s, .string s2, .slice a2 1 c2] 229 1 rfl (Nat.le_refl _)) (by simp [Value.oneCell']) (by omega) (by rw [World.size_alloc]; omega) ?_
        intro vb wb hownb hgb' hnb
        have hgb : (WA.alloc (.cells #[.string s, .string s2, .slice a2 1 c2] 229)).grownBy wb none := hgb'
        have HOB := Hj hownb; have HGB := Hj hgb
        clear hownb hgb' hgb hnb))
    have kb : Keeps (fun _ => False) WA wb := ((Keeps.refl (fun _ => False) WA).alloc _).grown HGB.out (fun k hk e => by cases e)
    have hz9 := HK9.out.size
    have hn2 : ∀ g, (Value.slice a2 1 c2).ownBlock = some g → p + 1 ≤ g ∧ g ≠ w3.heap.size := fun g hg => by have := (HO9.out.lt g hg).1; exact ⟨by omega, by omega⟩
    exact ⟨.inr ⟨rfl, _, HOB, Hj (qam (kb.row (HKA.out.row HO9.out (fun g hg e => (hn2 g hg).2 e)) (fun _ _ e => e)) (fun g hg => (hn2 g hg).1)), Hj ((HALL.out _ HKX.out).1.keeps kb (fun e => e)), Hj (HIA.out.keep kb), Hj ((((HK3.out.trans HK4.out (fun _ _ e => e.elim)).trans HKX.out (fun k hk e => by omega))).trans kb (fun _ _ e => e.elim))⟩, by simp [intOf]⟩
  · obtain ⟨a9, c9, rfl⟩ := qaf HO.out
    have c0 := HQ.out.c0
    have hend := wend_any HI.out
    rw [if_pos rfl, if_neg (Nat.lt_irrefl _)] at hend
    go_wp2_with (go_at_call 93; refine hend.mono ?_; rintro e w4 ⟨rfl, hw4⟩; obtain rfl := hw4.symm)
    go_ret2
    exact ⟨_, v2, rfl, qam HO.out (fun g hg => by have := (HO.out.lt g hg).1; omega), qam HO2.out (fun g hg => by have := (HO2.out.lt g hg).1; omega), HK.out.toFresh (fun k hk e => by omega)⟩
end
section
set_option maxHeartbeats 4000000
set_option maxRecDepth 100000
open Go.RowKit
theorem symdec_any {vb : Value} {l : List Nat} (tb : List ByteArray) (f : Nat → Nat) (bs : Nat → List Nat) {j : Nat} {w : World} (hb : Holds w vb (u8s l)) (hl : l.length ≤ 1000000000) (hlb : ∀ c ∈ l, c < 256) (hv : vgo 0 0 l = (tb.length, j, 0)) (hj : j ≤ l.length) (hn : tb.length ≤ l.length - j) (h0 : f 0 = 0)
 (hs : ∀ i, i < tb.length → rdStr (l.drop j) (f i) 0 65535 = (bs i, f (i + 1), 0)) (ht : ∀ i, i < tb.length → tb[i]? = some (strN (bs i))) (hA : ∀ i x y, tb[i]? = some x → tb[i + 1]? = some y → Op.bytesLess x.toList y.toList = true) (hf : f tb.length = l.length - j) :
 Calls Tryz.prog 75 #[vb] w fun e w' => ∃ v', e = .returned (.tuple #[v', .int .i64 0]) ∧ w'.ownsRow w.heap.size 9 1 v' tb.length (strC tb) ∧ Keeps (fun _ => False) w w' := by
 obtain ⟨i0, hi8, hz8, hz1, hz2⟩ := info_parts infoU8
 have HG := Hj (vget_any vb l 0 w hb hlb (Nat.zero_le _) (by omega))
 rw [List.drop_zero, hv] at HG
 simp only [vres, if_true, Nat.zero_add] at HG
 obtain ⟨ab, nb, cb, rfl⟩ : ∃ d n p, vb = .slice d n p := by obtain ⟨d, p, h, _⟩ := hb; exact ⟨d, _, p, h⟩
 have hnb : nb = l.length := by obtain ⟨d, p, h, _⟩ := hb; simp only [Value.slice.injEq] at h; rw [h.2.1, qac]
 subst hnb
 have hb' : Holds w (.slice ab (u8s l).length cb) (u8s l) := by rw [qac]; exact hb
 obtain ⟨a2, c2, hsl, hh2, _⟩ := run_from (P := Tryz.prog) w 29 5 Tryz.underlying29 hi8 hz1 hb' .i64 j (by rw [qac]; exact hj)
 rw [qac] at hsl hh2
 rw [show (u8s l).drop j = u8s (l.drop j) by simp [u8s]] at hh2
 obtain ⟨L, hL⟩ : ∃ L, L = l.drop j := ⟨_, rfl⟩
 have hLl : L.length = l.length - j := by rw [hL]; simp
 rw [← hL] at hh2 hs
 have HN := Hj (wnew_any _ L w hh2 (by omega) (fun c hc => hlb c (by rw [hL] at hc; exact List.mem_of_mem_drop hc)))
 have HS := Hj hs; have HT := Hj ht; have HA := Hj hA; have HF0 := Hj h0; have HF := Hj hf; have HLL := Hj hLl
 have hw1 : IntKind.i64.wrap ((l.length : Int) - (j : Int)) = ((l.length - j : Nat) : Int) := by rw [IntWalk.i64_in _ (by omega)]; omega
 have hw2 : IntKind.u64.wrap ((l.length - j : Nat) : Int) = ((l.length - j : Nat) : Int) := by rw [IntWalk.u64_in _ (by omega)]
 have hw3 : decide (l.length - j < tb.length) = false := by simp; omega
 have hw4 : IntKind.i64.wrap (tb.length : Int) = tb.length := by rw [IntWalk.i64_in _ (by omega)]
 have htl : tb.length ≤ 1000000000 := by omega
 obtain ⟨K, hK⟩ : ∃ K, K = l.length - j := ⟨_, rfl⟩
 rw [← hK] at hw1 hw2 hw3
 clear hb hb' hlb hv hs ht hA h0 hf hh2 hL hLl hi8 hz8 hz1 hz2 hn hj hK
 go_enter Tryz.func75, Tryz.ntmps75
 go_wp2_with (first
  | (go_at_call 132; refine HG.out.mono ?_; rintro e w1 ⟨rfl, hw1⟩; subst hw1)
  | (go_at_call 85; refine HN.out.mono ?_; rintro e w2 ⟨p, v, rfl, hp, hi2, hv2, hk2⟩))
 have HI2 := Hj hi2
 have HK2 : Hid (Keeps (fun k => w.heap.size ≤ k) w w2) := Hj (hk2.mono (fun _ _ e => e.elim))
 have hp2 := hi2.lt
 clear hi2 hk2 hv2 HG HN hsl hw1 hw2 hw3
 go_loopw [8, 37] (fun c i wr => ∃ (k : Nat), k ≤ tb.length ∧ i = .int .i64 (k : Int) ∧ Hid (wr.ownsRow (p + 1) 9 1 c k (strC (tb.take k))) ∧ Hid (IsRd wr p v L (f k) 0) ∧ Hid (Keeps (fun k => w.heap.size ≤ k) w wr)) (fun _ i _ => tb.length - (intOf i).toNat)
 case atStart => exact ⟨0, Nat.zero_le _, rfl, Hj (World.ownsRow_nil _ _ _ _), by rw [HF0.out]; exact HI2, HK2⟩
 case round =>
  obtain ⟨k, hk, rfl, HO, HI, HK⟩ := hrel
  by_cases hkn : k < tb.length
  · have hpr : p < wr.heap.size := HI.out.lt
    have hs := HS.out k hkn
    have htk := HT.out k hkn
    have HST := Hj (wstr_any HI.out 65535 (by decide))
    rw [hs] at HST
    obtain ⟨s, hsd⟩ : ∃ s, s = strN (bs k) := ⟨_, rfl⟩
    rw [← hsd] at HST htk
    obtain ⟨ac, cc, rfl⟩ := qaf HO.out
    have hkw : IntKind.i64.wrap ((k : Int) + 1) = ((k + 1 : Nat) : Int) := by rw [IntWalk.i64_in _ (by omega)]; rfl
    have htake : strC (tb.take (k + 1)) = strC (tb.take k) ++ [.string s] := by rw [List.take_add_one, htk]; simp [strC]
    have HTK := Hj htk; have HTA := Hj htake
    clear hs htk htake hsd
    have HQ : Hid (∀ w3, IsRd w3 p v L (f (k + 1)) 0 → Keeps (fun k => k = p) wr w3 → w3.ownsRow (p + 1) 9 1 (.slice ac k cc) k (strC (tb.take k))) := Hj (fun w3 hi hk3 => hk3.row HO.out (fun g hg e => by have := (HO.out.lt g hg).1; omega))
    by_cases hk0 : k = 0
    · subst hk0
      go_wp2_with (first
       | (go_at_call 133
          refine HST.out.mono ?_
          rintro e w3 ⟨rfl, hi3, hk3⟩
          have her := qch hi3
          have HO3 := Hj (HQ.out w3 hi3 hk3); have HI3 := Hj hi3; have HK3 := Hj hk3
          clear hi3 hk3)
       | (go_at_call 134; refine her.mono ?_; rintro e w4 ⟨rfl, hw4⟩; obtain rfl := hw4.symm)
       | (at_builtin
          refine appE elS rfl _ _ rfl (p + 1) _ _ 0 1 _ [.string s] rfl rfl (HO3.out.alloc _) (rd_new _ 1 1 [.string s] 9 1 rfl (Nat.le_refl _)) (by simp [Value.oneCell']) (by omega) (by have := HK3.out.size; rw [World.size_alloc]; omega) ?_
          intro v6 w6 hown6 hg6' hn6
          have hg6 : (w3.alloc (.cells #[.string s] 9)).grownBy w6 (Value.slice ac 0 cc).ownBlock := hg6'
          have HO6 := Hj hown6; have HG6 := Hj hg6
          clear hown6 hg6' hg6 hn6))
      have hgg : ∀ g, (Value.slice ac 0 cc).ownBlock = some g → p + 1 ≤ g := fun g hg => (HO3.out.lt g hg).1
      have k6 : Keeps (fun g => (Value.slice ac 0 cc).ownBlock = some g) w3 w6 := ((Keeps.refl _ w3).alloc _).grown HG6.out (fun k hk e => e)
      have i6 : IsRd w6 p v L (f (0 + 1)) 0 := HI3.out.keeps k6 (fun e => by have := hgg p e; omega) (fun g hg e => by
       obtain ⟨cur, hc⟩ := qaj HI3.out.row hg
       obtain ⟨cur', hc'⟩ := qaj HO3.out e
       exact qag hc hc' (by decide) rfl)
      have o6 := HO6.out
      rw [← HTA.out] at o6
      exact ⟨⟨0 + 1, by omega, by simp, Hj o6, Hj i6, Hj ((HK.out.trans HK3.out (fun k hk e => by omega)).trans k6 (fun k hk e => by have := hgg k e; omega))⟩, by simp [intOf]; omega⟩
    · obtain ⟨M, hM⟩ : ∃ M, k = M + 1 := ⟨k - 1, by omega⟩
      have hkm : IntKind.i64.wrap ((k : Int) - 1) = (M : Int) := by rw [IntWalk.i64_in _ (by omega)]; omega
      have hk1 : (0 : Int) < k := by omega
      have hm0 : (0 : Int) ≤ M := by omega
      have hmk : (M : Int) < k := by omega
      obtain ⟨x, hx⟩ : ∃ x, tb[M]? = some x := ⟨_, List.getElem?_eq_getElem (by omega)⟩
      have hlt : Op.bytesLess x.toList s.toList = true := HA.out M x s hx (by rw [← hM]; exact HTK.out)
      have HX : Hid ((strC (tb.take k))[M]? = some (.string x)) := Hj (by simp [strC, List.getElem?_take, hx]; omega)
      obtain ⟨g, rfl⟩ : ∃ g, ac = some ⟨g, 0, none⟩ := by
       obtain ⟨g, cp, cur, e, _⟩ := qbw HO.out hk0
       simp only [Value.slice.injEq] at e
       exact ⟨g, e.1⟩
      clear hx hM
      go_wp2_with (first
       | (go_at_call 133
          refine HST.out.mono ?_
          rintro e w3 ⟨rfl, hi3, hk3⟩
          have her := qch hi3
          have HO3 := Hj (HQ.out w3 hi3 hk3); have HI3 := Hj hi3; have HK3 := Hj hk3
          have hcell := (HO3.out.cells (g := g) rfl M (.string x) HX.out); rw [qbo] at hcell
          rw [Nat.zero_add] at hcell
          clear hi3 hk3)
       | (go_at_call 134; refine her.mono ?_; rintro e w4 ⟨rfl, hw4⟩; obtain rfl := hw4.symm)
       | (at_builtin
          refine appE elS rfl _ _ rfl (p + 1) _ _ k 1 _ [.string s] rfl rfl (HO3.out.alloc _) (rd_new _ 1 1 [.string s] 9 1 rfl (Nat.le_refl _)) (by simp [Value.oneCell']) (by omega) (by have := HK3.out.size; rw [World.size_alloc]; omega) ?_
          intro v6 w6 hown6 hg6' hn6
          have hg6 : (w3.alloc (.cells #[.string s] 9)).grownBy w6 (Value.slice (some ⟨g, 0, none⟩) k cc).ownBlock := hg6'
          have HO6 := Hj hown6; have HG6 := Hj hg6
          clear hown6 hg6' hg6 hn6))
      have hgg : ∀ g', (Value.slice (some ⟨g, 0, none⟩) k cc).ownBlock = some g' → p + 1 ≤ g' := fun g' hg => (HO3.out.lt g' hg).1
      have k6 : Keeps (fun g' => (Value.slice (some ⟨g, 0, none⟩) k cc).ownBlock = some g') w3 w6 := ((Keeps.refl _ w3).alloc _).grown HG6.out (fun k hk e => e)
      have i6 : IsRd w6 p v L (f (k + 1)) 0 := HI3.out.keeps k6 (fun e => by have := hgg p e; omega) (fun g hg e => by
       obtain ⟨cur, hc⟩ := qaj HI3.out.row hg
       obtain ⟨cur', hc'⟩ := qaj HO3.out e
       exact qag hc hc' (by decide) rfl)
      have o6 := HO6.out
      rw [← HTA.out] at o6
      exact ⟨⟨k + 1, by omega, by simp, Hj o6, Hj i6, Hj ((HK.out.trans HK3.out (fun k hk e => by omega)).trans k6 (fun k hk e => by have := hgg k e; omega))⟩, by simp [intOf]; omega⟩
  · obtain rfl : k = tb.length := by omega
    obtain ⟨ac, cc, rfl⟩ := qaf HO.out
    have HO' : Hid (wr.ownsRow (p + 1) 9 1 (.slice ac tb.length cc) tb.length (strC tb)) := Hj (by have := HO.out; rwa [List.take_length] at this)
    have hend := wend_any HI.out
    rw [if_pos rfl, if_neg (by rw [HF.out, HLL.out]; omega)] at hend
    go_wp2_with (go_at_call 93; refine hend.mono ?_; rintro e w4 ⟨rfl, hw4⟩; obtain rfl := hw4.symm)
    go_ret2
    exact ⟨_, rfl, qam HO'.out (fun g hg => by have := (HO'.out.lt g hg).1; omega), HK.out.toFresh (fun k hk e => by omega)⟩
end
end Go.Proofs.YtfpcgcbehdogjaaGreatDoor
