/-
  Lemmas on which LTopTruncates rests, packed out of the texts XPsD YBld YSecP XSyD; each for all arguments under the hypotheses it names.
-/
import Derived.Test.YtfpcgcbehdogjaaGreatDoorT23
import Derived.Test.YtfpcgcbehdogjaaGreatDoorT24
namespace Go.Proofs.YtfpcgcbehdogjaaGreatDoor
section
set_option maxHeartbeats 4000000
set_option maxRecDepth 100000
open Go.RowKit
def PRd (w : World) (q p : Nat) (tv : Value) (n : Nat) : Prop := w.heap[q]? = some (.cells #[.pointer (some ⟨p, 0, none⟩), tv, .int .i64 (n : Int)] 256 (0, 0))
theorem PRd.c0 {w : World} {q p : Nat} {tv : Value} {n : Nat} (h : PRd w q p tv n) : w.cell? ⟨q, 0, none⟩ = some (.pointer (some ⟨p, 0, none⟩)) := by rw [cell_of_row _ _ _ _ _ _ h]; rfl
theorem PRd.c1 {w : World} {q p : Nat} {tv : Value} {n : Nat} (h : PRd w q p tv n) : w.cell? ⟨q, 1, none⟩ = some tv := by rw [cell_of_row _ _ _ _ _ _ h]; rfl
theorem PRd.c2 {w : World} {q p : Nat} {tv : Value} {n : Nat} (h : PRd w q p tv n) : w.cell? ⟨q, 2, none⟩ = some (.int .i64 (n : Int)) := by rw [cell_of_row _ _ _ _ _ _ h]; rfl
theorem PRd.ne {w : World} {q p : Nat} {tv v : Value} {n i e : Nat} {l : List Nat} (h : PRd w q p tv n) (hr : IsRd w p v l i e) : q ≠ p := qaf h hr.blk (by decide)
theorem PRd.keeps {S : Nat → Prop} {a b : World} {q p : Nat} {tv : Value} {n : Nat} (h : PRd a q p tv n) (k : Keeps S a b) (hS : ¬ S q) : PRd b q p tv n := k.heap h hS
theorem qfb {q p : Nat} {tv v : Value} {n : Nat} {l : List Nat} {i : Nat} {w : World} (hq : PRd w q p tv n) (h : IsRd w p v l i 0) (y : Nat) :
 Calls Tryz.prog 143 #[.pointer (some ⟨q, 0, none⟩), .bool true, .int .i64 (y : Int)] w fun e w' => e = .returned (.bool true) ∧ w' = w := by
 have c0 := hq.c0
 have her := qcb h
 clear h hq
 go_enter Tryz.func143, Tryz.ntmps143
 go_wp2_with (go_at_call 134; refine her.mono ?_; rintro e w2 ⟨rfl, rfl⟩)
 go_ret
 exact ⟨rfl, rfl⟩
theorem pcount_ok {q p : Nat} {tv v : Value} {l : List Nat} {i n j : Nat} {w : World} (hq : PRd w q p tv l.length) (h : IsRd w p v l i 0) (hr : rdUint l i 0 18446744073709551615 = (n, j, 0)) (hn : n ≤ l.length - j) (hl : l.length ≤ 1000000000) :
 Calls Tryz.prog 141 #[.pointer (some ⟨q, 0, none⟩)] w fun e w' => e = .returned (.int .i64 (n : Int)) ∧ IsRd w' p v l j 0 ∧ Keeps (fun k => k = p) w w' := by
 have c0 := hq.c0
 have hne := hq.ne h
 have HU := Hj (qdt h 18446744073709551615)
 rw [hr] at HU
 have HQ := Hj hq
 clear h hr hq
 go_enter Tryz.func141, Tryz.ntmps141
 go_upto_region 2 with (go_at_call 188; refine HU.out.mono ?_; rintro e w1 ⟨rfl, hrd, hk⟩)
 have hq1 := HQ.out.keeps hk hne
 have c0' := hq1.c0
 have c2' := hq1.c2
 have hjl := hrd.le
 have hat := fun k => qel (hrd.keep (qbl w1 k))
 have hck := fun k => qfb (hq1.keeps (qbl w1 k) (fun e => e)) (hrd.keep (qbl w1 k)) 3
 have hw1 : IntKind.i64.wrap ((l.length : Int) - (j : Int)) = ((l.length - j : Nat) : Int) := by rw [IntWalk.i64_in _ (by omega)]; omega
 have hw2 : IntKind.u64.wrap ((l.length - j : Nat) : Int) = ((l.length - j : Nat) : Int) := by rw [IntWalk.u64_in _ (by omega)]
 have hw3 : decide (n ≤ l.length - j) = true := by simp; omega
 have HRD := Hj hrd; have HK := Hj hk
 obtain ⟨L, hL⟩ : ∃ L, L = l.length - j := ⟨_, rfl⟩
 rw [← hL] at hw1 hw2 hw3
 clear hrd hk c0 hL hq1
 go_quiet (first | (go_at_call 143; exact Calls.quiet_of_same (hck _)) | (go_at_call 87; exact Calls.quiet_of_same (hat _)))
 have hw4 : IntKind.i64.wrap (n : Int) = n := by rw [IntWalk.i64_in _ (by omega)]
 go_wp2_with fail
 go_ret
 exact ⟨rfl, HRD.out.keep (qbl _ _), HK.out.drewN _⟩
theorem qlc {q p : Nat} {ta : Option Addr} {tc : Nat} {v : Value} {l : List Nat} {tb : List ByteArray} {i k j : Nat} {s : ByteArray} {w : World} (hq : PRd w q p (.slice ta tb.length tc) l.length) (h : IsRd w p v l i 0) (hT : RdT w (.slice ta tb.length tc) tb) (hTp : ∀ g, (Value.slice ta tb.length tc).ownBlock = some g → g ≠ p) (hr : rdUint l i 0 18446744073709551615 = (k, j, 0)) (hs : tb[k]? = some s) (hl : tb.length ≤ 1000000000) :
 Calls Tryz.prog 142 #[.pointer (some ⟨q, 0, none⟩)] w fun e w' => e = .returned (.string s) ∧ IsRd w' p v l j 0 ∧ Keeps (fun k => k = p) w w' := by
 have c0 := hq.c0
 have hne := hq.ne h
 have HU := Hj (qdt h 18446744073709551615)
 rw [hr] at HU
 have HQ := Hj hq; have HT := Hj hT; have HTP := Hj hTp; have HS := Hj hs
 have hk : k < tb.length := (List.getElem?_eq_some_iff.1 hs).1
 clear h hr hq hT hTp hs
 go_enter Tryz.func142, Tryz.ntmps142
 go_upto_region 2 with (go_at_call 188; refine HU.out.mono ?_; rintro e w1 ⟨rfl, hrd, hk⟩)
 have hq1 := HQ.out.keeps hk hne
 have c0' := hq1.c0
 have c1' := hq1.c1
 have hck := qfb hq1 hrd 14
 have hT1 : RdT w1 (.slice ta tb.length tc) tb := Rd.keeps HT.out hk (fun g hg e => HTP.out g hg e)
 obtain ⟨b, o, ea, cs⟩ := RdT.at hT1 HS.out
 subst ea
 have hw2 : IntKind.u64.wrap (tb.length : Int) = (tb.length : Int) := by rw [IntWalk.u64_in _ (by omega)]
 have hw3 : decide (k < tb.length) = true := by simp; omega
 have hw5 : decide ((k : Int) < tb.length) = true := by simp; omega
 have HRD := Hj hrd; have HK := Hj hk
 clear hrd hk c0 hT1 hq1
 have hk0 : (0 : Int) ≤ k := by omega
 have hk1 : (k : Int) < tb.length := by omega
 go_wp2_with (go_at_call 143; refine hck.mono ?_; rintro e w2 ⟨rfl, rfl⟩)
 go_ret
 exact ⟨rfl, HRD.out, HK.out⟩
theorem pseries_one {q p : Nat} {tv v : Value} {l : List Nat} {i j j2 : Nat} {w : World} (hq : PRd w q p tv l.length) (h : IsRd w p v l i 0) (hr : rdUint l i 0 18446744073709551615 = (1, j, 0)) (hn : 1 ≤ l.length - j) (hl : l.length ≤ 1000000000) (hr2 : rdUint l j 0 18446744073709551615 = (0, j2, 0)) :
 Calls Tryz.prog 144 #[.pointer (some ⟨q, 0, none⟩), .int .u64 1] w fun e w' => ∃ v', e = .returned v' ∧ w'.ownsRow w.heap.size 3 1 v' 1 [.int .i64 0] ∧ IsRd w' p v l j2 0 ∧ Keeps (fun k => k = p) w w' := by
 have hne := hq.ne h
 have hlt := h.lt
 have HC := Hj (pcount_ok hq h hr hn hl)
 have HQ := Hj hq; have HR2 := Hj hr2
 clear h hr hq hr2
 go_enter Tryz.func144, Tryz.ntmps144
 go_wp2_with (first
  | (go_at_call 141
     refine HC.out.mono ?_
     rintro e w1 ⟨rfl, hi1, hk1⟩
     have hck := qfb (HQ.out.keeps hk1 hne) hi1 22)
  | (go_at_call 143; refine hck.mono ?_; rintro e w2 ⟨rfl, hw2⟩; obtain rfl := hw2.symm))
 have HI1 := Hj hi1; have HK1 := Hj hk1
 clear hi1 hk1 HC hck
 go_loopw [6, 7, 17] (fun c d i wr => (c = .slice none 0 0 ∧ d = .int .u64 0 ∧ i = .int .i64 0 ∧ wr = w1) ∨ (i = .int .i64 1 ∧ Hid (wr.ownsRow w.heap.size 3 1 c 1 [.int .i64 0]) ∧ Hid (IsRd wr p v l j2 0) ∧ Hid (Keeps (fun k => k = p) w wr))) (fun _ _ i _ => 1 - (intOf i).toNat)
 case atStart => exact .inl ⟨rfl, rfl, rfl, rfl⟩
 case round =>
  rcases hrel with ⟨rfl, rfl, rfl, hwr⟩ | ⟨rfl, HO, HI, HK⟩
  · obtain rfl := hwr.symm
    have hq1 := HQ.out.keeps HK1.out hne
    have c0 := hq1.c0
    have HQ1 := Hj hq1
    have HU := Hj (qdt HI1.out 18446744073709551615)
    rw [HR2.out] at HU
    clear hq1
    go_wp2_with (first
     | (go_at_call 188
        refine HU.out.mono ?_
        rintro e w2 ⟨rfl, hi2, hk2⟩
        have hck := qfb (HQ1.out.keeps hk2 hne) hi2 22
        have HI2 := Hj hi2; have HK2 := Hj hk2
        clear hi2 hk2)
     | (go_at_call 143; refine hck.mono ?_; rintro e w3 ⟨rfl, hw3⟩; obtain rfl := hw3.symm)
     | (at_builtin
        refine appE elI rfl _ _ rfl w.heap.size _ _ 0 1 [] [.int .i64 0] rfl rfl (World.ownsRow_nil _ _ _ _) (rd_new _ 1 1 [.int .i64 0] 3 1 rfl (Nat.le_refl _)) (by simp [Value.oneCell']) (by omega) (by have := HK1.out.size; have := HK2.out.size; simp; omega) ?_
        intro v6 w6 hown6 hg6' hn6
        have hg6 : (w2.alloc (.cells #[.int .i64 0] 3)).grownBy w6 none := hg6'
        have HO6 := Hj hown6; have HG6 := Hj hg6
        clear hown6 hg6' hg6 hn6))
    have k6 : Keeps (fun _ => False) w2 w6 := ((Keeps.refl (fun _ => False) w2).alloc _).grown HG6.out (fun k hk e => by cases e)
    exact ⟨.inr ⟨rfl, HO6, Hj (HI2.out.keep k6), Hj ((HK1.out.trans HK2.out (fun _ _ e => e)).trans k6 (fun _ _ e => e.elim))⟩, by simp [intOf]⟩
  · obtain ⟨a9, c9, rfl⟩ := qac HO.out
    go_wp2_with fail
    go_ret
    exact ⟨_, rfl, HO.out, HI.out, HK.out⟩
theorem IsRd.setOther {w : World} {p B : Nat} {v : Value} {l : List Nat} {i e : Nat} (h : IsRd w p v l i e) {cs : Array Value} (hB : w.heap[B]? = some (.cells cs 229 (0, 0))) (hne : B ≠ p) (j : Nat) (x : Value) : IsRd (w.setCell ⟨B, j, none⟩ x) p v l i e :=
 h.keeps ((Keeps.refl (fun k => k = B) w).setCell (p := ⟨B, j, none⟩) (fun _ => rfl) x) (fun e => hne e.symm) (fun g hg e => by
  obtain ⟨cur, hc⟩ := qak h.row hg
  exact qaf hc hB (by decide) e)
theorem postdec_one {ta : Option Addr} {tc : Nat} {vb : Value} {l : List Nat} {tb : List ByteArray} {i k j2 k2 j3 j4 : Nat} {s s2 : ByteArray} {w : World} (hT : RdT w (.slice ta tb.length tc) tb) (hb : Holds w vb (u8s l)) (hl : l.length ≤ 1000000000) (hlb : ∀ c ∈ l, c < 256) (hr0 : rdUint l 0 0 18446744073709551615 = (1, i, 0)) (hn0 : 1 ≤ l.length - i)
 (hr2 : rdUint l i 0 18446744073709551615 = (k, j2, 0)) (hs : tb[k]? = some s) (hr3 : rdUint l j2 0 18446744073709551615 = (k2, j3, 0)) (hs2 : tb[k2]? = some s2) (htl : tb.length ≤ 1000000000)
 (hr4 : rdUint l j3 0 18446744073709551615 = (1, j4, 0)) (hn4 : 1 ≤ l.length - j4) (hr5 : rdUint l j4 0 18446744073709551615 = (0, l.length, 0)) :
 Calls Tryz.prog 84 #[.slice ta tb.length tc, .int .i64 1, vb] w fun e w' => ∃ v' v2, e = .returned (.tuple #[v', .int .i64 0]) ∧ w'.ownsRow w.heap.size 229 3 v' 1 [.string s, .string s2, v2] ∧ w'.ownsRow w.heap.size 3 1 v2 1 [.int .i64 0] ∧ Keeps (fun _ => False) w w' := by
 have HN := Hj (qhz vb l w hb (by omega) hlb)
 obtain ⟨ab, nb, cb, rfl⟩ : ∃ d n p, vb = .slice d n p := by obtain ⟨d, p, h, _⟩ := hb; exact ⟨d, _, p, h⟩
 have hnb : nb = l.length := by obtain ⟨d, p, h, _⟩ := hb; simp only [Value.slice.injEq] at h; rw [h.2.1, qaa]
 subst hnb
 have HT := Hj hT; have HS := Hj hs; have HS2 := Hj hs2; have HR0 := Hj hr0; have HR2 := Hj hr2; have HR3 := Hj hr3; have HR4 := Hj hr4; have HR5 := Hj hr5
 have HTG : Hid (∀ g, (Value.slice ta tb.length tc).ownBlock = some g → g < w.heap.size) := Hj (fun g hg => Rd.lt hT (by decide) ⟨by have := (List.getElem?_eq_some_iff.1 hs).1; omega, hg⟩)
 clear hT hs hs2 hr0 hr2 hr3 hr4 hr5 hb hlb
 go_enter Tryz.func84, Tryz.ntmps84
 go_wp2_with (first
  | (go_at_call 85
     refine HN.out.mono ?_
     rintro e w1 ⟨p, v, rfl, hp, hi1, hv1, hk1⟩
     have hk2 : Keeps (fun _ => False) w1 (w1.alloc (.cells #[.pointer (some ⟨p, 0, none⟩), .slice ta tb.length tc, .int .i64 (l.length : Int)] 256)) := (Keeps.refl _ _).alloc _
     have hq2 : PRd (w1.alloc (.cells #[.pointer (some ⟨p, 0, none⟩), .slice ta tb.length tc, .int .i64 (l.length : Int)] 256)) w1.heap.size p (.slice ta tb.length tc) l.length := heap_alloc_new w1 _
     have hpl := hi1.lt
     have HCT := Hj (pcount_ok hq2 (hi1.keep hk2) HR0.out hn0 hl)
     have HK2 := Hj (hk1.trans hk2 (fun _ _ e => e)); have HQ2 := Hj hq2
     clear hi1 hv1 hk1 hk2 hq2)
  | (go_at_call 141; refine HCT.out.mono ?_; rintro e w3 ⟨rfl, hi3, hk3⟩))
 have hwz : w.heap.size ≤ w1.heap.size ∧ w1.heap.size + 1 ≤ w3.heap.size := by have h1 := HK2.out.size; have h2 := hk3.size; simp at h1 h2; exact ⟨by omega, h2⟩
 have HQ3 := Hj (HQ2.out.keeps hk3 (by omega))
 have HI3 := Hj hi3
 have HK3 : Hid (Keeps (fun k => k = p) w w3) := Hj ((HK2.out.mono (S' := fun k => k = p) (fun _ _ e => e.elim)).trans hk3 (fun _ _ e => e))
 clear hi3 hk3 HCT HK2 HQ2 HN
 go_loopw [9, 24] (fun c i wr => (c = .slice none 0 0 ∧ i = .int .i64 0 ∧ wr = w3) ∨ (i = .int .i64 1 ∧ ∃ v2, Hid (wr.ownsRow (p + 1) 229 3 c 1 [.string s, .string s2, v2]) ∧ Hid (wr.ownsRow (p + 1) 3 1 v2 1 [.int .i64 0]) ∧ Hid (PRd wr w1.heap.size p (.slice ta tb.length tc) l.length) ∧ Hid (IsRd wr p v l l.length 0) ∧ Hid (Keeps (fun k => k = p) w wr))) (fun _ i _ => 1 - (intOf i).toNat)
 case atStart => exact .inl ⟨rfl, rfl, rfl⟩
 case round =>
  rcases hrel with ⟨rfl, rfl, hwr⟩ | ⟨rfl, v2, HO, HO2, HQ, HI, HK⟩
  · obtain rfl := hwr.symm
    obtain ⟨W4, hW4⟩ : ∃ W4, W4 = w3.alloc (.cells #[.string ⟨#[]⟩, .string ⟨#[]⟩, .slice none 0 0] 229) := ⟨_, rfl⟩
    have hk4 : Keeps (fun _ => False) w3 W4 := by rw [hW4]; exact (Keeps.refl _ _).alloc _
    have hr4 : W4.heap[w3.heap.size]? = some (.cells #[.string ⟨#[]⟩, .string ⟨#[]⟩, .slice none 0 0] 229 (0, 0)) := by rw [hW4]; exact heap_alloc_new w3 _
    have HP1 := Hj (qlc (HQ3.out.keeps hk4 (fun e => e)) (HI3.out.keep hk4) (Rd.keeps HT.out (HK3.out.trans hk4 (fun _ _ e => e.elim)) (fun g hg e => by have := HTG.out g hg; omega)) (fun g hg => by have := HTG.out g hg; omega) HR2.out HS.out htl)
    have HK4 := Hj hk4; have HR4' := Hj hr4; have HW4 := Hj hW4
    clear hk4 hr4 hW4
    go_upto_region 10 with (go_at_call 142
                            rw [← HW4.out]
                            refine HP1.out.mono ?_
                            rintro e w5 ⟨rfl, hi5, hk5⟩
                            have hr5 := hk5.heap HR4'.out (by omega)
                            have e1 : w5.cell? ⟨w3.heap.size, 0, none⟩ = some (.string ⟨#[]⟩) := by rw [cell_of_row _ _ _ _ _ _ hr5]; rfl
                            have e2 : w5.frozen? ⟨w3.heap.size, 0, none⟩ = false := frozen_of_row _ _ _ _ _ hr5
                            have HI5 := Hj hi5; have HK5 := Hj hk5; have HR5' := Hj hr5
                            clear hi5 hk5 hr5 HP1)
    clear e1 e2
    have HALL : Hid (∀ q, Keeps (fun k => k = p ∨ k = w3.heap.size) W4 q → PRd q w1.heap.size p (.slice ta tb.length tc) l.length ∧ RdT q (.slice ta tb.length tc) tb) := Hj (fun q hq => ⟨(HQ3.out.keeps HK4.out (fun e => e)).keeps hq (fun e => by omega), Rd.keeps HT.out (((HK3.out.trans HK4.out (fun _ _ e => e.elim)).mono (S' := fun k => k = p ∨ w3.heap.size ≤ k) (fun _ _ e => .inl e)).trans hq (fun k hk e => by omega)) (fun g hg e => by have := HTG.out g hg; omega)⟩)
    obtain ⟨W6, hW6⟩ : ∃ W6, W6 = w5.setCell ⟨w3.heap.size, 0, none⟩ (.string s) := ⟨_, rfl⟩
    have hi6 := HI5.out.setOther HR5'.out (by omega) 0 (.string s)
    have hk6 : Keeps (fun k => k = p ∨ k = w3.heap.size) W4 W6 := by rw [hW6]; exact (HK5.out.mono (fun k _ e => .inl e)).setCell (p := ⟨w3.heap.size, 0, none⟩) (fun _ => .inr rfl) _
    have hr6 : W6.heap[w3.heap.size]? = some (.cells #[.string s, .string ⟨#[]⟩, .slice none 0 0] 229 (0, 0)) := by rw [hW6]; exact (heap_setCell_same w5 w3.heap.size 0 _ _ (.string s) HR5'.out).trans rfl
    rw [← hW6] at hi6 ⊢
    have HP2 := Hj (qlc (HALL.out _ hk6).1 hi6 (HALL.out _ hk6).2 (fun g hg => by have := HTG.out g hg; omega) HR3.out HS2.out htl)
    have HK6 := Hj hk6; have HR6 := Hj hr6
    clear hi6 hk6 hr6 hW6 HI5 HK5 HR5'
    go_upto_region 11 with (go_at_call 142
                            refine HP2.out.mono ?_
                            rintro e w7 ⟨rfl, hi7, hk7⟩
                            have hr7 := hk7.heap HR6.out (by omega)
                            have e1 : w7.cell? ⟨w3.heap.size, 1, none⟩ = some (.string ⟨#[]⟩) := by rw [cell_of_row _ _ _ _ _ _ hr7]; rfl
                            have e2 : w7.frozen? ⟨w3.heap.size, 1, none⟩ = false := frozen_of_row _ _ _ _ _ hr7
                            have HI7 := Hj hi7; have HK7 := Hj hk7; have HR7 := Hj hr7
                            clear hi7 hk7 hr7 HP2)
    clear e1 e2
    obtain ⟨W8, hW8⟩ : ∃ W8, W8 = w7.setCell ⟨w3.heap.size, 1, none⟩ (.string s2) := ⟨_, rfl⟩
    have hi8 := HI7.out.setOther HR7.out (by omega) 1 (.string s2)
    have hk8 : Keeps (fun k => k = p ∨ k = w3.heap.size) W4 W8 := by rw [hW8]; exact (HK6.out.trans HK7.out (fun k _ e => .inl e)).setCell (p := ⟨w3.heap.size, 1, none⟩) (fun _ => .inr rfl) _
    have hr8 : W8.heap[w3.heap.size]? = some (.cells #[.string s, .string s2, .slice none 0 0] 229 (0, 0)) := by rw [hW8]; exact (heap_setCell_same w7 w3.heap.size 1 _ _ (.string s2) HR7.out).trans rfl
    rw [← hW8] at hi8 ⊢
    have hck := fun k => qfb ((HALL.out _ hk8).1.keeps (qbl W8 k) (fun e => e)) (hi8.keep (qbl W8 k)) 16
    have HI8 := Hj hi8; have HK8 := Hj hk8; have HR8 := Hj hr8
    clear hi8 hk8 hr8 hW8 HI7 HK7 HR7 HK6 HR6
    go_quiet ((go_at_call 143; exact Calls.quiet_of_same (hck _)))
    obtain ⟨V, hV⟩ : ∃ V, V = W8.drewN nq := ⟨_, rfl⟩
    have hkv : Keeps (fun k => k = p ∨ k = w3.heap.size) W4 V := by rw [hV]; exact HK8.out.drewN nq
    have hiv : IsRd V p v l j3 0 := by rw [hV]; exact HI8.out.keep (qbl W8 nq)
    have hrv : V.heap[w3.heap.size]? = some (.cells #[.string s, .string s2, .slice none 0 0] 229 (0, 0)) := by rw [hV]; exact HR8.out
    rw [← hV]
    have hlv := qan hrv
    have HSE := Hj (pseries_one (HALL.out _ hkv).1 hiv HR4.out hn4 hl HR5.out)
    have HKV := Hj hkv; have HRV := Hj hrv
    clear hkv hiv hrv hV HK8 HI8 HR8 hck
    go_upto_region 13 with (go_at_call 144
                            refine HSE.out.mono ?_
                            rintro e w9 ⟨v2, rfl, ho9, hi9, hk9⟩
                            obtain ⟨a2, c2, rfl⟩ := qac ho9
                            have hr9 := hk9.heap HRV.out (by omega)
                            have e1 : w9.cell? ⟨w3.heap.size, 2, none⟩ = some (.slice none 0 0) := by rw [cell_of_row _ _ _ _ _ _ hr9]; rfl
                            have e2 : w9.frozen? ⟨w3.heap.size, 2, none⟩ = false := frozen_of_row _ _ _ _ _ hr9
                            have HO9 := Hj ho9; have HI9 := Hj hi9; have HK9 := Hj hk9; have HR9 := Hj hr9
                            clear ho9 hi9 hk9 hr9 HSE)
    clear e1 e2
    obtain ⟨WA, hWA⟩ : ∃ WA, WA = w9.setCell ⟨w3.heap.size, 2, none⟩ (.slice a2 1 c2) := ⟨_, rfl⟩
    have hia := HI9.out.setOther HR9.out (by omega) 2 (.slice a2 1 c2)
    have hka : Keeps (fun k => k = w3.heap.size) w9 WA := by rw [hWA]; exact (Keeps.refl (fun k => k = w3.heap.size) w9).setCell (p := ⟨w3.heap.size, 2, none⟩) (fun _ => rfl) _
    have hra : WA.heap[w3.heap.size]? = some (.cells #[.string s, .string s2, .slice a2 1 c2] 229 (0, 0)) := by rw [hWA]; exact (heap_setCell_same w9 w3.heap.size 2 _ _ (.slice a2 1 c2) HR9.out).trans rfl
    rw [← hWA] at hia ⊢
    have hkx : Keeps (fun k => k = p ∨ k = w3.heap.size) W4 WA := (HKV.out.trans HK9.out (fun k _ e => .inl e)).trans hka (fun k _ e => .inr e)
    have c0 := (HALL.out _ hkx).1.c0
    have her := qcb hia
    have hza : w3.heap.size < WA.heap.size := qan hra
    have HIA := Hj hia; have HKA := Hj hka; have HRA := Hj hra; have HKX := Hj hkx
    clear hia hka hra hkx hWA
    go_wp2_with (first
     | (go_at_call 134; refine her.mono ?_; rintro e wx ⟨rfl, hwx⟩; obtain rfl := hwx.symm)
     | (refine wpList_load_row rfl 229 _ rfl w3.heap.size rfl 229 _ (0, 0) _ HRA.out Tryz.underlying229 rfl (by kernel_rfl) ?_)
     | (at_builtin
        refine appE elEn rfl _ _ rfl (p + 1) _ _ 0 1 [] [.string s, .string s2, .slice a2 1 c2] rfl rfl (World.ownsRow_nil _ _ _ _) (rd_new _ 3 1 [.string s, .string s2, .slice a2 1 c2] 229 1 rfl (Nat.le_refl _)) (by simp [Value.oneCell']) (by omega) (by rw [World.size_alloc]; omega) ?_
        intro vb wb hownb hgb' hnb
        have hgb : (WA.alloc (.cells #[.string s, .string s2, .slice a2 1 c2] 229)).grownBy wb none := hgb'
        have HOB := Hj hownb; have HGB := Hj hgb
        clear hownb hgb' hgb hnb))
    have kb : Keeps (fun _ => False) WA wb := ((Keeps.refl (fun _ => False) WA).alloc _).grown HGB.out (fun k hk e => by cases e)
    have hz9 := HK9.out.size
    have hn2 : ∀ g, (Value.slice a2 1 c2).ownBlock = some g → p + 1 ≤ g ∧ g ≠ w3.heap.size := fun g hg => by have := (HO9.out.lt g hg).1; exact ⟨by omega, by omega⟩
    exact ⟨.inr ⟨rfl, _, HOB, Hj (qao (kb.row (HKA.out.row HO9.out (fun g hg e => (hn2 g hg).2 e)) (fun _ _ e => e)) (fun g hg => (hn2 g hg).1)), Hj ((HALL.out _ HKX.out).1.keeps kb (fun e => e)), Hj (HIA.out.keep kb), Hj ((((HK3.out.trans HK4.out (fun _ _ e => e.elim)).trans HKX.out (fun k hk e => by omega))).trans kb (fun _ _ e => e.elim))⟩, by simp [intOf]⟩
  · obtain ⟨a9, c9, rfl⟩ := qac HO.out
    have c0 := HQ.out.c0
    have hend := qia HI.out
    rw [if_pos rfl, if_neg (Nat.lt_irrefl _)] at hend
    go_wp2_with (go_at_call 93; refine hend.mono ?_; rintro e w4 ⟨rfl, hw4⟩; obtain rfl := hw4.symm)
    go_ret2
    exact ⟨_, v2, rfl, qao HO.out (fun g hg => by have := (HO.out.lt g hg).1; omega), qao HO2.out (fun g hg => by have := (HO2.out.lt g hg).1; omega), HK.out.toFresh (fun k hk e => by omega)⟩
end
section
set_option maxHeartbeats 8000000
set_option maxRecDepth 100000
open Go.RowKit
def cntL (ls : List (List Lab)) (k : Nat) : Nat := ((ls.take k).map List.length).sum
theorem cntL_succ (ls : List (List Lab)) {k : Nat} {l : List Lab} (h : ls[k]? = some l) : cntL ls (k + 1) = cntL ls k + l.length := by
 unfold cntL; rw [List.take_add_one, h]; simp
theorem cntL_le (ls : List (List Lab)) (k : Nat) : cntL ls k ≤ (ls.map List.length).sum := by
 have : (ls.map List.length).sum = cntL ls k + ((ls.drop k).map List.length).sum := by
  unfold cntL; rw [← List.sum_append, ← List.map_append, List.take_append_drop]
 omega
def numsM (es : List Ent) (x : Lab) : List Nat := match keyIx es x with | some j => (es.getD j (x, [])).2 | none => []
def bldO (ls : List (List Lab)) : List Ent := (sortL ((bldM ls).map (·.1))).map fun x => (x, numsM (bldM ls) x)
def hdM (es : List Ent) (vs : List Value) (x : Lab) : EntH := match keyIx es x with
 | some j => (match vs.getD j (.slice none 0 0) with | .slice a n c => ⟨x, a, n, c⟩ | _ => ⟨x, none, 0, 0⟩)
 | none => ⟨x, none, 0, 0⟩
theorem entC_snoc (hs : List EntH) (h : EntH) : entC (hs ++ [h]) = entC hs ++ [.string h.lab.1, .string h.lab.2, h.sv] := by simp [entC]
theorem build_any (ad : Option Addr) (cap : Nat) (hv : List Value) (ls : List (List Lab)) (w : World) (h : Rd 1 w (.slice ad ls.length cap) ls.length hv) (hL : ∀ (k : Nat) (v : Value) (l : List Lab), hv[k]? = some v → ls[k]? = some l → RdL w v l)
 (hsz : ∀ l ∈ ls, ∀ x ∈ l, x.1.size ≤ maxLen ∧ x.2.size ≤ maxLen) (hn : ls.length ≤ 1000000000) (hN : (ls.map List.length).sum ≤ 1000000000) :
 Calls Tryz.prog 68 #[.slice ad ls.length cap] w fun e w' => ∃ v' hd, e = .returned v' ∧ RdE w' v' hd (bldO ls) ∧ Keeps (fun _ => False) w w' := by
 have hmk : (Instr.makeMap 230 none).run Tryz.prog w = .ok (.map (some w.heap.size)) (w.alloc (.map #[] 0)) := run_makeMap 230 w
 obtain ⟨W0, hW0⟩ : ∃ W0, W0 = w.alloc (.map #[] 0) := ⟨_, rfl⟩
 have HG0 : Hid (GrpAt W0 w.heap.size (w.heap.size + 1) [] []) := Hj ⟨rfl, by rw [hW0]; exact heap_alloc_new w _, fun j e v he _ => by simp at he, fun i j u v g hu _ _ _ => by simp at hu, Nat.lt_succ_self _⟩
 have HK0 : Hid (Keeps (fun _ => False) w W0) := Hj (by rw [hW0]; exact (Keeps.refl _ w).alloc _)
 rw [← hW0] at hmk
 have HH := Hj h; have HLL := Hj hL; have HSZ := Hj hsz; have HN := Hj hN
 clear h hL hsz hW0 hN
 go_enter Tryz.func68, Tryz.ntmps68
 go_wp2
 clear hmk
 go_loopw [14] (fun i wr => ∃ (k : Nat) (es : List Ent) (vs : List Value), i = .int .i64 (k : Int) ∧ k ≤ ls.length ∧ Hid (es = bldM (ls.take k)) ∧ Hid (OkM es (cntL ls k)) ∧ Hid (GrpAt wr w.heap.size (w.heap.size + 1) es vs) ∧ Hid (Keeps (fun _ => False) w wr)) (fun i _ => ls.length - (intOf i).toNat)
 case atStart => exact ⟨0, [], [], rfl, Nat.zero_le _, Hj rfl, Hj OkM.nil, HG0, HK0⟩
 case round =>
  clear HG0 HK0
  obtain ⟨k, es, vs, rfl, hk, HE, HO, HG, HK⟩ := hrel
  by_cases hlt : k < ls.length
  · have hlti : (k : Int) < (ls.length : Int) := by omega
    obtain ⟨l, hl⟩ : ∃ l, ls[k]? = some l := ⟨_, List.getElem?_eq_getElem hlt⟩
    have hvl : hv.length = ls.length := by have := HH.out.1; omega
    obtain ⟨v, hvk⟩ : ∃ v, hv[k]? = some v := ⟨_, List.getElem?_eq_getElem (by omega)⟩
    have hrl := HLL.out k v l hvk hl
    obtain ⟨la, lc, rfl, _⟩ := Rd.slice hrl
    obtain ⟨b0, o0, rfl, hc0⟩ := Rd.at HH.out hlt
    have c0 : w.cell? ⟨b0, o0 + k, none⟩ = some (.slice la l.length lc) := by have := hc0 0 _ (by simpa using hvk); simpa using this
    have c0 := HK.out.cell c0 (fun e => e)
    have HRL := Hj hrl
    have HLK := Hj hl
    have HSL := Hj (HSZ.out l (List.mem_of_getElem? hl))
    have HC1 := Hj (cntL_succ ls hl)
    have hll : l.length ≤ 1000000000 := by have := cntL_le ls (k + 1); have := HN.out; have := HC1.out; omega
    have HCL := Hj (cntL_le ls (k + 1))
    clear hc0 hvk hvl hrl hl
    go_wp2_with fail
    clear c0
    go_loopw [21] (fun i wr => ∃ (m : Nat) (es1 : List Ent) (vs : List Value), i = .int .i64 (m : Int) ∧ m ≤ l.length ∧ Hid (es1 = bldI es k (l.take m)) ∧ Hid (OkM es1 (cntL ls k + m)) ∧ Hid (GrpAt wr w.heap.size (w.heap.size + 1) es1 vs) ∧ Hid (Keeps (fun _ => False) w wr)) (fun i _ => l.length - (intOf i).toNat)
    case atStart => exact ⟨0, es, vs, rfl, Nat.zero_le _, Hj rfl, HO, HG, HK⟩
    case round =>
     clear HO HG HK
     obtain ⟨m, es2, vs, rfl, hm, HE2, HO, HG, HK⟩ := hrel
     by_cases hlt2 : m < l.length
     · have hlti2 : (m : Int) < (l.length : Int) := by omega
       obtain ⟨x, hx⟩ : ∃ x, l[m]? = some x := ⟨_, List.getElem?_eq_getElem hlt2⟩
       obtain ⟨b1, o1, rfl, c1, c2⟩ := RdL.at HRL.out hx
       have c1 := HK.out.cell c1 (fun e => e)
       have c2 := HK.out.cell c2 (fun e => e)
       obtain ⟨x1, x2⟩ := x
       simp only at c1 c2
       obtain ⟨z1, z2⟩ := HSL.out (x1, x2) (List.mem_of_getElem? hx)
       obtain ⟨W2, hW2⟩ : ∃ W2, W2 = (wr.alloc (.cells #[.string x1, .string x2] 94)).alloc (.cells #[.int .i64 (k : Int)] 3) := ⟨_, rfl⟩
       have hk2 : Keeps (fun _ => False) wr W2 := by rw [hW2]; exact ((Keeps.refl _ _).alloc _).alloc _
       have hB2 : W2.heap[wr.heap.size + 1]? = some (.cells #[.int .i64 (k : Int)] 3 (0, 0)) := by rw [hW2]; have := heap_alloc_new (wr.alloc (.cells #[.string x1, .string x2] 94)) (.cells #[.int .i64 (k : Int)] 3); rwa [World.size_alloc] at this
       obtain ⟨es3, vs3, j, v, xs, W3, hme, hG3, he3, hv3, hk3, hs3, hxl, hadd⟩ := (HG.out.keep hk2).entry HO.out (x1, x2) z1 z2
       obtain ⟨va, vc, rfl⟩ := hG3.slice he3 hv3
       rw [hW2] at hme
       have hMlt : w.heap.size < wr.heap.size := qan HG.out.map
       have hB3 : W3.heap[wr.heap.size + 1]? = some (.cells #[.int .i64 (k : Int)] 3 (0, 0)) := hk3.heap hB2 (by omega)
       have HRd : Hid (Rd 1 W3 (.slice (some ⟨wr.heap.size + 1, 0, none⟩) 1 1) 1 [.int .i64 (k : Int)]) := Hj ⟨rfl, _, 1, rfl, Nat.le_refl _, .inr ⟨wr.heap.size + 1, 0, rfl, fun j u hj => by rw [Nat.zero_add, cell_of_row _ _ _ _ _ _ hB3]; simpa using hj⟩⟩
       have HS3 : Hid (w.heap.size + 1 ≤ W3.heap.size) := Hj (by have := qan hB3; omega)
       have HXL : Hid (xs.length + 1 ≤ 17592186044416) := Hj (by have := HCL.out; have := HN.out; have := HC1.out; omega)
       have HK3 : Hid (Keeps (fun _ => False) w W3) := Hj ((HK.out.trans hk2 (fun _ _ e => e)).trans hk3 (fun q hq e => by omega))
       have HG3 := Hj hG3; have HE3 := Hj he3; have HV3 := Hj hv3; have HADD := Hj (hadd k)
       have HR3 := Hj (hG3.row j _ _ he3 hv3)
       have HTK := Hj (bldI_snoc es k l hx)
       have HZ := Hj (And.intro z1 z2)
       clear hk2 hB2 hG3 he3 hv3 hk3 hs3 hxl hadd hMlt hB3 hW2 hx z1 z2 HG HK
       go_wp2_with (at_builtin; refine appE elI rfl _ _ rfl (w.heap.size + 1) _ _ xs.length 1 (intC xs) [.int .i64 (k : Int)] rfl rfl HR3.out HRd.out (by simp [Value.oneCell']) HXL.out HS3.out ?_; intro v6 w6 hown6 hg6' hn6'; have hg6 : W3.grownBy w6 (Value.slice va xs.length vc).ownBlock := hg6'; have hn6 : ∀ g, v6.ownBlock = some g → (Value.slice va xs.length vc).ownBlock = some g ∨ W3.heap.size ≤ g := hn6'; obtain ⟨w7, hst, hG7, hk7⟩ := HG3.out.store HE3.out HV3.out k (by simpa [intC] using hown6) hg6 hn6; have HG7 := Hj hG7; have HK7 : Hid (Keeps (fun _ => False) w w7) := Hj ((HK3.out.grown hg6 (fun q hq e => by have := (HR3.out.lt q e).1; omega)).trans hk7 (fun q hq e => by omega)); clear hown6 hg6 hn6 hg6' hn6' hG7 hk7)
       refine ⟨⟨m + 1, _, _, by simp, by omega, Hj (by rw [HADD.out, HE2.out, HTK.out]), Hj ?_, HG7, HK7⟩, by simp [intOf]; omega⟩
       rw [HADD.out]
       have := HO.out.add (x1, x2) HZ.out.1 HZ.out.2 k
       rwa [Nat.add_assoc] at this
     · obtain rfl : m = l.length := by omega
       go_wp2_with fail
       refine ⟨⟨k + 1, _, _, by simp, by omega, Hj ?_, Hj (by rw [HC1.out]; exact HO.out), HG, HK⟩, by simp [intOf]; omega⟩
       rw [HE2.out, List.take_length, HE.out, bldM_snoc ls HLK.out]
  · obtain rfl : k = ls.length := by omega
    rw [List.take_length] at HE
    obtain ⟨Z, hZ⟩ : ∃ Z, Z = (es.map (·.1)).zip vs := ⟨_, rfl⟩
    have hZk : Z.map (·.1) = es.map (·.1) := by rw [hZ]; exact qgn HG.out.len
    have hZl : Z.length = (es.map (·.1)).length := by rw [← hZk, List.length_map]
    obtain ⟨sk, hsk⟩ : ∃ sk, sk = sortL (es.map (·.1)) := ⟨_, rfl⟩
    have hskl : (es.map (·.1)).length = sk.length := by rw [hsk, qdl]
    have hskn : sk.length ≤ 1000000000 := by have h1 := HO.out.len; have h2 := cntL_le ls ls.length; have h3 := HN.out; rw [List.length_map] at hskl; omega
    have HSKM : Hid (∀ x ∈ sk, x ∈ es.map (·.1)) := Hj (fun x hx => by rw [hsk] at hx; exact (qds _).mem_iff.1 hx)
    obtain ⟨W1, hW1⟩ : ∃ W1, W1 = wr.alloc (.cells #[.map (some w.heap.size)] 230) := ⟨_, rfl⟩
    have hk1 : Keeps (fun _ => False) wr W1 := by rw [hW1]; exact (Keeps.refl _ _).alloc _
    have hM1 : MapAt W1 w.heap.size Z := by rw [hZ]; exact hk1.heap HG.out.map (fun e => e)
    have hs1 : W1.heap.size = wr.heap.size + 1 := by rw [hW1]; simp
    have hb1 : W1.heap[wr.heap.size]? = some (.cells #[.map (some w.heap.size)] 230 (0, 0)) := by rw [hW1]; exact heap_alloc_new wr _
    have hMw := qan HG.out.map
    have hso := sortedM_any 176 (enters_of Tryz.func176 (by kernel_rfl) rfl) #[.pointer (some ⟨wr.heap.size, 0, none⟩)] (fun k => k = w.heap.size ∨ k = W1.heap.size + 3) (fun k => k = W1.heap.size + 3) (es.map (·.1)) W1 (by omega)
     (fun W hs hk => by
       have := keysM_at wr.heap.size w.heap.size (W1.heap.size + 3) Z W hs.symm (by rw [cell_of_row _ _ _ _ _ _ (hk.heap hb1 (fun e => e))]; rfl) (hk.heap hM1 (fun e => e))
       rw [hZk, hZl] at this
       exact this) (fun k hk => hk.elim (fun e => .inl (by omega)) .inr) (fun k hk => hk) (fun k hk => .inr hk)
    rw [← hsk, hskl] at hso
    have HSO := Hj hso; have HW1 := Hj hW1; have HK1 := Hj (HK.out.trans hk1 (fun _ _ e => e)); have HG1 := Hj (HG.out.keep hk1); have HSK := Hj hsk; have HSL := Hj hskl
    have HMS : Hid (w.heap.size + 1 ≤ W1.heap.size) := Hj (by omega)
    clear hk1 hM1 hs1 hb1 hso hW1 hMw HG hZ hZk hZl hsk hskl HK
    go_wp2_with (first
     | (go_at_call 129; refine (keys_any w.heap.size _).mono ?_; rintro e w1 ⟨rfl, rfl⟩)
     | (go_at_call 128; rw [← HW1.out]; refine HSO.out.mono ?_; rintro e w5 ⟨v5, rfl, hr5, hk5⟩; obtain ⟨a5, c5, rfl⟩ := qac hr5; have HR5 : Hid (RdL w5 (.slice a5 sk.length c5) sk) := Hj (rd_row hr5); have HK5 := Hj (HK1.out.trans hk5 (fun _ _ e => e)); have HG5 := Hj (HG1.out.keep hk5); have HW5 := Hj hk5.size; clear hr5 hk5))
    clear HSO HK1 HG1 HW1
    obtain ⟨hds, hhds⟩ : ∃ hds, hds = sk.map (hdM es vs) := ⟨_, rfl⟩
    have hhl : hds.length = sk.length := by rw [hhds, List.length_map]
    have HHD := Hj hhds; have HHL := Hj hhl
    clear hhds hhl
    go_loopw [8, 39] (fun c8 i wr => ∃ (k : Nat), i = .int .i64 (k : Int) ∧ k ≤ sk.length ∧ Hid (wr.ownsRow w5.heap.size 229 3 c8 k (entC (hds.take k))) ∧ Hid (Keeps (fun _ => False) w5 wr)) (fun _ i _ => sk.length - (intOf i).toNat)
    case atStart => exact ⟨0, rfl, Nat.zero_le _, Hj (World.ownsRow_nil _ _ _ _), Hj (Keeps.refl _ _)⟩
    case round =>
     obtain ⟨k, rfl, hk, HE8, HKw⟩ := hrel
     obtain ⟨a8, cc8, rfl⟩ := qac HE8.out
     by_cases hlt : k < sk.length
     · have hlti : (k : Int) < (sk.length : Int) := by omega
       obtain ⟨x, hx⟩ : ∃ x, sk[k]? = some x := ⟨_, List.getElem?_eq_getElem hlt⟩
       obtain ⟨b5, o5, rfl, c1, c2⟩ := RdL.at HR5.out hx
       have c1 := HKw.out.cell c1 (fun e => e)
       have c2 := HKw.out.cell c2 (fun e => e)
       obtain ⟨j, hj⟩ : ∃ j, keyIx es x = some j := by
        cases hq : keyIx es x with
        | some j => exact ⟨j, rfl⟩
        | none =>
          obtain ⟨y, hy, e1⟩ := List.mem_map.1 (HSKM.out x (List.mem_of_getElem? hx))
          exact absurd e1 (qfj hq y hy)
       obtain ⟨xs, hxs⟩ := qcq hj
       have hjv : j < vs.length := by have := (List.getElem?_eq_some_iff.1 hxs).1; have := HG5.out.len; omega
       obtain ⟨v, hv⟩ : ∃ v, vs[j]? = some v := ⟨_, List.getElem?_eq_getElem hjv⟩
       obtain ⟨va, vc, rfl⟩ := HG5.out.slice hxs hv
       simp only at hv
       have hhd : hdM es vs x = ⟨x, va, xs.length, vc⟩ := by simp [hdM, hj, List.getD_eq_getElem?_getD, hv]
       have hhk : hds[k]? = some ⟨x, va, xs.length, vc⟩ := by rw [HHD.out, List.getElem?_map, hx, ← hhd]; rfl
       obtain ⟨x1, x2⟩ := x
       simp only at c1 c2
       have HTK : Hid (entC (hds.take (k + 1)) = entC (hds.take k) ++ [.string x1, .string x2, .slice va xs.length vc]) := Hj (by rw [List.take_add_one, hhk]; exact entC_snoc _ _)
       go_upto_region 15 with fail
       obtain ⟨W6, hW6⟩ : ∃ W6, W6 = wr.alloc (.cells #[.string x1, .string x2] 94) := ⟨_, rfl⟩
       have hr6 : W6.heap[wr.heap.size]? = some (.cells #[.string x1, .string x2] 94 (0, 0)) := by rw [hW6]; exact heap_alloc_new wr _
       have hk6 : Keeps (fun _ => False) wr W6 := by rw [hW6]; exact (Keeps.refl _ _).alloc _
       have e1 : W6.cell? ⟨wr.heap.size, 0, none⟩ = some (.string x1) := by rw [cell_of_row _ _ _ _ _ _ hr6]; rfl
       have e2 : W6.cell? ⟨wr.heap.size, 1, none⟩ = some (.string x2) := by rw [cell_of_row _ _ _ _ _ _ hr6]; rfl
       have hlk := (HG5.out.keep ((HKw.out.trans hk6 (fun _ _ e => e)).drew)).look HO.out hxs hv
       have HLT : Hid (∀ g, (Value.slice a8 k cc8).ownBlock = some g → g < wr.heap.size) := Hj (fun g hg => (HE8.out.lt g hg).2)
       have HE6 := Hj (hk6.row HE8.out (fun _ _ e => e))
       have HS6 : Hid (w5.heap.size ≤ W6.heap.size) := Hj (by have := HKw.out.size; have := hk6.size; omega)
       have CC : Hid (∀ q, Keeps (fun _ => False) W6 q → q.cell? ⟨wr.heap.size, 0, none⟩ = some (.string x1) ∧ q.cell? ⟨wr.heap.size, 1, none⟩ = some (.string x2)) := Hj (fun q hq => ⟨hq.cell e1 (fun e => e), hq.cell e2 (fun e => e)⟩)
       have K0 : Hid (Keeps (fun _ => False) W6 W6.drew) := Hj (Keeps.refl _ _).drew
       have K1 : Hid (Keeps (fun _ => False) W6 (W6.drew.alloc (.cells #[.string x1, .string x2, .slice va xs.length vc] 229))) := Hj ((Keeps.refl _ _).drew.alloc _)
       have HE7 : Hid ((W6.drew.alloc (.cells #[.string x1, .string x2, .slice va xs.length vc] 229)).ownsRow w5.heap.size 229 3 (.slice a8 k cc8) k (entC (hds.take k))) := Hj (K1.out.row HE6.out (fun _ _ e => e))
       have HK6 := Hj (HKw.out.trans hk6 (fun _ _ e => e))
       have HKB : Hid (k + 1 ≤ 2513169434916) := Hj (by omega)
       rw [← hW6]
       clear hW6 c1 c2 hr6 hk6 hxs hv hj hjv hx hhd hhk HE8
       go_region_held3 (fun q => q.cell? ⟨wr.heap.size, 0, none⟩ = some (.string x1) ∧ q.cell? ⟨wr.heap.size, 1, none⟩ = some (.string x2)) (first | exact CC.out _ K0.out | exact CC.out _ K1.out | exact K8C.out) (first | (refine sappE elEn rfl _ _ rfl w5.heap.size _ _ k 1 (entC (hds.take k)) [.string x1, .string x2, .slice va xs.length vc] rfl rfl HE7.out (rd_new _ 3 1 [.string x1, .string x2, .slice va xs.length vc] 229 1 rfl (Nat.le_refl _)) (by simp [Value.oneCell']) HKB.out (by have := HS6.out; simp; omega) ?_; intro v8 w8 hown8 hg8' hn8; have hg8 : (W6.drew.alloc (.cells #[.string x1, .string x2, .slice va xs.length vc] 229)).grownBy w8 (Value.slice a8 k cc8).ownBlock := hg8'; have K8 := Hj ((K1.out.mono (S' := fun q => (Value.slice a8 k cc8).ownBlock = some q) (fun _ _ e => e.elim)).grown hg8 (fun q hq e => e)); have K8C := Hj (And.intro (K8.out.cell e1 (fun e => Nat.lt_irrefl _ (HLT.out _ e))) (K8.out.cell e2 (fun e => Nat.lt_irrefl _ (HLT.out _ e)))); have HO8 := Hj hown8; clear hg8' hown8 hg8 hn8))
       obtain ⟨a9, c9, rfl⟩ := qac HO8.out
       go_wp2_with fail
       refine ⟨⟨k + 1, by simp, by omega, Hj (by rw [HTK.out]; exact HO8.out), Hj (HK6.out.trans K8.out (fun q hq e => by have := (HE6.out.lt q e).1; omega))⟩, by simp [intOf]; omega⟩
     · obtain rfl : k = sk.length := by omega
       go_wp2_with fail
       go_ret
       refine ⟨_, hds, rfl, ⟨?_, ?_, fun i h e hi he => ?_⟩, HK5.out.trans HKw.out (fun _ _ e => e)⟩
       · rw [HHL.out, bldO, List.length_map, ← HE.out, ← HSK.out]
       · have := HE8.out
         rw [← HHL.out, List.take_length] at this
         rw [← HHL.out]
         exact rd_row this
       · rw [HHD.out, List.getElem?_map] at hi
         rw [bldO, ← HE.out, ← HSK.out, List.getElem?_map] at he
         cases hx : sk[i]? with
         | none => rw [hx] at hi; cases hi
         | some x =>
           rw [hx] at hi he
           obtain rfl := (Option.some.inj hi).symm
           obtain rfl := (Option.some.inj he).symm
           have hm := HSKM.out x (List.mem_of_getElem? hx)
           cases hq : keyIx es x with
           | none =>
             obtain ⟨y, hy, e1⟩ := List.mem_map.1 hm
             exact absurd e1 (qfj hq y hy)
           | some j =>
             obtain ⟨xs, hxs⟩ := qcq hq
             have hjv : j < vs.length := by have := (List.getElem?_eq_some_iff.1 hxs).1; have := HG5.out.len; omega
             obtain ⟨v, hv⟩ : ∃ v, vs[j]? = some v := ⟨_, List.getElem?_eq_getElem hjv⟩
             obtain ⟨va, vc, rfl⟩ := HG5.out.slice hxs hv
             have hr := (HG5.out.keep HKw.out).row j _ _ hxs hv
             have e1 : hdM es vs x = ⟨x, va, xs.length, vc⟩ := by simp [hdM, hq, List.getD_eq_getElem?_getD, hv]
             have e2 : numsM es x = xs := by simp [numsM, hq, List.getD_eq_getElem?_getD, hxs]
             simp only [e1, e2]
             exact ⟨trivial, rd_row hr⟩
end
section
open Go.RowKit
abbrev nilV : Value := .slice none 0 0
def updL (lvs : List Value) (k n : Nat) : List Value := lvs.take k ++ List.replicate (n - k) nilV
theorem updL_zero (lvs : List Value) (n : Nat) : updL lvs 0 n = List.replicate n nilV := by simp [updL]
theorem updL_all (lvs : List Value) : updL lvs lvs.length lvs.length = lvs := by simp [updL]
theorem updL_length {lvs : List Value} {k n : Nat} (hl : lvs.length = n) (hk : k ≤ n) : (updL lvs k n).length = n := by simp [updL]; omega
theorem updL_get {lvs : List Value} {k n : Nat} (hl : lvs.length = n) (hk : k < n) : (updL lvs k n)[k]? = some nilV := by
 unfold updL
 rw [List.getElem?_append_right (by rw [List.length_take]; omega), List.length_take, List.getElem?_replicate]
 rw [if_pos (by omega)]
theorem updL_set {lvs : List Value} {k n : Nat} {u : Value} (hl : lvs.length = n) (hk : k < n) (hu : lvs[k]? = some u) : (updL lvs k n).set k u = updL lvs (k + 1) n := by
 unfold updL
 have h1 : (lvs.take k).length = k := by rw [List.length_take]; omega
 rw [List.set_append_right _ _ (by omega), h1, Nat.sub_self]
 obtain ⟨d, hd⟩ : ∃ d, n - k = d + 1 := ⟨n - k - 1, by omega⟩
 rw [hd, List.replicate_succ, List.set_cons_zero, List.take_add_one, hu, show n - (k + 1) = d by omega]
 simp
theorem rep_get {α : Type} {n i : Nat} {a v : α} (h : (List.replicate n a)[i]? = some v) : v = a := List.eq_of_mem_replicate (List.mem_of_getElem? h)
theorem cells2_rep (n : Nat) : cells2 Prod.fst Prod.snd ((List.replicate n nilV).zip (List.replicate n nilV)) = List.replicate (n * 2) nilV := by
 induction n with
 | zero => rfl
 | succ n ih =>
   rw [show (n + 1) * 2 = n * 2 + 1 + 1 by omega, List.replicate_succ, List.zip_cons_cons, List.replicate_succ, List.replicate_succ, ← ih]
   rfl
theorem made_rep (z : Array Value) (hz : ∀ i : Nat, z[i % z.size]! = nilV) (n : Nat) : madeCells z n = (List.replicate n nilV).toArray := by
 apply Array.ext
 · simp [madeCells]
 · intro i h1 h2
   simp only [madeCells, Array.getElem_map, Array.getElem_range, List.getElem_toArray, List.getElem_replicate]
   exact hz _
theorem made2 (n : Nat) : madeCells (Value.agg #[.slice none 0 0, .slice none 0 0]).cells n = (List.replicate n nilV).toArray := made_rep _ (fun i => by
 show (#[nilV, nilV] : Array Value)[i % 2]! = nilV
 rcases Nat.mod_two_eq_zero_or_one i with h | h <;> rw [h] <;> rfl) n
theorem made1 (n : Nat) : madeCells (Value.slice none 0 0).cells n = (List.replicate n nilV).toArray := made_rep _ (fun i => by
 show (#[nilV] : Array Value)[i % 1]! = nilV
 rw [Nat.mod_one]; rfl) n
theorem makeRn (n : Nat) (hn : n ≤ 1000000) (w : World) : (Instr.makeSlice 123 (.int .i64 (n : Int)) (.int .i64 (n : Int))).run Tryz.prog w = .ok (.slice (some ⟨w.heap.size, 0, none⟩) n n) (w.alloc (.cells (cells2 Prod.fst Prod.snd ((List.replicate n nilV).zip (List.replicate n nilV))).toArray 127)) := by
 obtain ⟨i0, hi, hz0, hz1, hz2⟩ := info_parts infoRc
 have := run_makeSlice (P := Tryz.prog) (w := w) 123 127 i0 (.agg #[.slice none 0 0, .slice none 0 0]) Tryz.underlying123 hi hz0 .i64 .i64 n n (by omega) (by omega) (by rw [hz1]; simp; omega) (by rw [hz2]; omega) (by omega)
 rw [hz1, Int.toNat_natCast, made2] at this
 rw [cells2_rep]
 exact this
theorem makeLn (n : Nat) (hn : n ≤ 1000000) (w : World) : (Instr.makeSlice 124 (.int .i64 (n : Int)) (.int .i64 (n : Int))).run Tryz.prog w = .ok (.slice (some ⟨w.heap.size, 0, none⟩) n n) (w.alloc (.cells (List.replicate n nilV).toArray 95)) := by
 obtain ⟨i0, hi, hz0, hz1, hz2⟩ := info_parts infoLs
 have := run_makeSlice (P := Tryz.prog) (w := w) 124 95 i0 (.slice none 0 0) Tryz.underlying124 hi hz0 .i64 .i64 n n (by omega) (by omega) (by rw [hz1]; simp; omega) (by rw [hz2]; omega) (by omega)
 rw [hz1, Int.toNat_natCast, made1, Nat.mul_one] at this
 exact this
def qdn (ls : List (List Nat)) (p : Nat × List Nat) : List (List Nat) := ls.set p.1 (ls.getD p.1 [] ++ [p.2.length])
def lensF (n : Nat) (ps : List (Nat × List Nat)) : List (List Nat) := ps.foldl qdn (List.replicate n [])
def dataF (ps : List (Nat × List Nat)) : List Nat := ps.flatMap (·.2)
def lensOf (l : List Smp) : List Nat := (List.range (nCh l.length)).map fun j => (chunkC (partS l j)).length
theorem lensF_snoc (n : Nat) (ps : List (Nat × List Nat)) (p : Nat × List Nat) : lensF n (ps ++ [p]) = qdn (lensF n ps) p := by simp [lensF]
theorem qkv (ps : List (Nat × List Nat)) (p : Nat × List Nat) : dataF (ps ++ [p]) = dataF ps ++ p.2 := by simp [dataF]
theorem qjo : ∀ (ps : List (Nat × List Nat)) (ls : List (List Nat)), (ps.foldl qdn ls).length = ls.length
 | [], _ => rfl
 | p :: r, ls => by rw [List.foldl_cons, qjo r]; simp [qdn]
theorem lensF_length (n : Nat) (ps : List (Nat × List Nat)) : (lensF n ps).length = n := by rw [lensF, qjo]; simp
theorem qkw : ∀ (ps : List (Nat × List Nat)) (ls : List (List Nat)) (m : Nat), (∀ l ∈ ls, l.length ≤ m) → ∀ l ∈ ps.foldl qdn ls, l.length ≤ m + ps.length
 | [], ls, m, h, l, hl => by simpa using h l hl
 | p :: r, ls, m, h, l, hl => by
   have := qkw r (qdn ls p) (m + 1) (fun q hq => by
    unfold qdn at hq
    rcases List.mem_or_eq_of_mem_set hq with h1 | rfl
    · have := h q h1; omega
    · have : (ls.getD p.1 []).length ≤ m := by
       rw [List.getD_eq_getElem?_getD]
       cases hp : ls[p.1]? with
       | none => simp
       | some x => exact h x (List.mem_of_getElem? hp)
      rw [List.length_append, List.length_singleton]; omega) l hl
   rw [List.length_cons]; omega
theorem lensF_bound (n : Nat) (ps : List (Nat × List Nat)) : ∀ l ∈ lensF n ps, l.length ≤ ps.length := fun l hl => by
 have := qkw ps (List.replicate n []) 0 (fun q hq => by rw [List.eq_of_mem_replicate hq]; simp) l hl
 omega
theorem fold_chI (k : Nat) (l : List Smp) (ls : List (List Nat)) (hk : k < ls.length) : ∀ j, (chI k l j).foldl qdn ls = ls.set k (ls.getD k [] ++ (List.range j).map fun j => (chunkC (partS l j)).length)
 | 0 => by
   simp [chI, List.getD_eq_getElem?_getD, hk]
 | j + 1 => by
   rw [qhw, List.foldl_append, fold_chI k l ls hk j]
   simp [qdn, List.range_succ, List.getD_eq_getElem?_getD, hk]
theorem qkx (b : List Ser) : ∀ k, k ≤ b.length → lensF b.length (chO (b.take k)) = (b.take k).map (fun x => lensOf x.2) ++ List.replicate (b.length - k) []
 | 0, _ => by simp [lensF, chO]
 | k + 1, h => by
   have hx : b[k]? = some b[k] := List.getElem?_eq_getElem (by omega)
   have h1 : ((b.take k).map (fun x => lensOf x.2)).length = k := by rw [List.length_map, List.length_take]; omega
   rw [chO_succ b hx, lensF, List.foldl_append]
   have ih := qkx b k (by omega)
   rw [lensF] at ih
   rw [ih, fold_chI _ _ _ (by rw [List.length_append, List.length_replicate]; omega)]
   obtain ⟨d, hd⟩ : ∃ d, b.length - k = d + 1 := ⟨b.length - k - 1, by omega⟩
   rw [List.set_append_right _ _ (by omega), h1, Nat.sub_self, hd, List.replicate_succ, List.set_cons_zero, List.take_add_one, hx, show b.length - (k + 1) = d by omega]
   rw [List.getD_eq_getElem?_getD, List.getElem?_append_right (by omega), h1, Nat.sub_self, List.map_append, List.append_assoc]
   rfl
theorem lensF_all (b : List Ser) : lensF b.length (chO b) = b.map fun x => lensOf x.2 := by
 have := qkx b b.length (Nat.le_refl _)
 simpa using this
def recsO (b : List Ser) : List Rec := b.map fun x => (x.1, lensOf x.2)
def dataO (b : List Ser) : List Nat := dataF (chO b)
theorem chO_lt (b : List Ser) : ∀ p ∈ chO b, p.1 < b.length := fun p hp => by
 unfold chO at hp
 obtain ⟨⟨x, k⟩, hx, hp⟩ := List.mem_flatMap.1 hp
 have hk := (List.mem_zipIdx' hx).1
 unfold chI at hp
 obtain ⟨j, _, rfl⟩ := List.mem_map.1 hp
 exact hk
theorem dataF_le {ps qs : List (Nat × List Nat)} (h : ps <+: qs) : (dataF ps).length ≤ (dataF qs).length := by
 obtain ⟨r, rfl⟩ := h
 simp [dataF]
end
section
set_option maxHeartbeats 4000000
set_option maxRecDepth 100000
open Go.RowKit
theorem symdec_any {vb : Value} {l : List Nat} (tb : List ByteArray) (f : Nat → Nat) (bs : Nat → List Nat) {j : Nat} {w : World} (hb : Holds w vb (u8s l)) (hl : l.length ≤ 1000000000) (hlb : ∀ c ∈ l, c < 256) (hv : vgo 0 0 l = (tb.length, j, 0)) (hj : j ≤ l.length) (hn : tb.length ≤ l.length - j) (h0 : f 0 = 0)
 (hs : ∀ i, i < tb.length → rdStr (l.drop j) (f i) 0 65535 = (bs i, f (i + 1), 0)) (ht : ∀ i, i < tb.length → tb[i]? = some (strN (bs i))) (hA : ∀ i x y, tb[i]? = some x → tb[i + 1]? = some y → Op.bytesLess x.toList y.toList = true) (hf : f tb.length = l.length - j) :
 Calls Tryz.prog 75 #[vb] w fun e w' => ∃ v', e = .returned (.tuple #[v', .int .i64 0]) ∧ w'.ownsRow w.heap.size 9 1 v' tb.length (strC tb) ∧ Keeps (fun _ => False) w w' := by
 obtain ⟨i0, hi8, hz8, hz1, hz2⟩ := info_parts infoU8
 have HG := Hj (qgp vb l 0 w hb hlb (Nat.zero_le _) (by omega))
 rw [List.drop_zero, hv] at HG
 simp only [vres, if_true, Nat.zero_add] at HG
 obtain ⟨ab, nb, cb, rfl⟩ : ∃ d n p, vb = .slice d n p := by obtain ⟨d, p, h, _⟩ := hb; exact ⟨d, _, p, h⟩
 have hnb : nb = l.length := by obtain ⟨d, p, h, _⟩ := hb; simp only [Value.slice.injEq] at h; rw [h.2.1, qaa]
 subst hnb
 have hb' : Holds w (.slice ab (u8s l).length cb) (u8s l) := by rw [qaa]; exact hb
 obtain ⟨a2, c2, hsl, hh2, _⟩ := qff (P := Tryz.prog) w 29 5 Tryz.underlying29 hi8 hz1 hb' .i64 j (by rw [qaa]; exact hj)
 rw [qaa] at hsl hh2
 rw [show (u8s l).drop j = u8s (l.drop j) by simp [u8s]] at hh2
 obtain ⟨L, hL⟩ : ∃ L, L = l.drop j := ⟨_, rfl⟩
 have hLl : L.length = l.length - j := by rw [hL]; simp
 rw [← hL] at hh2 hs
 have HN := Hj (qhz _ L w hh2 (by omega) (fun c hc => hlb c (by rw [hL] at hc; exact List.mem_of_mem_drop hc)))
 have HS := Hj hs; have HT := Hj ht; have HA := Hj hA; have HF0 := Hj h0; have HF := Hj hf; have HLL := Hj hLl
 have hw1 : IntKind.i64.wrap ((l.length : Int) - (j : Int)) = ((l.length - j : Nat) : Int) := by rw [IntWalk.i64_in _ (by omega)]; omega
 have hw2 : IntKind.u64.wrap ((l.length - j : Nat) : Int) = ((l.length - j : Nat) : Int) := by rw [IntWalk.u64_in _ (by omega)]
 have hw3 : decide (l.length - j < tb.length) = false := by simp; omega
 have hw4 : IntKind.i64.wrap (tb.length : Int) = tb.length := by rw [IntWalk.i64_in _ (by omega)]
 have htl : tb.length ≤ 1000000000 := by omega
 obtain ⟨K, hK⟩ : ∃ K, K = l.length - j := ⟨_, rfl⟩
 rw [← hK] at hw1 hw2 hw3
 clear hb hb' hlb hv hs ht hA h0 hf hh2 hL hLl hi8 hz8 hz1 hz2 hn hj hK
 go_enter Tryz.func75, Tryz.ntmps75
 go_wp2_with (first
  | (go_at_call 132; refine HG.out.mono ?_; rintro e w1 ⟨rfl, hw1⟩; subst hw1)
  | (go_at_call 85; refine HN.out.mono ?_; rintro e w2 ⟨p, v, rfl, hp, hi2, hv2, hk2⟩))
 have HI2 := Hj hi2
 have HK2 : Hid (Keeps (fun k => w.heap.size ≤ k) w w2) := Hj (hk2.mono (fun _ _ e => e.elim))
 have hp2 := hi2.lt
 clear hi2 hk2 hv2 HG HN hsl hw1 hw2 hw3
 go_loopw [8, 37] (fun c i wr => ∃ (k : Nat), k ≤ tb.length ∧ i = .int .i64 (k : Int) ∧ Hid (wr.ownsRow (p + 1) 9 1 c k (strC (tb.take k))) ∧ Hid (IsRd wr p v L (f k) 0) ∧ Hid (Keeps (fun k => w.heap.size ≤ k) w wr)) (fun _ i _ => tb.length - (intOf i).toNat)
 case atStart => exact ⟨0, Nat.zero_le _, rfl, Hj (World.ownsRow_nil _ _ _ _), by rw [HF0.out]; exact HI2, HK2⟩
 case round =>
  obtain ⟨k, hk, rfl, HO, HI, HK⟩ := hrel
  by_cases hkn : k < tb.length
  · have hpr : p < wr.heap.size := HI.out.lt
    have hs := HS.out k hkn
    have htk := HT.out k hkn
    have HST := Hj (wstr_any HI.out 65535 (by decide))
    rw [hs] at HST
    obtain ⟨s, hsd⟩ : ∃ s, s = strN (bs k) := ⟨_, rfl⟩
    rw [← hsd] at HST htk
    obtain ⟨ac, cc, rfl⟩ := qac HO.out
    have hkw : IntKind.i64.wrap ((k : Int) + 1) = ((k + 1 : Nat) : Int) := by rw [IntWalk.i64_in _ (by omega)]; rfl
    have htake : strC (tb.take (k + 1)) = strC (tb.take k) ++ [.string s] := by rw [List.take_add_one, htk]; simp [strC]
    have HTK := Hj htk; have HTA := Hj htake
    clear hs htk htake hsd
    have HQ : Hid (∀ w3, IsRd w3 p v L (f (k + 1)) 0 → Keeps (fun k => k = p) wr w3 → w3.ownsRow (p + 1) 9 1 (.slice ac k cc) k (strC (tb.take k))) := Hj (fun w3 hi hk3 => hk3.row HO.out (fun g hg e => by have := (HO.out.lt g hg).1; omega))
    by_cases hk0 : k = 0
    · subst hk0
      go_wp2_with (first
       | (go_at_call 133
          refine HST.out.mono ?_
          rintro e w3 ⟨rfl, hi3, hk3⟩
          have her := qcb hi3
          have HO3 := Hj (HQ.out w3 hi3 hk3); have HI3 := Hj hi3; have HK3 := Hj hk3
          clear hi3 hk3)
       | (go_at_call 134; refine her.mono ?_; rintro e w4 ⟨rfl, hw4⟩; obtain rfl := hw4.symm)
       | (at_builtin
          refine appE elS rfl _ _ rfl (p + 1) _ _ 0 1 _ [.string s] rfl rfl (HO3.out.alloc _) (rd_new _ 1 1 [.string s] 9 1 rfl (Nat.le_refl _)) (by simp [Value.oneCell']) (by omega) (by have := HK3.out.size; rw [World.size_alloc]; omega) ?_
          intro v6 w6 hown6 hg6' hn6
          have hg6 : (w3.alloc (.cells #[.string s] 9)).grownBy w6 (Value.slice ac 0 cc).ownBlock := hg6'
          have HO6 := Hj hown6; have HG6 := Hj hg6
          clear hown6 hg6' hg6 hn6))
      have hgg : ∀ g, (Value.slice ac 0 cc).ownBlock = some g → p + 1 ≤ g := fun g hg => (HO3.out.lt g hg).1
      have k6 : Keeps (fun g => (Value.slice ac 0 cc).ownBlock = some g) w3 w6 := ((Keeps.refl _ w3).alloc _).grown HG6.out (fun k hk e => e)
      have i6 : IsRd w6 p v L (f (0 + 1)) 0 := HI3.out.keeps k6 (fun e => by have := hgg p e; omega) (fun g hg e => by
       obtain ⟨cur, hc⟩ := qak HI3.out.row hg
       obtain ⟨cur', hc'⟩ := qak HO3.out e
       exact qaf hc hc' (by decide) rfl)
      have o6 := HO6.out
      rw [← HTA.out] at o6
      exact ⟨⟨0 + 1, by omega, by simp, Hj o6, Hj i6, Hj ((HK.out.trans HK3.out (fun k hk e => by omega)).trans k6 (fun k hk e => by have := hgg k e; omega))⟩, by simp [intOf]; omega⟩
    · obtain ⟨M, hM⟩ : ∃ M, k = M + 1 := ⟨k - 1, by omega⟩
      have hkm : IntKind.i64.wrap ((k : Int) - 1) = (M : Int) := by rw [IntWalk.i64_in _ (by omega)]; omega
      have hk1 : (0 : Int) < k := by omega
      have hm0 : (0 : Int) ≤ M := by omega
      have hmk : (M : Int) < k := by omega
      obtain ⟨x, hx⟩ : ∃ x, tb[M]? = some x := ⟨_, List.getElem?_eq_getElem (by omega)⟩
      have hlt : Op.bytesLess x.toList s.toList = true := HA.out M x s hx (by rw [← hM]; exact HTK.out)
      have HX : Hid ((strC (tb.take k))[M]? = some (.string x)) := Hj (by simp [strC, List.getElem?_take, hx]; omega)
      obtain ⟨g, rfl⟩ : ∃ g, ac = some ⟨g, 0, none⟩ := by
       obtain ⟨g, cp, cur, e, _⟩ := qdp HO.out hk0
       simp only [Value.slice.injEq] at e
       exact ⟨g, e.1⟩
      clear hx hM
      go_wp2_with (first
       | (go_at_call 133
          refine HST.out.mono ?_
          rintro e w3 ⟨rfl, hi3, hk3⟩
          have her := qcb hi3
          have HO3 := Hj (HQ.out w3 hi3 hk3); have HI3 := Hj hi3; have HK3 := Hj hk3
          have hcell := (HO3.out.cells (g := g) rfl M (.string x) HX.out); rw [qbn] at hcell
          rw [Nat.zero_add] at hcell
          clear hi3 hk3)
       | (go_at_call 134; refine her.mono ?_; rintro e w4 ⟨rfl, hw4⟩; obtain rfl := hw4.symm)
       | (at_builtin
          refine appE elS rfl _ _ rfl (p + 1) _ _ k 1 _ [.string s] rfl rfl (HO3.out.alloc _) (rd_new _ 1 1 [.string s] 9 1 rfl (Nat.le_refl _)) (by simp [Value.oneCell']) (by omega) (by have := HK3.out.size; rw [World.size_alloc]; omega) ?_
          intro v6 w6 hown6 hg6' hn6
          have hg6 : (w3.alloc (.cells #[.string s] 9)).grownBy w6 (Value.slice (some ⟨g, 0, none⟩) k cc).ownBlock := hg6'
          have HO6 := Hj hown6; have HG6 := Hj hg6
          clear hown6 hg6' hg6 hn6))
      have hgg : ∀ g', (Value.slice (some ⟨g, 0, none⟩) k cc).ownBlock = some g' → p + 1 ≤ g' := fun g' hg => (HO3.out.lt g' hg).1
      have k6 : Keeps (fun g' => (Value.slice (some ⟨g, 0, none⟩) k cc).ownBlock = some g') w3 w6 := ((Keeps.refl _ w3).alloc _).grown HG6.out (fun k hk e => e)
      have i6 : IsRd w6 p v L (f (k + 1)) 0 := HI3.out.keeps k6 (fun e => by have := hgg p e; omega) (fun g hg e => by
       obtain ⟨cur, hc⟩ := qak HI3.out.row hg
       obtain ⟨cur', hc'⟩ := qak HO3.out e
       exact qaf hc hc' (by decide) rfl)
      have o6 := HO6.out
      rw [← HTA.out] at o6
      exact ⟨⟨k + 1, by omega, by simp, Hj o6, Hj i6, Hj ((HK.out.trans HK3.out (fun k hk e => by omega)).trans k6 (fun k hk e => by have := hgg k e; omega))⟩, by simp [intOf]; omega⟩
  · obtain rfl : k = tb.length := by omega
    obtain ⟨ac, cc, rfl⟩ := qac HO.out
    have HO' : Hid (wr.ownsRow (p + 1) 9 1 (.slice ac tb.length cc) tb.length (strC tb)) := Hj (by have := HO.out; rwa [List.take_length] at this)
    have hend := qia HI.out
    rw [if_pos rfl, if_neg (by rw [HF.out, HLL.out]; omega)] at hend
    go_wp2_with (go_at_call 93; refine hend.mono ?_; rintro e w4 ⟨rfl, hw4⟩; obtain rfl := hw4.symm)
    go_ret2
    exact ⟨_, rfl, qao HO'.out (fun g hg => by have := (HO'.out.lt g hg).1; omega), HK.out.toFresh (fun k hk e => by omega)⟩
end
end Go.Proofs.YtfpcgcbehdogjaaGreatDoor
