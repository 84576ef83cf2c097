/-
  Lemmas on which LTopTruncates rests, packed out of the texts YSrt XRdB YKeys YGrp; each for all arguments under the hypotheses it names.
-/
import Derived.Test.YtfpcgcbehdogjaaGreatDoorShelfS
import Derived.Test.YtfpcgcbehdogjaaGreatDoorT21
namespace Go.Proofs.YtfpcgcbehdogjaaGreatDoor
section
open Go.RowKit Go.Shelf Go.Sort
attribute [local go_sem] Oper.semAt_some
def encQ (x : Lab) : List Value := [.string x.1, .string x.2]
theorem qku {a b c : List UInt8} (h1 : Op.bytesLess a b = true) (h2 : Op.bytesLess b c = true) : Op.bytesLess a c = true := by
 rw [bytesLess_eq, decide_eq_true_eq] at *
 exact List.lt_trans h1 h2
theorem ordS_neg {a b : ByteArray} : ordS a b < 0 ↔ Op.bytesLess a.toList b.toList = true := by
 unfold ordS
 split
 · rename_i h; simp [h]
 · rename_i h
   split <;> simp [h]
theorem qgk {a b c : ByteArray} (h1 : ordS a b < 0) (h2 : ordS b c < 0) : ordS a c < 0 := ordS_neg.2 (qku (ordS_neg.1 h1) (ordS_neg.1 h2))
theorem ordS_tri (a b : ByteArray) : ordS a b < 0 ∨ a = b ∨ ordS b a < 0 := by
 by_cases h : Op.bytesLess a.toList b.toList = true
 · exact .inl (ordS_neg.2 h)
 · by_cases e : a.toList == b.toList
   · exact .inr (.inl (toList_inj' e))
   · refine .inr (.inr (ordS_neg.2 ?_))
     rw [qda a.toList b.toList]
     simp only [Bool.not_eq_true] at h e
     simp [h, e]
theorem ordS_self (a : ByteArray) : ordS a a = 0 := ordS_zero.2 rfl
def ltL (x y : Lab) : Prop := ordS x.1 y.1 < 0 ∨ (x.1 = y.1 ∧ ordS x.2 y.2 < 0)
theorem cmpE_neg (x y : Lab) : cmpE x y < 0 ↔ ltL x y := by
 unfold cmpE ltL
 by_cases h : ordS x.1 y.1 = 0
 · have e := ordS_zero.1 h
   simp [e, ordS_self]
 · have hne : ¬ x.1 = y.1 := fun e => h (ordS_zero.2 e)
   simp [h, hne]
theorem ltL_irrefl (x : Lab) : ¬ ltL x x := by
 rintro (h | ⟨_, h⟩) <;> rw [ordS_self] at h <;> omega
theorem ltL_trans {x y z : Lab} (h1 : ltL x y) (h2 : ltL y z) : ltL x z := by
 rcases h1 with h1 | ⟨e1, h1⟩ <;> rcases h2 with h2 | ⟨e2, h2⟩
 · exact .inl (qgk h1 h2)
 · exact .inl (e2 ▸ h1)
 · exact .inl (e1 ▸ h2)
 · exact .inr ⟨e1.trans e2, qgk h1 h2⟩
theorem ltL_tri (x y : Lab) : ltL x y ∨ x = y ∨ ltL y x := by
 rcases ordS_tri x.1 y.1 with h | e | h
 · exact .inl (.inl h)
 · rcases ordS_tri x.2 y.2 with h | e2 | h
   · exact .inl (.inr ⟨e, h⟩)
   · exact .inr (.inl (Prod.ext e e2))
   · exact .inr (.inr (.inr ⟨e.symm, h⟩))
 · exact .inr (.inr (.inl h))
theorem qgl (x y : Lab) : ltOf cmpE x y = true ↔ ltL x y := by unfold ltOf; rw [decide_eq_true_eq]; exact cmpE_neg x y
theorem qhe (x y : Lab) : ltOf cmpE x y = false ↔ ¬ ltL x y := by rw [← qgl]; simp
theorem swoL : SWO (ltOf cmpE) where
 irrefl x := (qhe x x).2 (ltL_irrefl x)
 trans x y z h1 h2 := (qgl x z).2 (ltL_trans ((qgl x y).1 h1) ((qgl y z).1 h2))
 ntrans x y z h1 h2 := by
  rw [qhe] at *
  intro h
  rcases ltL_tri x y with a | a | a
  · exact h1 a
  · exact h2 (a ▸ h)
  · exact h2 (ltL_trans a h)
theorem totL (x y : Lab) (h1 : ltOf cmpE x y = false) (h2 : ltOf cmpE y x = false) : x = y := by
 rw [qhe] at h1 h2
 rcases ltL_tri x y with a | a | a
 · exact absurd a h1
 · exact a
 · exact absurd a h2
def sortL (l : List Lab) : List Lab := l.mergeSort fun x y => !(ltOf cmpE) y x
theorem qds (l : List Lab) : (sortL l).Perm l := List.mergeSort_perm _ _
theorem qdl (l : List Lab) : (sortL l).length = l.length := (qds l).length_eq
theorem flat_lab (l : List Lab) : flatK encQ 2 l.toArray = (labC l).toArray := by
 refine ext_get! (by simp [labC, qat]) fun t ht => ?_
 have ht' : t < l.length * 2 := by simpa using ht
 rw [get_flatK _ _ _ _ (by simpa using ht)]
 have hj : t / 2 < l.length := by omega
 obtain ⟨g1, g2⟩ := qco labF labG l (t / 2) l[t / 2] (List.getElem?_eq_getElem hj)
 have e0 : (l.toArray)[t / 2]! = l[t / 2] := by simp [hj]
 rw [e0]
 rcases Nat.mod_two_eq_zero_or_one t with h | h
 · have e1 : t = t / 2 * 2 := by omega
   have e2 : (labC l).toArray[t]! = labF l[t / 2] := by
    unfold labC
    rw [← e1] at g1
    simp [Array.getElem!_eq_getD, Array.getD_eq_getD_getElem?, g1]
   rw [e2, h]; rfl
 · have e1 : t = t / 2 * 2 + 1 := by omega
   have e2 : (labC l).toArray[t]! = labG l[t / 2] := by
    unfold labC
    rw [← e1] at g2
    simp [Array.getElem!_eq_getD, Array.getD_eq_getD_getElem?, g2]
   rw [e2, h]; rfl
theorem cmpLays_lab (blk off size : Nat) (w : World) : CmpLays Tryz.prog 130 #[] encQ 2 cmpE blk off size w := fun _ _ _ _ x y => pcompare_any x y _
theorem holds_flat {w : World} {g : Nat} {cur : Array Value} {e : TypeId} {F : Array Value} (hb : w.heap[g]? = some (.cells cur e (0, 0))) (ht : cur.toList.take F.size = F.toList) : Go.Sort.Holds id w g 0 F := by
 intro j hj
 refine ⟨?_, by simp [World.frozen?, hb]⟩
 have h1 : (cur.toList.take F.size)[j]? = F.toList[j]? := by rw [ht]
 rw [List.getElem?_take_of_lt hj] at h1
 simp only [World.cell?, hb, Nat.zero_add]
 simp only [Option.isSome_none, Bool.false_eq_true, if_false]
 rw [← Array.getElem?_toList, h1]
 simp [hj]
theorem heap_put {w : World} {g n : Nat} {os : Array Obj} {cur : Array Value} {e : TypeId} {fr : Nat × Nat} (F : Array Value) (hb : w.heap[g]? = some (.cells cur e fr)) :
 (grow (putRow id (Sort.ahead w n) g 0 F) os).heap[g]? = some (.cells (Go.Sort.putCells id 0 F cur) e fr) := by
 have hg : g < w.heap.size := (Array.getElem?_eq_some_iff.1 hb).1
 rw [heap_grow_old _ _ (by simpa using hg)]
 simp [putRow, mapBlock, Sort.ahead, Array.getElem?_modify, hb, onCells]
theorem keeps_put {w : World} {g n : Nat} {os : Array Obj} (F : Array Value) : Keeps (fun k => k = g) w (grow (putRow id (Sort.ahead w n) g 0 F) os) := by
 refine ⟨rfl, rfl, rfl, by simp, fun k hk hne => ?_⟩
 rw [heap_grow_old _ _ (by simpa using hk)]
 have : g ≠ k := fun e => hne e.symm
 simp [putRow, mapBlock, Sort.ahead, Array.getElem?_modify, this]
theorem take_put (cur F : Array Value) (h : F.size ≤ cur.size) : (Go.Sort.putCells id 0 F cur).toList.take F.size = F.toList := by
 apply List.ext_getElem?
 intro j
 by_cases hj : j < F.size
 · rw [List.getElem?_take_of_lt hj, Array.getElem?_toList]
   simp [Go.Sort.putCells, hj, show j < cur.size by omega]
 · rw [List.getElem?_take_eq_none (by omega), List.getElem?_eq_none (by simp; omega)]
theorem sortLab_any (base : Nat) (v : Value) (l : List Lab) (w : World) (hr : w.ownsRow base 94 2 v l.length (labC l)) (hl : l.length ≤ 1099511627776) :
 Calls Tryz.prog 175 #[v, .func (.func 130) #[] #[]] w fun e w' => e = .returned (.tuple #[]) ∧ w'.ownsRow base 94 2 v l.length (labC (sortL l)) ∧ Keeps (fun k => v.ownBlock = some k) w w' := by
 rcases hr.2 with ⟨rfl, h0⟩ | ⟨g, cap, cur, rfl, hbg, hg, hnc, hcm, hcs, htake⟩
 · have hn : l = [] := List.eq_nil_of_length_eq_zero h0
   subst hn
   refine (AnyF.slices_SortFunc_none (P := Tryz.prog) Tryz.sortLab none 0 _ w).mono ?_
   rintro e w' ⟨rfl, rfl⟩
   exact ⟨rfl, by rw [show sortL [] = [] from by simp [sortL]]; exact World.ownsRow_nil _ _ _ _, Keeps.refl _ _⟩
 · have hF : (labC l).toArray.toList = labC l := rfl
   have hsz : (labC l).toArray.size = l.length * 2 := by simp [labC, qat]
   have hH : HoldsK encQ 2 w g 0 l.toArray := by
    unfold HoldsK
    rw [flat_lab]
    exact holds_flat hg (by rw [hsz]; exact htake)
   have hc := AnyQ.slices_SortFunc_total (P := Tryz.prog) Tryz.sortLab 2 Tryz.isAgg94 Tryz.sizeOf94 encQ (fun _ => rfl) (fun x u hu => by simp [encQ] at hu; rcases hu with rfl | rfl <;> rfl) cmpE swoL 130 #[] g 0 cap l.toArray w (enters_of Tryz.func130 (by kernel_rfl) rfl)
    (cmpLays_lab g 0 _ w) hH (qan hg) (by simp; omega) totL
   refine hc.mono ?_
   rintro e w' ⟨rfl, n, os, rfl⟩
   have hs2 : (labC (sortL l)).toArray.size = l.length * 2 := by simp [labC, qat, qdl]
   have hw : sortWorldK encQ 2 w g 0 n (l.toArray.toList.mergeSort fun x y => !(ltOf cmpE) y x).toArray os = grow (putRow id (Sort.ahead w n) g 0 (labC (sortL l)).toArray) os := by
    unfold sortWorldK putRowK
    rw [flat_lab]; rfl
   rw [hw]
   refine ⟨rfl, ⟨by simp [labC, qat, qdl], .inr ⟨g, cap, _, rfl, hbg, heap_put _ hg, hnc, hcm, by simp [Go.Sort.putCells, hcs], ?_⟩⟩, (keeps_put _).mono (fun k _ e => by subst e; rfl)⟩
   have := take_put cur (labC (sortL l)).toArray (by rw [hs2, hcs]; exact Nat.mul_le_mul_right _ hnc)
   rw [hs2] at this
   exact this
end
section
set_option maxHeartbeats 4000000
set_option maxRecDepth 100000
open Go.RowKit
theorem qjs (w : World) (o : Obj) (k m : Nat) (cs : List Value) (te : TypeId) (c : Nat) (hl : cs.length = m * k) (hc : m ≤ c) : Rd k ((w.alloc o).alloc (.cells cs.toArray te)) (.slice (some ⟨w.heap.size + 1, 0, none⟩) m c) m cs := by
 have h := rd_new (w.alloc o) k m cs te c hl hc
 rwa [World.size_alloc] at h
theorem listI_one {q p : Nat} {tv v : Value} {l : List Nat} {i j k j2 : Nat} {w : World} (hq : RRd w q p tv l.length) (h : IsRd w p v l i 0) (hr : rdUint l i 0 18446744073709551615 = (1, j, 0)) (hn : 1 ≤ l.length - j) (hl : l.length ≤ 1000000000) (hr2 : rdUint l j 0 18446744073709551615 = (k, j2, 0)) (h1 : 1 ≤ k) (h2 : k ≤ 2147483647) :
 Calls Tryz.prog 185 #[.pointer (some ⟨q, 0, none⟩), .func (.func 186) #[.pointer (some ⟨q, 0, none⟩)] #[]] w fun e w' => ∃ v', e = .returned v' ∧ w'.ownsRow w.heap.size 3 1 v' 1 [.int .i64 (k : Int)] ∧ IsRd w' p v l j2 0 ∧ Keeps (fun k => k = p) w w' := by
 have hne := hq.ne h
 have hlt := h.lt
 have HC := Hj (qjr hq h hr hn hl)
 have HQ := Hj hq; have HR2 := Hj hr2
 clear h hr hq hr2
 go_enter Tryz.func185, Tryz.ntmps185
 go_wp2_with (go_at_call 182; refine HC.out.mono ?_; rintro e w1 ⟨rfl, hi1, hk1⟩)
 have HI1 := Hj hi1; have HK1 := Hj hk1
 clear hi1 hk1 HC
 go_loopw [5, 9] (fun c i wr => (c = .slice none 0 0 ∧ i = .int .i64 0 ∧ wr = w1) ∨ (i = .int .i64 1 ∧ Hid (wr.ownsRow w.heap.size 3 1 c 1 [.int .i64 (k : Int)]) ∧ Hid (IsRd wr p v l j2 0) ∧ Hid (Keeps (fun k => k = p) w wr))) (fun _ i _ => 1 - (intOf i).toNat)
 case atStart => exact .inl ⟨rfl, rfl, rfl⟩
 case round =>
  rcases hrel with ⟨rfl, rfl, hwr⟩ | ⟨rfl, HO, HI, HK⟩
  · obtain rfl := hwr.symm
    have HQ1 := Hj (HQ.out.keeps HK1.out hne)
    have HL := Hj (rlength_ok HQ1.out HI1.out HR2.out h1 h2)
    go_wp2_with (first
     | (go_at_call 186
        refine HL.out.mono ?_
        rintro e w2 ⟨rfl, hi2, hk2⟩
        have c2 := (HQ1.out.keeps hk2 hne).c0
        have her := qcb hi2
        have HI2 := Hj hi2; have HK2 := Hj hk2
        clear hi2 hk2)
     | (go_at_call 134; refine her.mono ?_; rintro e w3 ⟨rfl, rfl⟩)
     | (at_builtin
        refine appE elI rfl _ _ rfl w.heap.size _ _ 0 1 [] [.int .i64 (k : Int)] rfl rfl (World.ownsRow_nil _ _ _ _) (rd_new _ 1 1 [.int .i64 (k : Int)] 3 1 rfl (Nat.le_refl _)) (by simp [Value.oneCell']) (by omega) (by have := HK1.out.size; have := HK2.out.size; simp; omega) ?_
        intro v6 w6 hown6 hg6' hn6
        have hg6 : (w3.alloc (.cells #[.int .i64 (k : Int)] 3)).grownBy w6 none := hg6'
        have HO6 := Hj hown6; have HG6 := Hj hg6
        clear hown6 hg6' hg6 hn6))
    have k6 : Keeps (fun _ => False) w3 w6 := ((Keeps.refl (fun _ => False) w3).alloc _).grown HG6.out (fun k hk e => by cases e)
    exact ⟨.inr ⟨rfl, HO6, Hj (HI2.out.keep k6), Hj ((HK1.out.trans HK2.out (fun _ _ e => e)).trans k6 (fun _ _ e => e.elim))⟩, by simp [intOf]⟩
  · obtain ⟨a9, c9, rfl⟩ := qac HO.out
    go_wp2_with fail
    go_ret
    exact ⟨_, rfl, HO.out, HI.out, HK.out⟩
theorem listL_one {q p : Nat} {ta : Option Addr} {tc : Nat} {v : Value} {l : List Nat} {tb : List ByteArray} {i j k j2 k2 j3 : Nat} {s s2 : ByteArray} {w : World} (hq : RRd w q p (.slice ta tb.length tc) l.length) (h : IsRd w p v l i 0) (hT : RdT w (.slice ta tb.length tc) tb) (hTp : ∀ g, (Value.slice ta tb.length tc).ownBlock = some g → g ≠ p) (hr : rdUint l i 0 18446744073709551615 = (1, j, 0)) (hn : 1 ≤ l.length - j) (hl : l.length ≤ 1000000000)
 (hr2 : rdUint l j 0 18446744073709551615 = (k, j2, 0)) (hs : tb[k]? = some s) (hr3 : rdUint l j2 0 18446744073709551615 = (k2, j3, 0)) (hs2 : tb[k2]? = some s2) (htl : tb.length ≤ 1000000000) :
 Calls Tryz.prog 183 #[.pointer (some ⟨q, 0, none⟩), .func (.func 184) #[.pointer (some ⟨q, 0, none⟩)] #[]] w fun e w' => ∃ v', e = .returned v' ∧ w'.ownsRow w.heap.size 94 2 v' 1 [.string s, .string s2] ∧ IsRd w' p v l j3 0 ∧ Keeps (fun k => k = p) w w' := by
 have hne := hq.ne h
 have hlt := h.lt
 have HC := Hj (qjr hq h hr hn hl)
 have HQ := Hj hq; have HR2 := Hj hr2; have HR3 := Hj hr3; have HT := Hj hT; have HTP := Hj hTp; have HS := Hj hs; have HS2 := Hj hs2
 clear h hr hq hr2 hr3 hT hTp hs hs2
 go_enter Tryz.func183, Tryz.ntmps183
 go_wp2_with (go_at_call 182; refine HC.out.mono ?_; rintro e w1 ⟨rfl, hi1, hk1⟩)
 have HI1 := Hj hi1; have HK1 := Hj hk1
 clear hi1 hk1 HC
 go_loopw [5, 9] (fun c i wr => (c = .slice none 0 0 ∧ i = .int .i64 0 ∧ wr = w1) ∨ (i = .int .i64 1 ∧ Hid (wr.ownsRow w.heap.size 94 2 c 1 [.string s, .string s2]) ∧ Hid (IsRd wr p v l j3 0) ∧ Hid (Keeps (fun k => k = p) w wr))) (fun _ i _ => 1 - (intOf i).toNat)
 case atStart => exact .inl ⟨rfl, rfl, rfl⟩
 case round =>
  rcases hrel with ⟨rfl, rfl, hwr⟩ | ⟨rfl, HO, HI, HK⟩
  · obtain rfl := hwr.symm
    have HQ1 := Hj (HQ.out.keeps HK1.out hne)
    have HL := Hj (rlabel_ok HQ1.out HI1.out (Rd.keeps HT.out HK1.out (fun g hg e => HTP.out g hg e)) HTP.out HR2.out HS.out HR3.out HS2.out htl)
    go_wp2_with (first
     | (go_at_call 184
        refine HL.out.mono ?_
        rintro e w2 ⟨rfl, hi2, hk2⟩
        have hk2b : Keeps (fun _ => False) w2 (w2.alloc (.cells #[.string s, .string s2] 94)) := (Keeps.refl _ _).alloc _
        have c2 := ((HQ1.out.keeps hk2 hne).keeps hk2b (fun e => e)).c0
        have her := qcb (hi2.keep hk2b)
        have hrow := heap_alloc_new w2 (.cells #[.string s, .string s2] 94)
        have HI2 := Hj (hi2.keep hk2b); have HK2 := Hj (hk2.trans hk2b (fun _ _ e => e.elim)); have HROW := Hj hrow
        clear hi2 hk2 hk2b hrow)
     | (go_at_call 134; refine her.mono ?_; rintro e w3 ⟨rfl, hw3⟩; obtain rfl := hw3.symm)
     | (refine wpList_store_row rfl 94 _ _ rfl w2.heap.size #[.string s, .string s2] rfl rfl 94 _ (heap_alloc_new w2 _) (by kernel_rfl) rfl (by simp [Value.oneCell']) ?_
        rw [World.setRow_alloc_new])
     | (refine wpList_load_row rfl 94 _ rfl w2.heap.size rfl 94 _ (0, 0) _ HROW.out Tryz.underlying94 rfl (by kernel_rfl) ?_)
     | (at_builtin
        refine appE elL rfl _ _ rfl w.heap.size _ _ 0 1 [] [.string s, .string s2] rfl rfl (World.ownsRow_nil _ _ _ _) (qjs _ _ 2 1 [.string s, .string s2] 94 1 rfl (Nat.le_refl _)) (by simp [Value.oneCell']) (by omega) (by have := HK1.out.size; have := HK2.out.size; rw [World.size_alloc]; omega) ?_
        intro v6 w6 hown6 hg6' hn6
        have hg6 : ((w2.alloc (.cells #[.string s, .string s2] 94)).alloc (.cells #[.string s, .string s2] 94)).grownBy w6 none := hg6'
        have HO6 := Hj hown6; have HG6 := Hj hg6
        clear hown6 hg6' hg6 hn6))
    have k6 : Keeps (fun _ => False) (w2.alloc (.cells #[.string s, .string s2] 94)) w6 := ((Keeps.refl (fun _ => False) _).alloc _).grown HG6.out (fun k hk e => by cases e)
    exact ⟨.inr ⟨rfl, HO6, Hj (HI2.out.keep k6), Hj ((HK1.out.trans HK2.out (fun _ _ e => e)).trans k6 (fun _ _ e => e.elim))⟩, by simp [intOf]⟩
  · obtain ⟨a9, c9, rfl⟩ := qac HO.out
    go_wp2_with fail
    go_ret
    exact ⟨_, rfl, HO.out, HI.out, HK.out⟩
theorem record_one {q p : Nat} {ta : Option Addr} {tc : Nat} {v : Value} {l : List Nat} {tb : List ByteArray} {i j k j2 k2 j3 j4 n j5 : Nat} {s s2 : ByteArray} {w : World} (hq : RRd w q p (.slice ta tb.length tc) l.length) (h : IsRd w p v l i 0) (hT : RdT w (.slice ta tb.length tc) tb) (hTp : ∀ g, (Value.slice ta tb.length tc).ownBlock = some g → g ≠ p) (hr : rdUint l i 0 18446744073709551615 = (1, j, 0)) (hn : 1 ≤ l.length - j) (hl : l.length ≤ 1000000000)
 (hr2 : rdUint l j 0 18446744073709551615 = (k, j2, 0)) (hs : tb[k]? = some s) (hr3 : rdUint l j2 0 18446744073709551615 = (k2, j3, 0)) (hs2 : tb[k2]? = some s2) (htl : tb.length ≤ 1000000000)
 (hr4 : rdUint l j3 0 18446744073709551615 = (1, j4, 0)) (hn4 : 1 ≤ l.length - j4) (hr5 : rdUint l j4 0 18446744073709551615 = (n, j5, 0)) (h1 : 1 ≤ n) (h2 : n ≤ 2147483647) :
 Calls Tryz.prog 136 #[.pointer (some ⟨q, 0, none⟩)] w fun e w' => ∃ v1 v2, e = .returned (.agg #[v1, v2]) ∧ w'.ownsRow w.heap.size 94 2 v1 1 [.string s, .string s2] ∧ w'.ownsRow w.heap.size 3 1 v2 1 [.int .i64 (n : Int)] ∧ IsRd w' p v l j5 0 ∧ Keeps (fun k => k = p) w w' := by
 have hne := hq.ne h
 have hlt := h.lt
 obtain ⟨W0, hW0⟩ : ∃ W0, W0 = w.alloc (.cells #[.slice none 0 0, .slice none 0 0] 127) := ⟨_, rfl⟩
 have hk0 : Keeps (fun _ => False) w W0 := by rw [hW0]; exact (Keeps.refl _ _).alloc _
 have hr0 : W0.heap[w.heap.size]? = some (.cells #[.slice none 0 0, .slice none 0 0] 127 (0, 0)) := by rw [hW0]; exact heap_alloc_new w _
 have HC := Hj (listL_one (hq.keeps hk0 (fun e => e)) (h.keep hk0) (Rd.keeps hT hk0 (fun _ _ e => e)) hTp hr hn hl hr2 hs hr3 hs2 htl)
 have HQ := Hj (hq.keeps hk0 (fun e => e)); have HR4 := Hj hr4; have HR5 := Hj hr5
 have HW0 := Hj hW0; have HR0 := Hj hr0; have HK0 := Hj hk0
 clear h hr hq hr2 hr3 hT hTp hs hs2 hr4 hr5 hW0 hr0 hk0
 go_enter Tryz.func136, Tryz.ntmps136
 go_upto_region 2 with (first
  | (go_at_call 183
     rw [← HW0.out]
     refine HC.out.mono ?_
     rintro e w1 ⟨v1, rfl, ho1, hi1, hk1⟩
     obtain ⟨a1, c1, rfl⟩ := qac ho1
     have HO1 := Hj ho1; have HI1 := Hj hi1; have HK1 := Hj hk1
     clear ho1 hi1 hk1 HC)
  | (refine wpList_store_row rfl 127 _ _ rfl w1.heap.size #[.slice a1 1 c1, .slice none 0 0] rfl rfl 127 _ (heap_alloc_new w1 _) (by kernel_rfl) rfl (by simp [Value.oneCell']) ?_
     rw [World.setRow_alloc_new]))
 obtain ⟨W2, hW2⟩ : ∃ W2, W2 = w1.alloc (.cells #[.slice a1 1 c1, .slice none 0 0] 127) := ⟨_, rfl⟩
 have hk2 : Keeps (fun _ => False) w1 W2 := by rw [hW2]; exact (Keeps.refl _ _).alloc _
 have hr2 : W2.heap[w1.heap.size]? = some (.cells #[.slice a1 1 c1, .slice none 0 0] 127 (0, 0)) := by rw [hW2]; exact heap_alloc_new w1 _
 have hs2 : W2.heap.size = w1.heap.size + 1 := by rw [hW2]; simp
 rw [← hW2]
 have hwp : p < w1.heap.size := by have := HK1.out.size; have := HK0.out.size; omega
 have HC2 := Hj (listI_one ((HQ.out.keeps HK1.out hne).keeps hk2 (fun e => e)) (HI1.out.keep hk2) HR4.out hn4 hl HR5.out h1 h2)
 have HK2 := Hj hk2; have HR2 := Hj hr2; have HS2 := Hj hs2
 clear hk2 hr2 hs2 hW2
 go_upto_region 3 with (go_at_call 185
                        refine HC2.out.mono ?_
                        rintro e w3 ⟨v2, rfl, ho3, hi3, hk3⟩
                        obtain ⟨a2, c2, rfl⟩ := qac ho3
                        have hr3 := hk3.heap HR2.out (by omega)
                        have e1 : w3.cell? ⟨w1.heap.size, 1, none⟩ = some (.slice none 0 0) := by rw [cell_of_row _ _ _ _ _ _ hr3]; rfl
                        have e2 : w3.frozen? ⟨w1.heap.size, 1, none⟩ = false := frozen_of_row _ _ _ _ _ hr3
                        have HO3 := Hj ho3; have HI3 := Hj hi3; have HK3 := Hj hk3; have HR3 := Hj hr3
                        clear ho3 hi3 hk3 hr3 HC2)
 clear e1 e2
 obtain ⟨W4, hW4⟩ : ∃ W4, W4 = w3.setCell ⟨w1.heap.size, 1, none⟩ (.slice a2 1 c2) := ⟨_, rfl⟩
 have hk4 : Keeps (fun k => k = w1.heap.size) w3 W4 := by rw [hW4]; exact (Keeps.refl (fun k => k = w1.heap.size) w3).setCell (p := ⟨w1.heap.size, 1, none⟩) (fun _ => rfl) _
 have hr4 : W4.heap[w1.heap.size]? = some (.cells #[.slice a1 1 c1, .slice a2 1 c2] 127 (0, 0)) := by rw [hW4]; exact (heap_setCell_same w3 w1.heap.size 1 _ _ (.slice a2 1 c2) HR3.out).trans rfl
 rw [← hW4]
 have d1 : W4.cell? ⟨w1.heap.size, 1, none⟩ = some (.slice a2 1 c2) := by rw [cell_of_row _ _ _ _ _ _ hr4]; rfl
 have hw0 : w.heap.size < w1.heap.size := by have := HK1.out.size; have := qan HR0.out; omega
 have hz4 := hk4.heap (HK3.out.heap (HK2.out.heap (HK1.out.heap HR0.out (by omega)) (fun e => e)) (by omega)) (by omega)
 have HZ4 := Hj hz4; have HR4' := Hj hr4; have HK4 := Hj hk4
 clear hz4 hr4 hk4 hW4
 go_wp2_with (first
  | (refine wpList_load_row rfl 127 _ rfl w1.heap.size rfl 127 _ (0, 0) _ HR4'.out Tryz.underlying127 rfl (by kernel_rfl) ?_)
  | (refine wpList_store_row rfl 127 _ _ rfl w.heap.size #[.slice a1 1 c1, .slice a2 1 c2] rfl rfl 127 _ HZ4.out (by kernel_rfl) rfl (by simp [Value.oneCell']) ?_))
 obtain ⟨W5, hW5⟩ : ∃ W5, W5 = W4.setRow w.heap.size #[.slice a1 1 c1, .slice a2 1 c2] := ⟨_, rfl⟩
 rw [← hW5]
 have k5 : Keeps (fun k => k = w.heap.size) W4 W5 := by rw [hW5]; exact qax (Keeps.refl _ _) _ _ (fun _ => rfl)
 have r5 : W5.heap[w.heap.size]? = some (.cells #[.slice a1 1 c1, .slice a2 1 c2] 127 (0, 0)) := by rw [hW5]; exact setRow_heap _ _ _ _ _ _ HZ4.out
 have hs0 : W0.heap.size = w.heap.size + 1 := by rw [HW0.out]; simp
 refine bodyPost_ret (results_cell_row Tryz.results136 _ _ w.heap.size 127 _ (0, 0) _ rfl r5 Tryz.underlying127 rfl (by kernel_rfl)) rfl ?_
 refine ⟨_, _, rfl, ?_, ?_, ?_, ?_⟩
 · have q1 := HO1.out
   have hg : ∀ g, (Value.slice a1 1 c1).ownBlock = some g → w.heap.size < g ∧ g < w1.heap.size ∧ g ≠ p := fun g hg => ⟨by have := (q1.lt g hg).1; omega, (q1.lt g hg).2, by
    obtain ⟨cur, hc⟩ := qak q1 hg
    exact qaf hc HI1.out.blk (by decide)⟩
   exact qao (k5.row (HK4.out.row (HK3.out.row (HK2.out.row q1 (fun _ _ e => e)) (fun g h e => (hg g h).2.2 e)) (fun g h e => by have := (hg g h).2.1; omega)) (fun g h e => by have := (hg g h).1; omega)) (fun g h => by have := (hg g h).1; omega)
 · have q3 := HO3.out
   have hs2 := HS2.out
   have hg : ∀ g, (Value.slice a2 1 c2).ownBlock = some g → w1.heap.size < g := fun g hg => by have := (q3.lt g hg).1; omega
   exact qao (k5.row (HK4.out.row q3 (fun g h e => by have := hg g h; omega)) (fun g h e => by have := hg g h; omega)) (fun g h => by have := hg g h; omega)
 · have q := HI3.out
   refine (q.keeps HK4.out (by omega) (fun g hg e => ?_)).keeps k5 (by omega) (fun g hg e => ?_)
   · obtain ⟨cur, hc⟩ := qak q.row hg
     exact qaf hc HR3.out (by decide) e
   · obtain ⟨cur, hc⟩ := qak q.row hg
     exact qaf hc (HK3.out.heap (HK2.out.heap (HK1.out.heap HR0.out (by omega)) (fun e => e)) (by omega)) (by decide) e
 · exact (((((HK0.out.mono (S' := fun k => k = p) (fun _ _ e => e.elim)).trans HK1.out (fun _ _ e => e)).trans HK2.out (fun _ _ e => e.elim)).trans HK3.out (fun _ _ e => e)).trans HK4.out (fun k hk e => by omega)).trans k5 (fun k hk e => by omega)
theorem listR_one {q p : Nat} {ta : Option Addr} {tc : Nat} {v : Value} {l : List Nat} {tb : List ByteArray} {i0 i j k j2 k2 j3 j4 n j5 : Nat} {s s2 : ByteArray} {w : World} (hq : RRd w q p (.slice ta tb.length tc) l.length) (h : IsRd w p v l i0 0) (hT : RdT w (.slice ta tb.length tc) tb) (hTp : ∀ g, (Value.slice ta tb.length tc).ownBlock = some g → g ≠ p) (hr0 : rdUint l i0 0 18446744073709551615 = (1, i, 0)) (hn0 : 1 ≤ l.length - i) (hr : rdUint l i 0 18446744073709551615 = (1, j, 0)) (hn : 1 ≤ l.length - j) (hl : l.length ≤ 1000000000)
 (hr2 : rdUint l j 0 18446744073709551615 = (k, j2, 0)) (hs : tb[k]? = some s) (hr3 : rdUint l j2 0 18446744073709551615 = (k2, j3, 0)) (hs2 : tb[k2]? = some s2) (htl : tb.length ≤ 1000000000)
 (hr4 : rdUint l j3 0 18446744073709551615 = (1, j4, 0)) (hn4 : 1 ≤ l.length - j4) (hr5 : rdUint l j4 0 18446744073709551615 = (n, j5, 0)) (h1 : 1 ≤ n) (h2 : n ≤ 2147483647) :
 Calls Tryz.prog 135 #[.pointer (some ⟨q, 0, none⟩), .func (.func 136) #[.pointer (some ⟨q, 0, none⟩)] #[]] w fun e w' => ∃ v' v1 v2, e = .returned v' ∧ w'.ownsRow w.heap.size 127 2 v' 1 [v1, v2] ∧ w'.ownsRow w.heap.size 94 2 v1 1 [.string s, .string s2] ∧ w'.ownsRow w.heap.size 3 1 v2 1 [.int .i64 (n : Int)] ∧ IsRd w' p v l j5 0 ∧ Keeps (fun k => k = p) w w' := by
 have hne := hq.ne h
 have hlt := h.lt
 have HC := Hj (qjr hq h hr0 hn0 hl)
 have hgo : ∀ w1, IsRd w1 p v l i 0 → Keeps (fun k => k = p) w w1 → Calls Tryz.prog 136 #[.pointer (some ⟨q, 0, none⟩)] w1 fun e w' => ∃ v1 v2, e = .returned (.agg #[v1, v2]) ∧ w'.ownsRow w1.heap.size 94 2 v1 1 [.string s, .string s2] ∧ w'.ownsRow w1.heap.size 3 1 v2 1 [.int .i64 (n : Int)] ∧ IsRd w' p v l j5 0 ∧ Keeps (fun k => k = p) w1 w' := fun w1 hi hk => record_one (hq.keeps hk hne) hi (Rd.keeps hT hk (fun g hg e => hTp g hg e)) hTp hr hn hl hr2 hs hr3 hs2 htl hr4 hn4 hr5 h1 h2
 have HQ := Hj hq; have HGO := Hj hgo
 clear h hr hq hr2 hr3 hT hTp hs hs2 hr4 hr5 hr0 hgo
 go_enter Tryz.func135, Tryz.ntmps135
 go_wp2_with (go_at_call 182; refine HC.out.mono ?_; rintro e w1 ⟨rfl, hi1, hk1⟩)
 have HI1 := Hj hi1; have HK1 := Hj hk1
 clear hi1 hk1 HC
 go_loopw [5, 9] (fun c i wr => (c = .slice none 0 0 ∧ i = .int .i64 0 ∧ wr = w1) ∨ (i = .int .i64 1 ∧ ∃ v1 v2, Hid (wr.ownsRow w.heap.size 127 2 c 1 [v1, v2]) ∧ Hid (wr.ownsRow w.heap.size 94 2 v1 1 [.string s, .string s2]) ∧ Hid (wr.ownsRow w.heap.size 3 1 v2 1 [.int .i64 (n : Int)]) ∧ Hid (IsRd wr p v l j5 0) ∧ Hid (Keeps (fun k => k = p) w wr))) (fun _ i _ => 1 - (intOf i).toNat)
 case atStart => exact .inl ⟨rfl, rfl, rfl⟩
 case round =>
  rcases hrel with ⟨rfl, rfl, hwr⟩ | ⟨rfl, v1, v2, HO, HO1, HO2, HI, HK⟩
  · obtain rfl := hwr.symm
    have HQ1 := Hj (HQ.out.keeps HK1.out hne)
    have HL := Hj (HGO.out _ HI1.out HK1.out)
    go_wp2_with (first
     | (go_at_call 136
        refine HL.out.mono ?_
        rintro e w2 ⟨v1, v2, rfl, ho1, ho2, hi2, hk2⟩
        obtain ⟨a1, c1, rfl⟩ := qac ho1
        obtain ⟨a2, c2, rfl⟩ := qac ho2
        have hk2b : Keeps (fun _ => False) w2 (w2.alloc (.cells #[.slice a1 1 c1, .slice a2 1 c2] 127)) := (Keeps.refl _ _).alloc _
        have d2 := ((HQ1.out.keeps hk2 hne).keeps hk2b (fun e => e)).c0
        have her := qcb (hi2.keep hk2b)
        have hrow := heap_alloc_new w2 (.cells #[.slice a1 1 c1, .slice a2 1 c2] 127)
        have HI2 := Hj (hi2.keep hk2b); have HK2 := Hj (hk2.trans hk2b (fun _ _ e => e.elim)); have HROW := Hj hrow
        have HO1 := Hj (hk2b.row ho1 (fun _ _ e => e)); have HO2 := Hj (hk2b.row ho2 (fun _ _ e => e))
        clear hi2 hk2 hk2b hrow ho1 ho2)
     | (go_at_call 134; refine her.mono ?_; rintro e w3 ⟨rfl, hw3⟩; obtain rfl := hw3.symm)
     | (refine wpList_store_row rfl 127 _ _ rfl w2.heap.size #[.slice a1 1 c1, .slice a2 1 c2] rfl rfl 127 _ (heap_alloc_new w2 _) (by kernel_rfl) rfl (by simp [Value.oneCell']) ?_
        rw [World.setRow_alloc_new])
     | (refine wpList_load_row rfl 127 _ rfl w2.heap.size rfl 127 _ (0, 0) _ HROW.out Tryz.underlying127 rfl (by kernel_rfl) ?_)
     | (at_builtin
        refine appE elRc rfl _ _ rfl w.heap.size _ _ 0 1 [] [.slice a1 1 c1, .slice a2 1 c2] rfl rfl (World.ownsRow_nil _ _ _ _) (qjs _ _ 2 1 [.slice a1 1 c1, .slice a2 1 c2] 127 1 rfl (Nat.le_refl _)) (by simp [Value.oneCell']) (by omega) (by have := HK1.out.size; have := HK2.out.size; rw [World.size_alloc]; omega) ?_
        intro v6 w6 hown6 hg6' hn6
        have hg6 : ((w2.alloc (.cells #[.slice a1 1 c1, .slice a2 1 c2] 127)).alloc (.cells #[.slice a1 1 c1, .slice a2 1 c2] 127)).grownBy w6 none := hg6'
        have HO6 := Hj hown6; have HG6 := Hj hg6
        clear hown6 hg6' hg6 hn6))
    have k6 : Keeps (fun _ => False) (w2.alloc (.cells #[.slice a1 1 c1, .slice a2 1 c2] 127)) w6 := ((Keeps.refl (fun _ => False) _).alloc _).grown HG6.out (fun k hk e => by cases e)
    have hz1 := HK1.out.size
    exact ⟨.inr ⟨rfl, _, _, HO6, Hj (qao (k6.row HO1.out (fun _ _ e => e)) (fun g hg => by have := (HO1.out.lt g hg).1; omega)), Hj (qao (k6.row HO2.out (fun _ _ e => e)) (fun g hg => by have := (HO2.out.lt g hg).1; omega)), Hj (HI2.out.keep k6), Hj ((HK1.out.trans HK2.out (fun _ _ e => e)).trans k6 (fun _ _ e => e.elim))⟩, by simp [intOf]⟩
  · obtain ⟨a9, c9, rfl⟩ := qac HO.out
    go_wp2_with fail
    go_ret
    exact ⟨_, v1, v2, rfl, HO.out, HO1.out, HO2.out, HI.out, HK.out⟩
theorem recdec_one {ta : Option Addr} {tc : Nat} {vb : Value} {l : List Nat} {tb : List ByteArray} {i j k j2 k2 j3 j4 n : Nat} {s s2 : ByteArray} {w : World} (hT : RdT w (.slice ta tb.length tc) tb) (hb : Holds w vb (u8s l)) (hl : l.length ≤ 1000000000) (hlb : ∀ c ∈ l, c < 256) (hr0 : rdUint l 0 0 18446744073709551615 = (1, i, 0)) (hn0 : 1 ≤ l.length - i) (hr : rdUint l i 0 18446744073709551615 = (1, j, 0)) (hn : 1 ≤ l.length - j)
 (hr2 : rdUint l j 0 18446744073709551615 = (k, j2, 0)) (hs : tb[k]? = some s) (hr3 : rdUint l j2 0 18446744073709551615 = (k2, j3, 0)) (hs2 : tb[k2]? = some s2) (htl : tb.length ≤ 1000000000)
 (hr4 : rdUint l j3 0 18446744073709551615 = (1, j4, 0)) (hn4 : 1 ≤ l.length - j4) (hr5 : rdUint l j4 0 18446744073709551615 = (n, l.length, 0)) (h1 : 1 ≤ n) (h2 : n ≤ 2147483647) :
 Calls Tryz.prog 77 #[.slice ta tb.length tc, vb] w fun e w' => ∃ v' v1 v2, e = .returned (.tuple #[v', .int .i64 0]) ∧ w'.ownsRow w.heap.size 127 2 v' 1 [v1, v2] ∧ w'.ownsRow w.heap.size 94 2 v1 1 [.string s, .string s2] ∧ w'.ownsRow w.heap.size 3 1 v2 1 [.int .i64 (n : Int)] ∧ Keeps (fun _ => False) w w' := by
 have HN := Hj (qhz vb l w hb (by omega) hlb)
 obtain ⟨ab, nb, cb, rfl⟩ : ∃ d n p, vb = .slice d n p := by obtain ⟨d, p, h, _⟩ := hb; exact ⟨d, _, p, h⟩
 have hnb : nb = l.length := by obtain ⟨d, p, h, _⟩ := hb; simp only [Value.slice.injEq] at h; rw [h.2.1, qaa]
 subst hnb
 have hgo : ∀ w1 q p v, RRd w1 q p (.slice ta tb.length tc) l.length → IsRd w1 p v l 0 0 → w.heap.size ≤ p → Keeps (fun _ => False) w w1 → Calls Tryz.prog 135 #[.pointer (some ⟨q, 0, none⟩), .func (.func 136) #[.pointer (some ⟨q, 0, none⟩)] #[]] w1 fun e w' => ∃ v' v1 v2, e = .returned v' ∧ w'.ownsRow w1.heap.size 127 2 v' 1 [v1, v2] ∧ w'.ownsRow w1.heap.size 94 2 v1 1 [.string s, .string s2] ∧ w'.ownsRow w1.heap.size 3 1 v2 1 [.int .i64 (n : Int)] ∧ IsRd w' p v l l.length 0 ∧ Keeps (fun k => k = p) w1 w' := fun w1 q p v hq hi hp hk => listR_one hq hi (Rd.keeps hT hk (fun _ _ e => e)) (fun g hg e => by have := Rd.lt hT (by decide) ⟨by have := (List.getElem?_eq_some_iff.1 hs).1; omega, hg⟩; omega) hr0 hn0 hr hn hl hr2 hs hr3 hs2 htl hr4 hn4 hr5 h1 h2
 have HGO := Hj hgo
 clear hr hr2 hr3 hT hs hs2 hr4 hr5 hr0 hgo hb hlb
 go_enter Tryz.func77, Tryz.ntmps77
 go_wp2_with (first
  | (go_at_call 85
     refine HN.out.mono ?_
     rintro e w1 ⟨p, v, rfl, hp, hi1, hv1, hk1⟩
     have hk2 : Keeps (fun _ => False) w1 (w1.alloc (.cells #[.pointer (some ⟨p, 0, none⟩), .slice ta tb.length tc, .int .i64 (l.length : Int)] 246)) := (Keeps.refl _ _).alloc _
     have hq2 : RRd (w1.alloc (.cells #[.pointer (some ⟨p, 0, none⟩), .slice ta tb.length tc, .int .i64 (l.length : Int)] 246)) w1.heap.size p (.slice ta tb.length tc) l.length := heap_alloc_new w1 _
     have hpl := hi1.lt
     have HL := Hj (HGO.out _ _ _ _ hq2 (hi1.keep hk2) hp (hk1.trans hk2 (fun _ _ e => e)))
     have HK2 := Hj (hk1.trans hk2 (fun _ _ e => e)); have HQ2 := Hj hq2
     clear hi1 hv1 hk1 hk2 hq2)
  | (go_at_call 135
     refine HL.out.mono ?_
     rintro e w3 ⟨v', v1, v2, rfl, ho, ho1, ho2, hi3, hk3⟩
     obtain ⟨a3, c3, rfl⟩ := qac ho
     have d3 := (HQ2.out.keeps hk3 (by omega)).c0
     have hend := qia hi3
     rw [if_pos rfl, if_neg (Nat.lt_irrefl _)] at hend
     have HO := Hj ho; have HO1 := Hj ho1; have HO2 := Hj ho2; have HK3 := Hj hk3
     clear ho ho1 ho2 hi3 hk3)
  | (go_at_call 93; refine hend.mono ?_; rintro e w4 ⟨rfl, hw4⟩; obtain rfl := hw4.symm))
 have hz := HK2.out.size
 have hw : w.heap.size ≤ w1.heap.size := by simp at hz; omega
 go_ret2
 exact ⟨_, v1, v2, rfl, qao HO.out (fun g hg => by have := (HO.out.lt g hg).1; omega), qao HO1.out (fun g hg => by have := (HO1.out.lt g hg).1; omega), qao HO2.out (fun g hg => by have := (HO2.out.lt g hg).1; omega), HK2.out.trans HK3.out (fun k hk e => by omega)⟩
end
section
set_option maxHeartbeats 1000000
open Go.RowKit Go.Shelf
attribute [local go_sem] Oper.semAt_some
theorem nodup_le : ∀ (n : Nat) (l : List Nat), l.Nodup → (∀ x ∈ l, x < n) → l.length ≤ n
 | 0, l, _, h => by
   cases l with
   | nil => simp
   | cons a r => exact absurd (h a (by simp)) (by omega)
 | n + 1, l, hn, h => by
   have h1 := nodup_le n (l.erase n) (hn.erase n) (fun x hx => by
    have := (hn.mem_erase_iff).1 hx
    have := h x this.2
    omega)
   rw [List.length_erase] at h1
   split at h1 <;> omega
def keysAt (es : List (Lab × Value)) (l : List Nat) : List Lab := l.filterMap fun j => (es[j]?).map (·.1)
theorem qjk {es : List (Lab × Value)} {j : Nat} {e : Lab × Value} (h : es[j]? = some e) (l : List Nat) : keysAt es (l ++ [j]) = keysAt es l ++ [e.1] := by simp [keysAt, h]
theorem qjl (es : List (Lab × Value)) : ∀ k, k ≤ es.length → keysAt es (List.range k) = (es.take k).map (·.1)
 | 0, _ => by simp [keysAt]
 | k + 1, h => by
   have hk : es[k]? = some es[k] := List.getElem?_eq_getElem (by omega)
   rw [List.range_succ, qjk hk, qjl es k (by omega), List.take_add_one, hk, List.map_append]
   rfl
theorem keysAt_range (es : List (Lab × Value)) : keysAt es (List.range es.length) = es.map (·.1) := by rw [qjl es _ (Nat.le_refl _), List.take_length]
theorem keysAt_perm {es : List (Lab × Value)} {l : List Nat} (hn : l.Nodup) (hl : ∀ x ∈ l, x < es.length) (ha : ∀ j, j < es.length → j ∈ l) : (keysAt es l).Perm (es.map (·.1)) := by
 rw [← keysAt_range]
 exact ((List.perm_ext_iff_of_nodup hn List.nodup_range).2 (fun a => ⟨fun h => List.mem_range.2 (hl a h), fun h => ha a (List.mem_range.1 h)⟩)).filterMap _
theorem qgm (es : List (Lab × Value)) (l : List Nat) : (keysAt es l).length ≤ l.length := List.length_filterMap_le _ _
def iterN (w : World) (r n : Nat) : Nat := match w.heap[r]? with | some (.mapIter _ _ seen _) => n - seen.size | _ => 0
theorem keysM_at (Bx M r : Nat) (es : List (Lab × Value)) (W : World) (hr : r = W.heap.size) (hc : W.cell? ⟨Bx, 0, none⟩ = some (.map (some M))) (hM : MapAt W M es) :
 SeqAt Tryz.prog 176 #[.pointer (some ⟨Bx, 0, none⟩)] encL (fun k => k = M ∨ k = r) (fun k => k = r) (fun xs => xs.Perm (es.map (·.1))) (fun pre => pre.length ≤ es.length) W := by
 intro L J Jx hJ hJx hY h0
 have HY := Hj hY; have HJ := Hj hJ; have HJx := Hj hJx
 have hMlt := qan hM
 have hrM : r ≠ M := by omega
 have hrun := run_range_map (P := Tryz.prog) W 230 94 125 M _ es.length Tryz.underlying230 hM
 obtain ⟨n, hn⟩ : ∃ n, n = es.length := ⟨_, rfl⟩
 rw [← hn] at hrun
 obtain ⟨W0, hW0⟩ : ∃ W0, W0 = W.alloc (.mapIter (some M) n #[] n) := ⟨_, rfl⟩
 have hI0 : W0.heap[r]? = some (.mapIter (some M) n #[] n) := by rw [hW0, hr]; exact heap_alloc_new W _
 have hM0 : MapAt W0 M es := by unfold MapAt; rw [hW0]; exact heap_alloc _ hM
 have hJ0 : J [] W0 := hJ _ _ _ h0 (by rw [hW0]; exact (Keeps.refl _ _).alloc _)
 have HI0 := Hj hI0; have HM0 := Hj hM0; have HJ0 := Hj hJ0; have HW0 := Hj hW0
 have HR := Hj hr; have HRM := Hj hrM; have HN := Hj hn
 clear hY hJ hJx h0 hI0 hM0 hJ0 hW0 hrM hM hMlt hr hn
 refine callsIn_of_wp Tryz.func176 rfl trivial ?_ rfl
 simp only [Tryz.ntmps176, List.size_toArray, List.length_cons, List.length_nil, Nat.reduceAdd, Nat.reduceSub, Array.replicate_succ, Array.replicate_zero, List.push_toArray, List.append_toArray, List.nil_append, List.cons_append]
 gi_wp2
 rw [← HW0.out, ← HR.out]
 clear hrun
 gi_loopw [7] (fun t7 wr => ∃ seen : Array Nat, Hid (wr.heap[r]? = some (.mapIter (some M) n seen n)) ∧ Hid (MapAt wr M es) ∧ Hid (seen.toList.Nodup ∧ ∀ x ∈ seen.toList, x < n) ∧ Hid (J (keysAt es seen.toList) wr)) (fun _ wr => iterN wr r n)
 case atStart => exact ⟨#[], HI0, HM0, Hj ⟨by simp, by simp⟩, HJ0⟩
 case round =>
  obtain ⟨seen, HI, HM, HS, HJ1⟩ := hrel
  rcases run_nextL (P := Tryz.prog) (r := r) (c := n) (seen := seen) (by rw [← HN.out]; exact HI.out) HM.out (by rw [HN.out]; exact Nat.le_refl _) with ⟨hall, hn⟩ | ⟨j, e, w1, he, hj, hw1, hn⟩
  · have HP := Hj (keysAt_perm HS.out.1 (fun x hx => by rw [← HN.out]; exact HS.out.2 x hx) hall)
    clear hall
    gi_wp2
    go_end0
    exact ⟨⟨_, rfl⟩, .inl ⟨_, HP.out, HJ1.out⟩⟩
  · obtain ⟨x, val⟩ := e
    have hjn : j < n := by rw [HN.out]; exact (List.getElem?_eq_some_iff.1 he).1
    have hnd : (seen.push j).toList.Nodup ∧ ∀ x ∈ (seen.push j).toList, x < n := by
     rw [Array.toList_push]
     refine ⟨List.nodup_append.2 ⟨HS.out.1, by simp, fun a ha b hb e => ?_⟩, fun y hy => ?_⟩
     · simp only [List.mem_singleton] at hb; subst hb; subst e; exact hj ha
     · rcases List.mem_append.1 hy with h | h
       · exact HS.out.2 y h
       · simp only [List.mem_singleton] at h; omega
    have hlen := nodup_le n _ hnd.1 hnd.2
    rw [Array.toList_push, List.length_append, List.length_singleton, Array.length_toList] at hlen
    have hlt := qan HI.out
    rw [← HN.out] at hn
    obtain ⟨W1, hW1⟩ : ∃ W1, W1 = w1.putObj r (.mapIter (some M) n (seen.push j) n) := ⟨_, rfl⟩
    have hw1s : w1.heap = wr.heap := by rcases hw1 with rfl | rfl <;> rfl
    have hI1 : W1.heap[r]? = some (.mapIter (some M) n (seen.push j) n) := by rw [hW1]; exact World.putObj_heap_same (by rw [hw1s]; exact hlt)
    have hM1 : MapAt W1 M es := by unfold MapAt; rw [hW1, World.putObj_heap_other (by have := HRM.out; omega), hw1s]; exact HM.out
    have hk1 : Keeps (fun k => k = r) wr W1 := by
     rw [hW1]
     rcases hw1 with rfl | rfl
     · exact Keeps.putObj _ _ _ rfl
     · exact (Keeps.refl _ _).drew.trans (Keeps.putObj (S := fun k => k = r) _ _ _ rfl) (fun _ _ e => e)
    have hen := run_entryL (P := Tryz.prog) (c := n) (seen := seen) (j := j) (e := (x, val)) (by rw [← HN.out]; exact hI1) hM1 he
    have hJ1 := HJ.out _ _ _ HJ1.out hk1
    rw [← hW1] at hn
    obtain ⟨W2, hW2⟩ : ∃ W2, W2 = W1.alloc (.cells #[.string x.1, .string x.2] 94) := ⟨_, rfl⟩
    have hr2 : W2.heap[W1.heap.size]? = some (.cells #[.string x.1, .string x.2] 94 (0, 0)) := by rw [hW2]; exact heap_alloc_new W1 _
    have e1 : W2.cell? ⟨W1.heap.size, 0, none⟩ = some (.string x.1) := by rw [cell_of_row _ _ _ _ _ _ hr2]; rfl
    have e2 : W2.cell? ⟨W1.heap.size, 1, none⟩ = some (.string x.2) := by rw [cell_of_row _ _ _ _ _ _ hr2]; rfl
    have hk2 : Keeps (fun k => k = r) W1 W2 := by rw [hW2]; exact (Keeps.refl _ _).alloc _
    obtain ⟨fn, tmps, assign, body, hyy, hR⟩ := HY.out (keysAt es seen.toList) x W2 (HJ.out _ _ _ hJ1 hk2) (by
     have h1 := qgm es seen.toList
     have h2 : seen.toList.length = seen.size := Array.length_toList
     rw [List.length_append, List.length_singleton, ← HN.out]; omega)
    simp only [encL] at hyy hR
    have HI2 : Hid (W2.heap[r]? = some (.mapIter (some M) n (seen.push j) n)) := Hj (by rw [hW2]; exact heap_alloc _ hI1)
    have HM2 : Hid (MapAt W2 M es) := Hj (by unfold MapAt; rw [hW2]; exact heap_alloc _ hM1)
    have HW2 := Hj hW2; have HND := Hj hnd; have HLN := Hj hlen
    have HE : Hid (keysAt es seen.toList ++ [x] = keysAt es (seen.push j).toList) := Hj (by rw [Array.toList_push, qjk he])
    have HIw := Hj HI.out
    clear hlt hW1 hI1 hM1 hk1 hJ1 hW2 hr2 hk2 HI HM HJ1 hnd hlen hw1 hw1s he hj hjn HS
    gi_upto_region 3 with fail
    rw [← HW2.out]
    clear hn hen
    gi_wp2
    refine ⟨rfl, hR.mono ?_⟩
    rintro e W3 (⟨rfl, hJ3, hk3⟩ | ⟨rfl, hJx3, hk3⟩)
    · have HI3 := Hj (hk3.heap HI2.out (fun h => h (.inr rfl))); have HM3 : Hid (MapAt W3 M es) := Hj (hk3.heap HM2.out (fun h => h (.inl rfl))); have HJ3 := Hj hJ3
      clear hJ3 hk3 hyy e1 e2
      gi_wp2
      exact ⟨⟨seen.push j, HI3, HM3, HND, by rw [← HE.out]; exact HJ3⟩, by have := HLN.out; simp [iterN, HI3.out, HIw.out]; omega⟩
    · have HJx3 := Hj hJx3; have HLE : Hid ((keysAt es seen.toList ++ [x]).length ≤ es.length) := Hj (by
       have h1 := qgm es seen.toList
       have h2 : seen.toList.length = seen.size := Array.length_toList
       have h3 := HLN.out
       rw [List.length_append, List.length_singleton, ← HN.out]; omega)
      clear hJx3 hk3 hyy e1 e2
      gi_wp2
      refine bodyPost_ret (results_none rfl _ _ _) rfl ?_
      exact ⟨⟨_, rfl⟩, .inr ⟨_, HLE.out, HJx3.out⟩⟩
theorem sortedM_any (gf : Nat) (eg : ∀ args w, (callFunc gf args).run Tryz.prog w = .ok (.enter gf args) w) (lb : Array Value) (ow tr : Nat → Prop) (ks : List Lab) (w : World) (hks : ks.length ≤ 1099511627776) (hseq : ∀ W, W.heap.size = w.heap.size + 3 → Keeps (fun _ => False) w W → SeqAt Tryz.prog gf lb encL ow tr (fun xs => xs.Perm ks) (fun pre => pre.length ≤ ks.length) W) (how : ∀ k, ow k → k < w.heap.size ∨ k = w.heap.size + 3) (htr : ∀ k, tr k → k = w.heap.size + 3) (htro : ∀ k, tr k → ow k) :
 Calls Tryz.prog 128 #[.func (.func gf) #[] lb, .func (.func 130) #[] #[]] w fun e w' => ∃ v, e = .returned v ∧ w'.ownsRow w.heap.size 94 2 v ks.length (labC (sortL ks)) ∧ Keeps (fun _ => False) w w' := by
 have HC := Hj (qhk gf eg lb ow tr _ _ w hseq how htr htro (fun pre hp => Nat.le_trans hp hks))
 have HKS := Hj hks
 clear hseq how htr htro eg hks
 go_enter Tryz.func128, Tryz.ntmps128
 go_wp2_with (first
  | (go_at_call 174; refine HC.out.mono ?_; rintro e w1 ⟨v, rs, rfl, hrs, hr, hk⟩; obtain ⟨ad, cap, rfl⟩ := qac hr; have HR := Hj hr; have HK := Hj hk; have HP := Hj hrs; have HS := Hj (sortLab_any _ _ rs w1 hr (by rw [hrs.length_eq]; exact HKS.out)); clear hr hk hrs)
  | (go_at_call 175; refine HS.out.mono ?_; rintro e w2 ⟨rfl, hr2, hk2⟩; have HR2 := Hj hr2; have HK2 := Hj hk2; clear hr2 hk2))
 go_ret
 have hso : sortL rs = sortL ks := by
  have hp := ((qds rs).trans HP.out).trans (qds ks).symm
  have hs : ∀ l : List Lab, (sortL l).Pairwise (fun x y => (!(ltOf cmpE) y x) = true) := fun l => List.pairwise_mergeSort (fun a b c h1 h2 => by
   rw [Bool.not_eq_true'] at *
   exact swoL.ntrans _ _ _ h2 h1) (fun a b => by
   cases h : ltOf cmpE b a with
   | false => simp
   | true =>
     have : ltOf cmpE a b = false := by
      cases h2 : ltOf cmpE a b with
      | false => rfl
      | true => have := swoL.trans _ _ _ h h2; rw [swoL.irrefl] at this; cases this
     simp [this]) l
  exact hp.eq_of_pairwise (fun a b _ _ h1 h2 => totL a b (by simpa using h2) (by simpa using h1)) (hs rs) (hs ks)
 refine ⟨_, rfl, ?_, HK.out.trans HK2.out (fun k hk e => by have := (HR.out.lt k e).1; omega)⟩
 rw [← hso, ← HP.out.length_eq]
 exact HR2.out
end
section
open Go.RowKit
def addM (es : List Ent) (x : Lab) (i : Nat) : List Ent :=
 match keyIx es x with
 | some j => es.set j (x, (es.getD j (x, [])).2 ++ [i])
 | none => es ++ [(x, [i])]
def bldI (es : List Ent) (i : Nat) (xs : List Lab) : List Ent := xs.foldl (fun es x => addM es x i) es
def bldM (ls : List (List Lab)) : List Ent := ls.zipIdx.foldl (fun es p => bldI es p.2 p.1) []
theorem bldI_snoc (es : List Ent) (i : Nat) (xs : List Lab) {j : Nat} {x : Lab} (h : xs[j]? = some x) : bldI es i (xs.take (j + 1)) = addM (bldI es i (xs.take j)) x i := by
 rw [List.take_add_one, h]; simp [bldI]
theorem bldM_snoc (ls : List (List Lab)) {k : Nat} {l : List Lab} (h : ls[k]? = some l) : bldM (ls.take (k + 1)) = bldI (bldM (ls.take k)) k l := by
 have hk : (ls.take k).length = k := by rw [List.length_take]; have := (List.getElem?_eq_some_iff.1 h).1; omega
 rw [List.take_add_one, h]
 simp [bldM, List.zipIdx_append, hk]
theorem set_key {es : List Ent} {x : Lab} {j : Nat} {xs ys : List Nat} (h : es[j]? = some (x, xs)) : (es.set j (x, ys)).map (·.1) = es.map (·.1) := by
 rw [List.map_set]
 exact Go.WideElems.set_self _ _ _ (by rw [List.getElem?_map, h]; rfl)
theorem qjm (es : List Ent) (x : Lab) (i : Nat) : (addM es x i).map (·.1) = es.map (·.1) ∨ (keyIx es x = none ∧ (addM es x i).map (·.1) = es.map (·.1) ++ [x]) := by
 unfold addM
 cases h : keyIx es x with
 | some j =>
   obtain ⟨v, hv⟩ := qcq h
   exact .inl (set_key hv)
 | none => exact .inr ⟨rfl, by simp⟩
theorem addM_nodup {es : List Ent} (hn : (es.map (·.1)).Nodup) (x : Lab) (i : Nat) : ((addM es x i).map (·.1)).Nodup := by
 rcases qjm es x i with h | ⟨h0, h⟩
 · rw [h]; exact hn
 · rw [h]
   refine List.nodup_append.2 ⟨hn, by simp, fun a ha b hb e => ?_⟩
   simp only [List.mem_singleton] at hb
   obtain ⟨y, hy, rfl⟩ := List.mem_map.1 ha
   exact qfj h0 y hy (e.trans hb)
theorem addM_from {es : List Ent} {x : Lab} {i : Nat} {e : Ent} (h : e ∈ addM es x i) : e.1 = x ∨ ∃ e' ∈ es, e'.1 = e.1 := by
 have h1 : e.1 ∈ (addM es x i).map (·.1) := List.mem_map.2 ⟨e, h, rfl⟩
 rcases qjm es x i with h2 | ⟨_, h2⟩
 · rw [h2] at h1
   obtain ⟨y, hy, he⟩ := List.mem_map.1 h1
   exact .inr ⟨y, hy, he⟩
 · rw [h2] at h1
   rcases List.mem_append.1 h1 with h1 | h1
   · obtain ⟨y, hy, he⟩ := List.mem_map.1 h1
     exact .inr ⟨y, hy, he⟩
   · exact .inl (List.mem_singleton.1 h1)
def totM (es : List Ent) : Nat := (es.map fun e => e.2.length).sum
theorem sum_set : ∀ (l : List Nat) (j a b : Nat), l[j]? = some a → (l.set j b).sum + a = l.sum + b
 | [], _, _, _, h => by simp at h
 | c :: r, 0, a, b, h => by simp at h; subst h; simp; omega
 | c :: r, j + 1, a, b, h => by
   have := sum_set r j a b (by simpa using h)
   simp; omega
theorem addM_tot (es : List Ent) (x : Lab) (i : Nat) : totM (addM es x i) = totM es + 1 := by
 unfold addM
 cases h : keyIx es x with
 | some j =>
   obtain ⟨v, hv⟩ := qcq h
   have hd : es.getD j (x, []) = (x, v) := by simp [List.getD_eq_getElem?_getD, hv]
   have := sum_set (es.map fun e => e.2.length) j v.length (v.length + 1) (by rw [List.getElem?_map, hv]; rfl)
   simp only [totM, hd, List.map_set, List.length_append, List.length_singleton]
   omega
 | none => simp [totM]
theorem qjn (es : List Ent) (x : Lab) (i : Nat) : (addM es x i).length ≤ es.length + 1 := by
 rcases qjm es x i with h | ⟨_, h⟩ <;> have := congrArg List.length h <;> simp at this <;> omega
theorem le_totM {es : List Ent} {e : Ent} (h : e ∈ es) : e.2.length ≤ totM es := by
 have : ∀ (l : List Nat) (a : Nat), a ∈ l → a ≤ l.sum := fun l => by
  induction l with
  | nil => intro a h; cases h
  | cons b r ih =>
    intro a h
    rcases List.mem_cons.1 h with rfl | h
    · simp
    · have := ih a h; simp; omega
 exact this _ _ (List.mem_map.2 ⟨e, h, rfl⟩)
structure OkM (es : List Ent) (N : Nat) : Prop where
 nodup : (es.map (·.1)).Nodup
 fit : ∀ e ∈ es, e.1.1.size ≤ maxLen ∧ e.1.2.size ≤ maxLen
 tot : totM es ≤ N
 len : es.length ≤ N
theorem OkM.nil : OkM [] 0 := ⟨by simp, by simp, by simp [totM], by simp⟩
theorem OkM.add {es : List Ent} {N : Nat} (h : OkM es N) (x : Lab) (h1 : x.1.size ≤ maxLen) (h2 : x.2.size ≤ maxLen) (i : Nat) : OkM (addM es x i) (N + 1) :=
 ⟨addM_nodup h.nodup x i, fun e he => by
   rcases addM_from he with e1 | ⟨y, hy, e1⟩
   · rw [e1]; exact ⟨h1, h2⟩
   · rw [← e1]; exact h.fit y hy, by rw [addM_tot]; have := h.tot; omega, by have := qjn es x i; have := h.len; omega⟩
structure GrpAt (w : World) (M base : Nat) (es : List Ent) (vs : List Value) : Prop where
 len : vs.length = es.length
 map : MapAt w M ((es.map (·.1)).zip vs)
 row : ∀ (j : Nat) (e : Ent) (v : Value), es[j]? = some e → vs[j]? = some v → w.ownsRow base 3 1 v e.2.length (intC e.2)
 apart : ∀ (i j : Nat) (u v : Value) (g : Nat), vs[i]? = some u → vs[j]? = some v → u.ownBlock = some g → v.ownBlock = some g → i = j
 base : M < base
theorem qgn {es : List Ent} {vs : List Value} (h : vs.length = es.length) : ((es.map (·.1)).zip vs).map (·.1) = es.map (·.1) := List.map_fst_zip (by simp [h])
theorem zip_get {es : List Ent} {vs : List Value} {j : Nat} {e : Ent} {v : Value} (h1 : es[j]? = some e) (h2 : vs[j]? = some v) : ((es.map (·.1)).zip vs)[j]? = some (e.1, v) := by
 rw [List.getElem?_zip_eq_some]
 exact ⟨by rw [List.getElem?_map, h1]; rfl, h2⟩
theorem GrpAt.lt {w : World} {M base : Nat} {es : List Ent} {vs : List Value} (h : GrpAt w M base es vs) {v : Value} (hv : v ∈ vs) {g : Nat} (hg : v.ownBlock = some g) : base ≤ g ∧ g < w.heap.size := by
 obtain ⟨j, hj⟩ := List.mem_iff_getElem?.1 hv
 have hlt := (List.getElem?_eq_some_iff.1 hj).1
 exact (h.row j _ v (List.getElem?_eq_getElem (by have := h.len; omega)) hj).lt g hg
theorem GrpAt.keeps {S : Nat → Prop} {a b : World} {M base : Nat} {es : List Ent} {vs : List Value} (h : GrpAt a M base es vs) (k : Keeps S a b) (hM : ¬ S M) (hS : ∀ v ∈ vs, ∀ g, v.ownBlock = some g → ¬ S g) : GrpAt b M base es vs :=
 ⟨h.len, k.heap h.map hM, fun j e v h1 h2 => k.row (h.row j e v h1 h2) (fun g hg => hS v (List.mem_of_getElem? h2) g hg), h.apart, h.base⟩
theorem GrpAt.keep {a b : World} {M base : Nat} {es : List Ent} {vs : List Value} (h : GrpAt a M base es vs) (k : Keeps (fun _ => False) a b) : GrpAt b M base es vs := h.keeps k (fun e => e) (fun _ _ _ _ e => e)
theorem GrpAt.fit {w : World} {M base N : Nat} {es : List Ent} {vs : List Value} (h : GrpAt w M base es vs) (o : OkM es N) : MapFit ((es.map (·.1)).zip vs) := fun e he => by
 have h1 : e.1 ∈ es.map (·.1) := by rw [← qgn h.len]; exact List.mem_map.2 ⟨e, he, rfl⟩
 obtain ⟨y, hy, e1⟩ := List.mem_map.1 h1
 rw [← e1]; exact o.fit y hy
theorem GrpAt.slice {w : World} {M base : Nat} {es : List Ent} {vs : List Value} (h : GrpAt w M base es vs) {j : Nat} {e : Ent} {v : Value} (h1 : es[j]? = some e) (h2 : vs[j]? = some v) : ∃ a c, v = .slice a e.2.length c := qac (h.row j e v h1 h2)
theorem GrpAt.entry {w : World} {M base N : Nat} {es : List Ent} {vs : List Value} (h : GrpAt w M base es vs) (o : OkM es N) (x : Lab) (h1 : x.1.size ≤ maxLen) (h2 : x.2.size ≤ maxLen) :
 ∃ es1 vs1 j v xs w1, (Instr.mapEntry 230 (.map (some M)) (keyV x)).run Tryz.prog w = .ok (.tuple #[v, .int .i64 ((j : Nat) : Int)]) w1 ∧ GrpAt w1 M base es1 vs1 ∧ es1[j]? = some (x, xs) ∧ vs1[j]? = some v ∧ Keeps (fun k => k = M) w w1 ∧ w1.heap.size = w.heap.size ∧ xs.length ≤ N ∧ ∀ i, es1.set j (x, xs ++ [i]) = addM es x i := by
 have hk : keyIx ((es.map (·.1)).zip vs) x = keyIx es x := by unfold keyIx; rw [qgn h.len]
 have hn : (((es.map (·.1)).zip vs).map (·.1)).Nodup := by rw [qgn h.len]; exact o.nodup
 cases hi : keyIx es x with
 | some j =>
   obtain ⟨xs, hx⟩ := qcq hi
   have hj := (List.getElem?_eq_some_iff.1 hx).1
   have hjv : j < vs.length := by have := h.len; omega
   have hv : vs[j]? = some vs[j] := List.getElem?_eq_getElem hjv
   refine ⟨es, vs, j, vs[j], xs, w, qhd h.map (h.fit o) hn x h1 h2 (zip_get hx hv), h, hx, hv, Keeps.refl _ _, rfl, ?_, fun i => ?_⟩
   · have h9 : xs.length ≤ totM es := le_totM (e := (x, xs)) (List.mem_of_getElem? hx); have := o.tot; omega
   · have hd : es.getD j (x, []) = (x, xs) := by simp [List.getD_eq_getElem?_getD, hx]
     simp only [addM, hi, hd]
 | none =>
   have hrun := qhc h.map (h.fit o) hn x h1 h2 (hk.trans hi)
   have hzl : ((es.map (·.1)).zip vs).length = es.length := by simp [h.len]
   rw [hzl] at hrun
   have hlt := qan h.map
   have hM1 : (w.putObj M (.map (entA ((es.map (·.1)).zip vs ++ [(x, Value.slice none 0 0)])) (es.length + 1))).heap[M]? = some (.map (entA ((es.map (·.1)).zip vs ++ [(x, Value.slice none 0 0)])) (es.length + 1)) := World.putObj_heap_same hlt
   have hz : ((es ++ [(x, ([] : List Nat))]).map (·.1)).zip (vs ++ [Value.slice none 0 0]) = (es.map (·.1)).zip vs ++ [(x, Value.slice none 0 0)] := by
    rw [List.map_append, List.zip_append (by simp [h.len])]; rfl
   have kk : Keeps (fun k => k = M) w (w.putObj M (.map (entA ((es.map (·.1)).zip vs ++ [(x, Value.slice none 0 0)])) (es.length + 1))) := Keeps.putObj _ _ _ rfl
   refine ⟨es ++ [(x, ([] : List Nat))], vs ++ [Value.slice none 0 0], es.length, .slice none 0 0, [], _, hrun, ⟨by simp [h.len], ?_, fun j e v he hv => ?_, fun i j u v g hu hv hug hvg => ?_, h.base⟩, by simp, by rw [← h.len]; simp, kk, by simp, by simp, fun i => by simp [addM, hi]⟩
   · unfold MapAt; rw [hz, List.length_append, hzl]; exact hM1
   · by_cases hj : j < es.length
     · rw [List.getElem?_append_left hj] at he
       rw [List.getElem?_append_left (by have := h.len; omega)] at hv
       exact kk.row (h.row j e v he hv) (fun g hg e1 => by have := (h.lt (List.mem_of_getElem? hv) hg).1; have := h.base; omega)
     · have hje : j = es.length := by have := (List.getElem?_eq_some_iff.1 he).1; simp at this; omega
       subst hje
       have hv' : v = .slice none 0 0 := by rw [← h.len] at hv; simp at hv; exact hv.symm
       have he' : e = (x, []) := by simp at he; exact he.symm
       subst hv' he'
       exact World.ownsRow_nil _ _ _ _
   · have : ∀ (k : Nat) (y : Value), (vs ++ [Value.slice none 0 0])[k]? = some y → y.ownBlock = some g → vs[k]? = some y := fun k y hy hyg => by
      by_cases hk2 : k < vs.length
      · rwa [List.getElem?_append_left hk2] at hy
      · have hke : k = vs.length := by have := (List.getElem?_eq_some_iff.1 hy).1; simp at this; omega
        subst hke
        simp at hy
        subst hy
        cases hyg
     exact h.apart i j u v g (this i u hu hug) (this j v hv hvg) hug hvg
theorem GrpAt.store {w1 w6 : World} {M base j : Nat} {es1 : List Ent} {vs1 : List Value} {x : Lab} {xs : List Nat} {v v6 : Value} (h : GrpAt w1 M base es1 vs1) (he : es1[j]? = some (x, xs)) (hv : vs1[j]? = some v) (i : Nat)
 (hr : w6.ownsRow base 3 1 v6 (xs.length + 1) (intC (xs ++ [i]))) (hg : w1.grownBy w6 v.ownBlock) (hl : ∀ g, v6.ownBlock = some g → v.ownBlock = some g ∨ w1.heap.size ≤ g) :
 ∃ w7, (∀ t, (Instr.entryStore t (.map (some M)) (.int .i64 ((j : Nat) : Int)) v6).run Tryz.prog w6 = .ok () w7) ∧ GrpAt w7 M base (es1.set j (x, xs ++ [i])) (vs1.set j v6) ∧ Keeps (fun k => k = M) w6 w7 := by
 have hvm := List.mem_of_getElem? hv
 have hMb := h.base
 have hlt := qan h.map
 have hM6 : MapAt w6 M ((es1.map (·.1)).zip vs1) := (hg.block M hlt (fun e => by have := (h.lt hvm e.symm).1; omega)).trans h.map
 have hjl := (List.getElem?_eq_some_iff.1 hv).1
 have kk : Keeps (fun k => k = M) w6 (w6.putObj M (.map (entA (((es1.map (·.1)).zip vs1).set j (x, v6))) ((es1.map (·.1)).zip vs1).length)) := Keeps.putObj _ _ _ rfl
 have hz : ((es1.set j (x, xs ++ [i])).map (·.1)).zip (vs1.set j v6) = ((es1.map (·.1)).zip vs1).set j (x, v6) := by
  rw [set_key he]
  apply List.ext_getElem?
  intro k
  have hks : (es1.map (·.1))[j]? = some x := by rw [List.getElem?_map, he]; rfl
  by_cases hkj : j = k
  · subst hkj
    have hlz : j < ((es1.map (·.1)).zip vs1).length := by rw [List.length_zip, List.length_map]; have := h.len; omega
    rw [List.getElem?_set_self hlz, List.getElem?_zip_eq_some]
    exact ⟨hks, List.getElem?_set_self hjl⟩
  · rw [List.getElem?_set_ne hkj]
    simp only [List.zip, List.getElem?_zipWith, List.getElem?_set_ne hkj]
 refine ⟨_, fun t => qjj hM6 (zip_get he hv) t v6, ⟨by simp [h.len], ?_, fun k e u hk hu => ?_, fun a b u y g hu hy hug hyg => ?_, h.base⟩, kk⟩
 · unfold MapAt
   rw [hz, List.length_set]
   exact World.putObj_heap_same (Nat.lt_of_lt_of_le hlt hg.size)
 · by_cases hkj : j = k
   · subst hkj
     rw [List.getElem?_set_self (List.getElem?_eq_some_iff.1 he).1] at hk
     rw [List.getElem?_set_self hjl] at hu
     obtain rfl := Option.some.inj hk
     obtain rfl := Option.some.inj hu
     rw [List.length_append, List.length_singleton]
     exact kk.row hr (fun g hg' e1 => by have := (hr.lt g hg').1; omega)
   · rw [List.getElem?_set_ne hkj] at hk hu
     have hro := h.row k e u hk hu
     have hro6 : w6.ownsRow base 3 1 u e.2.length (intC e.2) := ((Keeps.refl (fun q => v.ownBlock = some q) w1).grown hg (fun _ _ e => e)).row hro (fun g hg' e1 => hkj (h.apart j k v u g hv hu e1 hg'))
     exact kk.row hro6 (fun g hg' e1 => by have := (hro.lt g hg').1; omega)
 · have back : ∀ (k : Nat) (z : Value), (vs1.set j v6)[k]? = some z → z.ownBlock = some g → (k = j ∧ z = v6) ∨ (k ≠ j ∧ vs1[k]? = some z ∧ g < w1.heap.size) := fun k z hz2 hzg => by
    by_cases hkj : j = k
    · subst hkj
      rw [List.getElem?_set_self hjl] at hz2
      exact .inl ⟨rfl, (Option.some.inj hz2).symm⟩
    · rw [List.getElem?_set_ne hkj] at hz2
      exact .inr ⟨fun e => hkj e.symm, hz2, (h.lt (List.mem_of_getElem? hz2) hzg).2⟩
   rcases back a u hu hug with ⟨ra, rfl⟩ | ⟨na, ha, hga⟩ <;> rcases back b y hy hyg with ⟨rb, rfl⟩ | ⟨nb, hb, hgb⟩
   · exact ra.trans rb.symm
   · rcases hl g hug with e1 | e1
     · exact absurd (h.apart j b v y g hv hb e1 hyg) (fun e => nb e.symm)
     · omega
   · rcases hl g hyg with e1 | e1
     · exact absurd (h.apart a j u v g ha hv hug e1) na
     · omega
   · exact h.apart a b u y g ha hb hug hyg
theorem GrpAt.look {w : World} {M base N : Nat} {es : List Ent} {vs : List Value} (h : GrpAt w M base es vs) (o : OkM es N) {j : Nat} {x : Lab} {xs : List Nat} {v : Value} (hx : es[j]? = some (x, xs)) (hv : vs[j]? = some v) :
 (Instr.lookup 230 (.map (some M)) (keyV x) false).run Tryz.prog w = .ok v w :=
 run_lookupL h.map (h.fit o) (by rw [qgn h.len]; exact o.nodup) x (o.fit _ (List.mem_of_getElem? hx)).1 (o.fit _ (List.mem_of_getElem? hx)).2 (zip_get hx hv)
end
end Go.Proofs.YtfpcgcbehdogjaaGreatDoor
