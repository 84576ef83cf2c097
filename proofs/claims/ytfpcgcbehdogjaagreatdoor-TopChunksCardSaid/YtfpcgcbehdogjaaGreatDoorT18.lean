/-
  Lemmas on which LTopChunks rests, packed out of the texts WCodec06 WChunkA XStr XTab XTab2 XTab3 XSym WChunkB; each for all arguments under the hypotheses it names.
-/
import Derived.Test.YtfpcgcbehdogjaaGreatDoorT17
import Derived.Test.YtfpcgcbehdogjaaGreatDoorT15
import Derived.Lib.SlBuf
import Derived.Stop.RegionWithIn
import Derived.BigRegionIn
namespace Go.Proofs.YtfpcgcbehdogjaaGreatDoor
section
open Go.RowKit
theorem put6_any (base p : Nat) (v0 v : Value) (bits : List Bool) (l : List Nat) (w : World) (hW : IsW w base p v0 bits) (hb0 : base ≤ w.heap.size) (hbits : bits.length ≤ 1000000000) (hl : l.length ≤ 1000000000) (hX : ∀ x ∈ l, x ≤ 18446744073709551615)
 (h : Holds w v (u64s l)) (hap : ∀ k, ownH v l k → ¬ foot p v0 k) (hT : TabZ w) (hbase : 2 < base) :
 Calls Tryz.prog 44 #[.pointer (some ⟨p, 0, none⟩), v] w fun e w' => e = .returned (.int .i64 0) ∧ Wrote base p v0 (bits ++ enc6 l) w w' := xput_any base p v0 v bits l w hW hb0 hbits hl hX h hap hT hbase
theorem get6_any (base p : Nat) (v : Value) (bs : List Nat) (i n : Nat) (w : World) (h : IsR w base p v bs i) (hl : bs.length ≤ 1099511627776) (hi : i ≤ 8 * bs.length) (hn : n ≤ 1000000000) (hT : TabZ w) (hbase : 2 < base) :
 Calls Tryz.prog 45 #[.pointer (some ⟨p, 0, none⟩), .int .i64 n] w fun e w' => ∃ v', e = .returned (.tuple #[v', .int .i64 (((dec6 n ((qad bs).drop i)).1 : Nat) : Int)]) ∧
  w'.ownsRow w.heap.size 23 1 v' (dec6 n ((qad bs).drop i)).2.1.length (u64s (dec6 n ((qad bs).drop i)).2.1) ∧
  (∃ i', i' ≤ 8 * bs.length ∧ IsR w' base p v bs i' ∧ (dec6 n ((qad bs).drop i)).2.2 = (qad bs).drop i') ∧ Keeps (fun k => k = p) w w' := xget_any base p v bs i n w h hl hi hn hT hbase
theorem size6_any (v : Value) (l : List Nat) (w : World) (hl : l.length ≤ 1000000000) (h : Holds w v (u64s l)) (hX : ∀ x ∈ l, x ≤ 18446744073709551615) (hT : TabZ w) :
 Calls Tryz.prog 43 #[v] w fun e w' => e = .returned (.int .i64 (((enc6 l).length : Nat) : Int)) ∧ Keeps (fun _ => False) w w' := xsize_any v l w hl h hX hT
end
section
set_option maxHeartbeats 4000000
set_option maxRecDepth 100000
open Go.RowKit
theorem qah {P : Program} (w : World) {ops : Array Oper} {rest : List Oper} {o : Oper} {a : Act} {Q : Exit → Act → World → Prop} (hgd : o.guard = none) (t : TypeId) (x i : Operand) (ho : o.op = .index t x i)
 (u z v : Value) (hx : a.eval x = u) (hi : a.eval i = z) (hrun : (Instr.index t u z).run P w = .ok v w) (h : wpList P ops Q rest (a.put o.dst v) w) : wpList P ops Q (o :: rest) a w :=
 wpList_plain hgd fun K hK => by
  unfold Oper.wp
  simp [execOp, ho, hx, hi, hrun, Result.andThen]
  exact hK _ _ h
theorem qcq (w : World) : Calls Tryz.prog 24 #[] w fun e w' => e = .returned (.agg #[.func (.func 43) #[] #[], .func (.func 44) #[] #[], .func (.func 45) #[] #[], .func (.func 46) #[] #[], .func (.func 47) #[] #[], .func (.func 48) #[] #[], .func (.func 49) #[] #[], .func (.func 50) #[] #[], .func (.func 51) #[] #[]]) ∧ Keeps (fun _ => False) w w' := by
 go_enter Tryz.func24, Tryz.ntmps24
 go_wp2
 refine bodyPost_ret (results_cell_row Tryz.results24 _ _ w.heap.size 65 _ (0, 0) _ rfl (heap_alloc_new w _) Tryz.underlying65 rfl (by kernel_rfl)) rfl ⟨rfl, (Keeps.refl _ _).alloc _⟩
theorem sizes_any (v : Value) (l : List Nat) (w : World) (hl : l.length ≤ 1000000000) (h : Holds w v (u64s l)) (hX : ∀ x ∈ l, x ≤ 18446744073709551615) (hT : TabZ w) :
 Calls Tryz.prog 40 #[v] w fun e w' => e = .returned (.agg #[.int .i64 (((enc6 l).length : Nat) : Int), .int .i64 (((enc7 l).length : Nat) : Int), .int .i64 (size8 l)]) ∧ Keeps (fun _ => False) w w' := by
 have C6 := Hj (fun wq (hk : Keeps (fun _ => False) w wq) => size6_any v l wq hl (h.keeps hk (fun _ _ e => e)) hX (hT.keeps hk (fun e => e)))
 have C7 := Hj (fun wq (hk : Keeps (fun _ => False) w wq) => size7_any v l wq (by omega) (h.keeps hk (fun _ _ e => e)))
 have C8 := Hj (fun wq (hk : Keeps (fun _ => False) w wq) => size8_any v l wq hl (h.keeps hk (fun _ _ e => e)) hX)
 obtain ⟨S6, hS6⟩ : ∃ S6 : Int, S6 = (((enc6 l).length : Nat) : Int) := ⟨_, rfl⟩
 obtain ⟨S7, hS7⟩ : ∃ S7 : Int, S7 = (((enc7 l).length : Nat) : Int) := ⟨_, rfl⟩
 rw [← hS6] at C6 ⊢
 rw [← hS7] at C7 ⊢
 generalize size8 l = S8 at C8 ⊢
 obtain ⟨W0, hW0⟩ : ∃ W0, W0 = (w.alloc (.cells #[.int .i64 0, .int .i64 0, .int .i64 0] 99)).alloc (.cells #[.int .i64 0, .int .i64 0, .int .i64 0] 99) := ⟨_, rfl⟩
 have hk0 : Keeps (fun _ => False) w W0 := by rw [hW0]; exact ((Keeps.refl _ _).alloc _).alloc _
 have hA0 : W0.heap[w.heap.size + 1]? = some (.cells #[.int .i64 0, .int .i64 0, .int .i64 0] 99 (0, 0)) := by rw [hW0]; exact heap_alloc2_new w _ _
 have hB0 : W0.heap[w.heap.size]? = some (.cells #[.int .i64 0, .int .i64 0, .int .i64 0] 99 (0, 0)) := by rw [hW0]; exact (Below.heap_alloc _ _ _ (by simp)).trans (heap_alloc_new w _)
 have HK0 := Hj hk0; have HA0 := Hj hA0; have HB0 := Hj hB0
 have HCE := Hj (qcq W0)
 clear hk0 hA0 hB0 h hX hT hS6 hS7
 go_enter Tryz.func40, Tryz.ntmps40
 go_wp2_with (go_at_call 24; rw [← hW0]; refine HCE.out.mono ?_; rintro e w1 ⟨rfl, hk1⟩; have HK1 := Hj (HK0.out.trans hk1 (fun _ _ e => e)); have HA1 := Hj (hk1.heap HA0.out (fun e => e)); have HB1 := Hj (hk1.heap HB0.out (fun e => e)); clear hk1)
 clear hW0 HA0 HB0 HK0 HCE
 go_loopw [7] (fun c wr => ∃ (i : Nat), c = .int .i64 (i : Int) ∧ i ≤ 3 ∧ Hid (Keeps (fun _ => False) w wr) ∧ Hid (wr.heap[w.heap.size]? = some (.cells #[.int .i64 0, .int .i64 0, .int .i64 0] 99 (0, 0))) ∧
  Hid (wr.heap[w.heap.size + 1]? = some (.cells #[.int .i64 (if 0 < i then S6 else 0), .int .i64 (if 1 < i then S7 else 0), .int .i64 (if 2 < i then S8 else 0)] 99 (0, 0)))) (fun c _ => 3 - (intOf c).toNat)
 case atStart => exact ⟨0, rfl, by omega, HK1, HB1, HA1⟩
 case round =>
  clear HK1 HA1 HB1
  obtain ⟨i, rfl, hi3, HK, HB, HA⟩ := hrel
  rcases (by omega : i = 0 ∨ i = 1 ∨ i = 2 ∨ i = 3) with rfl | rfl | rfl | rfl
  · go_wp2_with (first | (refine qah _ rfl 65 _ _ rfl _ _ (.agg #[.func (.func 43) #[] #[], .func (.func 44) #[] #[], .func (.func 45) #[] #[]]) rfl rfl rfl ?_) | (go_at_call 43; refine (C6.out _ (HK.out.alloc _)).mono ?_; rintro e w2 ⟨rfl, hk2⟩; have hA2 := hk2.heap (((Keeps.refl (fun _ => False) wr).alloc _).heap HA.out (fun e => e)) (fun e => e); have hB2 := hk2.heap (((Keeps.refl (fun _ => False) wr).alloc _).heap HB.out (fun e => e)) (fun e => e); have HA2 := Hj hA2; have HB2 := Hj hB2; have HK2 := Hj ((HK.out.alloc _).trans hk2 (fun _ _ e => e)); have c0 : w2.cell? ⟨w.heap.size + 1, 0, none⟩ = _ := cell_of_row _ _ _ _ _ _ hA2; have f0 : w2.frozen? ⟨w.heap.size + 1, 0, none⟩ = false := frozen_of_row _ _ _ _ _ hA2; clear hk2 hA2 hB2))
    exact ⟨⟨1, rfl, by omega, Hj (HK2.out.setCell (p := ⟨w.heap.size + 1, 0, none⟩) (fun h => by simp at h; omega) _), Hj (((Keeps.refl (fun k => k = w.heap.size + 1) w2).setCell (p := ⟨w.heap.size + 1, 0, none⟩) (fun _ => rfl) _).heap HB2.out (by omega)), Hj (heap_setCell_same _ _ _ _ _ _ HA2.out)⟩, by simp [intOf]⟩
  · go_wp2_with (first | (refine qah _ rfl 65 _ _ rfl _ _ (.agg #[.func (.func 46) #[] #[], .func (.func 47) #[] #[], .func (.func 48) #[] #[]]) rfl rfl rfl ?_) | (go_at_call 46; refine (C7.out _ (HK.out.alloc _)).mono ?_; rintro e w2 ⟨rfl, hk2⟩; have hA2 := hk2.heap (((Keeps.refl (fun _ => False) wr).alloc _).heap HA.out (fun e => e)) (fun e => e); have hB2 := hk2.heap (((Keeps.refl (fun _ => False) wr).alloc _).heap HB.out (fun e => e)) (fun e => e); have HA2 := Hj hA2; have HB2 := Hj hB2; have HK2 := Hj ((HK.out.alloc _).trans hk2 (fun _ _ e => e)); have c0 : w2.cell? ⟨w.heap.size + 1, 1, none⟩ = _ := cell_of_row _ _ _ _ _ _ hA2; have f0 : w2.frozen? ⟨w.heap.size + 1, 1, none⟩ = false := frozen_of_row _ _ _ _ _ hA2; clear hk2 hA2 hB2))
    exact ⟨⟨2, rfl, by omega, Hj (HK2.out.setCell (p := ⟨w.heap.size + 1, 1, none⟩) (fun h => by simp at h; omega) _), Hj (((Keeps.refl (fun k => k = w.heap.size + 1) w2).setCell (p := ⟨w.heap.size + 1, 1, none⟩) (fun _ => rfl) _).heap HB2.out (by omega)), Hj (heap_setCell_same _ _ _ _ _ _ HA2.out)⟩, by simp [intOf]⟩
  · go_wp2_with (first | (refine qah _ rfl 65 _ _ rfl _ _ (.agg #[.func (.func 49) #[] #[], .func (.func 50) #[] #[], .func (.func 51) #[] #[]]) rfl rfl rfl ?_) | (go_at_call 49; refine (C8.out _ (HK.out.alloc _)).mono ?_; rintro e w2 ⟨rfl, hk2⟩; have hA2 := hk2.heap (((Keeps.refl (fun _ => False) wr).alloc _).heap HA.out (fun e => e)) (fun e => e); have hB2 := hk2.heap (((Keeps.refl (fun _ => False) wr).alloc _).heap HB.out (fun e => e)) (fun e => e); have HA2 := Hj hA2; have HB2 := Hj hB2; have HK2 := Hj ((HK.out.alloc _).trans hk2 (fun _ _ e => e)); have c0 : w2.cell? ⟨w.heap.size + 1, 2, none⟩ = _ := cell_of_row _ _ _ _ _ _ hA2; have f0 : w2.frozen? ⟨w.heap.size + 1, 2, none⟩ = false := frozen_of_row _ _ _ _ _ hA2; clear hk2 hA2 hB2))
    exact ⟨⟨3, rfl, by omega, Hj (HK2.out.setCell (p := ⟨w.heap.size + 1, 2, none⟩) (fun h => by simp at h; omega) _), Hj (((Keeps.refl (fun k => k = w.heap.size + 1) w2).setCell (p := ⟨w.heap.size + 1, 2, none⟩) (fun _ => rfl) _).heap HB2.out (by omega)), Hj (heap_setCell_same _ _ _ _ _ _ HA2.out)⟩, by simp [intOf]⟩
  · have a0 : wr.cell? ⟨w.heap.size + 1, 0, none⟩ = some (.int .i64 S6) := by rw [cell_of_row _ _ _ _ _ _ HA.out]; rfl
    have a1 : wr.cell? ⟨w.heap.size + 1, 1, none⟩ = some (.int .i64 S7) := by rw [cell_of_row _ _ _ _ _ _ HA.out]; rfl
    have a2 : wr.cell? ⟨w.heap.size + 1, 2, none⟩ = some (.int .i64 S8) := by rw [cell_of_row _ _ _ _ _ _ HA.out]; rfl
    have h1 := heap_setCell_same wr w.heap.size 0 _ _ (.int .i64 S6) HB.out
    have h2 := heap_setCell_same _ w.heap.size 1 _ _ (.int .i64 S7) h1
    have h3 := heap_setCell_same _ w.heap.size 2 _ _ (.int .i64 S8) h2
    have b0 : wr.cell? ⟨w.heap.size, 0, none⟩ = some (.int .i64 0) := by rw [cell_of_row _ _ _ _ _ _ HB.out]; rfl
    have b1 : (wr.setCell ⟨w.heap.size, 0, none⟩ (.int .i64 S6)).cell? ⟨w.heap.size, 1, none⟩ = some (.int .i64 0) := by rw [cell_of_row _ _ _ _ _ _ h1]; rfl
    have b2 : ((wr.setCell ⟨w.heap.size, 0, none⟩ (.int .i64 S6)).setCell ⟨w.heap.size, 1, none⟩ (.int .i64 S7)).cell? ⟨w.heap.size, 2, none⟩ = some (.int .i64 0) := by rw [cell_of_row _ _ _ _ _ _ h2]; rfl
    have f0 : wr.frozen? ⟨w.heap.size, 0, none⟩ = false := frozen_of_row _ _ _ _ _ HB.out
    have f1 : (wr.setCell ⟨w.heap.size, 0, none⟩ (.int .i64 S6)).frozen? ⟨w.heap.size, 1, none⟩ = false := frozen_of_row _ _ _ _ _ h1
    have f2 : ((wr.setCell ⟨w.heap.size, 0, none⟩ (.int .i64 S6)).setCell ⟨w.heap.size, 1, none⟩ (.int .i64 S7)).frozen? ⟨w.heap.size, 2, none⟩ = false := frozen_of_row _ _ _ _ _ h2
    have H3 := Hj h3
    clear h1 h2 h3
    go_wp2
    refine bodyPost_ret (results_cell_row Tryz.results40 _ _ w.heap.size 99 _ (0, 0) _ rfl H3.out Tryz.underlying99 rfl (by kernel_rfl)) rfl ⟨rfl, ?_⟩
    exact ((HK.out.setCell (p := ⟨w.heap.size, 0, none⟩) (fun h => by simp at h) _).setCell (p := ⟨w.heap.size, 1, none⟩) (fun h => by simp at h) _).setCell (p := ⟨w.heap.size, 2, none⟩) (fun h => by simp at h) _
end
section
set_option maxHeartbeats 1000000
set_option maxRecDepth 100000
open Go.RowKit
attribute [local go_sem ↓] Go.wp_at_zero Go.wp_at_succ
def strsL (l : List Lab) : List ByteArray := l.flatMap fun x => [x.1, x.2]
theorem strsL_length (l : List Lab) : (strsL l).length = 2 * l.length := by
 induction l with
 | nil => rfl
 | cons x r ih => simp only [strsL, List.flatMap_cons, List.length_append, List.length_cons, List.length_nil] at ih ⊢; omega
theorem strsL_take (l : List Lab) {k : Nat} {x : Lab} (h : l[k]? = some x) : strsL (l.take (k + 1)) = strsL (l.take k) ++ [x.1, x.2] := by
 rw [List.take_add_one, h]
 simp [strsL]
theorem qcb {a b : World} {base n k : Nat} {e : TypeId} {v : Value} {xs : List Value} (h : a.ownsRow base e k v n xs) (hb : Below a.heap.size a b) : b.ownsRow base e k v n xs := (Keeps.ofBelow hb).row h (fun _ _ e => e)
theorem strC_append (a b : List ByteArray) : strC (a ++ b) = strC a ++ strC b := by simp [strC]
def halfS (x : Lab) : Nat → List ByteArray
 | 0 => []
 | 1 => [x.1]
 | _ => [x.1, x.2]
theorem lstr_any (v : Value) (l : List Lab) (w : World) (h : RdL w v l) (hl : l.length ≤ 1099511627776) :
 Calls Tryz.prog 120 #[v] w fun e w' => ∃ v', e = .returned v' ∧ w'.ownsRow w.heap.size 9 1 v' (2 * l.length) (strC (strsL l)) ∧ Below w.heap.size w w' := by
 have HH := Hj h
 obtain ⟨ad, cap, rfl, hcap⟩ := h.slice
 clear h
 go_enter Tryz.func120, Tryz.ntmps120
 go_wp2
 go_loopw [3, 10] (fun o i wr => ∃ k : Nat, k ≤ l.length ∧ i = .int .i64 (k : Nat) ∧ Hid (wr.ownsRow w.heap.size 9 1 o (2 * k) (strC (strsL (l.take k)))) ∧ Hid (Below w.heap.size w wr)) (fun _ i _ => l.length - (intOf i).toNat)
 case atStart => exact ⟨0, by omega, rfl, Hj (World.ownsRow_nil _ _ _ _), Hj (Below.refl _ _)⟩
 case round =>
  obtain ⟨k, hk, rfl, HO, HB⟩ := hrel
  obtain ⟨wo, rfl⟩ : ∃ wo, wo = wr := ⟨_, rfl⟩
  by_cases hlt : k < l.length
  · obtain ⟨⟨x, y⟩, hx⟩ := qao hlt
    obtain ⟨b1, o1, rfl, c1, c2⟩ := (HH.out.below HB.out).at hx
    have hklt : (k : Int) < l.length := by omega
    have hk0 : (0 : Int) ≤ (k : Int) := by omega
    have HX := Hj (strsL_take l hx)
    have HLT := Hj hlt
    obtain ⟨W1, hW1⟩ : ∃ W1, W1 = wo.alloc (.cells #[.string x, .string y] 94) := ⟨_, rfl⟩
    have hr1 : W1.heap[wo.heap.size]? = some (.cells #[.string x, .string y] 94 (0, 0)) := by rw [hW1]; exact heap_alloc_new wo _
    have hb1 : Below w.heap.size w W1 := by rw [hW1]; exact HB.out.alloc HB.out.size _
    have ho1 : W1.ownsRow w.heap.size 9 1 u3 (2 * k) (strC (strsL (l.take k))) := by rw [hW1]; exact HO.out.alloc _
    have hs1 : W1.heap.size = wo.heap.size + 1 := by rw [hW1]; simp
    have HR1 := Hj hr1; have HB1 := Hj hb1; have HO1 := Hj ho1; have HS1 := Hj hs1; have HW1 := Hj hW1
    have HSZ := Hj HB.out.size
    clear hx hlt hr1 hb1 ho1 hs1 hW1 HO HB
    go_wp2_with (go_at_call 166; rw [← HW1.out]; refine (parts_any _).mono ?_; rintro e w2 ⟨rfl, hb2⟩; have HB2 := Hj hb2; clear hb2)
    go_loopw [3, 15] (fun o i w3 => ∃ j : Nat, j ≤ 2 ∧ i = .int .i64 (j : Nat) ∧ Hid (w3.ownsRow w.heap.size 9 1 o (2 * k + j) (strC (strsL (l.take k) ++ halfS (x, y) j))) ∧ Hid (w3.heap[wo.heap.size]? = some (.cells #[.string x, .string y] 94 (0, 0))) ∧ Hid (Below w.heap.size w w3)) (fun _ i _ => 2 - (intOf i).toNat)
    case atStart => exact ⟨0, by omega, rfl, Hj (by rw [halfS, List.append_nil]; exact qcb HO1.out HB2.out), Hj ((HB2.out.block _ (Array.getElem?_eq_some_iff.1 HR1.out).1).trans HR1.out), Hj (HB1.out.trans (HB2.out.mono HB1.out.size))⟩
    case round =>
     clear HO1 HB1 HR1 HB2
     obtain ⟨j, hj, rfl, HO3, HR3, HB3⟩ := hrel
     rcases (by omega : j = 0 ∨ j = 1 ∨ j = 2) with rfl | rfl | rfl
     · have hx0 := fun w => ix0 (.func (.func 202) #[] #[]) (.func (.func 203) #[] #[]) w
       have hf0 := fun w => fd0 202 w
       obtain ⟨W4, hW4⟩ : ∃ W4, W4 = wr.alloc (.cells #[.func (.func 202) #[] #[]] 285) := ⟨_, rfl⟩
       have hr4 : W4.heap[wo.heap.size]? = some (.cells #[.string x, .string y] 94 (0, 0)) := by rw [hW4]; exact (Below.heap_alloc _ _ _ (Array.getElem?_eq_some_iff.1 HR3.out).1).trans HR3.out
       have e1 : W4.cell? ⟨wo.heap.size, 0, none⟩ = some (.string x) := by rw [cell_of_row _ _ _ _ _ _ hr4]; rfl
       have e2 : W4.cell? ⟨wo.heap.size, 1, none⟩ = some (.string y) := by rw [cell_of_row _ _ _ _ _ _ hr4]; rfl
       have e3 : W4.cell? ⟨wr.heap.size, 0, none⟩ = some (.func (.func 202) #[] #[]) := by rw [hW4]; exact cell_new1 _ _ _
       have HR4 := Hj hr4; have HW4 := Hj hW4
       have HB4 : Hid (Below w.heap.size w W4) := Hj (by rw [hW4]; exact HB3.out.alloc HB3.out.size _)
       have HO4 : Hid (W4.ownsRow w.heap.size 9 1 u3 (2 * k + 0) (strC (strsL (l.take k) ++ halfS (x, y) 0))) := Hj (by rw [hW4]; exact HO3.out.alloc _)
       clear hr4 hW4
       go_upto_region 8 with fail
       rw [← HW4.out]
       go_wp2_with (first
        | (go_at_call 202; refine (part1_any (x, y) _).mono ?_; rintro e w5 ⟨rfl, hb5⟩; have HB5 := Hj hb5; clear hb5 e1 e2 e3)
        | (at_builtin; refine appE elS rfl _ _ rfl w.heap.size _ _ (2 * k + 0) 1 _ [.string x] rfl rfl ((qcb HO4.out HB5.out).alloc _) (rd_new _ 1 1 [.string x] 9 1 rfl (Nat.le_refl _)) (by simp [Value.oneCell']) (by omega) (by have := HB5.out.size; have := HB4.out.size; simp; omega) ?_; intro v' w6 hown6 hg6 hn6))
       exact ⟨⟨1, by omega, rfl, Hj (by rw [show halfS (x, y) 1 = halfS (x, y) 0 ++ [x] from rfl, ← List.append_assoc, strC_append]; exact hown6), Hj (heap_grown hg6 ((qcb HO4.out HB5.out).alloc _) (heap_alloc _ (heap_below HB5.out HR4.out)) (by decide)), Hj (((HB4.out.trans (HB5.out.mono HB4.out.size)).alloc (by have := HB5.out.size; have := HB4.out.size; omega) _).trans (below_grown ((qcb HO4.out HB5.out).alloc _) hg6 (by have := HB5.out.size; have := HB4.out.size; simp; omega)))⟩, by simp [intOf]⟩
     · have hx1 := fun w => ix1 (.func (.func 202) #[] #[]) (.func (.func 203) #[] #[]) w
       have hf0 := fun w => fd0 203 w
       obtain ⟨W4, hW4⟩ : ∃ W4, W4 = wr.alloc (.cells #[.func (.func 203) #[] #[]] 285) := ⟨_, rfl⟩
       have hr4 : W4.heap[wo.heap.size]? = some (.cells #[.string x, .string y] 94 (0, 0)) := by rw [hW4]; exact (Below.heap_alloc _ _ _ (Array.getElem?_eq_some_iff.1 HR3.out).1).trans HR3.out
       have e1 : W4.cell? ⟨wo.heap.size, 0, none⟩ = some (.string x) := by rw [cell_of_row _ _ _ _ _ _ hr4]; rfl
       have e2 : W4.cell? ⟨wo.heap.size, 1, none⟩ = some (.string y) := by rw [cell_of_row _ _ _ _ _ _ hr4]; rfl
       have e3 : W4.cell? ⟨wr.heap.size, 0, none⟩ = some (.func (.func 203) #[] #[]) := by rw [hW4]; exact cell_new1 _ _ _
       have HR4 := Hj hr4; have HW4 := Hj hW4
       have HB4 : Hid (Below w.heap.size w W4) := Hj (by rw [hW4]; exact HB3.out.alloc HB3.out.size _)
       have HO4 : Hid (W4.ownsRow w.heap.size 9 1 u3 (2 * k + 1) (strC (strsL (l.take k) ++ halfS (x, y) 1))) := Hj (by rw [hW4]; exact HO3.out.alloc _)
       clear hr4 hW4
       go_upto_region 8 with fail
       rw [← HW4.out]
       go_wp2_with (first
        | (go_at_call 203; refine (part2_any (x, y) _).mono ?_; rintro e w5 ⟨rfl, hb5⟩; have HB5 := Hj hb5; clear hb5 e1 e2 e3)
        | (at_builtin; refine appE elS rfl _ _ rfl w.heap.size _ _ (2 * k + 1) 1 _ [.string y] rfl rfl ((qcb HO4.out HB5.out).alloc _) (rd_new _ 1 1 [.string y] 9 1 rfl (Nat.le_refl _)) (by simp [Value.oneCell']) (by omega) (by have := HB5.out.size; have := HB4.out.size; simp; omega) ?_; intro v' w6 hown6 hg6 hn6))
       exact ⟨⟨2, by omega, rfl, Hj (by rw [show halfS (x, y) 2 = halfS (x, y) 1 ++ [y] from rfl, ← List.append_assoc, strC_append]; exact hown6), Hj (heap_grown hg6 ((qcb HO4.out HB5.out).alloc _) (heap_alloc _ (heap_below HB5.out HR4.out)) (by decide)), Hj (((HB4.out.trans (HB5.out.mono HB4.out.size)).alloc (by have := HB5.out.size; have := HB4.out.size; omega) _).trans (below_grown ((qcb HO4.out HB5.out).alloc _) hg6 (by have := HB5.out.size; have := HB4.out.size; simp; omega)))⟩, by simp [intOf]⟩
     · have hlt := HLT.out
       go_wp2_with fail
       exact ⟨⟨k + 1, by omega, rfl, Hj (by rw [HX.out]; exact HO3.out), HB3⟩, by simp [intOf]; omega⟩
  · obtain rfl : k = l.length := by omega
    have hr := HO.out
    rw [List.take_length] at hr
    have HR := Hj hr
    obtain ⟨ao, co, rfl⟩ := qaf hr
    clear hr HO
    go_wp2
    go_ret
    exact ⟨_, rfl, HR.out, HB.out⟩
end
section
set_option maxHeartbeats 1000000
set_option maxRecDepth 100000
open Go.RowKit Go.Shelf
attribute [local go_sem] Oper.semAt_some
def encT (x : ByteArray) : Array Value := #[.string x]
def ownN (v : Value) (n : Nat) (k : Nat) : Prop := n ≠ 0 ∧ v.ownBlock = some k
theorem Rd.keepsN {k : Nat} {S : Nat → Prop} {a b : World} {v : Value} {n : Nat} {xs : List Value} (h : Rd k a v n xs) (kk : Keeps S a b) (hS : ∀ g, ownN v n g → ¬ S g) : Rd k b v n xs := by
 by_cases hn : n = 0
 · obtain ⟨hl, ad, cap, rfl, hc, _⟩ := h
   exact ⟨hl, ad, cap, rfl, hc, .inl hn⟩
 · exact h.keeps kk (fun g hg => hS g ⟨hn, hg⟩)
theorem Rd.lt {k : Nat} {w : World} {v : Value} {n : Nat} {xs : List Value} (h : Rd k w v n xs) (hk : 0 < k) {g : Nat} (hg : ownN v n g) : g < w.heap.size := by
 obtain ⟨hl, ad, cap, rfl, hc, h | ⟨bl, off, rfl, hcell⟩⟩ := h
 · exact absurd h hg.1
 · have hp : 0 < xs.length := by rw [hl]; exact Nat.mul_pos (Nat.pos_of_ne_zero hg.1) hk
   have := World.block_lt_of_cell? w _ (hcell 0 xs[0] (List.getElem?_eq_getElem hp))
   have e : bl = g := by simpa [ownN, Value.ownBlock] using hg.2
   simp only at this
   omega
theorem vals_any (ad : Option Addr) (n cap : Nat) (w : World) : Calls Tryz.prog 169 #[.slice ad n cap] w fun e w' => e = .returned (.func (.func 206) #[] #[.pointer (some ⟨w.heap.size, 0, none⟩)]) ∧ w' = w.alloc (.cells #[.slice ad n cap] 132) := by
 go_enter Tryz.func169, Tryz.ntmps169
 go_wp2
 exact bodyPost_ret (results_tmp rfl _ _ _) rfl ⟨rfl, rfl⟩
theorem vals_seq (Bx : Nat) (v : Value) (l : List ByteArray) (w : World) (hl : l.length ≤ 140737488351232) (hc : w.cell? ⟨Bx, 0, none⟩ = some v) (h : RdT w v l) :
 SeqR Tryz.prog 206 #[.pointer (some ⟨Bx, 0, none⟩)] encT (fun k => k = Bx ∨ ownN v l.length k) (fun _ => False) (fun xs => xs = l) (fun pre => pre <+: l) w := by
 intro L J Jx W hW hJ hJx hY h0
 have hc1 : W.cell? ⟨Bx, 0, none⟩ = some v := hW.cell hc (fun h => h (.inl rfl))
 have h1 : RdT W v l := Rd.keepsN h hW (fun g hg hn => hn (.inr hg))
 have HH := Hj h1
 obtain ⟨ad, cap, rfl, hcap⟩ := Rd.slice h1
 clear h hc hW h1
 have HY := Hj hY
 clear hY hJ hJx
 refine callsIn_of_wp Tryz.func206 rfl trivial ?_ rfl
 simp only [Tryz.ntmps206, List.size_toArray, List.length_cons, List.length_nil, Nat.reduceAdd, Nat.reduceSub, Array.replicate_succ, Array.replicate_zero, List.push_toArray, List.append_toArray, List.nil_append, List.cons_append]
 gi_wp2
 gi_loopw [7] (fun t7 wr => ∃ j : Nat, j ≤ l.length ∧ t7 = .int .i64 (j : Nat) ∧ Hid (RdT wr (.slice ad l.length cap) l) ∧ Hid (J (l.take j) wr)) (fun t7 wr => l.length - (intOf t7).toNat)
 case atStart => exact ⟨0, by omega, rfl, HH, Hj h0⟩
 case round =>
  obtain ⟨j, hj, rfl, HR, HJ⟩ := hrel
  clear hc1 h0
  by_cases hlt : j < l.length
  · obtain ⟨x, hx⟩ := qao hlt
    obtain ⟨b, off, rfl, hcx⟩ := RdT.at HR.out hx
    have hlt' : (j : Int) < l.length := by omega
    have hj0 : (0 : Int) ≤ (j : Int) := by omega
    have htk : l.take (j + 1) = l.take j ++ [x] := by rw [List.take_add_one, hx]; rfl
    obtain ⟨fn, tmps, assign, body, hyy, hR⟩ := HY.out (l.take j) x wr HJ.out (by rw [← htk]; exact List.take_prefix _ _)
    rw [← htk] at hR
    simp only [encT] at hyy
    have HPX : Hid (l.take (j + 1) <+: l) := Hj (List.take_prefix _ _)
    clear hx htk hlt HH HJ
    gi_wp2
    refine ⟨rfl, hR.mono ?_⟩
    rintro e W3 (⟨rfl, hJ3, hk3⟩ | ⟨rfl, hJx3, hk3⟩)
    · have hh3 : RdT W3 (.slice (some ⟨b, off, none⟩) l.length cap) l := Rd.keepsN HR.out hk3 (fun g hg hs => hs (.inr hg))
      have HJ3 := Hj hJ3; have HH3 := Hj hh3
      clear hJ3 hk3 hh3 hcx hyy
      gi_wp2
      exact ⟨⟨j + 1, by omega, rfl, HH3, HJ3⟩, by simp [intOf]; omega⟩
    · have HJx3 := Hj hJx3
      clear hJx3 hk3 hcx hyy
      gi_wp2
      refine bodyPost_ret (results_none rfl _ _ _) rfl ?_
      exact ⟨⟨_, rfl⟩, .inr ⟨_, HPX.out, HJx3.out⟩⟩
  · obtain rfl : j = l.length := by omega
    rw [List.take_length] at HJ
    gi_wp2
    go_end0
    exact ⟨⟨_, rfl⟩, .inl ⟨_, rfl, HJ.out⟩⟩
theorem appseqT_any (gf : Nat) (eg : ∀ args w, (callFunc gf args).run Tryz.prog w = .ok (.enter gf args) w) (lb : Array Value) (ow : Nat → Prop) (S Sp : List ByteArray → Prop) (w : World) (hseq : SeqR Tryz.prog gf lb encT ow (fun _ => False) S Sp w) (how : ∀ k, ow k → k < w.heap.size) (hlen : ∀ pre, Sp pre → pre.length ≤ 1099511627776) :
 Calls Tryz.prog 227 #[.slice none 0 0, .func (.func gf) #[] lb] w fun e w' => ∃ v rs, e = .returned v ∧ S rs ∧ w'.ownsRow w.heap.size 9 1 v rs.length (strC rs) ∧ Keeps (fun _ => False) w w' := by
 have HSeq := Hj hseq; have HOw := Hj how; have HLen := Hj hlen
 clear hseq how hlen
 refine (callsIn_wide (n := 0)).1 ?_
 refine callsIn_of_wp_marks Tryz.func227 rfl trivial ?_ rfl
 simp only [Tryz.ntmps227, List.size_toArray, List.length_cons, List.length_nil, Nat.reduceAdd, Nat.reduceSub, Array.replicate_succ, Array.replicate_zero, List.push_toArray, List.append_toArray, List.nil_append, List.cons_append]
 gi_wp2
 obtain ⟨W0, hW0⟩ : ∃ W0, W0 = (w.alloc (.cells #[.slice none 0 0] 132)) := ⟨_, rfl⟩
 have hsz : W0.heap.size = w.heap.size + 1 := by rw [hW0]; simp
 have hkW : ∀ S, Keeps S w W0 := fun S => by rw [hW0]; exact (Keeps.refl S w).alloc _
 have hbox : W0.heap[w.heap.size]? = some (.cells #[.slice none 0 0] 132 (0, 0)) := by rw [hW0]; exact heap_alloc_new w _
 rw [← hW0]
 clear hW0
 refine qbl (gf := gf) (lb := lb) (w := W0) rfl eg
  (HSeq.out.later (hkW _)) (T := fun k => k = w.heap.size ∨ w.heap.size + 3 ≤ k) (fun x => rfl) (fun _ h => h.elim)
  (fun k hk => by have := HOw.out k hk; omega) ?hT ?hT2
  (fun pre W => ∃ v', W.heap[w.heap.size]? = some (.cells #[v'] 132 (0, 0)) ∧ W.ownsRow (w.heap.size + 3) 9 1 v' pre.length (strC pre) ∧ Keeps (fun _ => False) w W)
  (fun _ _ _ => False) ?hI (fun _ _ _ _ h _ => h) ?h0
  (fun x => { tmps := #[.slice none 0 0, .func (.func gf) #[] lb, .pointer (some ⟨w.heap.size, 0, none⟩), undef, .slice none 0 0, .string x, .func (.func gf) #[] lb, .string x, undef, undef, undef, undef, undef], defers := [] })
  ?assign ?body ?done ?stop
 case hT =>
  rintro k (rfl | hk) e
  · have := HOw.out _ e; omega
  · have := HOw.out _ e; omega
 case hT2 => rintro k (rfl | hk) <;> omega
 case hI =>
  rintro pre A B ⟨v', h1, h2, h3⟩ hk
  refine ⟨v', hk.heap h1 ?_, hk.row h2 (fun g hg hs => ?_), h3.trans hk (fun k hk hs => ?_)⟩
  · rintro (e | e | e)
    · exact e
    · omega
    · omega
  · have := (h2.lt g hg).1
    rcases hs with e | e | e
    · exact e
    · omega
    · omega
  · rcases hs with e | e | e
    · exact e
    · omega
    · omega
 case h0 => exact ⟨_, hbox, World.ownsRow_nil _ _ _ _, hkW _⟩
 case assign =>
  intro lp x W K hK
  simp only [encT]
  gi_wp2
  exact hK
 case body =>
  rintro lp pre x W ⟨v', h1, h2, h3⟩ hsp hsz2
  have hb1 : w.heap.size + 3 ≤ W.heap.size := by omega
  have hc0 : W.cell? ⟨w.heap.size, 0, none⟩ = some v' := by rw [cell_of_row _ _ _ _ _ _ h1]; rfl
  have hf0 : W.frozen? ⟨w.heap.size, 0, none⟩ = false := frozen_of_row _ _ _ _ _ h1
  have hlp : pre.length ≤ 1099511627776 := by have := HLen.out _ hsp; simp at this; omega
  have H1 := Hj h1; have H2 := Hj h2; have H3 := Hj h3
  obtain ⟨ad', cap', rfl⟩ := qaf h2
  clear h1 h2 h3 hsp
  gi_wp2_with (gi_at_builtin; refine appEIn elS rfl _ _ rfl (w.heap.size + 3) _ _ pre.length 1 _ [.string x] rfl rfl (H2.out.alloc _) (rd_new _ 1 1 [.string x] 9 1 rfl (Nat.le_refl _)) (by simp [Value.oneCell']) (by omega) (by simp; omega) ?_)
  intro v2 w2 hown' hgrow hnew
  obtain ⟨ad2, cap2, rfl⟩ := qaf hown'
  have hk2 : Keeps (own (.slice ad' pre.length cap')) W w2 := ((Keeps.refl (own _) W).alloc _).grown hgrow (fun k _ e => e)
  have hvb : ¬ own (.slice ad' pre.length cap') w.heap.size := fun e => by have := (H2.out.lt _ e).1; omega
  have d0 : w2.cell? ⟨w.heap.size, 0, none⟩ = some (.slice ad' pre.length cap') := hk2.cell hc0 hvb
  have e0 : w2.frozen? ⟨w.heap.size, 0, none⟩ = false := (qca hk2 hc0 hvb).trans hf0
  have hlo : ∀ g, (Value.slice ad2 (pre.length + 1) cap2).ownBlock = some g → w.heap.size + 3 ≤ g := fun g hg => (hown'.lt g hg).1
  have hset : Keeps (fun k => k = w.heap.size) w2 (w2.setCell ⟨w.heap.size, 0, none⟩ (.slice ad2 (pre.length + 1) cap2)) := (Keeps.refl (fun k => k = w.heap.size) w2).setCell (p := ⟨w.heap.size, 0, none⟩) (fun _ => rfl) _
  have fin : bodyC (fun k => k = w.heap.size ∨ w.heap.size + 3 ≤ k)
   (fun pre W => ∃ v', W.heap[w.heap.size]? = some (.cells #[v'] 132 (0, 0)) ∧ W.ownsRow (w.heap.size + 3) 9 1 v' pre.length (strC pre) ∧ Keeps (fun _ => False) w W) (fun _ _ _ => False) (pre ++ [x]) W .normal { tmps := #[], defers := [] } (w2.setCell ⟨w.heap.size, 0, none⟩ (.slice ad2 (pre.length + 1) cap2)) := by
   have kk : Keeps (fun k => k = w.heap.size ∨ w.heap.size + 3 ≤ k) W (w2.setCell ⟨w.heap.size, 0, none⟩ (.slice ad2 (pre.length + 1) cap2)) :=
    (hk2.mono (S' := fun k => k = w.heap.size ∨ w.heap.size + 3 ≤ k) (fun k _ e => .inr (H2.out.lt _ e).1)).trans hset (fun k _ e => .inl e)
   refine ⟨kk, .slice ad2 (pre.length + 1) cap2, ?_, ?_, H3.out.trans kk (fun k hk e => by omega)⟩
   · have := heap_setCell_same w2 w.heap.size 0 _ _ (.slice ad2 (pre.length + 1) cap2) (hk2.heap H1.out hvb)
     simpa using this
   · rw [strC_append, List.length_append, List.length_singleton]
     exact hset.row hown' (fun g hg e => by have := hlo g hg; omega)
  have HF := Hj fin
  clear hown' hgrow hnew hk2 hvb hc0 hf0 hset fin hlo
  gi_wp2
  exact HF.out
 case done =>
  rintro D xs W hS ⟨v', h1, h2, h3⟩ hD hK
  have hc0 : W.cell? ⟨w.heap.size, 0, none⟩ = some v' := by rw [cell_of_row _ _ _ _ _ _ h1]; rfl
  have H2 := Hj h2; have H3 := Hj h3; have HS := Hj hS
  clear h1 h2 h3 hS
  gi_wp2
  refine ⟨by simp, .inl ⟨_, _, rfl, run_takeDeferred hK, ?_⟩⟩
  refine ⟨_, results_tmp rfl _ _ _, ⟨_, _, rfl, HS.out, ?_⟩⟩
  have hp : Keeps (fun k => k = D) W (W.putObj D (.deferred none)) := Keeps.putObj _ _ _ rfl
  refine ⟨qam (hp.row H2.out (fun g hg e => ?_)) (fun g hg => by have := (H2.out.lt g hg).1; omega), H3.out.trans hp (fun k hk e => by omega)⟩
  obtain ⟨c', hc'⟩ := qaj H2.out hg
  subst e
  rw [hK] at hc'
  cases hc'
 case stop => rintro D c pre W _ h; exact h.elim
theorem collectT_any (gf : Nat) (eg : ∀ args w, (callFunc gf args).run Tryz.prog w = .ok (.enter gf args) w) (lb : Array Value) (ow : Nat → Prop) (S Sp : List ByteArray → Prop) (w : World) (hseq : SeqR Tryz.prog gf lb encT ow (fun _ => False) S Sp w) (how : ∀ k, ow k → k < w.heap.size) (hlen : ∀ pre, Sp pre → pre.length ≤ 1099511627776) :
 Calls Tryz.prog 204 #[.func (.func gf) #[] lb] w fun e w' => ∃ v rs, e = .returned v ∧ S rs ∧ w'.ownsRow w.heap.size 9 1 v rs.length (strC rs) ∧ Keeps (fun _ => False) w w' := by
 have HSeq := Hj hseq; have HOw := Hj how; have HLen := Hj hlen; have HEg := Hj eg
 clear hseq how hlen eg
 go_enter Tryz.func204, Tryz.ntmps204
 go_wp2_with (go_at_call 227; refine (appseqT_any gf HEg.out lb ow S Sp w HSeq.out HOw.out HLen.out).mono ?_; rintro e w1 ⟨v, rs, rfl, hS, hr, hk⟩; obtain ⟨ad, cap, rfl⟩ := qaf hr)
 go_ret
 exact ⟨_, _, rfl, hS, hr, hk⟩
end
section
set_option maxHeartbeats 1000000
open Go.RowKit Go.Shelf
def strB (ss : List ByteArray) : List (List UInt8) := ss.map (·.data.toList)
def encB (ls : List (List UInt8)) : List Value := ls.map encStr
theorem encB_strB (ss : List ByteArray) : encB (strB ss) = strC ss := by
 unfold encB strB strC
 rw [List.map_map]
 exact List.map_congr_left fun x _ => rfl
def sortO (ss : List ByteArray) : List (List UInt8) := (strB ss).mergeSort fun x y => decide (x ≤ y)
def tabO (ss : List ByteArray) : List (List UInt8) := Lib.compact (sortO ss)
theorem qcm (ss : List ByteArray) : (sortO ss).length = ss.length := by simp [sortO, strB]
theorem sortO_nil : sortO [] = [] := List.eq_nil_of_length_eq_zero (qcm [])
theorem tabO_nil : tabO [] = [] := by unfold tabO; rw [sortO_nil]; rfl
theorem keeps_setCells (g : Nat) : ∀ (vs : List Value) (o : Nat) (w : World), Keeps (fun k => k = g) w (w.setCells g o vs)
 | [], _, w => Keeps.refl _ w
 | v :: vs, o, w => ((Keeps.refl (fun k => k = g) w).setCell (p := ⟨g, o, none⟩) (fun _ => rfl) v).trans (keeps_setCells g vs (o + 1) _) (fun _ _ e => e)
theorem strsOf_list (L : List (List UInt8)) : Lib.strsOf (fun i => ⟨(L.getD i []).toArray⟩) L.length = L := by
 unfold Lib.strsOf
 apply List.ext_getElem (by simp)
 intro i h1 h2
 simp [List.getD_eq_getElem?_getD, List.getElem?_eq_getElem h2]
theorem sortedT_any (gf : Nat) (eg : ∀ args w, (callFunc gf args).run Tryz.prog w = .ok (.enter gf args) w) (lb : Array Value) (ow : Nat → Prop) (S Sp : List ByteArray → Prop) (w : World) (hseq : SeqR Tryz.prog gf lb encT ow (fun _ => False) S Sp w) (how : ∀ k, ow k → k < w.heap.size) (hlen : ∀ pre, Sp pre → pre.length ≤ 1099511627776) (hS : ∀ rs, S rs → rs.length ≤ 1099511627776) :
 Calls Tryz.prog 168 #[.func (.func gf) #[] lb] w fun e w' => ∃ v rs, e = .returned v ∧ S rs ∧ w'.ownsRow w.heap.size 9 1 v rs.length (encB (sortO rs)) ∧ Keeps (fun _ => False) w w' := by
 have HSeq := Hj hseq; have HOw := Hj how; have HLen := Hj hlen; have HEg := Hj eg; have HSL := Hj hS
 clear hseq how hlen eg hS
 go_enter Tryz.func168, Tryz.ntmps168
 go_upto_region 2 with (go_at_call 204; refine (collectT_any gf HEg.out lb ow S Sp w HSeq.out HOw.out HLen.out).mono ?_; rintro e w1 ⟨v, rs, rfl, hS, hr, hk⟩; obtain ⟨ad, cap, rfl⟩ := qaf hr; have HS := Hj hS; have HR := Hj hr; have HK := Hj hk; clear hS hr hk)
 by_cases h0 : rs.length = 0
 · have hrs : rs = [] := List.eq_nil_of_length_eq_zero h0
   subst hrs
   simp only [List.length_nil] at HR ⊢
   clear h0
   go_wp2_with (go_at_call 205; refine (Tryz.slices_Sort_string_none ad cap w1).mono ?_; rintro e w2 ⟨rfl, rfl⟩)
   go_ret
   exact ⟨.slice ad 0 cap, [], rfl, HS.out, by rw [sortO_nil]; exact HR.out, HK.out⟩
 · obtain ⟨g, cap', cur, hv, hbase, hb, h1, h2, h3, h4⟩ := qbw HR.out h0
   cases hv
   have hl : (sortO rs).length = (strB rs).length := by rw [qcm]; simp [strB]
   have hlb : (strB rs).length = rs.length := by simp [strB]
   have HQ := Hj (Tryz.slices_Sort_string g 0 cap (strB rs) w1 (holds_of_block hb (by rw [hlb]; rw [Nat.mul_one] at h4; rw [h4, ← encB_strB]; rfl)) (Array.getElem?_eq_some_iff.1 hb).1 (by have := HSL.out _ HS.out; omega))
   rw [hlb] at HQ
   have HB := Hj hb; have HBS := Hj hbase; have HL := Hj hl; have HLB := Hj hlb; have H1 := Hj h1; have H2 := Hj h2; have H3 := Hj h3
   clear h0 hb hbase hl hlb h1 h2 h3 h4
   go_wp2_with (go_at_call 205; refine HQ.out.mono ?_; rintro e w2 ⟨rfl, n, os, rfl⟩)
   go_ret
   refine ⟨.slice (some ⟨g, 0, none⟩) rs.length cap, rs, rfl, HS.out, ?_, HK.out.grown (grownBy_sorted _) (fun k hk e => ?_)⟩
   · have := ownsRow_sorted (n := n) (os := os) HL.out HBS.out HB.out (by rw [HLB.out]; exact H1.out) H2.out (by rw [H3.out])
     rw [HLB.out] at this
     exact this
   · have := HBS.out; simp only [Option.some.injEq] at e; omega
theorem table_any (v : Value) (ss : List ByteArray) (w : World) (h : RdT w v ss) (hl : ss.length ≤ 1099511627776) :
 Calls Tryz.prog 121 #[v] w fun e w' => ∃ ad cap, e = .returned (.slice ad (tabO ss).length cap) ∧ Rd 1 w' (.slice ad (tabO ss).length cap) (tabO ss).length (encB (tabO ss)) ∧ Keeps (fun _ => False) w w' := by
 obtain ⟨ad, cap, rfl, hcap⟩ := Rd.slice h
 obtain ⟨W1, hW1⟩ : ∃ W1, W1 = w.alloc (.cells #[.slice ad ss.length cap] 132) := ⟨_, rfl⟩
 have hk1 : Keeps (fun _ => False) w W1 := by rw [hW1]; exact (Keeps.refl _ w).alloc _
 have hs1 : W1.heap.size = w.heap.size + 1 := by rw [hW1]; simp
 have hseq := vals_seq w.heap.size (.slice ad ss.length cap) ss W1 (by omega) (by rw [hW1, cell_of_row _ _ _ _ _ _ (heap_alloc_new w _)]; rfl) (Rd.keeps h hk1 (fun _ _ e => e))
 have hc := sortedT_any 206 (enters_of Tryz.func206 (by kernel_rfl) rfl) _ _ _ _ W1 hseq (fun k hk => hk.elim (fun e => by omega) (fun e => by have := Rd.lt h (by omega) e; omega)) (fun pre hp => by have := hp.length_le; omega) (fun rs e => by rw [e]; exact hl)
 have HC := Hj hc; have HW1 := Hj hW1; have HK1 := Hj hk1; have HS1 := Hj hs1
 clear h hseq hc hW1 hk1 hs1
 go_enter Tryz.func121, Tryz.ntmps121
 go_wp2_with (first
  | (go_at_call 169; refine (vals_any ad ss.length cap w).mono ?_; rintro e w1 ⟨rfl, rfl⟩)
  | (go_at_call 168; rw [← HW1.out]; refine HC.out.mono ?_; rintro e w2 ⟨v2, rs, rfl, hrs, hr, hk⟩; subst hrs; obtain ⟨a2, c2, rfl⟩ := qaf hr; have HR := Hj hr; have HK := Hj (HK1.out.trans hk (fun _ _ e => e)); clear hr hk))
 have hl2 : rs.length ≤ 1099511627776 := hl
 have HTL : Hid (tabO rs = Lib.compact (sortO rs)) := Hj rfl
 by_cases h0 : rs.length = 0
 · have hrs : rs = [] := List.eq_nil_of_length_eq_zero h0
   subst hrs
   simp only [List.length_nil] at HR
   go_wp2_with (go_at_call 167; refine (Tryz.slices_Compact_string_empty a2 c2 w2).mono ?_; rintro e w3 ⟨rfl, rfl⟩)
   go_ret
   rw [sortO_nil] at HR
   rw [tabO_nil]
   exact ⟨a2, c2, rfl, rd_row HR.out, HK.out⟩
 · obtain ⟨g, cap', cur, hv, hbase, hb, h1, h2, h3, h4⟩ := qbw HR.out h0
   cases hv
   have hcell : ∀ i, i < rs.length → w2.cell? ⟨g, 0 + i, none⟩ = some (.string ((fun i => (⟨((sortO rs).getD i []).toArray⟩ : ByteArray)) i)) := fun i hi => by
    have := (HR.out.cells (g := g) rfl i (.string ⟨((sortO rs).getD i []).toArray⟩) (by
     have hi' : i < (sortO rs).length := by rw [qcm]; exact hi
     simp [encB, List.getD_eq_getElem?_getD, List.getElem?_eq_getElem hi']))
    rw [qbo] at this
    exact this
   have hcp := Tryz.slices_Compact_string_cells g 0 rs.length c2 _ w2 (by omega) h1 hcell (fun j hj => frozen_of_row _ _ _ _ _ hb)
   rw [show Lib.strsOf (fun i => (⟨((sortO rs).getD i []).toArray⟩ : ByteArray)) rs.length = sortO rs by have := strsOf_list (sortO rs); rw [qcm] at this; exact this, ← HTL.out] at hcp
   have HCP := Hj hcp; have HBS := Hj hbase; have H1 := Hj h1
   have HIS : Hid (∀ j, j < rs.length → (w2.cell? ⟨g, 0 + j, none⟩).isSome = true) := Hj (fun j hj => by rw [hcell j hj]; rfl)
   clear h0 hb hbase h1 h2 h3 h4 hcell hcp HC
   have hle : (tabO rs).length ≤ rs.length := by
    have := HTL.out; rw [this]; have := List.length_filter_le (Lib.keeps (sortO rs).toArray) (List.range (sortO rs).length)
    simp only [Lib.compact, Lib.compactUpTo, List.length_map, List.length_range] at this ⊢
    rw [qcm] at this
    rw [qcm]
    exact this
   have HLE := Hj hle
   go_wp2_with (go_at_call 167; refine HCP.out.mono ?_; rintro e w3 ⟨rfl, q, rfl⟩)
   go_ret
   refine ⟨some ⟨g, 0, none⟩, c2, rfl, ⟨by simp [encB], _, c2, rfl, by have := H1.out; have := HLE.out; omega, .inr ⟨g, 0, rfl, fun j u hj => ?_⟩⟩, ?_⟩
   · have hj' : j < (tabO rs).length := by have := (List.getElem?_eq_some_iff.1 hj).1; simpa [encB] using this
     rw [World.cell?_setCells_in g _ 0 (w2.drewN q) (fun k hk => HIS.out k (by simp at hk; have := HLE.out; omega)) j (by simp; have := HLE.out; omega), ← hj]
     rw [List.getElem?_eq_getElem (by simpa [encB] using hj')]
     simp [encB, hj']
   · exact HK.out.trans (((Keeps.refl (fun k => k = g) w2).drewN q).trans (keeps_setCells g _ 0 _) (fun _ _ e => e)) (fun k hk e => by have := HBS.out; have := HS1.out; omega)
end
section
set_option maxHeartbeats 1000000
set_option maxRecDepth 100000
open Go.RowKit
def symsL (b : List Ser) : List ByteArray := b.flatMap fun s => strsL s.1
theorem symsL_take (b : List Ser) {k : Nat} {x : Ser} (h : b[k]? = some x) : symsL (b.take (k + 1)) = symsL (b.take k) ++ strsL x.1 := by
 rw [List.take_add_one, h]; simp [symsL]
theorem symsL_le (b : List Ser) (k : Nat) : (symsL (b.take k)).length ≤ (symsL b).length := by
 have : symsL b = symsL (b.take k) ++ symsL (b.drop k) := by rw [symsL, symsL, symsL, ← List.flatMap_append, List.take_append_drop]
 rw [this, List.length_append]; omega
theorem symbols_any (v : Value) (hs : List Hdr) (b : List Ser) (w : World) (h : RdB w v hs b) (hl : hs.length ≤ 1099511627776) (hf : ∀ x ∈ b, x.1.length ≤ 1099511627776) (hN : (symsL b).length ≤ 1099511627776) :
 Calls Tryz.prog 64 #[v] w fun e w' => ∃ ad cap, e = .returned (.slice ad (tabO (symsL b)).length cap) ∧ Rd 1 w' (.slice ad (tabO (symsL b)).length cap) (tabO (symsL b)).length (encB (tabO (symsL b))) ∧ Below w.heap.size w w' := by
 have HH := Hj h; have HF := Hj hf
 have HLN := Hj h.1
 obtain ⟨ad, cap, rfl, hcap⟩ := Rd.slice h.2.1
 clear h hf
 go_enter Tryz.func64, Tryz.ntmps64
 go_wp2
 go_loopw [3, 8] (fun o i wr => ∃ k : Nat, k ≤ hs.length ∧ i = .int .i64 (k : Nat) ∧ Hid (wr.ownsRow w.heap.size 9 1 o (symsL (b.take k)).length (strC (symsL (b.take k)))) ∧ Hid (Below w.heap.size w wr)) (fun _ i _ => hs.length - (intOf i).toNat)
 case atStart => exact ⟨0, by omega, rfl, Hj (World.ownsRow_nil _ _ _ _), Hj (Below.refl _ _)⟩
 case round =>
  obtain ⟨k, hk, rfl, HO, HB⟩ := hrel
  by_cases hlt : k < hs.length
  · obtain ⟨x, hx⟩ := qao hlt
    obtain ⟨p, hp⟩ := qao (l := b) (k := k) (by have := HLN.out; omega)
    have hrd := HH.out.below HB.out
    have s1 := hrd.2.2 _ _ _ hx hp
    obtain ⟨bb, off, rfl, c1, c2⟩ := RdH.at hrd.2.1 hx
    have hklt : (k : Int) < hs.length := by omega
    have hk0 : (0 : Int) ≤ (k : Int) := by omega
    have hlp := HF.out _ (List.mem_of_getElem? hp)
    have hle := symsL_le b k
    have hle2 := symsL_le b (k + 1)
    have htk := symsL_take b hp
    have hlen : (symsL (b.take (k + 1))).length = (symsL (b.take k)).length + 2 * p.1.length := by rw [htk, List.length_append, strsL_length]
    obtain ⟨n, hn⟩ : ∃ n, n = (symsL (b.take k)).length := ⟨_, rfl⟩
    have HTK := Hj htk; have HLT := Hj hlt; have HLEN := Hj hlen
    rw [← hn] at HO hle HLEN
    have hn2 : n + 2 * p.1.length ≤ 1099511627776 := by have := HLEN.out; omega
    obtain ⟨xa, xn, xc, xsa, xsn, xsc⟩ := x
    obtain ⟨W1, hW1⟩ : ∃ W1, W1 = wr.alloc (.cells #[.slice xa xn xc, .slice xsa xsn xsc] 97) := ⟨_, rfl⟩
    have hbw : Below wr.heap.size wr W1 := by rw [hW1]; exact (Below.refl _ _).alloc (Nat.le_refl _) _
    have hst := lstr_any (.slice xa xn xc) p.1 W1 (s1.1.below hbw) hlp
    have hr1 : W1.heap[wr.heap.size]? = some (.cells #[.slice xa xn xc, .slice xsa xsn xsc] 97 (0, 0)) := by rw [hW1]; exact heap_alloc_new wr _
    have e1 : W1.cell? ⟨wr.heap.size, 0, none⟩ = some (.slice xa xn xc) := by rw [cell_of_row _ _ _ _ _ _ hr1]; rfl
    have HW1 := Hj hW1; have HBW := Hj hbw; have HST := Hj hst; have HB1 := Hj (HB.out.trans (hbw.mono HB.out.size)); have HO1 := Hj (qcb HO.out hbw)
    have HNN := Hj hn
    obtain ⟨m, hm⟩ : ∃ m, m = p.1.length := ⟨_, rfl⟩
    rw [← hm] at HST HLEN hn2 hlp
    have hml : 2 * m = (strsL p.1).length := by rw [strsL_length, hm]
    have HML := Hj hml
    have HSZ := Hj HB.out.size
    clear hx hp hlt hrd s1 hle hle2 htk hlen hW1 hbw hst hr1 hn hm hml HO HB
    go_upto_region 5 with fail
    rw [← HW1.out]
    go_wp2_with (first
     | (go_at_call 120; refine HST.out.mono ?_; rintro e w2 ⟨v2, rfl, hr2, hb2⟩; have HR2 := Hj hr2; have HB2 := Hj hb2; clear hr2 hb2 e1)
     | (at_builtin; refine appE elS rfl _ _ rfl w.heap.size _ _ n (2 * m) _ (strC (strsL p.1)) rfl rfl (qcb HO1.out HB2.out) (rd_row HR2.out) (strC_one _) (by omega) (by have := HB2.out.size; have := HB1.out.size; omega) ?_; intro v' w6 hown6 hg6 hn6))
    exact ⟨⟨k + 1, by have := HLT.out; omega, rfl, Hj (by rw [HLEN.out, HTK.out, strC_append]; exact hown6), Hj ((HB1.out.trans (HB2.out.mono HB1.out.size)).trans (below_grown (qcb HO1.out HB2.out) hg6 (by have := HB2.out.size; have := HB1.out.size; omega)))⟩, by have := HLT.out; simp [intOf]; omega⟩
  · obtain rfl : k = hs.length := by omega
    have hr := HO.out
    rw [HLN.out, List.take_length] at hr
    have HR := Hj hr
    obtain ⟨ao, co, rfl⟩ := qaf hr
    have HT := Hj (table_any (.slice ao (symsL b).length co) (symsL b) wr (rd_row hr) hN)
    clear hr HO
    go_wp2_with (go_at_call 121; refine HT.out.mono ?_; rintro e w2 ⟨a2, c2, rfl, hr2, hk2⟩)
    go_ret
    exact ⟨_, _, rfl, hr2, HB.out.trans (hk2.toBelow.mono HB.out.size)⟩
end
section
set_option maxHeartbeats 1000000
open Go.RowKit Go.Shelf
theorem toolong_any (s : ByteArray) (w : World) (hs : s.size ≤ 65535) : Calls Tryz.prog 123 #[.string s] w fun e w' => e = .returned (.bool false) ∧ w' = w := by
 have h1 : ¬ (65535 : Int) < (s.size : Int) := by omega
 go_enter Tryz.func123, Tryz.ntmps123
 go_wp2
 go_ret
 exact ⟨rfl, rfl⟩
theorem idxfun_any (v : Value) (t : List ByteArray) (w : World) (h : RdT w v t) (ht : ∀ s ∈ t, s.size ≤ 65535) (hl : t.length ≤ 1099511627776) :
 Calls Tryz.prog 170 #[v, .func (.func 123) #[] #[]] w fun e w' => e = .returned (.int .i64 (-1)) ∧ w' = w := by
 obtain ⟨ad, cap, rfl, hcap⟩ := Rd.slice h
 have HH := Hj h; have HT := Hj ht
 clear h ht
 go_enter Tryz.func170, Tryz.ntmps170
 go_wp2
 go_loopw [8] (fun i wr => ∃ k : Nat, k ≤ t.length ∧ i = .int .i64 (k : Nat) ∧ wr = w) (fun i _ => t.length - (intOf i).toNat)
 case atStart => exact ⟨0, by omega, rfl, rfl⟩
 case round =>
  obtain ⟨k, hk, rfl, rfl⟩ := hrel
  by_cases hlt : k < t.length
  · obtain ⟨s, hs⟩ := qao hlt
    obtain ⟨b1, o1, rfl, c1⟩ := RdT.at HH.out hs
    have hklt : (k : Int) < t.length := by omega
    have hk0 : (0 : Int) ≤ (k : Int) := by omega
    have HS := Hj (toolong_any s wr (HT.out s (List.mem_of_getElem? hs)))
    clear hs
    go_wp2_with (go_at_call 123; refine HS.out.mono ?_; rintro e w2 ⟨rfl, hw⟩; obtain rfl := hw.symm)
    exact ⟨⟨k + 1, by omega, rfl, trivial⟩, by simp [intOf]; omega⟩
  · obtain rfl : k = t.length := by omega
    go_wp2
    go_ret
    exact ⟨rfl, rfl⟩
theorem confun_any (v : Value) (t : List ByteArray) (w : World) (h : RdT w v t) (ht : ∀ s ∈ t, s.size ≤ 65535) (hl : t.length ≤ 1099511627776) :
 Calls Tryz.prog 122 #[v, .func (.func 123) #[] #[]] w fun e w' => e = .returned (.bool false) ∧ w' = w := by
 have HI := Hj (idxfun_any v t w h ht hl)
 obtain ⟨ad, cap, rfl, hcap⟩ := Rd.slice h
 clear h ht
 go_enter Tryz.func122, Tryz.ntmps122
 go_wp2_with (go_at_call 170; refine HI.out.mono ?_; rintro e w2 ⟨rfl, hw⟩; obtain rfl := hw.symm)
 go_ret
 exact ⟨rfl, rfl⟩
theorem neigh_any (ad : Option Addr) (n cap : Nat) (w : World) : Calls Tryz.prog 124 #[.slice ad n cap] w fun e w' => e = .returned (.func (.func 171) #[] #[.pointer (some ⟨w.heap.size, 0, none⟩)]) ∧ w' = w.alloc (.cells #[.slice ad n cap] 132) := by
 go_enter Tryz.func124, Tryz.ntmps124
 go_wp2
 exact bodyPost_ret (results_tmp rfl _ _ _) rfl ⟨rfl, rfl⟩
def encP (p : ByteArray × ByteArray) : Array Value := #[.string p.1, .string p.2]
def pairsO (l : List ByteArray) : List (ByteArray × ByteArray) := l.zip l.tail
theorem pairsO_length (l : List ByteArray) : (pairsO l).length = l.length - 1 := by simp [pairsO]
theorem pairsO_take (l : List ByteArray) {j : Nat} {x y : ByteArray} (hx : l[j]? = some x) (hy : l[j + 1]? = some y) : (pairsO l).take (j + 1) = (pairsO l).take j ++ [(x, y)] := by
 rw [List.take_add_one]
 congr 1
 have : (pairsO l)[j]? = some (x, y) := by
  unfold pairsO
  rw [List.getElem?_zip_eq_some]
  exact ⟨hx, by simpa using hy⟩
 rw [this]; rfl
theorem neigh_seq (Bx : Nat) (v : Value) (l : List ByteArray) (w : World) (hl : l.length ≤ 1099511627776) (hc : w.cell? ⟨Bx, 0, none⟩ = some v) (h : RdT w v l) :
 SeqR Tryz.prog 171 #[.pointer (some ⟨Bx, 0, none⟩)] encP (fun k => k = Bx ∨ ownN v l.length k) (fun _ => False) (fun xs => xs = pairsO l) (fun pre => pre <+: pairsO l) w := by
 intro L J Jx W hW hJ hJx hY h0
 have hc1 : W.cell? ⟨Bx, 0, none⟩ = some v := hW.cell hc (fun h => h (.inl rfl))
 have h1 : RdT W v l := Rd.keepsN h hW (fun g hg hn => hn (.inr hg))
 have HH := Hj h1
 obtain ⟨ad, cap, rfl, hcap⟩ := Rd.slice h1
 clear h hW h1
 have HY := Hj hY; have HJd := Hj hJ
 clear hY hJ hJx
 refine callsIn_of_wp Tryz.func171 rfl trivial ?_ rfl
 simp only [Tryz.ntmps171, List.size_toArray, List.length_cons, List.length_nil, Nat.reduceAdd, Nat.reduceSub, Array.replicate_succ, Array.replicate_zero, List.push_toArray, List.append_toArray, List.nil_append, List.cons_append]
 gi_wp2
 gi_loopw [3] (fun t3 wr => ∃ j : Nat, (j + 1 ≤ l.length ∨ j = 0) ∧ t3 = .int .i64 ((j : Int) + 1) ∧ Hid (RdT wr (.slice ad l.length cap) l) ∧ wr.cell? ⟨Bx, 0, none⟩ = some (.slice ad l.length cap) ∧ Hid (J ((pairsO l).take j) wr)) (fun t3 wr => l.length - (intOf t3).toNat)
 case atStart => exact ⟨0, .inr rfl, rfl, HH, hc1, Hj h0⟩
 case round =>
  obtain ⟨j, hj, rfl, HR, hcb, HJ⟩ := hrel
  clear hc1 h0
  by_cases hlt : j + 1 < l.length
  · obtain ⟨x, hx⟩ := qao (l := l) (k := j) (by omega)
    obtain ⟨y, hy⟩ := qao hlt
    obtain ⟨b, off, rfl, hcx⟩ := RdT.at HR.out hx
    obtain ⟨b', off', hbb, hcy⟩ := RdT.at HR.out hy
    simp only [Option.some.injEq, Addr.mk.injEq, and_true] at hbb
    obtain ⟨rfl, rfl⟩ := hbb
    have hlt' : ((j : Int) + 1) < l.length := by omega
    have hlt2 : (j : Int) < l.length := by omega
    have hj0 : (0 : Int) ≤ (j : Int) := by omega
    have hw1 : IntKind.i64.wrap ((j : Int) + 1 - 1) = j := by rw [show (j : Int) + 1 - 1 = j by omega]; exact qbk _ (by omega)
    have hw2 : IntKind.i64.wrap (j : Int) = j := qbk _ (by omega)
    have hj1 : (0 : Int) ≤ (j : Int) + 1 := by omega
    have hj2 : ((j : Int) + 1).toNat = j + 1 := by omega
    have htk := pairsO_take l hx hy
    have hcy' : wr.cell? ⟨b, off + (j + 1), none⟩ = some (.string y) := hcy
    obtain ⟨fn, tmps, assign, body, hyy, hR⟩ := HY.out ((pairsO l).take j) (x, y) wr.drew (HJd.out _ _ _ HJ.out (Keeps.refl _ _).drew) (by rw [← htk]; exact List.take_prefix _ _)
    rw [← htk] at hR
    simp only [encP] at hyy
    have HPX : Hid ((pairsO l).take (j + 1) <+: pairsO l) := Hj (List.take_prefix _ _)
    have HR1 : Hid (RdT wr.drew (.slice (some ⟨b, off, none⟩) l.length cap) l) := Hj (Rd.keeps HR.out ((Keeps.refl (fun _ => False) wr).drew) (fun _ _ e => e))
    have hcb1 : wr.drew.cell? ⟨Bx, 0, none⟩ = some (.slice (some ⟨b, off, none⟩) l.length cap) := hcb
    have hR2 := hR.mono (R' := fun e W' => ∃ bt : Bool, e = .returned (.bool bt) ∧ Hid ((bt = true ∧ J ((pairsO l).take (j + 1)) W' ∨ bt = false ∧ Jx ((pairsO l).take (j + 1)) W') ∧ Keeps (fun k => ¬ (k = Bx ∨ ownN (.slice (some ⟨b, off, none⟩) l.length cap) l.length k)) wr.drew W')) (fun e W3 h => by
     rcases h with ⟨rfl, hJ3, hk3⟩ | ⟨rfl, hJx3, hk3⟩
     · exact ⟨true, rfl, Hj ⟨.inl ⟨rfl, hJ3⟩, hk3⟩⟩
     · exact ⟨false, rfl, Hj ⟨.inr ⟨rfl, hJx3⟩, hk3⟩⟩)
    have HRR := Hj hR2
    clear htk hx hy HJ hR hR2
    gi_wp2
    gi_region_with (refine ⟨rfl, HRR.out.mono ?_⟩; rintro e W3 ⟨bt, rfl, HBT⟩)
    all_goals
     rcases HBT.out with ⟨hbt | hbt, hk3⟩
     · obtain ⟨rfl, hJ3⟩ := hbt
       have hh3 : RdT W3 (.slice (some ⟨b, off, none⟩) l.length cap) l := Rd.keepsN HR1.out hk3 (fun g hg hs => hs (.inr hg))
       have hc3 := hk3.cell hcb1 (fun h => h (.inl rfl))
       have HJ3 := Hj hJ3; have HH3 := Hj hh3
       clear hJ3 hk3 hh3 hcx hcy hcy' hyy HBT hcb hcb1
       gi_wp2
       exact ⟨⟨j + 1, .inl (by omega), by go_num, HH3, hc3, HJ3⟩, by simp [intOf]; omega⟩
     · obtain ⟨rfl, hJx3⟩ := hbt
       have HJx3 := Hj hJx3
       clear hJx3 hk3 hcx hcy hcy' hyy HBT hcb hcb1
       gi_wp2
       refine bodyPost_ret (results_none rfl _ _ _) rfl ?_
       exact ⟨⟨_, rfl⟩, .inr ⟨_, HPX.out, HJx3.out⟩⟩
  · have hlt' : ¬ ((j : Int) + 1) < l.length := by omega
    have HJ2 : Hid (J (pairsO l) wr) := Hj (by
     have h2 : (pairsO l).take j = pairsO l := List.take_of_length_le (by rw [pairsO_length]; omega)
     rw [h2] at HJ
     exact HJ.out)
    clear HJ
    gi_wp2
    go_end0
    first | exact ⟨⟨_, rfl⟩, .inl ⟨_, rfl, HJ2.out⟩⟩ | exact .inl HJ2.out | exact ⟨⟨_, rfl⟩, .inl HJ2.out⟩
end
section
set_option maxHeartbeats 4000000
set_option maxRecDepth 100000
open Go.RowKit
def best2 (a b : Int) : Nat := if b < a then 1 else 0
def best3 (a b c : Int) : Nat := if 0 ≤ c ∧ c < (if b < a then b else a) then 2 else best2 a b
def tagO (l : List Nat) : Nat := best3 (((enc6 l).length : Nat) : Int) (((enc7 l).length : Nat) : Int) (size8 l) + 1
theorem best3_or (a b c : Int) : (best3 a b c = 2 ∧ 0 ≤ c) ∨ best3 a b c ≤ 1 := by
 by_cases h : 0 ≤ c ∧ c < (if b < a then b else a)
 · exact .inl ⟨by unfold best3; rw [if_pos h], h.1⟩
 · right
   unfold best3; rw [if_neg h]; unfold best2; split <;> omega
theorem tagO_range (l : List Nat) : tagO l = 1 ∨ tagO l = 2 ∨ tagO l = 3 := by
 unfold tagO
 rcases best3_or (((enc6 l).length : Nat) : Int) (((enc7 l).length : Nat) : Int) (size8 l) with h | h <;> omega
theorem tagO_dict {l : List Nat} (h : tagO l = 3) : 0 ≤ size8 l := by
 unfold tagO at h
 rcases best3_or (((enc6 l).length : Nat) : Int) (((enc7 l).length : Nat) : Int) (size8 l) with h' | h'
 · exact h'.2
 · omega
theorem size8_room {l : List Nat} (h : 0 ≤ size8 l) : (dictO l).length ≤ 128 := by
 unfold size8 at h
 split at h
 · omega
 · omega
theorem choose_any (v : Value) (l : List Nat) (w : World) (hl : l.length ≤ 1000000000) (h : Holds w v (u64s l)) (hX : ∀ x ∈ l, x ≤ 18446744073709551615) (hT : TabZ w) :
 Calls Tryz.prog 20 #[v] w fun e w' => e = .returned (.int .i64 ((tagO l : Nat) : Int)) ∧ Keeps (fun _ => False) w w' := by
 have HC := Hj (sizes_any v l w hl h hX hT)
 have ha0 : (0 : Int) ≤ (((enc6 l).length : Nat) : Int) := by omega
 have hb0 : (0 : Int) ≤ (((enc7 l).length : Nat) : Int) := by omega
 have HTG : Hid (tagO l = best3 (((enc6 l).length : Nat) : Int) (((enc7 l).length : Nat) : Int) (size8 l) + 1) := Hj rfl
 generalize (((enc6 l).length : Nat) : Int) = a at *
 generalize (((enc7 l).length : Nat) : Int) = b at *
 generalize size8 l = c at *
 clear h hX hT
 go_enter Tryz.func20, Tryz.ntmps20
 go_wp2_with (go_at_call 40; refine HC.out.mono ?_; rintro e w1 ⟨rfl, hk1⟩; have HK1 := Hj hk1; clear hk1)
 have hA1 : Hid ((w1.alloc (.cells #[.int .i64 a, .int .i64 b, .int .i64 c] 99)).heap[w1.heap.size]? = some (.cells #[.int .i64 a, .int .i64 b, .int .i64 c] 99 (0, 0))) := Hj (heap_alloc_new _ _)
 have HK2 := Hj (HK1.out.alloc (.cells #[.int .i64 a, .int .i64 b, .int .i64 c] 99))
 clear HK1
 go_loopw [3, 10] (fun c3 c10 wr => ∃ (i m : Nat), c10 = .int .i64 (i : Int) ∧ c3 = .int .i64 (m : Int) ∧ i ≤ 3 ∧ (i ≤ 1 → m = 0) ∧ (i = 2 → m = best2 a b) ∧ (i = 3 → m = best3 a b c) ∧
  Hid (wr.heap[w1.heap.size]? = some (.cells #[.int .i64 a, .int .i64 b, .int .i64 c] 99 (0, 0))) ∧ Hid (Keeps (fun _ => False) w wr)) (fun _ c10 _ => 3 - (intOf c10).toNat)
 case atStart => exact ⟨0, 0, rfl, rfl, by omega, fun _ => rfl, by omega, by omega, hA1, HK2⟩
 case round =>
  clear hA1 HK2
  obtain ⟨i, m, rfl, rfl, hi3, hm1, hm2, hm3, HA, HK⟩ := hrel
  have a0 : wr.cell? ⟨w1.heap.size, 0, none⟩ = some (.int .i64 a) := by rw [cell_of_row _ _ _ _ _ _ HA.out]; rfl
  have a1 : wr.cell? ⟨w1.heap.size, 1, none⟩ = some (.int .i64 b) := by rw [cell_of_row _ _ _ _ _ _ HA.out]; rfl
  rcases (by omega : i = 0 ∨ i = 1 ∨ i = 2 ∨ i = 3) with rfl | rfl | rfl | rfl
  · obtain rfl := hm1 (by omega)
    clear hm1 hm2 hm3
    have haa : ¬ a < a := by omega
    go_wp2_with (refine qah _ rfl 99 _ _ rfl _ _ (.int .i64 a) rfl rfl rfl ?_)
    exact ⟨⟨1, 0, rfl, rfl, by omega, fun _ => rfl, by omega, by omega, HA, HK⟩, by simp [intOf]⟩
  · obtain rfl := hm1 (by omega)
    clear hm1 hm2 hm3
    by_cases hba : b < a
    · have HB : Hid (best2 a b = 1) := Hj (by unfold best2; rw [if_pos hba])
      go_wp2_with (refine qah _ rfl 99 _ _ rfl _ _ (.int .i64 b) rfl rfl rfl ?_)
      exact ⟨⟨2, 1, rfl, rfl, by omega, by omega, fun _ => HB.out.symm, by omega, HA, HK⟩, by simp [intOf]⟩
    · have HB : Hid (best2 a b = 0) := Hj (by unfold best2; rw [if_neg hba])
      go_wp2_with (refine qah _ rfl 99 _ _ rfl _ _ (.int .i64 b) rfl rfl rfl ?_)
      exact ⟨⟨2, 0, rfl, rfl, by omega, by omega, fun _ => HB.out.symm, by omega, HA, HK⟩, by simp [intOf]⟩
  · have hm := hm2 rfl
    have hmb : (m = 1 ∧ b < a) ∨ (m = 0 ∧ ¬ b < a) := by
     rw [hm]; unfold best2; split <;> simp_all
    have HM := Hj hm
    clear hm1 hm2 hm3 hm
    by_cases hc0 : 0 ≤ c
    · rcases hmb with ⟨rfl, hba⟩ | ⟨rfl, hba⟩
      · by_cases hcb : c < b
        · have HB : Hid (best3 a b c = 2) := Hj (by unfold best3; rw [if_pos ⟨hc0, by rw [if_pos hba]; exact hcb⟩])
          go_wp2_with (refine qah _ rfl 99 _ _ rfl _ _ (.int .i64 c) rfl rfl rfl ?_)
          exact ⟨⟨3, 2, rfl, rfl, by omega, by omega, by omega, fun _ => HB.out.symm, HA, HK⟩, by simp [intOf]⟩
        · have HB : Hid (best3 a b c = 1) := Hj (by unfold best3; rw [if_neg (fun h => by rw [if_pos hba] at h; exact hcb h.2)]; exact HM.out.symm)
          go_wp2_with (refine qah _ rfl 99 _ _ rfl _ _ (.int .i64 c) rfl rfl rfl ?_)
          exact ⟨⟨3, 1, rfl, rfl, by omega, by omega, by omega, fun _ => HB.out.symm, HA, HK⟩, by simp [intOf]⟩
      · by_cases hcb : c < a
        · have HB : Hid (best3 a b c = 2) := Hj (by unfold best3; rw [if_pos ⟨hc0, by rw [if_neg hba]; exact hcb⟩])
          go_wp2_with (refine qah _ rfl 99 _ _ rfl _ _ (.int .i64 c) rfl rfl rfl ?_)
          exact ⟨⟨3, 2, rfl, rfl, by omega, by omega, by omega, fun _ => HB.out.symm, HA, HK⟩, by simp [intOf]⟩
        · have HB : Hid (best3 a b c = 0) := Hj (by unfold best3; rw [if_neg (fun h => by rw [if_neg hba] at h; exact hcb h.2)]; exact HM.out.symm)
          go_wp2_with (refine qah _ rfl 99 _ _ rfl _ _ (.int .i64 c) rfl rfl rfl ?_)
          exact ⟨⟨3, 0, rfl, rfl, by omega, by omega, by omega, fun _ => HB.out.symm, HA, HK⟩, by simp [intOf]⟩
    · have HB : Hid (best3 a b c = m) := Hj (by unfold best3; rw [if_neg (fun h => hc0 h.1)]; exact HM.out.symm)
      have hdc : (decide (0 ≤ c)) = false := by simp; omega
      clear hmb
      go_wp2_with (refine qah _ rfl 99 _ _ rfl _ _ (.int .i64 c) rfl rfl rfl ?_)
      exact ⟨⟨3, m, rfl, rfl, by omega, by omega, by omega, fun _ => HB.out.symm, HA, HK⟩, by simp [intOf]⟩
  · have hm := hm3 rfl
    have HM := Hj hm
    have hm2' : m ≤ 2 := by rw [hm]; rcases best3_or a b c with h | h <;> omega
    clear hm1 hm2 hm3 hm
    have hmz : (m : Int) ≤ 2 := by omega
    go_wp2
    go_ret
    exact ⟨by rw [HTG.out, ← HM.out]; rfl, HK.out⟩
end
end Go.Proofs.YtfpcgcbehdogjaaGreatDoor
