/-
  Lemmas on which LTopChunks rests, packed out of the texts XDec XStore XVer XVals XStr2 XTop XPar XTop2; each for all arguments under the hypotheses it names.
-/
import Derived.Test.YtfpcgcbehdogjaaGreatDoorT26
import Derived.Deep.RegionLaw
import Derived.Test.YtfpcgcbehdogjaaGreatDoorT22
namespace Go.Proofs.YtfpcgcbehdogjaaGreatDoor
section
set_option maxHeartbeats 4000000
set_option maxRecDepth 100000
open Go.RowKit
def ParsesTo (v : Value) (q : World) (s0 s1 s2 s3 : List Nat) : Prop :=
 Calls Tryz.prog 38 #[v] q fun e w' => ∃ v0 v1 v2 v3 i0 i1 i2 i3 i4, e = .returned (.tuple #[.agg #[v0, v1, v2, v3], .agg #[.int .i64 i0, .int .i64 i1, .int .i64 i2, .int .i64 i3, .int .i64 i4], .int .i64 0]) ∧ Holds w' v0 (u8s s0) ∧ Holds w' v1 (u8s s1) ∧ Holds w' v2 (u8s s2) ∧ Holds w' v3 (u8s s3) ∧ Keeps (fun _ => False) q w'
theorem qcc {w : World} {v : Value} {xs : List Value} (h : Holds w v xs) : ∃ a n c, v = .slice a n c := by obtain ⟨d, p, h, _⟩ := h; exact ⟨d, _, p, h⟩
theorem holds_past {w w' : World} {P : Nat} {v : Value} {s : List Nat} {cs : Array Value} {t : TypeId} (h : Holds w v (u8s s)) (hP : w.heap[P]? = some (.cells cs t (0, 0))) (hcs : ∀ (j : Nat) (u : Value), cs[j]? = some u → ∀ k z, u ≠ .int k z) (k : Keeps (fun k => k = P) w w') : Holds w' v (u8s s) := by
 obtain ⟨ad, cap, hv, hc, hx⟩ := h
 rcases hx with hx | ⟨b, off, hab, hcell⟩
 · exact ⟨ad, cap, hv, hc, .inl hx⟩
 · by_cases hb : b = P
   · cases s with
     | nil => exact ⟨ad, cap, hv, hc, .inl (by simp [u8s])⟩
     | cons c r =>
       exfalso
       subst hb
       have := hcell 0 (.int .u8 (c : Int)) (by simp [u8s])
       rw [cell_of_row _ _ _ _ _ _ hP] at this
       exact hcs _ _ this _ _ rfl
   · exact ⟨ad, cap, hv, hc, .inr ⟨b, off, hab, fun j u hj => k.cell (hcell j u hj) hb⟩⟩
theorem slices4 (c0 c1 c2 c3 : Option Addr × Nat × Nat) : ∀ (j : Nat) (u : Value), (#[Value.slice c0.1 c0.2.1 c0.2.2, .slice c1.1 c1.2.1 c1.2.2, .slice c2.1 c2.2.1 c2.2.2, .slice c3.1 c3.2.1 c3.2.2])[j]? = some u → ∀ k z, u ≠ .int k z := fun j u hj k z e => by
 subst e
 rcases j with _ | _ | _ | _ | j <;> simp at hj
def ParsesBad (v : Value) (q : World) : Prop :=
 Calls Tryz.prog 38 #[v] q fun e w' => e = .returned (.tuple #[.agg #[.slice none 0 0, .slice none 0 0, .slice none 0 0, .slice none 0 0], .agg #[.int .i64 0, .int .i64 0, .int .i64 0, .int .i64 0, .int .i64 0], .int .i64 3]) ∧ Keeps (fun _ => False) q w'
theorem lparse_bad (v : Value) (w : World) (hp : ∀ q, Keeps (fun _ => False) w q → ParsesBad v q) :
 Calls Tryz.prog 34 #[v] w fun e w' => e = .returned (.tuple #[.agg #[.slice none 0 0, .slice none 0 0, .slice none 0 0, .slice none 0 0], .int .i64 3]) ∧ Keeps (fun _ => False) w w' := by
 obtain ⟨W0, hW0⟩ : ∃ W0, W0 = w.alloc (.cells #[.slice none 0 0, .slice none 0 0, .slice none 0 0, .slice none 0 0] 75) := ⟨_, rfl⟩
 have hk0 : Keeps (fun _ => False) w W0 := by rw [hW0]; exact (Keeps.refl _ _).alloc _
 have hr0 : W0.heap[w.heap.size]? = some (.cells #[.slice none 0 0, .slice none 0 0, .slice none 0 0, .slice none 0 0] 75 (0, 0)) := by rw [hW0]; exact heap_alloc_new w _
 have HP := Hj (show Calls Tryz.prog 38 #[v] W0 _ from hp W0 hk0)
 have HW0 := Hj hW0; have HR0 := Hj hr0; have HK0 := Hj hk0
 clear hW0 hr0 hk0 hp
 go_enter Tryz.func34, Tryz.ntmps34
 go_wp2_with (first
  | (go_at_call 38
     rw [← HW0.out]
     refine HP.out.mono ?_
     rintro e w1 ⟨rfl, k1⟩
     have K1 := Hj k1
     have HR1 := Hj (k1.heap HR0.out (fun e => e))
     clear k1)
  | (refine wpList_load_row rfl 75 _ rfl w1.heap.size rfl 75 #[.slice none 0 0, .slice none 0 0, .slice none 0 0, .slice none 0 0] (0, 0) _ (heap_alloc _ (heap_alloc_new w1 _)) Tryz.underlying75 rfl (by kernel_rfl) ?_)
  | (refine wpList_store_row rfl 75 _ _ rfl w.heap.size #[.slice none 0 0, .slice none 0 0, .slice none 0 0, .slice none 0 0] rfl rfl 75 _ (heap_alloc _ (heap_alloc _ HR1.out)) (by kernel_rfl) rfl (by simp [Value.oneCell']) ?_))
 obtain ⟨W2, hW2⟩ : ∃ W2, W2 = (w1.alloc (.cells #[.slice none 0 0, .slice none 0 0, .slice none 0 0, .slice none 0 0] 75)).alloc (.cells #[.int .i64 0, .int .i64 0, .int .i64 0, .int .i64 0, .int .i64 0] 90) := ⟨_, rfl⟩
 have k2 : Keeps (fun _ => False) w1 W2 := by rw [hW2]; exact ((Keeps.refl _ _).alloc _).alloc _
 rw [← hW2]
 obtain ⟨W3, hW3⟩ : ∃ W3, W3 = W2.setRow w.heap.size #[.slice none 0 0, .slice none 0 0, .slice none 0 0, .slice none 0 0] := ⟨_, rfl⟩
 have k3 : Keeps (fun k => k = w.heap.size) W2 W3 := by rw [hW3]; exact qbc (Keeps.refl _ _) _ _ (fun _ => rfl)
 have r3 : W3.heap[w.heap.size]? = some (.cells #[.slice none 0 0, .slice none 0 0, .slice none 0 0, .slice none 0 0] 75 (0, 0)) := by rw [hW3]; exact setRow_heap _ _ _ _ _ _ (k2.heap HR1.out (fun e => e))
 rw [← hW3]
 refine bodyPost_ret (qcz Tryz.results34 _ _ w.heap.size 75 _ (0, 0) _ rfl r3 Tryz.underlying75 rfl (by kernel_rfl)) rfl ?_
 exact ⟨rfl, ((HK0.out.trans K1.out (fun _ _ e => e)).trans k2 (fun _ _ e => e)).trans k3 (fun k hk e => by omega)⟩
theorem lparse_ok (v : Value) (s0 s1 s2 s3 : List Nat) (w : World) (hp : ∀ q, Keeps (fun _ => False) w q → ParsesTo v q s0 s1 s2 s3) :
 Calls Tryz.prog 34 #[v] w fun e w' => ∃ v0 v1 v2 v3, e = .returned (.tuple #[.agg #[v0, v1, v2, v3], .int .i64 0]) ∧ Holds w' v0 (u8s s0) ∧ Holds w' v1 (u8s s1) ∧ Holds w' v2 (u8s s2) ∧ Holds w' v3 (u8s s3) ∧ Keeps (fun _ => False) w w' := by
 obtain ⟨W0, hW0⟩ : ∃ W0, W0 = w.alloc (.cells #[.slice none 0 0, .slice none 0 0, .slice none 0 0, .slice none 0 0] 75) := ⟨_, rfl⟩
 have hk0 : Keeps (fun _ => False) w W0 := by rw [hW0]; exact (Keeps.refl _ _).alloc _
 have hr0 : W0.heap[w.heap.size]? = some (.cells #[.slice none 0 0, .slice none 0 0, .slice none 0 0, .slice none 0 0] 75 (0, 0)) := by rw [hW0]; exact heap_alloc_new w _
 have HP := Hj (show Calls Tryz.prog 38 #[v] W0 _ from hp W0 hk0)
 have HW0 := Hj hW0; have HR0 := Hj hr0; have HK0 := Hj hk0
 clear hW0 hr0 hk0 hp
 go_enter Tryz.func34, Tryz.ntmps34
 go_wp2_with (first
  | (go_at_call 38
     rw [← HW0.out]
     refine HP.out.mono ?_
     rintro e w1 ⟨v0, v1, v2, v3, i0, i1, i2, i3, i4, rfl, h0, h1, h2, h3, k1⟩
     obtain ⟨a0, n0, c0, rfl⟩ := qcc h0; obtain ⟨a1, n1, c1, rfl⟩ := qcc h1; obtain ⟨a2, n2, c2, rfl⟩ := qcc h2; obtain ⟨a3, n3, c3, rfl⟩ := qcc h3
     have H0 := Hj h0; have H1 := Hj h1; have H2 := Hj h2; have H3 := Hj h3; have K1 := Hj k1
     have hr1 := k1.heap HR0.out (fun e => e)
     have HR1 := Hj hr1
     have hb1 := heap_alloc_new w1 (.cells #[.slice none 0 0, .slice none 0 0, .slice none 0 0, .slice none 0 0] 75)
     have HB1 := Hj hb1
     have HL1 := Hj (qap hr1)
     clear h0 h1 h2 h3 k1 hr1 hb1)
  | (refine wpList_load_row rfl 75 _ rfl w1.heap.size rfl 75 #[.slice a0 n0 c0, .slice a1 n1 c1, .slice a2 n2 c2, .slice a3 n3 c3] (0, 0) _ (heap_alloc _ (heap_alloc_new w1 _)) Tryz.underlying75 rfl (by kernel_rfl) ?_)
  | (refine wpList_store_row rfl 75 _ _ rfl w.heap.size #[.slice a0 n0 c0, .slice a1 n1 c1, .slice a2 n2 c2, .slice a3 n3 c3] rfl rfl 75 _ (heap_alloc _ (heap_alloc _ HR1.out)) (by kernel_rfl) rfl (by simp [Value.oneCell']) ?_))
 obtain ⟨W2, hW2⟩ : ∃ W2, W2 = (w1.alloc (.cells #[.slice a0 n0 c0, .slice a1 n1 c1, .slice a2 n2 c2, .slice a3 n3 c3] 75)).alloc (.cells #[.int .i64 i0, .int .i64 i1, .int .i64 i2, .int .i64 i3, .int .i64 i4] 90) := ⟨_, rfl⟩
 have k2 : Keeps (fun _ => False) w1 W2 := by rw [hW2]; exact ((Keeps.refl _ _).alloc _).alloc _
 rw [← hW2]
 obtain ⟨W3, hW3⟩ : ∃ W3, W3 = W2.setRow w.heap.size #[.slice a0 n0 c0, .slice a1 n1 c1, .slice a2 n2 c2, .slice a3 n3 c3] := ⟨_, rfl⟩
 have k3 : Keeps (fun k => k = w.heap.size) W2 W3 := by rw [hW3]; exact qbc (Keeps.refl _ _) _ _ (fun _ => rfl)
 have r3 : W3.heap[w.heap.size]? = some (.cells #[.slice a0 n0 c0, .slice a1 n1 c1, .slice a2 n2 c2, .slice a3 n3 c3] 75 (0, 0)) := by rw [hW3]; exact setRow_heap _ _ _ _ _ _ (k2.heap HR1.out (fun e => e))
 rw [← hW3]
 refine bodyPost_ret (qcz Tryz.results34 _ _ w.heap.size 75 _ (0, 0) _ rfl r3 Tryz.underlying75 rfl (by kernel_rfl)) rfl ?_
 have hh : ∀ v s, Holds w1 v (u8s s) → Holds W3 v (u8s s) := fun v s h => holds_past (h.keeps k2 (fun _ _ e => e)) (k2.heap HR1.out (fun e => e)) (slices4 (none, 0, 0) (none, 0, 0) (none, 0, 0) (none, 0, 0)) k3
 exact ⟨_, _, _, _, rfl, hh _ _ H0.out, hh _ _ H1.out, hh _ _ H2.out, hh _ _ H3.out, ((HK0.out.trans K1.out (fun _ _ e => e)).trans k2 (fun _ _ e => e)).trans k3 (fun k hk e => by omega)⟩
theorem decode_ok (v : Value) (s0 s1 s2 s3 : List Nat) (w : World) (B : World → Value → World → Prop) (hp : ∀ q, Keeps (fun _ => False) w q → ParsesTo v q s0 s1 s2 s3)
 (hs : ∀ q v0 v1 v2 v3, Keeps (fun _ => False) w q → Holds q v0 (u8s s0) → Holds q v1 (u8s s1) → Holds q v2 (u8s s2) → Holds q v3 (u8s s3) → Calls Tryz.prog 36 #[.agg #[v0, v1, v2, v3]] q fun e w' => ∃ u, e = .returned (.tuple #[u, .int .i64 0]) ∧ B q u w' ∧ Keeps (fun _ => False) q w') :
 Calls Tryz.prog 18 #[v] w fun e w' => ∃ q u, e = .returned (.tuple #[u, .int .i64 0]) ∧ B q u w' ∧ Keeps (fun _ => False) w w' := by
 have HP := Hj (lparse_ok v s0 s1 s2 s3 w hp)
 have HS := Hj hs
 clear hp hs
 go_enter Tryz.func18, Tryz.ntmps18
 go_wp2_with (first
  | (go_at_call 34
     refine HP.out.mono ?_
     rintro e w1 ⟨v0, v1, v2, v3, rfl, h0, h1, h2, h3, k1⟩
     obtain ⟨a0, n0, c0, rfl⟩ := qcc h0; obtain ⟨a1, n1, c1, rfl⟩ := qcc h1; obtain ⟨a2, n2, c2, rfl⟩ := qcc h2; obtain ⟨a3, n3, c3, rfl⟩ := qcc h3
     have kb := (Keeps.refl (fun _ => False) w1).alloc (.cells #[.slice a0 n0 c0, .slice a1 n1 c1, .slice a2 n2 c2, .slice a3 n3 c3] 75)
     have HX := Hj (HS.out _ _ _ _ _ (k1.trans kb (fun _ _ e => e)) (h0.keeps kb (fun _ _ e => e)) (h1.keeps kb (fun _ _ e => e)) (h2.keeps kb (fun _ _ e => e)) (h3.keeps kb (fun _ _ e => e)))
     have K1 := Hj (k1.trans kb (fun _ _ e => e))
     clear h0 h1 h2 h3 k1 kb)
  | (refine wpList_load_row rfl 75 _ rfl w1.heap.size rfl 75 #[.slice a0 n0 c0, .slice a1 n1 c1, .slice a2 n2 c2, .slice a3 n3 c3] (0, 0) _ (heap_alloc_new w1 _) Tryz.underlying75 rfl (by kernel_rfl) ?_)
  | (go_at_call 36
     refine HX.out.mono ?_
     rintro e w2 ⟨u, rfl, hu, k2⟩
     have HU := Hj hu; have K2 := Hj k2
     clear hu k2))
 go_ret2
 exact ⟨_, u, rfl, HU.out, K1.out.trans K2.out (fun _ _ e => e)⟩
end
section
set_option maxHeartbeats 4000000
set_option maxRecDepth 100000
open Go.RowKit
theorem small_any (w : World) : Calls Tryz.prog 17 #[] w fun e w' => ∃ b hd, e = .returned (.slice (some ⟨b, 0, none⟩) 1 1) ∧ RdB w' (.slice (some ⟨b, 0, none⟩) 1 1) [hd] [([(sA, s1)], [(1, 2)])] ∧ Keeps (fun _ => False) w w' := by
 go_enter Tryz.func17, Tryz.ntmps17
 go_wp2_with fail
 go_ret
 have k1 := (Keeps.refl (fun _ => False) w).alloc (.cells #[.string ⟨#[97]⟩, .string ⟨#[49]⟩] 94)
 obtain ⟨A, hA⟩ : ∃ A, A = w.alloc (.cells #[.string ⟨#[97]⟩, .string ⟨#[49]⟩] 94) := ⟨_, rfl⟩
 have hAs : A.heap.size = w.heap.size + 1 := by rw [hA]; simp
 have rA : Rd 2 A (.slice (some ⟨w.heap.size, 0, none⟩) 1 1) 1 [.string sA, .string s1] := by rw [hA]; exact rd_new w 2 1 [.string sA, .string s1] 94 1 rfl (Nat.le_refl _)
 rw [← hA] at k1 ⊢
 obtain ⟨B, hB⟩ : ∃ B, B = A.alloc (.cells #[.int .i64 1, .int .u64 2] 28) := ⟨_, rfl⟩
 have k2 : Keeps (fun _ => False) A B := by rw [hB]; exact (Keeps.refl _ _).alloc _
 have hBs : B.heap.size = w.heap.size + 2 := by rw [hB]; simp [hAs]
 have rB : Rd 2 B (.slice (some ⟨w.heap.size + 1, 0, none⟩) 1 1) 1 [.int .i64 1, .int .u64 2] := by rw [hB, ← hAs]; exact rd_new A 2 1 [.int .i64 1, .int .u64 2] 28 1 rfl (Nat.le_refl _)
 rw [← hB]
 obtain ⟨C, hC⟩ : ∃ C, C = B.alloc (.cells #[.slice (some ⟨w.heap.size, 0, none⟩) 1 1, .slice (some ⟨w.heap.size + 1, 0, none⟩) 1 1] 97) := ⟨_, rfl⟩
 have k3 : Keeps (fun _ => False) B C := by rw [hC]; exact (Keeps.refl _ _).alloc _
 have rC : Rd 2 C (.slice (some ⟨w.heap.size + 1 + 1, 0, none⟩) 1 1) 1 [.slice (some ⟨w.heap.size, 0, none⟩) 1 1, .slice (some ⟨w.heap.size + 1, 0, none⟩) 1 1] := by rw [hC, show w.heap.size + 1 + 1 = B.heap.size from hBs.symm]; exact rd_new B 2 1 [.slice (some ⟨w.heap.size, 0, none⟩) 1 1, .slice (some ⟨w.heap.size + 1, 0, none⟩) 1 1] 97 1 rfl (Nat.le_refl _)
 rw [← hC]
 refine ⟨w.heap.size + 1 + 1, ⟨some ⟨w.heap.size, 0, none⟩, 1, 1, some ⟨w.heap.size + 1, 0, none⟩, 1, 1⟩, rfl, ⟨rfl, rC, fun i h r hi hr => ?_⟩, (k1.trans k2 (fun _ _ e => e)).trans k3 (fun _ _ e => e)⟩
 cases i with
 | zero =>
   simp only [List.getElem?_cons_zero, Option.some.injEq] at hi hr
   subst hi hr
   exact ⟨Rd.keeps rA (k2.trans k3 (fun _ _ e => e)) (fun _ _ e => e), Rd.keeps rB k3 (fun _ _ e => e)⟩
 | succ i => simp at hi
theorem class3 (w : World) : Calls Tryz.prog 35 #[.iface 30 (.int .i64 3)] w fun e w' => e = .returned (.int .i64 1) ∧ w' = w := by
 have hta : ∀ w, (Instr.typeAssert (.iface 30 (.int .i64 3)) 151 30 true).run Tryz.prog w = .ok (.tuple #[.int .i64 3, .bool true]) w := fun _ => by kernel_rfl
 go_enter Tryz.func35, Tryz.ntmps35
 go_wp2_with fail
 go_ret
 exact ⟨rfl, rfl⟩
end
section
set_option maxHeartbeats 4000000
set_option maxRecDepth 100000
open Go.RowKit
def rep3 : Array Value := #[.int .i64 1, .int .i64 3, .int .i64 0, .int .i64 0, .int .i64 0, .int .i64 0, .int .i64 0, .int .i64 0]
theorem verify_bad (v : Value) (w : World) (hp : ∀ q, Keeps (fun _ => False) w q → ParsesBad v q) :
 Calls Tryz.prog 14 #[v] w fun e w' => e = .returned (.agg rep3) ∧ Keeps (fun _ => False) w w' := by
 obtain ⟨W0, hW0⟩ : ∃ W0, W0 = w.alloc (.cells #[.int .i64 0, .int .i64 0, .int .i64 0, .int .i64 0, .int .i64 0, .int .i64 0, .int .i64 0, .int .i64 0] 46) := ⟨_, rfl⟩
 have hk0 : Keeps (fun _ => False) w W0 := by rw [hW0]; exact (Keeps.refl _ _).alloc _
 have hr0 : W0.heap[w.heap.size]? = some (.cells #[.int .i64 0, .int .i64 0, .int .i64 0, .int .i64 0, .int .i64 0, .int .i64 0, .int .i64 0, .int .i64 0] 46 (0, 0)) := by rw [hW0]; exact heap_alloc_new w _
 have HP := Hj (lparse_bad v W0 (fun q hq => hp q (hk0.trans hq (fun _ _ e => e))))
 have HW0 := Hj hW0; have HR0 := Hj hr0; have HK0 := Hj hk0
 clear hW0 hr0 hk0 hp
 have hcl := class3
 go_enter Tryz.func14, Tryz.ntmps14
 go_wp2_with (first
  | (go_at_call 34
     rw [← HW0.out]
     refine HP.out.mono ?_
     rintro e w1 ⟨rfl, k1⟩
     have K1 := Hj k1
     have HR1 := Hj (k1.heap HR0.out (fun e => e))
     clear k1)
  | (go_at_call 35; refine (hcl _).mono ?_; rintro e wq ⟨rfl, hwq⟩; subst hwq)
  | (refine wpList_store_row rfl 46 _ _ rfl w.heap.size #[.int .i64 1, .int .i64 3, .int .i64 0, .int .i64 0, .int .i64 0, .int .i64 0, .int .i64 0, .int .i64 0] rfl rfl 46 _ (heap_alloc _ HR1.out) (by kernel_rfl) rfl (by simp [Value.oneCell']) ?_))
 obtain ⟨W2, hW2⟩ : ∃ W2, W2 = w1.alloc (.cells #[.slice none 0 0, .slice none 0 0, .slice none 0 0, .slice none 0 0] 75) := ⟨_, rfl⟩
 have k2 : Keeps (fun _ => False) w1 W2 := by rw [hW2]; exact (Keeps.refl _ _).alloc _
 rw [← hW2]
 obtain ⟨W3, hW3⟩ : ∃ W3, W3 = W2.setRow w.heap.size #[.int .i64 1, .int .i64 3, .int .i64 0, .int .i64 0, .int .i64 0, .int .i64 0, .int .i64 0, .int .i64 0] := ⟨_, rfl⟩
 have k3 : Keeps (fun k => k = w.heap.size) W2 W3 := by rw [hW3]; exact qbc (Keeps.refl _ _) _ _ (fun _ => rfl)
 have r3 : W3.heap[w.heap.size]? = some (.cells #[.int .i64 1, .int .i64 3, .int .i64 0, .int .i64 0, .int .i64 0, .int .i64 0, .int .i64 0, .int .i64 0] 46 (0, 0)) := by rw [hW3]; exact setRow_heap _ _ _ _ _ _ (k2.heap HR1.out (fun e => e))
 rw [← hW3]
 refine bodyPost_ret (results_cell_row Tryz.results14 _ _ w.heap.size 46 _ (0, 0) _ rfl r3 Tryz.underlying46 rfl (by kernel_rfl)) rfl ?_
 exact ⟨rfl, ((HK0.out.trans K1.out (fun _ _ e => e)).trans k2 (fun _ _ e => e)).trans k3 (fun k hk e => by omega)⟩
end
section
open Go.RowKit
theorem all_lt {l : List Nat} (h : l.all (fun c => decide (c < 256)) = true) : ∀ c ∈ l, c < 256 := fun c hc => by simpa using List.all_eq_true.1 h c hc
theorem v_sort : ([[97], [49]] : List (List UInt8)).mergeSort (fun x y => decide (x ≤ y)) = [[49], [97]] := by
 have h : decide (([97] : List UInt8) ≤ [49]) = false := by decide
 simp [List.mergeSort, List.MergeSort.Internal.splitInTwo, h]
theorem v_tab : tabO (symsL [([xS], mS)]) = strB tbS := by
 show Lib.compact (([[97], [49]] : List (List UInt8)).mergeSort (fun x y => decide (x ≤ y))) = _
 rw [v_sort]
 kernel_rfl
theorem v_siz : ∀ s ∈ tbS, s.size ≤ 65535 := fun s hs => by
 simp only [tbS, List.mem_cons, List.not_mem_nil, or_false] at hs
 rcases hs with rfl | rfl <;> exact Nat.le_of_ble_eq_true (by kernel_rfl)
theorem v_sym : symO tbS = [2, 1, 49, 1, 97] := by kernel_rfl
theorem v_len : (chunkC mS).length = 18 := by kernel_rfl
theorem v_rec : recO posS [([xS], [18])] = [1, 1, 1, 0, 1, 18] := by kernel_rfl
theorem v_post : postO posS [(xS, [0])] = [1, 1, 0, 1, 0] := by kernel_rfl
theorem v_chk : ∀ c ∈ chunkC mS, c < 256 := all_lt (by kernel_rfl)
theorem v_asc : Asc tbS := fun p hp => by
 have : p = (s1, sA) := by simpa [pairsO, tbS] using hp
 rw [this]
 show Op.bytesLess s1.toList sA.toList = true
 kernel_rfl
theorem v_pos : Pos tbS xS.1 (posS xS.1) ∧ Pos tbS xS.2 (posS xS.2) := by
 have p1 : posS s1 = 0 := by kernel_rfl
 have pA : posS sA = 1 := by kernel_rfl
 have key : ∀ (s : ByteArray) (k : Nat), tbS[k]? = some s → Op.bytesLess s1.toList s.toList = decide (0 < k) → Op.bytesLess sA.toList s.toList = decide (1 < k) → Pos tbS s k := fun s k h0 h1 h2 => ⟨h0, fun h x hx => by
  match h with
  | 0 => simp only [tbS, List.getElem?_cons_zero, Option.some.injEq] at hx; subst hx; exact h1
  | 1 => simp only [tbS, List.getElem?_cons_succ, List.getElem?_cons_zero, Option.some.injEq] at hx; subst hx; exact h2
  | h + 2 => simp [tbS] at hx⟩
 show Pos tbS sA (posS sA) ∧ Pos tbS s1 (posS s1)
 rw [p1, pA]
 exact ⟨key _ _ rfl (by kernel_rfl) (by kernel_rfl), key _ _ rfl (by kernel_rfl) (by kernel_rfl)⟩
end
section
set_option maxHeartbeats 4000000
set_option maxRecDepth 100000
open Go.RowKit
def fileS : List Nat := fileO (symO tbS) (recO posS [([xS], [(chunkC mS).length])]) (chunkC mS) (postO posS [(xS, [0])])
theorem stores_ok (w : World) (hT : TabZ w) (hF : TabF w) (hTC : TabC w) (hp : ∀ v q, Keeps (fun _ => False) w q → Holds q v (u8s fileS) → ∀ q', Keeps (fun _ => False) q q' → ParsesTo v q' [2, 1, 49, 1, 97] [1, 1, 1, 0, 1, 18] (chunkC mS) [1, 1, 0, 1, 0]) (hn : ∀ q, Keeps (fun _ => False) w q → ParsesBad (.slice none 0 0) q) :
 Calls Tryz.prog 5 #[] w fun e w' => e = .returned (.bool true) ∧ Keeps (fun _ => False) w w' := by
 have hsm := small_any
 have HHC : Hid (∀ q, Keeps (fun _ => False) w q → TabZ q ∧ TabF q ∧ TabC q) := Hj (fun q hq => ⟨hT.keeps hq (fun e => e), hF.keeps hq (fun e => e), hTC.keeps hq (fun e => e)⟩)
 have HP := Hj hp; have HN := Hj hn
 clear hp hn hT hF hTC
 go_enter Tryz.func5, Tryz.ntmps5
 go_upto_region 2 with (first
  | (go_at_call 17; refine (hsm _).mono ?_; rintro e w1 ⟨b1, hd1, rfl, hr1, hk1⟩
     have HEN := Hj (encode_one posS tbS (some ⟨b1, 0, none⟩) 1 hd1 xS _ mS w1 hr1 (by kernel_rfl) (by decide) (by decide) fitS (HHC.out _ hk1).1 (HHC.out _ hk1).2.1 (HHC.out _ hk1).2.2 keyS.choose_spec v_tab v_siz (by decide) v_asc v_pos (by rw [v_sym]; decide) (by rw [v_len]; decide) (by rw [v_len]; decide) (by rw [v_len, v_rec]; decide) (by rw [v_post]; decide) (by rw [v_sym]; decide) (by rw [v_len, v_rec]; decide) v_chk (by rw [v_post]; decide))
     have HK1 := Hj hk1
     clear hr1 hk1)
  | (go_at_call 11; refine HEN.out.mono ?_; rintro e w2 ⟨v2, rfl, ho2, hk2⟩))
 have hk02 := HK1.out.trans hk2 (fun _ _ e => e)
 have HDEC := Hj (decode_ok v2 [2, 1, 49, 1, 97] [1, 1, 1, 0, 1, 18] (chunkC mS) [1, 1, 0, 1, 0] w2 (fun _ u w' => ∃ hd, RdB w' u [hd] [([xS], mS)]) (fun q hq => HP.out v2 w2 hk02 (qaq ho2) q hq) (fun q v0 v1 v2 v3 hq h0 h1 h2 h3 => (secdec_small v0 v1 v2 v3 q h0 h1 h2 h3 (HHC.out _ (hk02.trans hq (fun _ _ e => e))).1 (HHC.out _ (hk02.trans hq (fun _ _ e => e))).2.1).mono (fun e w' h => by obtain ⟨v, hd, rfl, hr, hk⟩ := h; exact ⟨v, rfl, ⟨hd, hr⟩, hk⟩)))
 obtain ⟨a2, c2, rfl⟩ := qaf ho2
 have HK2 := Hj hk02
 clear hk02 hk2 ho2 HEN
 go_upto_region 3 with (go_at_call 18; refine HDEC.out.mono ?_; rintro e w3 ⟨q3, u3, rfl, ⟨hd3, hr3⟩, hk3⟩)
 have hvb : Hid (∀ q, Keeps (fun _ => False) w q → Calls Tryz.prog 14 #[.slice none 0 0] q fun e w' => e = .returned (.agg #[.int .i64 1, .int .i64 3, .int .i64 0, .int .i64 0, .int .i64 0, .int .i64 0, .int .i64 0, .int .i64 0]) ∧ Keeps (fun _ => False) q w') := Hj (fun q hq => verify_bad _ q (fun q' hq' => HN.out q' (hq.trans hq' (fun _ _ e => e))))
 have hfl : ∀ q, (Instr.field 46 (.agg #[.int .i64 1, .int .i64 3, .int .i64 0, .int .i64 0, .int .i64 0, .int .i64 0, .int .i64 0, .int .i64 0]) 0).run Tryz.prog q = .ok (.int .i64 1) q := fun _ => by kernel_rfl
 have HK3 := Hj (HK2.out.trans hk3 (fun _ _ e => e))
 have HR3 := Hj hr3
 clear hk3 hr3 HDEC
 go_wp2_with (first
  | (go_at_call 17
     refine (hsm _).mono ?_
     rintro e w4 ⟨b4, hd4, rfl, hr4, hk4⟩
     have HEQ := Hj (equal_same u3 (.slice (some ⟨b4, 0, none⟩) 1 1) [hd3] [hd4] [([xS], mS)] w4 (HR3.out.below hk4.toBelow) hr4 (by decide) (fun x hx => by simp only [List.mem_singleton] at hx; subst hx; exact ⟨by decide, by decide⟩))
     have HK4 := Hj (HK3.out.trans hk4 (fun _ _ e => e))
     clear hr4 hk4)
  | (go_at_call 19
     refine HEQ.out.mono ?_
     rintro e w5 ⟨rfl, hb5⟩
     have HK5 := Hj (HK4.out.trans hb5.toKeeps (fun _ _ e => e))
     have HV5 := Hj (hvb.out _ HK5.out)
     clear hb5)
  | (go_at_call 14
     refine HV5.out.mono ?_
     rintro e w6 ⟨rfl, hk6⟩
     have HK6 := Hj (HK5.out.trans hk6 (fun _ _ e => e))
     clear hk6))
 go_ret
 exact ⟨rfl, HK6.out⟩
end
section
set_option maxHeartbeats 4000000
set_option maxRecDepth 100000
open Go.RowKit
theorem xor_range (a b : Int) : 0 ≤ bits .xor .u64 a b ∧ bits .xor .u64 a b ≤ 18446744073709551615 := by
 have h : bits .xor .u64 a b = IntKind.u64.wrap ((BitVec.ofInt 64 a ^^^ BitVec.ofInt 64 b).toNat : Int) := rfl
 have hl := (BitVec.ofInt 64 a ^^^ BitVec.ofInt 64 b).isLt
 rw [h, IntWalk.u64_in _ (by omega)]
 omega
theorem fit_set {m : List Smp} (h : FitS m) (k : Nat) {p : Smp} (hp : inI p.1 ∧ 0 ≤ p.2 ∧ p.2 ≤ 18446744073709551615) : FitS (m.set k p) := fun x hx => by
 rcases List.mem_or_eq_of_mem_set hx with h1 | rfl
 · exact h x h1
 · exact hp
theorem row_set {w : World} {base g c n k : Nat} {e : TypeId} {xs : List Value} (h : w.ownsRow base e k (.slice (some ⟨g, 0, none⟩) n c) n xs) (hn : n ≠ 0) (j : Nat) (u : Value) : (w.setCell ⟨g, j, none⟩ u).ownsRow base e k (.slice (some ⟨g, 0, none⟩) n c) n (xs.set j u) := by
 obtain ⟨g', cap, cur, hv, hb, hg, h1, h2, h3, h4⟩ := qbw h hn
 simp only [Value.slice.injEq, Option.some.injEq, Addr.mk.injEq, true_and] at hv
 obtain ⟨⟨rfl, _⟩, rfl⟩ := hv
 refine ⟨by rw [List.length_set]; exact h.1, .inr ⟨_, _, cur.setIfInBounds j u, rfl, hb, heap_setCell_same w _ j cur e u hg, h1, h2, by simpa using h3, ?_⟩⟩
 rw [← h4, Array.toList_setIfInBounds, List.take_set]
theorem topchunks_any (ad : Option Addr) (cap : Nat) (l : List Smp) (A B : Int) (w : World) (h : RdS w (.slice ad l.length cap) l) (hf : FitS l) (hT : TabZ w) (hF : TabF w)
 (hst : ∀ q, Keeps (fun _ => False) w q → Calls Tryz.prog 5 #[] q fun e w' => e = .returned (.bool true) ∧ Keeps (fun _ => False) q w') :
 Calls Tryz.prog 3 #[.slice ad l.length cap, .agg #[.int .u64 A, .int .u64 B]] w fun e w' => e = .returned (.bool true) ∧ Keeps (fun _ => False) w w' := by
 obtain ⟨W0, hW0⟩ : ∃ W0, W0 = w.alloc (.cells #[.int .u64 A, .int .u64 B] 24) := ⟨_, rfl⟩
 have hk0 : Keeps (fun _ => False) w W0 := by rw [hW0]; exact (Keeps.refl _ _).alloc _
 have hr0 : W0.heap[w.heap.size]? = some (.cells #[.int .u64 A, .int .u64 B] 24 (0, 0)) := by rw [hW0]; exact heap_alloc_new w _
 have HST := Hj (fun q hq => hst q (hk0.trans hq (fun _ _ e => e)))
 have HH := Hj (show RdS W0 (.slice ad l.length cap) l from Rd.keeps h hk0 (fun _ _ e => e))
 have HTZ := Hj (hT.keeps hk0 (fun e => e)); have HTF := Hj (hF.keeps hk0 (fun e => e))
 have HW0 := Hj hW0; have HK0 := Hj hk0; have HR0 := Hj hr0; have HFI := Hj hf
 clear hst h hT hF hW0 hk0 hr0 hf
 by_cases h0 : l.length = 0 ∨ 120 < l.length
 · have c1 : (((l.length : Nat) : Int) == 0) = true ∨ (((l.length : Nat) : Int) == 0) = false ∧ decide ((120 : Int) < (l.length : Int)) = true := by
    rcases h0 with h0 | h0
    · left; rw [h0]; rfl
    · right; exact ⟨beq_eq_false_iff_ne.2 (by omega), decide_eq_true (by omega)⟩
   have HS := Hj (HST.out W0 (Keeps.refl _ _))
   go_enter Tryz.func3, Tryz.ntmps3
   rcases c1 with c1 | ⟨c1, c2⟩
   · go_wp2_with (go_at_call 5; rw [← HW0.out]; refine HS.out.mono ?_; rintro e w1 ⟨rfl, hk1⟩)
     go_ret
     exact ⟨rfl, HK0.out.trans hk1 (fun _ _ e => e)⟩
   · go_wp2_with (go_at_call 5; rw [← HW0.out]; refine HS.out.mono ?_; rintro e w1 ⟨rfl, hk1⟩)
     go_ret
     exact ⟨rfl, HK0.out.trans hk1 (fun _ _ e => e)⟩
 · have h1 : 1 ≤ l.length := by omega
   have h2 : l.length ≤ 120 := by omega
   have c1 : (((l.length : Nat) : Int) == 0) = false := beq_eq_false_iff_ne.2 (by omega)
   have c2 : decide ((120 : Int) < (l.length : Int)) = false := decide_eq_false (by omega)
   have HCL := Hj (cloneSmp_any ad cap l W0 HH.out (by intro e; rw [e] at h1; simp at h1) (by omega))
   clear h0
   go_enter Tryz.func3, Tryz.ntmps3
   go_wp2_with (go_at_call 6; rw [← HW0.out]; refine HCL.out.mono ?_; rintro e w1 ⟨v5, rfl, ho5, hk1⟩; obtain ⟨g5, c5, cu5, hv5, _⟩ := qbw ho5 (by omega); subst hv5)
   have HO5 := Hj ho5; have HK1 := Hj hk1
   clear ho5 hk1 HCL
   go_loopw [28] (fun i wr => ∃ (k : Nat) (m : List Smp), k ≤ l.length ∧ i = .int .i64 (k : Int) ∧ m.length = l.length ∧ Hid (FitS m) ∧ Hid (wr.ownsRow W0.heap.size 28 2 (.slice (some ⟨g5, 0, none⟩) l.length c5) l.length (smpC m)) ∧ Hid (Keeps (fun k => k = g5) w1 wr)) (fun i _ => l.length - (intOf i).toNat)
   case atStart => exact ⟨0, l, Nat.zero_le _, rfl, rfl, HFI, HO5, Hj (Keeps.refl _ _)⟩
   case round =>
    obtain ⟨k, m, hk, rfl, hm, HFM, HO, HK⟩ := hrel
    by_cases hkn : k < l.length
    · obtain ⟨x, hx⟩ : ∃ x, m[k]? = some x := ⟨_, List.getElem?_eq_getElem (by omega)⟩
      have q1 : wr.cell? ⟨g5, k * 2, none⟩ = some (.int .i64 x.1) := by
       have := HO.out.cells (g := g5) rfl (k * 2) (.int .i64 x.1) (by have := qcx smpF smpG m k x hx; exact this.1)
       rw [qbo] at this
       simpa using this
      have q2 : wr.frozen? ⟨g5, k * 2, none⟩ = false := by
       obtain ⟨g', cp', cu', e', _, hgg, _⟩ := qbw HO.out (by omega)
       simp only [Value.slice.injEq, Option.some.injEq, Addr.mk.injEq] at e'
       rw [← e'.1.1] at hgg
       exact frozen_of_row _ _ _ _ _ hgg
      have hg5 : W0.heap.size ≤ g5 := (HO.out.lt g5 rfl).1
      have hw0 : w.heap.size < W0.heap.size := qap HR0.out
      have a0 : wr.cell? ⟨w.heap.size, 0, none⟩ = some (.int .u64 A) := by rw [cell_of_row _ _ _ _ _ _ (HK.out.heap (HK1.out.heap HR0.out (fun e => e)) (by omega))]; rfl
      have k0 : (0 : Int) ≤ k := by omega
      have k1 : (k : Int) < l.length := by omega
      go_upto_region 7 with fail
      go_still_tail 11, (by kernel_rfl)
      go_upto_region 8 with fail
      obtain ⟨y, hy⟩ : ∃ y, y = wrap64 (x.1 + wrap64 A) := ⟨_, rfl⟩
      have hyI : inI y := by rw [hy]; unfold inI wrap64; omega
      rw [← hy]
      obtain ⟨W8, hW8⟩ : ∃ W8, W8 = (wr.setCell ⟨g5, k * 2, none⟩ (.int .i64 y)).drew := ⟨_, rfl⟩
      have o8 : W8.ownsRow W0.heap.size 28 2 (.slice (some ⟨g5, 0, none⟩) l.length c5) l.length ((smpC m).set (k * 2) (.int .i64 y)) := by
       rw [hW8]
       exact (Keeps.refl (fun _ => False) _).drew.row (row_set HO.out (by omega) (k * 2) (.int .i64 y)) (fun _ _ e => e)
      have k8 : Keeps (fun k => k = g5) wr W8 := by rw [hW8]; exact ((Keeps.refl (fun k => k = g5) wr).setCell (p := ⟨g5, k * 2, none⟩) (fun _ => rfl) _).drew
      have q3 : W8.cell? ⟨g5, k * 2 + 1, none⟩ = some (.int .u64 x.2) := by
       have := o8.cells (g := g5) rfl (k * 2 + 1) (.int .u64 x.2) (by rw [List.getElem?_set_ne (by omega)]; exact (qcx smpF smpG m k x hx).2)
       rw [qbo] at this
       simpa using this
      have q4 : W8.frozen? ⟨g5, k * 2 + 1, none⟩ = false := by
       obtain ⟨g', cp', cu', e', _, hgg, _⟩ := qbw o8 (by omega)
       simp only [Value.slice.injEq, Option.some.injEq, Addr.mk.injEq] at e'
       rw [← e'.1.1] at hgg
       exact frozen_of_row _ _ _ _ _ hgg
      have b0 : W8.cell? ⟨w.heap.size, 1, none⟩ = some (.int .u64 B) := by rw [cell_of_row _ _ _ _ _ _ (k8.heap (HK.out.heap (HK1.out.heap HR0.out (fun e => e)) (by omega)) (by omega))]; rfl
      rw [← hW8]
      have HO8 := Hj o8; have HK8 := Hj k8; have HY := Hj hyI
      clear hW8 o8 k8 hy hyI q1 q2 a0
      go_still_tail 10, (by kernel_rfl)
      go_wp2_with fail
      obtain ⟨z, hz⟩ : ∃ z, z = bits .xor .u64 x.2 B := ⟨_, rfl⟩
      have hzr := xor_range x.2 B
      rw [← hz] at hzr ⊢
      have o9 := row_set HO8.out (by omega) (k * 2 + 1) (.int .u64 z)
      have e9 : ((smpC m).set (k * 2) (.int .i64 y)).set (k * 2 + 1) (.int .u64 z) = smpC (m.set k (y, z)) := (cells2_set smpF smpG m k (y, z)).symm
      rw [e9] at o9
      exact ⟨⟨k + 1, m.set k (y, z), by omega, by simp, by rw [List.length_set]; exact hm, Hj (fit_set HFM.out k ⟨HY.out, hzr.1, hzr.2⟩), Hj ((Keeps.refl (fun _ => False) _).drew.row o9 (fun _ _ e => e)), Hj ((HK.out.trans HK8.out (fun _ _ e => e)).trans (((Keeps.refl (fun k => k = g5) W8).setCell (p := ⟨g5, k * 2 + 1, none⟩) (fun _ => rfl) _).drew) (fun _ _ e => e))⟩, by simp [intOf]; omega⟩
    · have hg5 : W0.heap.size ≤ g5 := (HO.out.lt g5 rfl).1
      have hkr : Keeps (fun k => k = g5) W0 wr := (HK1.out.mono (S' := fun k => k = g5) (fun _ _ e => e.elim)).trans HK.out (fun _ _ e => e)
      have hl1 : RdS wr (.slice ad l.length cap) l := Rd.keeps HH.out hkr (fun g hg e => by have := Rd.lt HH.out (by decide) ⟨by omega, hg⟩; omega)
      have hkF : Keeps (fun _ => False) W0 wr := hkr.toFresh (fun k hk e => by omega)
      have hm2 : RdS wr (.slice (some ⟨g5, 0, none⟩) l.length c5) m := by have := rd_row HO.out; show Rd 2 wr _ m.length (smpC m); rw [hm]; exact this
      have HL1 := Hj hl1; have HM2 := Hj hm2; have HKF := Hj hkF
      have HTZr : Hid (∀ q, Keeps (fun _ => False) wr q → TabZ q ∧ TabF q) := Hj (fun q hq => ⟨(HTZ.out.keeps hkF (fun e => e)).keeps hq (fun e => e), (HTF.out.keeps hkF (fun e => e)).keeps hq (fun e => e)⟩)
      have HE1 := Hj (cencode_any _ l wr hl1 h1 h2 HFI.out (HTZr.out _ (Keeps.refl _ _)).1 (HTZr.out _ (Keeps.refl _ _)).2)
      clear hl1 hm2 hkF hkr
      go_upto_region 11 with (go_at_call 7; refine HE1.out.mono ?_; rintro e w2 ⟨v7, rfl, ho7, hk2⟩; obtain ⟨a7, c7, rfl⟩ := qaf ho7)
      have HE2 := Hj (cencode_any _ m w2 (Rd.keeps HM2.out hk2 (fun _ _ e => e)) (by omega) (by omega) HFM.out (HTZr.out _ hk2).1 (HTZr.out _ hk2).2)
      go_upto_region 12 with (go_at_call 7; refine HE2.out.mono ?_; rintro e w3 ⟨v9, rfl, ho9, hk3⟩; obtain ⟨a9, c9, rfl⟩ := qaf ho9)
      have k23 := hk2.trans hk3 (fun _ _ e => e)
      have HD1 := Hj (cdecode_any _ l w3 (qaq (hk3.row ho7 (fun _ _ e => e))) h1 h2 HFI.out (HTZr.out _ k23).1 (HTZr.out _ k23).2)
      go_upto_region 13 with (go_at_call 8; refine HD1.out.mono ?_; rintro e w4 ⟨gA, rfl, _, hrA, hk4⟩)
      have k24 := k23.trans hk4 (fun _ _ e => e)
      have HD2 := Hj (cdecode_any _ m w4 (qaq (hk4.row ho9 (fun _ _ e => e))) (by omega) (by omega) HFM.out (HTZr.out _ k24).1 (HTZr.out _ k24).2)
      go_upto_region 14 with (go_at_call 8; refine HD2.out.mono ?_; rintro e w5 ⟨gB, rfl, _, hrB, hk5⟩)
      have k25 := k24.trans hk5 (fun _ _ e => e)
      have HS5 := Hj (HST.out w5 (HKF.out.trans k25 (fun _ _ e => e)))
      have HSA : Hid (∀ q, Keeps (fun _ => False) w5 q → Calls Tryz.prog 9 #[.slice (some ⟨gA, 0, none⟩) l.length l.length, .slice ad l.length cap] q fun e w' => e = .returned (.bool true) ∧ Below q.heap.size q w') := Hj (fun q hq =>
       same_same _ _ l q (Rd.keeps (rdS_block hrA) (hk5.trans hq (fun _ _ e => e)) (fun _ _ e => e)) (Rd.keeps HL1.out (k25.trans hq (fun _ _ e => e)) (fun _ _ e => e)) (by omega))
      have hrB2 := rdS_block hrB
      rw [hm] at hrB2
      have HSB : Hid (∀ q, Keeps (fun _ => False) w5 q → Calls Tryz.prog 9 #[.slice (some ⟨gB, 0, none⟩) l.length l.length, .slice (some ⟨g5, 0, none⟩) l.length c5] q fun e w' => e = .returned (.bool true) ∧ Below q.heap.size q w') := Hj (fun q hq =>
       same_same _ _ m q (Rd.keeps hrB2 hq (fun _ _ e => e)) (Rd.keeps HM2.out (k25.trans hq (fun _ _ e => e)) (fun _ _ e => e)) (by omega))
      have HKL := Hj (HK0.out.trans (HKF.out.trans k25 (fun _ _ e => e)) (fun _ _ e => e))
      clear hrA hrB hrB2 hk2 hk3 hk4 hk5 k23 k24 k25 ho7 ho9 HE1 HE2 HD1 HD2
      go_wp2_with (first
       | (go_at_call 5
          refine HS5.out.mono ?_
          rintro e w6 ⟨rfl, hk6⟩
          have HA6 := Hj (HSA.out _ hk6)
          have K6 := Hj hk6
          clear hk6)
       | (go_at_call 9
          with_reducible refine HA6.out.mono ?_
          rintro e w7 ⟨rfl, hb7⟩
          have HB7 := Hj (HSB.out _ (K6.out.trans hb7.toKeeps (fun _ _ e => e)))
          have K7 := Hj (K6.out.trans hb7.toKeeps (fun _ _ e => e))
          clear hb7)
       | (go_at_call 9
          with_reducible refine HB7.out.mono ?_
          rintro e w8 ⟨rfl, hb8⟩
          have K8 := Hj (K7.out.trans hb8.toKeeps (fun _ _ e => e))
          clear hb8))
      go_ret
      exact ⟨rfl, HKL.out.trans K8.out (fun _ _ e => e)⟩
end
section
open Go.RowKit
theorem p_err : pErr fileS = 0 := by kernel_rfl
theorem p_0 : pSec fileS 0 = [2, 1, 49, 1, 97] := by kernel_rfl
theorem p_1 : pSec fileS 1 = [1, 1, 1, 0, 1, 18] := by kernel_rfl
theorem p_2 : pSec fileS 2 = chunkC mS := by kernel_rfl
theorem p_3 : pSec fileS 3 = [1, 1, 0, 1, 0] := by kernel_rfl
theorem p_len : fileS.length ≤ 1000000000 := Nat.le_of_ble_eq_true (by kernel_rfl)
theorem p_lt : ∀ c ∈ fileS, c < 256 := all_lt (by kernel_rfl)
theorem p_nil : pErr [] = 3 := by kernel_rfl
theorem parses_small (v : Value) (q : World) (h : Holds q v (u8s fileS)) (hT : TabC q) : ParsesTo v q [2, 1, 49, 1, 97] [1, 1, 1, 0, 1, 18] (chunkC mS) [1, 1, 0, 1, 0] := by
 refine (parse_any v fileS q h p_len p_lt hT).mono ?_
 rintro e w' ⟨v0, v1, v2, v3, hk, h0, _⟩
 obtain ⟨he, q0, q1, q2, q3⟩ := h0 p_err
 rw [p_0] at q0; rw [p_1] at q1; rw [p_2] at q2; rw [p_3] at q3
 exact ⟨v0, v1, v2, v3, _, _, _, _, _, he, q0, q1, q2, q3, hk⟩
theorem parses_nil (q : World) (hT : TabC q) : ParsesBad (.slice none 0 0) q := by
 refine (parse_any (.slice none 0 0) [] q (Holds.nil _) (by decide) (by simp) hT).mono ?_
 rintro e w' ⟨v0, v1, v2, v3, hk, _, h1⟩
 have he := h1 (by rw [p_nil]; decide)
 rw [p_nil] at he
 exact ⟨he, hk⟩
theorem stores_any (w : World) (hT : TabZ w) (hF : TabF w) (hTC : TabC w) : Calls Tryz.prog 5 #[] w fun e w' => e = .returned (.bool true) ∧ Keeps (fun _ => False) w w' :=
 stores_ok w hT hF hTC (fun v _ hk h q' hk' => parses_small v q' (h.keeps hk' (fun _ _ e => e)) ((hTC.keeps hk (fun e => e)).keeps hk' (fun e => e))) (fun q hk => parses_nil q (hTC.keeps hk (fun e => e)))
end
section
open Go.RowKit
theorem topchunks_ok (ad : Option Addr) (cap : Nat) (l : List Smp) (A B : Int) (w : World) (h : RdS w (.slice ad l.length cap) l) (hf : FitS l) (hT : TabZ w) (hF : TabF w) (hTC : TabC w) :
 Calls Tryz.prog 3 #[.slice ad l.length cap, .agg #[.int .u64 A, .int .u64 B]] w fun e w' => e = .returned (.bool true) ∧ Keeps (fun _ => False) w w' :=
 topchunks_any ad cap l A B w h hf hT hF (fun q hq => stores_any q (hT.keeps hq (fun e => e)) (hF.keeps hq (fun e => e)) (hTC.keeps hq (fun e => e)))
end
end Go.Proofs.YtfpcgcbehdogjaaGreatDoor
