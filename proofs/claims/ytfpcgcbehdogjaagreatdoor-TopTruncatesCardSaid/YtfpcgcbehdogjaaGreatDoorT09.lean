/-
  Lemmas on which LTopTruncates rests, packed out of the texts WXorB WTimesA SortK WTimesB WTimesC WRef05 WRef05b; each for all arguments under the hypotheses it names.
-/
import Derived.Test.YtfpcgcbehdogjaaGreatDoorT06
import Derived.Deep.RegionHeld3
import Derived.Deep.DrawnRows
import Derived.Laws.Rows
import Derived.Test.YtfpcgcbehdogjaaGreatDoorT07
import Derived.Deep.CutRange
import Derived.Deep.LoopGhost
import Derived.Sort.QuietIn
namespace Go.Proofs.YtfpcgcbehdogjaaGreatDoor
section
set_option maxHeartbeats 4000000
set_option maxRecDepth 100000
open Go.RowKit
theorem wrap_u64' (n : Nat) (h : n < 18446744073709551616) : IntKind.u64.wrap (n : Int) = n := IntWalk.u64_in _ (by omega)
structure OutC (F : Nat) (cap : Value) (S : Nat → Prop) (n0 : Nat) (R : List Bool → World → Prop) : Prop where
 enter : ∀ args w, (callFunc F args).run Tryz.prog w = .ok (.enter F args) w
 call : ∀ cur (x n : Nat) (w : World), R cur w → n0 ≤ w.heap.size → x < 18446744073709551616 → n ≤ 64 → cur.length ≤ 1000000000100 → Calls Tryz.prog F #[.int .u64 (x : Nat), .int .i64 (n : Nat), cap] w fun e w' => e = .returned (.tuple #[]) ∧ R (cur ++ qab x n) w' ∧ Keeps (fun k => S k ∨ n0 ≤ k) w w' ∧ ∀ (E : Nat) cs, w.heap[E]? = some (Obj.cells cs 266 (0, 0)) → w'.heap[E]? = some (Obj.cells cs 266 (0, 0))
 keep : ∀ cur (a b : World) (E : Nat) cs, R cur a → a.heap[E]? = some (Obj.cells cs 266 (0, 0)) → Keeps (fun k => k = E) a b → n0 ≤ E → R cur b
 tab : 2 < n0 ∧ ¬ S 2
def qfh (last : Nat) (s : Nat × Nat) (fv : Value) : Array Value := #[.int .u64 (last : Nat), .int .i64 (s.1 : Nat), .int .i64 ((64 - s.1 - s.2 : Nat) : Int), fv]
def IsE (w : World) (E last : Nat) (s : Nat × Nat) (fv : Value) : Prop := w.heap[E]? = some (.cells (qfh last s fv) 266 (0, 0))
theorem IsE.cells {w : World} {E last : Nat} {s : Nat × Nat} {fv : Value} (h : IsE w E last s fv) : w.cell? ⟨E, 0, none⟩ = some (.int .u64 (last : Nat)) ∧ w.cell? ⟨E, 1, none⟩ = some (.int .i64 (s.1 : Nat)) ∧ w.cell? ⟨E, 2, none⟩ = some (.int .i64 ((64 - s.1 - s.2 : Nat) : Int)) ∧ w.cell? ⟨E, 3, none⟩ = some fv ∧
 ∀ j, w.frozen? ⟨E, j, none⟩ = false := by
 refine ⟨?_, ?_, ?_, ?_, fun j => frozen_of_row _ _ _ _ _ h⟩ <;> (rw [cell_of_row _ _ _ _ _ _ h]; rfl)
theorem IsE.set0 {w : World} {E last v : Nat} {s : Nat × Nat} {fv : Value} (h : IsE w E last s fv) : IsE (w.setCell ⟨E, 0, none⟩ (.int .u64 (v : Nat))) E v s fv := by
 have := heap_setCell_same w E 0 _ _ (.int .u64 (v : Nat)) h
 simpa [IsE, qfh] using this
theorem IsE.setW {w : World} {E last : Nat} {s s' : Nat × Nat} {fv : Value} (h : IsE w E last s fv) : IsE ((w.setCell ⟨E, 1, none⟩ (.int .i64 (s'.1 : Nat))).setCell ⟨E, 2, none⟩ (.int .i64 ((64 - s'.1 - s'.2 : Nat) : Int))) E last s' fv := by
 have h1 := heap_setCell_same w E 1 _ _ (.int .i64 (s'.1 : Nat)) h
 have h2 := heap_setCell_same _ E 2 _ _ (.int .i64 ((64 - s'.1 - s'.2 : Nat) : Int)) h1
 simpa [IsE, qfh] using h2
def PutX (S : Nat → Prop) (n0 : Nat) (R : List Bool → World → Prop) (E v : Nat) (s : Nat × Nat) (x : Nat) (cur : List Bool) (fv : Value) (w : World) (e : Ending) (w' : World) : Prop :=
 e = .returned (.tuple #[]) ∧ R (cur ++ bitsX s x) w' ∧ IsE w' E v (newX s x) fv ∧ Keeps (fun k => S k ∨ n0 ≤ k) w w'
section
variable (F : Nat) (cap : Value) (S : Nat → Prop) (n0 : Nat) (R : List Bool → World → Prop) (hO : OutC F cap S n0 R) (E v last : Nat) (s : Nat × Nat) (cur : List Bool) (w : World)
include hO
theorem eput_zero (hE : IsE w E v s (.func (.func F) #[] #[cap])) (hv : v < 18446744073709551616) (hR : R cur w) (hn0 : n0 ≤ E) (hcl : cur.length ≤ 1000000000000) :
 Calls Tryz.prog 149 #[.pointer (some ⟨E, 0, none⟩), .int .u64 (v : Nat)] w (PutX S n0 R E v s 0 cur (.func (.func F) #[] #[cap]) w) := by
 obtain ⟨c0, c1, c2, c3, cf⟩ := hE.cells
 have cf0 := cf 0
 have hx : bits BinOp.xor IntKind.u64 (v : Int) (v : Int) = 0 := by rw [bits_xor_u64_nat v v hv hv, Nat.xor_self]; rfl
 have he := fun args w => hO.enter args w
 obtain ⟨w1, hw1⟩ : ∃ w1, w1 = w.setCell ⟨E, 0, none⟩ (.int .u64 (v : Nat)) := ⟨_, rfl⟩
 have i1 : IsE w1 E v s (.func (.func F) #[] #[cap]) := by rw [hw1]; exact hE.set0
 have kE : Keeps (fun k => k = E) w w1 := by rw [hw1]; exact (Keeps.refl (fun k => k = E) w).setCell (p := ⟨E, 0, none⟩) (fun _ => rfl) _
 have r1 := hO.keep _ _ _ E _ hR hE kE hn0
 have hs1 : n0 ≤ w1.heap.size := Nat.le_trans hn0 (Nat.le_of_lt (Array.getElem?_eq_some_iff.1 i1).1)
 have hc := hO.call cur 0 1 w1 r1 hs1 (by decide) (by decide) (by omega)
 have e1 : cur ++ qab 0 1 = cur ++ bitsX s 0 := by simp [bitsX, qab]
 have e2 : newX s 0 = s := by simp [newX]
 rw [e1] at hc
 have HC := Hj hc; have I1 := Hj i1; have KE := Hj kE; have HW1 := Hj hw1; have E2 := Hj e2
 clear cf hc i1 kE r1 hw1 e1 e2 hR hE
 go_enter Tryz.func149, Tryz.ntmps149
 go_wp2
 rw [← HW1.out]
 refine HC.out.mono ?_
 rintro e w2 ⟨rfl, r2, k2, e2⟩
 have HE2 := Hj (e2 E _ I1.out); have R2 := Hj r2
 have K2 := Hj ((KE.out.mono (fun k _ e => .inr (by rw [e]; exact hn0))).trans k2 (fun _ _ h => h))
 clear r2 k2 e2 c0 c1 c2 c3 cf0
 go_wp2
 go_end0
 exact ⟨rfl, R2.out, by rw [E2.out]; exact HE2.out, K2.out⟩
theorem eput_fits (x : Nat) (hE : IsE w E last s (.func (.func F) #[] #[cap])) (hv : v < 18446744073709551616) (hl : last < 18446744073709551616) (hxx : x = v ^^^ last) (h0 : x ≠ 0) (hf : fitsX s x = true) (hs : s.1 + s.2 ≤ 63) (hR : R cur w) (hn0 : n0 ≤ E) (hcl : cur.length ≤ 1000000000000) (hT : TabZ w) :
 Calls Tryz.prog 149 #[.pointer (some ⟨E, 0, none⟩), .int .u64 (v : Nat)] w (PutX S n0 R E v s x cur (.func (.func F) #[] #[cap]) w) := by
 obtain ⟨c0, c1, c2, c3, cf⟩ := hE.cells
 have cf0 := cf 0
 have hx64 : x < 18446744073709551616 := by rw [hxx]; exact qht hv hl
 have hx : bits BinOp.xor IntKind.u64 (v : Int) (last : Int) = (x : Int) := by rw [bits_xor_u64_nat v last hv hl, hxx]
 have hx0 : ((x : Int) == 0) = false := beq_eq_false_iff_ne.2 (by omega)
 have he := fun args w => hO.enter args w
 obtain ⟨w1, hw1⟩ : ∃ w1, w1 = w.setCell ⟨E, 0, none⟩ (.int .u64 (v : Nat)) := ⟨_, rfl⟩
 have i1 : IsE w1 E v s (.func (.func F) #[] #[cap]) := by rw [hw1]; exact hE.set0
 have kE : Keeps (fun k => k = E) w w1 := by rw [hw1]; exact (Keeps.refl (fun k => k = E) w).setCell (p := ⟨E, 0, none⟩) (fun _ => rfl) _
 have r1 := hO.keep _ _ _ E _ hR hE kE hn0
 have hs1 : n0 ≤ w1.heap.size := Nat.le_trans hn0 (Nat.le_of_lt (Array.getElem?_eq_some_iff.1 i1).1)
 have hbE : 2 < E := Nat.lt_of_lt_of_le hO.tab.1 hn0
 have t1 := hT.keeps kE (by omega)
 obtain ⟨d0, d1, d2, d3, df⟩ := i1.cells
 have hfit := fits_any E x s w1 hx64 h0 (.inr hs) d1 d2 t1
 rw [hf] at hfit
 have hnew : newX s x = s := by unfold newX; rw [if_neg h0, if_pos hf]
 have hbits : bitsX s x = [true, false] ++ qab (x / 2 ^ s.2) (64 - s.1 - s.2) := by unfold bitsX headX; rw [if_neg h0, if_pos hf, hnew]
 obtain ⟨a, ha⟩ : ∃ a, a = s.1 := ⟨_, rfl⟩
 obtain ⟨b, hb⟩ : ∃ b, b = s.2 := ⟨_, rfl⟩
 obtain ⟨c, hc⟩ : ∃ c, c = 64 - a - b := ⟨_, rfl⟩
 rw [← ha, ← hb, ← hc] at hbits
 rw [← ha, ← hb] at hs
 have hcells : qfh v s (.func (.func F) #[] #[cap]) = #[.int .u64 (v : Nat), .int .i64 (a : Nat), .int .i64 (c : Nat), .func (.func F) #[] #[cap]] := by rw [hc, ha, hb]; rfl
 have hxs : x / 2 ^ b < 18446744073709551616 := Nat.lt_of_le_of_lt (Nat.div_le_self _ _) hx64
 have I1 := Hj i1; have KE := Hj kE; have HW1 := Hj hw1; have HNEW := Hj hnew; have HB := Hj hbits; have HFIT := Hj hfit; have R1 := Hj r1; have HC := Hj hc; have HCE := Hj hcells; have HF := Hj hf; have H0 := Hj h0; have HA := Hj ha; have HBB := Hj hb; have D3 := Hj d3
 clear cf i1 kE r1 hw1 hR hE hxx hnew hbits hfit d0 d1 d2 d3 df t1 hT hc hcells hf h0 ha hb
 go_enter Tryz.func149, Tryz.ntmps149
 go_wp2_with fail
 rw [← HW1.out]
 refine HFIT.out.mono ?_
 rintro e w2 ⟨rfl, k2⟩
 have i2 := k2.heap I1.out (fun h => h)
 have r2 := hO.keep _ _ _ E _ R1.out I1.out (k2.mono (fun _ _ h => h.elim)) hn0
 have c3' : w2.cell? ⟨E, 3, none⟩ = some (.func (.func F) #[] #[cap]) := k2.cell D3.out (fun h => h)
 have hs2 : n0 ≤ w2.heap.size := Nat.le_trans hs1 k2.size
 have hcall := hO.call cur 2 2 w2 r2 hs2 (by decide) (by decide) (by omega)
 have HCALL := Hj hcall; have I2 := Hj i2
 have K2 := Hj ((KE.out.mono (S' := fun k => S k ∨ n0 ≤ k) (fun k _ e => .inr (by rw [e]; exact hn0))).trans k2 (fun _ _ h => h.elim))
 clear hcall i2 r2 k2 c0 c1 c2 c3 cf0 hx
 go_wp2
 refine HCALL.out.mono ?_
 rintro e w3 ⟨rfl, r3, k3, e3⟩
 have i3 := e3 E _ I2.out
 rw [HCE.out] at i3
 have f1 : w3.cell? ⟨E, 1, none⟩ = some (.int .i64 (a : Nat)) := by rw [cell_of_row _ _ _ _ _ _ i3]; rfl
 have f2 : w3.cell? ⟨E, 2, none⟩ = some (.int .i64 (c : Nat)) := by rw [cell_of_row _ _ _ _ _ _ i3]; rfl
 have f3 : w3.cell? ⟨E, 3, none⟩ = some (.func (.func F) #[] #[cap]) := by rw [cell_of_row _ _ _ _ _ _ i3]; rfl
 have I3 := Hj i3; have R3 := Hj r3; have K3 := Hj (K2.out.trans k3 (fun _ _ h => h))
 have hs3 : n0 ≤ w3.heap.size := Nat.le_trans hs2 k3.size
 clear i3 r3 k3 e3 c3'
 have htr : 64 - a - c = b := by have := HC.out; omega
 have HTR := Hj htr
 have hshr : ((x / 2 ^ b : Nat) : Int) = (x : Int) / 2 ^ b := by rw [Int.natCast_ediv]; simp
 have hcl3 : (cur ++ qab 2 2).length ≤ 1000000000100 := by rw [List.length_append, qad]; omega
 have hc64 : c ≤ 64 := by have := HC.out; omega
 clear htr
 go_wp2
 go_region_held3 (fun w' => w'.cell? ⟨E, 1, none⟩ = some (.int .i64 (a : Nat)) ∧ w'.cell? ⟨E, 2, none⟩ = some (.int .i64 (c : Nat)) ∧ w'.cell? ⟨E, 3, none⟩ = some (.func (.func F) #[] #[cap])) (go_keep)
  (first
    | (go_at_call 152
       go_must (
        refine (qgd a c _ (by have := HC.out; omega)).mono ?_
        rw [HTR.out]
        rintro e wb ⟨rfl, kb⟩
        have kb3 : Keeps (fun _ => False) w3 wb := ((Keeps.refl (fun _ => False) w3).drew).trans kb (fun _ _ h => h)
        have sB1 := kb3.cell (p := ⟨E, 1, none⟩) f1 (fun h => h)
        have sB2 := kb3.cell (p := ⟨E, 2, none⟩) f2 (fun h => h)
        have sB3 := kb3.cell (p := ⟨E, 3, none⟩) f3 (fun h => h)
        have iB := Hj (kb3.heap I3.out (fun h => h))
        have HOUT := Hj (hO.call (cur ++ qab 2 2) (x / 2 ^ b) c wb (hO.keep _ _ _ E _ R3.out I3.out (kb3.mono (fun _ _ h => h.elim)) hn0) (Nat.le_trans hs3 kb3.size) hxs hc64 hcl3)
        have KB3 := Hj kb3
        clear kb kb3))
    | ((
        refine HOUT.out.mono ?_
        rintro e wc ⟨rfl, rc, kc, ec⟩
        have iC := ec E _ iB.out
        have sC1 : wc.cell? ⟨E, 1, none⟩ = some (.int .i64 (a : Nat)) := by rw [cell_of_row _ _ _ _ _ _ iC]; rfl
        have sC2 : wc.cell? ⟨E, 2, none⟩ = some (.int .i64 (c : Nat)) := by rw [cell_of_row _ _ _ _ _ _ iC]; rfl
        have sC3 : wc.cell? ⟨E, 3, none⟩ = some (.func (.func F) #[] #[cap]) := by rw [cell_of_row _ _ _ _ _ _ iC]; rfl
        have IC := Hj iC
        have RC := Hj rc
        have KC := Hj kc
        clear iC rc kc ec)))
 clear hcl3 hshr
 go_end0
 have hb22 : qab 2 2 = [true, false] := by decide
 refine ⟨rfl, ?_, ?_, (K3.out.trans KB3.out (fun _ _ h => h.elim)).trans KC.out (fun _ _ h => h)⟩
 · have := RC.out
   rw [List.append_assoc, hb22, ← HB.out] at this
   exact this
 · rw [HNEW.out]
   unfold IsE
   rw [HCE.out]
   exact IC.out
theorem eput_new (x : Nat) (hE : IsE w E last s (.func (.func F) #[] #[cap])) (hv : v < 18446744073709551616) (hl : last < 18446744073709551616) (hxx : x = v ^^^ last) (h0 : x ≠ 0) (hf : fitsX s x = false) (hs : okWin s) (hR : R cur w) (hn0 : n0 ≤ E) (hcl : cur.length ≤ 1000000000000) (hT : TabZ w) :
 Calls Tryz.prog 149 #[.pointer (some ⟨E, 0, none⟩), .int .u64 (v : Nat)] w (PutX S n0 R E v s x cur (.func (.func F) #[] #[cap]) w) := by
 obtain ⟨c0, c1, c2, c3, cf⟩ := hE.cells
 have cf0 := cf 0
 have hx64 : x < 18446744073709551616 := by rw [hxx]; exact qht hv hl
 have hx : bits BinOp.xor IntKind.u64 (v : Int) (last : Int) = (x : Int) := by rw [bits_xor_u64_nat v last hv hl, hxx]
 have hx0 : ((x : Int) == 0) = false := beq_eq_false_iff_ne.2 (by omega)
 have he := fun args w => hO.enter args w
 obtain ⟨w1, hw1⟩ : ∃ w1, w1 = w.setCell ⟨E, 0, none⟩ (.int .u64 (v : Nat)) := ⟨_, rfl⟩
 have i1 : IsE w1 E v s (.func (.func F) #[] #[cap]) := by rw [hw1]; exact hE.set0
 have kE : Keeps (fun k => k = E) w w1 := by rw [hw1]; exact (Keeps.refl (fun k => k = E) w).setCell (p := ⟨E, 0, none⟩) (fun _ => rfl) _
 have r1 := hO.keep _ _ _ E _ hR hE kE hn0
 have hs1 : n0 ≤ w1.heap.size := Nat.le_trans hn0 (Nat.le_of_lt (Array.getElem?_eq_some_iff.1 i1).1)
 have hbE : 2 < E := Nat.lt_of_lt_of_le hO.tab.1 hn0
 have t1 := hT.keeps kE (by omega)
 obtain ⟨d0, d1, d2, d3, df⟩ := i1.cells
 have hfit := fits_any E x s w1 hx64 h0 hs d1 d2 t1
 rw [hf] at hfit
 have hlt := lz_tz hx64 h0
 have hwin := qev x
 have hnew : newX s x = (lz x, tz x) := by unfold newX; rw [if_neg h0, if_neg (by simp [hf])]
 have hbits : bitsX s x = [true, true] ++ qab (lz x) 6 ++ qab (63 - lz x - tz x) 6 ++ qab (x / 2 ^ tz x) (64 - lz x - tz x) := by
  unfold bitsX headX; rw [if_neg h0, if_neg (by simp [hf]), hnew]
 have hwin := fun w' (h : TabZ w') => qev x w' hx64 h0 h
 obtain ⟨a, ha⟩ : ∃ a, a = lz x := ⟨_, rfl⟩
 obtain ⟨b, hb⟩ : ∃ b, b = tz x := ⟨_, rfl⟩
 obtain ⟨c, hc⟩ : ∃ c, c = 64 - a - b := ⟨_, rfl⟩
 obtain ⟨m, hm⟩ : ∃ m, m = 63 - a - b := ⟨_, rfl⟩
 rw [← ha, ← hb] at hbits hwin hlt hnew
 rw [← hc, ← hm] at hbits
 rw [← hc] at hwin
 have hcells : qfh v (a, b) (.func (.func F) #[] #[cap]) = #[.int .u64 (v : Nat), .int .i64 (a : Nat), .int .i64 (c : Nat), .func (.func F) #[] #[cap]] := by rw [hc]; rfl
 have HWIN := Hj hwin; have HM := Hj hm
 have hxs : x / 2 ^ b < 18446744073709551616 := Nat.lt_of_le_of_lt (Nat.div_le_self _ _) hx64
 have I1 := Hj i1; have KE := Hj kE; have HW1 := Hj hw1; have HNEW := Hj hnew; have HB := Hj hbits; have HFIT := Hj hfit; have R1 := Hj r1; have HC := Hj hc; have HCE := Hj hcells; have HF := Hj hf; have H0 := Hj h0; have HA := Hj ha; have HBB := Hj hb; have D3 := Hj d3; have T1 := Hj t1
 clear cf i1 kE r1 hw1 hR hE hxx hnew hbits hfit d0 d1 d2 d3 df t1 hT hc hcells hf h0 ha hb hwin hm hs
 go_enter Tryz.func149, Tryz.ntmps149
 go_wp2_with fail
 rw [← HW1.out]
 refine HFIT.out.mono ?_
 rintro e w2 ⟨rfl, k2⟩
 have i2 := k2.heap I1.out (fun h => h)
 have r2 := hO.keep _ _ _ E _ R1.out I1.out (k2.mono (fun _ _ h => h.elim)) hn0
 have t2 := T1.out.keeps k2 (fun h => h)
 have K2 := Hj ((KE.out.mono (S' := fun k => S k ∨ n0 ≤ k) (fun k _ e => .inr (by rw [e]; exact hn0))).trans k2 (fun _ _ h => h.elim))
 have hs2 : n0 ≤ w2.heap.size := Nat.le_trans hs1 k2.size
 have I2 := Hj i2; have R2 := Hj r2; have T2 := Hj t2
 clear i2 r2 k2 t2 c0 c1 c2 c3 cf0 hx
 go_wp2_with fail
 refine (HWIN.out _ T2.out).mono ?_
 rintro e w3 ⟨rfl, k3⟩
 have i3 := k3.heap I2.out (fun h => h)
 have r3 := hO.keep _ _ _ E _ R2.out I2.out (k3.mono (fun _ _ h => h.elim)) hn0
 have hs3 : n0 ≤ w3.heap.size := Nat.le_trans hs2 k3.size
 obtain ⟨c0, c1, c2, c3, cf⟩ := IsE.cells i3
 have cf1 := cf 1
 have cf2 := cf 2
 have K3 := Hj (K2.out.trans k3 (fun _ _ h => h.elim))
 have I3 := Hj i3; have R3 := Hj r3
 clear cf i3 r3 k3
 go_wp2
 obtain ⟨w4, hw4⟩ : ∃ w4, w4 = (w3.setCell ⟨E, 1, none⟩ (.int .i64 (a : Nat))).setCell ⟨E, 2, none⟩ (.int .i64 (c : Nat)) := ⟨_, rfl⟩
 rw [← hw4]
 have i4 : IsE w4 E v (a, b) (.func (.func F) #[] #[cap]) := by rw [hw4, HC.out]; exact IsE.setW (s' := (a, b)) I3.out
 have k4 : Keeps (fun k => k = E) w3 w4 := by rw [hw4]; exact ((Keeps.refl (fun k => k = E) w3).setCell (p := ⟨E, 1, none⟩) (fun _ => rfl) _).setCell (p := ⟨E, 2, none⟩) (fun _ => rfl) _
 have r4 := hO.keep _ _ _ E _ R3.out I3.out k4 hn0
 have hs4 : n0 ≤ w4.heap.size := Nat.le_trans hs3 k4.size
 unfold IsE at i4
 rw [HCE.out] at i4
 have K4 := Hj (K3.out.trans k4 (fun k _ e => .inr (by rw [e]; exact hn0)))
 have I4 := Hj i4; have R4 := Hj r4
 clear i4 k4 r4 hw4 c0 c1 c2 c3 cf1 cf2
 refine (hO.call cur 3 2 w4 R4.out hs4 (by decide) (by decide) (by omega)).mono ?_
 rintro e w5 ⟨rfl, r5, k5, e5⟩
 have i5 := e5 E _ I4.out
 have f1 : w5.cell? ⟨E, 1, none⟩ = some (.int .i64 (a : Nat)) := by rw [cell_of_row _ _ _ _ _ _ i5]; rfl
 have f2 : w5.cell? ⟨E, 2, none⟩ = some (.int .i64 (c : Nat)) := by rw [cell_of_row _ _ _ _ _ _ i5]; rfl
 have f3 : w5.cell? ⟨E, 3, none⟩ = some (.func (.func F) #[] #[cap]) := by rw [cell_of_row _ _ _ _ _ _ i5]; rfl
 have I5 := Hj i5; have R5 := Hj r5; have K5 := Hj (K4.out.trans k5 (fun _ _ h => h))
 have hs5 : n0 ≤ w5.heap.size := Nat.le_trans hs4 k5.size
 clear i5 r5 k5 e5
 have ew1 : IntKind.u64.wrap (a : Int) = a := wrap_u64' a (by omega)
 go_wp2
 have HOUT6 := Hj (hO.call (cur ++ qab 3 2) a 6 w5.drew (hO.keep _ _ _ E _ R5.out I5.out ((Keeps.refl (fun k => k = E) w5).drew) hn0) hs5 (by omega) (by decide) (by simp only [List.length_append, qad]; omega))
 have J5 : Hid (w5.drew.heap[E]? = some (.cells #[.int .u64 (v : Nat), .int .i64 (a : Nat), .int .i64 (c : Nat), .func (.func F) #[] #[cap]] 266 (0, 0))) := Hj I5.out
 go_region_held3 (fun w' => w'.cell? ⟨E, 1, none⟩ = some (.int .i64 (a : Nat)) ∧ w'.cell? ⟨E, 2, none⟩ = some (.int .i64 (c : Nat)) ∧ w'.cell? ⟨E, 3, none⟩ = some (.func (.func F) #[] #[cap])) (go_keep)
  ((refine HOUT6.out.mono ?_
    rintro e w6 ⟨rfl, rc, kc, ec⟩
    have iC := ec E _ J5.out
    have g1 : w6.cell? ⟨E, 1, none⟩ = some (.int .i64 (a : Nat)) := by rw [cell_of_row _ _ _ _ _ _ iC]; rfl
    have g2 : w6.cell? ⟨E, 2, none⟩ = some (.int .i64 (c : Nat)) := by rw [cell_of_row _ _ _ _ _ _ iC]; rfl
    have g3 : w6.cell? ⟨E, 3, none⟩ = some (.func (.func F) #[] #[cap]) := by rw [cell_of_row _ _ _ _ _ _ iC]; rfl
    have I6 := Hj iC
    have R6 := Hj rc
    have KC6 := Hj kc
    clear iC rc kc ec))
 have K6 := Hj (((K5.out.drew)).trans KC6.out (fun _ _ h => h))
 have hs6 : n0 ≤ w6.heap.size := Nat.le_trans hs5 KC6.out.size
 clear f1 f2 f3 HOUT6 KC6
 have f1 := g1
 have f2 := g2
 have f3 := g3
 clear g1 g2 g3
 clear ew1
 have ew1 : (c : Int) - 1 = (m : Int) := by have := HC.out; have := HM.out; omega
 have ew2 : IntKind.i64.wrap (m : Int) = m := qcj m (by have := HM.out; omega)
 have ew3 : IntKind.u64.wrap (m : Int) = m := wrap_u64' m (by have := HM.out; omega)
 have ew4 : IntKind.i64.wrap ((c : Int) - 1) = m := by rw [ew1, ew2]
 have hm63 : m ≤ 63 := by have := HM.out; omega
 go_wp2
 have HOUT7 := Hj (hO.call (cur ++ qab 3 2 ++ qab a 6) m 6 w6.drew (hO.keep _ _ _ E _ R6.out I6.out ((Keeps.refl (fun k => k = E) w6).drew) hn0) hs6 (by omega) (by decide) (by simp only [List.length_append, qad]; omega))
 have J6 : Hid (w6.drew.heap[E]? = some (.cells #[.int .u64 (v : Nat), .int .i64 (a : Nat), .int .i64 (c : Nat), .func (.func F) #[] #[cap]] 266 (0, 0))) := Hj I6.out
 go_region_held3 (fun w' => w'.cell? ⟨E, 1, none⟩ = some (.int .i64 (a : Nat)) ∧ w'.cell? ⟨E, 2, none⟩ = some (.int .i64 (c : Nat)) ∧ w'.cell? ⟨E, 3, none⟩ = some (.func (.func F) #[] #[cap])) (go_keep)
  ((refine HOUT7.out.mono ?_
    rintro e w7 ⟨rfl, rc, kc, ec⟩
    have iC := ec E _ J6.out
    have g1 : w7.cell? ⟨E, 1, none⟩ = some (.int .i64 (a : Nat)) := by rw [cell_of_row _ _ _ _ _ _ iC]; rfl
    have g2 : w7.cell? ⟨E, 2, none⟩ = some (.int .i64 (c : Nat)) := by rw [cell_of_row _ _ _ _ _ _ iC]; rfl
    have g3 : w7.cell? ⟨E, 3, none⟩ = some (.func (.func F) #[] #[cap]) := by rw [cell_of_row _ _ _ _ _ _ iC]; rfl
    have I7 := Hj iC
    have R7 := Hj rc
    have KC7 := Hj kc
    clear iC rc kc ec))
 have K7 := Hj (((K6.out.drew)).trans KC7.out (fun _ _ h => h))
 have hs7 : n0 ≤ w7.heap.size := Nat.le_trans hs6 KC7.out.size
 clear f1 f2 f3 HOUT7 KC7
 have f1 := g1
 have f2 := g2
 have f3 := g3
 clear g1 g2 g3
 clear ew1 ew2 ew3 ew4
 have htr : 64 - a - c = b := by have := HC.out; omega
 have HTR := Hj htr
 have hshr : ((x / 2 ^ b : Nat) : Int) = (x : Int) / 2 ^ b := by rw [Int.natCast_ediv]; simp
 have hcl3 : (cur ++ qab 3 2 ++ qab a 6 ++ qab m 6).length ≤ 1000000000100 := by simp only [List.length_append, qad]; omega
 have hc64 : c ≤ 64 := by have := HC.out; omega
 clear htr
 go_wp2
 go_region_held3 (fun w' => w'.cell? ⟨E, 1, none⟩ = some (.int .i64 (a : Nat)) ∧ w'.cell? ⟨E, 2, none⟩ = some (.int .i64 (c : Nat)) ∧ w'.cell? ⟨E, 3, none⟩ = some (.func (.func F) #[] #[cap])) (go_keep)
  (first
    | (go_at_call 152
       go_must (
        refine (qgd a c _ (by have := HC.out; omega)).mono ?_
        rw [HTR.out]
        rintro e wb ⟨rfl, kb⟩
        have kb3 : Keeps (fun _ => False) w7 wb := ((Keeps.refl (fun _ => False) w7).drew).trans kb (fun _ _ h => h)
        have sB1 := kb3.cell (p := ⟨E, 1, none⟩) f1 (fun h => h)
        have sB2 := kb3.cell (p := ⟨E, 2, none⟩) f2 (fun h => h)
        have sB3 := kb3.cell (p := ⟨E, 3, none⟩) f3 (fun h => h)
        have iB := Hj (kb3.heap I7.out (fun h => h))
        have HOUT := Hj (hO.call (cur ++ qab 3 2 ++ qab a 6 ++ qab m 6) (x / 2 ^ b) c wb (hO.keep _ _ _ E _ R7.out I7.out (kb3.mono (fun _ _ h => h.elim)) hn0) (Nat.le_trans hs7 kb3.size) hxs hc64 hcl3)
        have KB3 := Hj kb3
        clear kb kb3))
    | ((
        refine HOUT.out.mono ?_
        rintro e wc ⟨rfl, rc, kc, ec⟩
        have iC := ec E _ iB.out
        have sC1 : wc.cell? ⟨E, 1, none⟩ = some (.int .i64 (a : Nat)) := by rw [cell_of_row _ _ _ _ _ _ iC]; rfl
        have sC2 : wc.cell? ⟨E, 2, none⟩ = some (.int .i64 (c : Nat)) := by rw [cell_of_row _ _ _ _ _ _ iC]; rfl
        have sC3 : wc.cell? ⟨E, 3, none⟩ = some (.func (.func F) #[] #[cap]) := by rw [cell_of_row _ _ _ _ _ _ iC]; rfl
        have IC := Hj iC
        have RC := Hj rc
        have KC := Hj kc
        clear iC rc kc ec)))
 clear hcl3 hshr
 go_end0
 have hb22 : qab 3 2 = [true, true] := by decide
 refine ⟨rfl, ?_, ?_, (K7.out.trans KB3.out (fun _ _ h => h.elim)).trans KC.out (fun _ _ h => h)⟩
 · have := RC.out
   have e : cur ++ qab 3 2 ++ qab a 6 ++ qab m 6 ++ qab (x / 2 ^ b) c = cur ++ bitsX s x := by rw [HB.out, hb22]; simp only [List.append_assoc]
   rwa [e] at this
 · rw [HNEW.out]
   unfold IsE
   rw [HCE.out]
   exact IC.out
end
end
section
set_option maxHeartbeats 2000000
set_option maxRecDepth 100000
open Go.RowKit
def formCells : Array Value := #[.int .u64 0, .int .i64 1, .int .i64 0, .int .u64 2, .int .i64 2, .int .i64 7, .int .u64 6, .int .i64 3, .int .i64 12, .int .u64 14, .int .i64 4, .int .i64 32, .int .u64 15, .int .i64 4, .int .i64 64]
def TabF (w : World) : Prop := ∃ t fr, w.heap[0]? = some (.cells formCells t fr)
theorem TabF.keeps {S : Nat → Prop} {a b : World} (h : TabF a) (k : Keeps S a b) (hS : ¬ S 0) : TabF b := by
 obtain ⟨t, fr, h⟩ := h
 exact ⟨t, fr, k.heap h hS⟩
theorem TabF.pos {a : World} (h : TabF a) : 0 < a.heap.size := by
 obtain ⟨t, fr, h⟩ := h
 exact (Array.getElem?_eq_some_iff.1 h).1
theorem qex {w : World} {g i : Nat} {cs : Array Value} {t : TypeId} {fr : Nat × Nat} {v : Value} (h : w.heap[g]? = some (.cells cs t fr)) (hv : cs[i]? = some v) : w.cell? ⟨g, i, none⟩ = some v := by
 simp [World.cell?, h, hv]
theorem TabF.cell {a : World} (h : TabF a) (k : Nat) (hk : k ≤ 4) : a.cell? ⟨0, k * 3, none⟩ = some (.int .u64 ((fBits k : Nat) : Int)) ∧ a.cell? ⟨0, k * 3 + 1, none⟩ = some (.int .i64 ((fLen k : Nat) : Int)) ∧ a.cell? ⟨0, k * 3 + 2, none⟩ = some (.int .i64 ((fWidth k : Nat) : Int)) := by
 obtain ⟨t, fr, h⟩ := h
 have hc : k = 0 ∨ k = 1 ∨ k = 2 ∨ k = 3 ∨ k = 4 := by omega
 rcases hc with rfl | rfl | rfl | rfl | rfl <;> exact ⟨qex h rfl, qex h rfl, qex h rfl⟩
theorem ext7 (X : Nat) : wrap64 (IntKind.u64.wrap ((X : Int) * 144115188075855872)) / 144115188075855872 = ext X 7 := by
 unfold wrap64 ext; rw [IntKind.wrap_u64]; simp; split <;> omega
theorem ext12 (X : Nat) : wrap64 (IntKind.u64.wrap ((X : Int) * 4503599627370496)) / 4503599627370496 = ext X 12 := by
 unfold wrap64 ext; rw [IntKind.wrap_u64]; simp; split <;> omega
theorem ext32 (X : Nat) : wrap64 (IntKind.u64.wrap ((X : Int) * 4294967296)) / 4294967296 = ext X 32 := by
 unfold wrap64 ext; rw [IntKind.wrap_u64]; simp; split <;> omega
theorem ext64 (X : Nat) : wrap64 (X : Int) = ext X 64 := by
 unfold wrap64 ext; simp; split <;> omega
theorem extend_any (X k : Nat) (w : World) (hX : X < 18446744073709551616) (hk : k ≤ 4) : Calls Tryz.prog 96 #[.int .u64 X, .int .i64 (fWidth k : Nat)] w fun e w' => e = .returned (.int .i64 (ext X (fWidth k))) ∧ w = w' := by
 have hc : k = 0 ∨ k = 1 ∨ k = 2 ∨ k = 3 ∨ k = 4 := by omega
 rcases hc with rfl | rfl | rfl | rfl | rfl
 · show Calls Tryz.prog 96 #[.int .u64 X, .int .i64 0] w _
   go_enter Tryz.func96, Tryz.ntmps96
   go_wp2
   go_ret
   exact ⟨rfl, rfl⟩
 · have H := Hj (ext7 X)
   show Calls Tryz.prog 96 #[.int .u64 X, .int .i64 7] w _
   go_enter Tryz.func96, Tryz.ntmps96
   go_wp2
   go_ret
   exact ⟨qdw H.out, rfl⟩
 · have H := Hj (ext12 X)
   show Calls Tryz.prog 96 #[.int .u64 X, .int .i64 12] w _
   go_enter Tryz.func96, Tryz.ntmps96
   go_wp2
   go_ret
   exact ⟨qdw H.out, rfl⟩
 · have H := Hj (ext32 X)
   show Calls Tryz.prog 96 #[.int .u64 X, .int .i64 32] w _
   go_enter Tryz.func96, Tryz.ntmps96
   go_wp2
   go_ret
   exact ⟨qdw H.out, rfl⟩
 · have H := Hj (ext64 X)
   have hu : IntKind.u64.wrap (X : Int) = X := IntWalk.u64_in _ (by omega)
   show Calls Tryz.prog 96 #[.int .u64 X, .int .i64 64] w _
   go_enter Tryz.func96, Tryz.ntmps96
   go_wp2
   go_ret
   exact ⟨qdw H.out, rfl⟩
theorem qbx (X k : Nat) (c : Int) (w : World) (hX : X < 18446744073709551616) (hk : k ≤ 4) (hc : ((fWidth k : Nat) : Int) = c) : Calls Tryz.prog 96 #[.int .u64 X, .int .i64 c] w fun e w' => e = .returned (.int .i64 (ext X (fWidth k))) ∧ w = w' := by
 rw [← hc]; exact extend_any X k w hX hk
theorem formsSize : (Tryz.prog.info? 110).map (·.size) = some formCells.size := by kernel_rfl
theorem qkp (x : Int) (w : World) (hx : inI x) (hT : TabF w) :
 Calls Tryz.prog 42 #[.int .i64 x] w fun e w' => e = .returned (.int .i64 ((formI x : Nat) : Int)) ∧ Keeps (fun _ => False) w w' := by
 have hTT := hT
 obtain ⟨t, fr, hT⟩ := hT
 have i0 : ∀ w, (Instr.index 110 (.agg formCells) (.int .i64 0)).run Tryz.prog w = .ok (.agg #[.int .u64 0, .int .i64 1, .int .i64 0]) w := fun _ => by kernel_rfl
 have i1 : ∀ w, (Instr.index 110 (.agg formCells) (.int .i64 1)).run Tryz.prog w = .ok (.agg #[.int .u64 2, .int .i64 2, .int .i64 7]) w := fun _ => by kernel_rfl
 have i2 : ∀ w, (Instr.index 110 (.agg formCells) (.int .i64 2)).run Tryz.prog w = .ok (.agg #[.int .u64 6, .int .i64 3, .int .i64 12]) w := fun _ => by kernel_rfl
 have i3 : ∀ w, (Instr.index 110 (.agg formCells) (.int .i64 3)).run Tryz.prog w = .ok (.agg #[.int .u64 14, .int .i64 4, .int .i64 32]) w := fun _ => by kernel_rfl
 have i4 : ∀ w, (Instr.index 110 (.agg formCells) (.int .i64 4)).run Tryz.prog w = .ok (.agg #[.int .u64 15, .int .i64 4, .int .i64 64]) w := fun _ => by kernel_rfl
 have hU : IntKind.u64.wrap x = ((U x : Nat) : Int) := U_wrap x
 have hUl := U_lt x
 have HX := Hj hx
 go_enter Tryz.func42, Tryz.ntmps42
 go_wp2_with (refine wpList_load_row rfl 110 (.global 0) rfl 0 rfl t formCells fr _ hT Tryz.underlying110 rfl formsSize ?_)
 go_loopw [6] (fun i wr => ∃ c : Int, (c = 0 ∨ c = 1 ∨ c = 2 ∨ c = 3 ∨ c = 4) ∧ i = .int .i64 c ∧ c.toNat ≤ formI x ∧ Keeps (fun _ => False) w wr) (fun i _ => 5 - (intOf i).toNat)
 case atStart => exact ⟨0, .inl rfl, rfl, Nat.zero_le _, Keeps.refl _ _⟩
 case round =>
  obtain ⟨c, hc, rfl, hle, hkw⟩ := hrel
  have hf4 := qhu x
  clear hT hTT
  rcases hc with rfl | rfl | rfl | rfl | rfl
  · have hle0 : 0 ≤ formI x := by simp
    by_cases hf : formI x ≤ 0
    · have hy := (ext_eq x HX.out 0 (by decide)).2 hf
      have hk : formI x = 0 := by omega
      have HK := Hj hk; have HY := Hj hy
      clear hf hk hy hle hle0 hf4
      go_wp2_with (go_at_call 96; refine (qbx (U x) 0 0 _ hUl (by decide) rfl).mono ?_; rw [HY.out]; rintro e w1 ⟨rfl, rfl⟩)
      go_ret
      exact ⟨by rw [HK.out]; rfl, hkw.alloc _⟩
    · have hy : (ext (U x) (fWidth 0) == x) = false := by
       rw [beq_eq_false_iff_ne]
       exact fun e => hf ((ext_eq x HX.out 0 (by decide)).1 e)
      obtain ⟨y, hye⟩ : ∃ y, y = ext (U x) (fWidth 0) := ⟨_, rfl⟩
      rw [← hye] at hy
      have HYE := Hj hye
      have hk : 1 ≤ formI x := by omega
      have HK := Hj hk
      clear hf hye hle hle0 hf4 hk
      go_wp2_with (go_at_call 96; refine (qbx (U x) 0 0 _ hUl (by decide) rfl).mono ?_; rw [← HYE.out]; rintro e w1 ⟨rfl, rfl⟩)
      exact ⟨⟨1, by simp, rfl, HK.out, hkw.alloc _⟩, by simp [intOf]⟩
  · have hle1 : 1 ≤ formI x := by simpa using hle
    by_cases hf : formI x ≤ 1
    · have hy := (ext_eq x HX.out 1 (by decide)).2 hf
      have hk : formI x = 1 := by omega
      have HK := Hj hk; have HY := Hj hy
      clear hf hk hy hle hle1 hf4
      go_wp2_with (go_at_call 96; refine (qbx (U x) 1 7 _ hUl (by decide) rfl).mono ?_; rw [HY.out]; rintro e w1 ⟨rfl, rfl⟩)
      go_ret
      exact ⟨by rw [HK.out]; rfl, hkw.alloc _⟩
    · have hy : (ext (U x) (fWidth 1) == x) = false := by
       rw [beq_eq_false_iff_ne]
       exact fun e => hf ((ext_eq x HX.out 1 (by decide)).1 e)
      obtain ⟨y, hye⟩ : ∃ y, y = ext (U x) (fWidth 1) := ⟨_, rfl⟩
      rw [← hye] at hy
      have HYE := Hj hye
      have hk : 2 ≤ formI x := by omega
      have HK := Hj hk
      clear hf hye hle hle1 hf4 hk
      go_wp2_with (go_at_call 96; refine (qbx (U x) 1 7 _ hUl (by decide) rfl).mono ?_; rw [← HYE.out]; rintro e w1 ⟨rfl, rfl⟩)
      exact ⟨⟨2, by simp, rfl, HK.out, hkw.alloc _⟩, by simp [intOf]⟩
  · have hle2 : 2 ≤ formI x := by simpa using hle
    by_cases hf : formI x ≤ 2
    · have hy := (ext_eq x HX.out 2 (by decide)).2 hf
      have hk : formI x = 2 := by omega
      have HK := Hj hk; have HY := Hj hy
      clear hf hk hy hle hle2 hf4
      go_wp2_with (go_at_call 96; refine (qbx (U x) 2 12 _ hUl (by decide) rfl).mono ?_; rw [HY.out]; rintro e w1 ⟨rfl, rfl⟩)
      go_ret
      exact ⟨by rw [HK.out]; rfl, hkw.alloc _⟩
    · have hy : (ext (U x) (fWidth 2) == x) = false := by
       rw [beq_eq_false_iff_ne]
       exact fun e => hf ((ext_eq x HX.out 2 (by decide)).1 e)
      obtain ⟨y, hye⟩ : ∃ y, y = ext (U x) (fWidth 2) := ⟨_, rfl⟩
      rw [← hye] at hy
      have HYE := Hj hye
      have hk : 3 ≤ formI x := by omega
      have HK := Hj hk
      clear hf hye hle hle2 hf4 hk
      go_wp2_with (go_at_call 96; refine (qbx (U x) 2 12 _ hUl (by decide) rfl).mono ?_; rw [← HYE.out]; rintro e w1 ⟨rfl, rfl⟩)
      exact ⟨⟨3, by simp, rfl, HK.out, hkw.alloc _⟩, by simp [intOf]⟩
  · have hle3 : 3 ≤ formI x := by simpa using hle
    by_cases hf : formI x ≤ 3
    · have hy := (ext_eq x HX.out 3 (by decide)).2 hf
      have hk : formI x = 3 := by omega
      have HK := Hj hk; have HY := Hj hy
      clear hf hk hy hle hle3 hf4
      go_wp2_with (go_at_call 96; refine (qbx (U x) 3 32 _ hUl (by decide) rfl).mono ?_; rw [HY.out]; rintro e w1 ⟨rfl, rfl⟩)
      go_ret
      exact ⟨by rw [HK.out]; rfl, hkw.alloc _⟩
    · have hy : (ext (U x) (fWidth 3) == x) = false := by
       rw [beq_eq_false_iff_ne]
       exact fun e => hf ((ext_eq x HX.out 3 (by decide)).1 e)
      obtain ⟨y, hye⟩ : ∃ y, y = ext (U x) (fWidth 3) := ⟨_, rfl⟩
      rw [← hye] at hy
      have HYE := Hj hye
      have hk : 4 ≤ formI x := by omega
      have HK := Hj hk
      clear hf hye hle hle3 hf4 hk
      go_wp2_with (go_at_call 96; refine (qbx (U x) 3 32 _ hUl (by decide) rfl).mono ?_; rw [← HYE.out]; rintro e w1 ⟨rfl, rfl⟩)
      exact ⟨⟨4, by simp, rfl, HK.out, hkw.alloc _⟩, by simp [intOf]⟩
  · have hle4 : 4 ≤ formI x := by simpa using hle
    by_cases hf : formI x ≤ 4
    · have hy := (ext_eq x HX.out 4 (by decide)).2 hf
      have hk : formI x = 4 := by omega
      have HK := Hj hk; have HY := Hj hy
      clear hf hk hy hle hle4 hf4
      go_wp2_with (go_at_call 96; refine (qbx (U x) 4 64 _ hUl (by decide) rfl).mono ?_; rw [HY.out]; rintro e w1 ⟨rfl, rfl⟩)
      go_ret
      exact ⟨by rw [HK.out]; rfl, hkw.alloc _⟩
    · omega
end
section
set_option maxHeartbeats 8000000
set_option maxRecDepth 1000000
open Go.RowKit
theorem uIns_at (w0 w : World) (blk off cap sz a b : Nat) (d : Array Nat) (h : Arr w0 w blk off d) (hs : d.size = sz) (hab : a ≤ b) (hb : b ≤ sz) (hsz : sz ≤ 1099511627776) :
 Calls Tryz.prog 217 #[.slice (some ⟨blk, off, none⟩) sz cap, .int .i64 (a : Int), .int .i64 (b : Int)] w fun e w' => e = .returned (.tuple #[]) ∧ ∃ d', Go.Sort.PermIn a b d d' ∧ Go.Sort.SortedIn ltN a b d' ∧ Arr w0 w' blk off d' := by
 subst hs
 obtain ⟨h1, h2⟩ := Go.Sort.insertionSort_holds qih d a b hab hb
 refine (uIns_any w0 w blk off cap a b d h hab hb hsz).mono ?_
 rintro e w' ⟨rfl, hA⟩
 exact ⟨rfl, _, h1, h2, hA⟩
theorem uHeap_at (w0 w : World) (blk off cap sz a b : Nat) (d : Array Nat) (h : Arr w0 w blk off d) (hs : d.size = sz) (hab : a < b) (hb : b ≤ sz) (hsz : sz ≤ 1099511627776) :
 Calls Tryz.prog 218 #[.slice (some ⟨blk, off, none⟩) sz cap, .int .i64 (a : Int), .int .i64 (b : Int)] w fun e w' => e = .returned (.tuple #[]) ∧ ∃ d', Go.Sort.PermIn a b d d' ∧ Go.Sort.SortedIn ltN a b d' ∧ Arr w0 w' blk off d' := by
 subst hs
 obtain ⟨h1, h2⟩ := Go.Sort.heapSort_holds qih d a b (by omega) hb
 refine (uHeap_any w0 w blk off cap a b d h hab hb hsz).mono ?_
 rintro e w' ⟨rfl, hA⟩
 exact ⟨rfl, _, h1, h2, hA⟩
theorem uRev_at (w0 w : World) (blk off cap sz a b : Nat) (d : Array Nat) (h : Arr w0 w blk off d) (hs : d.size = sz) (hab : a < b) (hb : b ≤ sz) (hsz : sz ≤ 1099511627776) :
 Calls Tryz.prog 221 #[.slice (some ⟨blk, off, none⟩) sz cap, .int .i64 (a : Int), .int .i64 (b : Int)] w fun e w' => e = .returned (.tuple #[]) ∧ ∃ d', Go.Sort.PermIn a b d d' ∧ Arr w0 w' blk off d' := by
 subst hs
 have h1 := Go.Sort.reverseRange_holds d a b (by omega) hb
 refine (uRev_any w0 w blk off cap a b d h hab hb hsz).mono ?_
 rintro e w' ⟨rfl, hA⟩
 exact ⟨rfl, _, h1, hA⟩
theorem uBreak_at (w0 w : World) (blk off cap sz a b : Nat) (d : Array Nat) (h : Arr w0 w blk off d) (hs : d.size = sz) (hab : a + 12 < b) (hb : b ≤ sz) (hsz : sz ≤ 1099511627776) :
 Calls Tryz.prog 219 #[.slice (some ⟨blk, off, none⟩) sz cap, .int .i64 (a : Int), .int .i64 (b : Int)] w fun e w' => e = .returned (.tuple #[]) ∧ ∃ d', Go.Sort.PermIn a b d d' ∧ Arr w0 w' blk off d' := by
 subst hs
 exact uBreak_any w0 w blk off cap a b d h hab hb hsz
theorem uPiv_at (w0 w : World) (blk off cap sz a b : Nat) (d : Array Nat) (h : Arr w0 w blk off d) (hs : d.size = sz) (hab : a + 12 < b) (hb : b ≤ sz) (hsz : sz ≤ 1099511627776) :
 Calls Tryz.prog 220 #[.slice (some ⟨blk, off, none⟩) sz cap, .int .i64 (a : Int), .int .i64 (b : Int)] w fun e w' =>
  (∃ r s : Nat, e = .returned (.tuple #[.int .i64 (r : Int), .int .i64 (s : Int)]) ∧ a ≤ r ∧ r < b ∧ s ≤ 2) ∧ Arr w0 w' blk off d := by
 subst hs
 exact uPiv_any w0 w blk off cap a b d h hab hb hsz
theorem uPins_at (w0 w : World) (blk off cap sz a b : Nat) (d : Array Nat) (h : Arr w0 w blk off d) (hs : d.size = sz) (hab : a < b) (hb : b ≤ sz) (hsz : sz ≤ 1099511627776) (hB : Go.Sort.Below ltN a b d) :
 Calls Tryz.prog 222 #[.slice (some ⟨blk, off, none⟩) sz cap, .int .i64 (a : Int), .int .i64 (b : Int)] w fun e w' =>
  ∃ c d', e = .returned (.bool c) ∧ Go.Sort.PermIn a b d d' ∧ (c = true → Go.Sort.SortedIn ltN a b d') ∧ Arr w0 w' blk off d' := by
 subst hs
 obtain ⟨h1, h2⟩ := Go.Sort.partialInsertionSort_holds qih d a b hab hb hB
 refine (uPins_any w0 w blk off cap a b d h hab hb hsz).mono ?_
 rintro e w' ⟨rfl, hA⟩
 exact ⟨_, _, rfl, h1, h2, hA⟩
theorem uPeq_at (w0 w : World) (blk off cap sz a b p : Nat) (d : Array Nat) (h : Arr w0 w blk off d) (hs : d.size = sz) (hap : a ≤ p) (hpb : p < b) (hb : b ≤ sz) (hsz : sz ≤ 1099511627776) :
 Calls Tryz.prog 223 #[.slice (some ⟨blk, off, none⟩) sz cap, .int .i64 (a : Int), .int .i64 (b : Int), .int .i64 (p : Int)] w fun e w' =>
  ∃ (m : Nat) (d' : Array Nat), e = .returned (.int .i64 (m : Int)) ∧ Go.Sort.partitionEqual ltN d a b p = (m, d') ∧ Arr w0 w' blk off d' := by
 subst hs
 refine (uPeq_any w0 w blk off cap a b p d h hap hpb hb hsz).mono ?_
 rintro e w' ⟨rfl, hA⟩
 exact ⟨_, _, rfl, rfl, hA⟩
theorem uPar_at (w0 w : World) (blk off cap sz a b p : Nat) (d : Array Nat) (h : Arr w0 w blk off d) (hs : d.size = sz) (hap : a ≤ p) (hpb : p < b) (hb : b ≤ sz) (hsz : sz ≤ 1099511627776) :
 Calls Tryz.prog 224 #[.slice (some ⟨blk, off, none⟩) sz cap, .int .i64 (a : Int), .int .i64 (b : Int), .int .i64 (p : Int)] w fun e w' =>
  ∃ (m : Nat) (c ap : Bool) (d' : Array Nat), e = .returned (.tuple #[.int .i64 (m : Int), .bool c]) ∧ Go.Sort.partition ltN d a b p = (m, ap, d') ∧ Arr w0 w' blk off d' := by
 subst hs
 refine (uPar_any w0 w blk off cap a b p d h hap hpb hb hsz).mono ?_
 rintro e w' ⟨⟨c, rfl⟩, hA⟩
 exact ⟨_, c, _, _, rfl, rfl, hA⟩
def Rest (a b a' b' : Nat) (d dk : Array Nat) : Prop := ∀ R, Go.Sort.PermIn a' b' dk R → Go.Sort.SortedIn ltN a' b' R → Go.Sort.PermIn a b d R ∧ Go.Sort.SortedIn ltN a b R
theorem Rest.perm {a b a' b' : Nat} {d dk dl : Array Nat} (h : Rest a b a' b' d dk) (hp : Go.Sort.PermIn a' b' dk dl) : Rest a b a' b' d dl := fun R h1 h2 => h R (Go.Sort.permIn_trans _ _ _ a' b' hp h1) h2
theorem Rest.eq {a b a' b' p m : Nat} {d dk dl : Array Nat} (h : Rest a b a' b' d dk) (ha : 0 < a') (hp1 : a' ≤ p) (hp2 : p < b') (hb : b' ≤ dk.size) (hB : Go.Sort.Below ltN a' b' dk) (hn : ltN dk[a' - 1]! dk[p]! = false)
 (hx : Go.Sort.partitionEqual ltN dk a' b' p = (m, dl)) : a' < m ∧ m ≤ b' ∧ dl.size = dk.size ∧ Go.Sort.Below ltN m b' dl ∧ Rest a b m b' d dl := by
 obtain ⟨r1, r2, r3, r4, r5⟩ := Go.Sort.round_eq qih (Go.Sort.partitionEqual_holds ltN) ha hp1 hp2 hb hB hn hx
 exact ⟨r1, r2, r3, r4, fun R h1 h2 => h R (r5 R h1 h2).1 (r5 R h1 h2).2⟩
theorem Rest.part {a b a' b' p m : Nat} {ap : Bool} {d dk dl : Array Nat} (h : Rest a b a' b' d dk) (hp1 : a' ≤ p) (hp2 : p < b') (hb : b' ≤ dk.size) (hB : Go.Sort.Below ltN a' b' dk)
 (hx : Go.Sort.partition ltN dk a' b' p = (m, ap, dl)) : a' ≤ m ∧ m < b' ∧ dl.size = dk.size ∧ Go.Sort.Below ltN a' m dl ∧ Go.Sort.Below ltN (m + 1) b' dl ∧
   (∀ L, Go.Sort.PermIn a' m dl L → Go.Sort.SortedIn ltN a' m L → Go.Sort.Below ltN (m + 1) b' L ∧ Rest a b (m + 1) b' d L) ∧
   (∀ L, Go.Sort.PermIn (m + 1) b' dl L → Go.Sort.SortedIn ltN (m + 1) b' L → Go.Sort.Below ltN a' m L ∧ Rest a b a' m d L) := by
 obtain ⟨r1, r2, r3, r4, r5, r6, r7⟩ := Go.Sort.round_part qih (Go.Sort.partition_holds ltN) hp1 hp2 hb hB hx
 refine ⟨r1, r2, r3, r4, r5, fun L h1 h2 => ⟨(r6 L h1 h2).1, fun R h3 h4 => ?_⟩, fun L h1 h2 => ⟨(r7 L h1 h2).1, fun R h3 h4 => ?_⟩⟩
 · have := (r6 L h1 h2).2 R h3 h4; exact h R this.1 this.2
 · have := (r7 L h1 h2).2 R h3 h4; exact h R this.1 this.2
theorem uPdq_n (n : Nat) : ∀ (w0 w : World) (blk off cap sz a b limit : Nat) (d : Array Nat), b - a < n → Arr w0 w blk off d → d.size = sz → a ≤ b → b ≤ sz → sz ≤ 1099511627776 → limit ≤ 1099511627776 → Go.Sort.Below ltN a b d →
 Calls Tryz.prog 191 #[.slice (some ⟨blk, off, none⟩) sz cap, .int .i64 (a : Int), .int .i64 (b : Int), .int .i64 (limit : Int)] w fun e w' => e = .returned (.tuple #[]) ∧ ∃ d', Go.Sort.PermIn a b d d' ∧ Go.Sort.SortedIn ltN a b d' ∧ Arr w0 w' blk off d' := by
 induction n with
 | zero => intro _ _ _ _ _ _ _ _ _ _ h; omega
 | succ n ih =>
   intro w0 w blk off cap sz a b limit d hn h hs hab hb hsz hlim hB
   have IH := Hj ih
   have HH := Hj h; have HB := Hj hB
   clear ih h hB
   have HR0 : Hid (Rest a b a b d d) := Hj (fun R h1 h2 => ⟨h1, h2⟩)
   go_enter Tryz.func191, Tryz.ntmps191
   go_wp2
   go_loopg [1, 2, 3, 8, 9] (b - a) (fun k s1 s2 s3 s8 s9 wr => ∃ (a' b' lim : Nat) (wb wp : Bool) (dk : Array Nat), s1 = .int .i64 (a' : Int) ∧ s2 = .int .i64 (b' : Int) ∧ s3 = .int .i64 (lim : Int) ∧ s8 = .bool wb ∧ s9 = .bool wp ∧
    a' ≤ b' ∧ b' ≤ sz ∧ b' - a' ≤ k ∧ k ≤ b - a ∧ lim ≤ limit ∧ dk.size = sz ∧ Hid (Go.Sort.Below ltN a' b' dk) ∧ Hid (Arr w0 wr blk off dk) ∧ Hid (Rest a b a' b' d dk))
   case atStart => exact ⟨a, b, limit, true, true, d, rfl, rfl, rfl, rfl, rfl, hab, hb, Nat.le_refl _, Nat.le_refl _, Nat.le_refl _, hs, HB, HH, HR0⟩
   case round =>
    clear HH HB HR0
    obtain ⟨a', b', lim, wb, wp, dk, rfl, rfl, rfl, rfl, rfl, hab', hb', hk, hkN, hlim', hds, HB, HA, HR⟩ := hrel
    by_cases h12 : b' - a' ≤ 12
    · have h12z : (b' : Int) - (a' : Int) ≤ 12 := by omega
      have HC := Hj (uIns_at w0 wr blk off cap sz a' b' dk HA.out hds hab' hb' hsz)
      clear h12
      go_wp2_with (go_at_call 217; refine HC.out.mono ?_; rintro e w1 ⟨rfl, d1, hp1, hs1, hA1⟩)
      (try simp only [Exit.inBlock, Exit.then]); refine bodyPost_ret (results_none rfl _ _ _) rfl ?_
      exact ⟨rfl, d1, (HR.out d1 hp1 hs1).1, (HR.out d1 hp1 hs1).2, hA1⟩
    · have h12z : ¬ ((b' : Int) - (a' : Int) ≤ 12) := by omega
      by_cases hl0 : lim = 0
      · subst hl0
        have HC := Hj (uHeap_at w0 wr blk off cap sz a' b' dk HA.out hds (by omega) hb' hsz)
        go_wp2_with (go_at_call 218; refine HC.out.mono ?_; rintro e w1 ⟨rfl, d1, hp1, hs1, hA1⟩)
        (try simp only [Exit.inBlock, Exit.then]); refine bodyPost_ret (results_none rfl _ _ _) rfl ?_
        exact ⟨rfl, d1, (HR.out d1 hp1 hs1).1, (HR.out d1 hp1 hs1).2, hA1⟩
      · have hl0z : ¬ ((lim : Int) = 0) := by omega
        have h12b : a' + 12 < b' := by omega
        go_upto_if 35 with fail
        go_cut [3] from 19 to 133 (fun s3 wc => ∃ (l1 : Nat) (d1 : Array Nat), s3 = .int .i64 (l1 : Int) ∧ l1 ≤ limit ∧ d1.size = sz ∧ Hid (Arr w0 wc blk off d1) ∧ Hid (Go.Sort.PermIn a' b' dk d1))
        case first =>
         cases wb
         · have HC := Hj (uBreak_at w0 wr blk off cap sz a' b' dk HA.out hds h12b hb' hsz)
           go_wp2_with (go_at_call 219; refine HC.out.mono ?_; rintro e w1 ⟨rfl, d1, hp1, hA1⟩)
           go_meet
           case rel => exact ⟨lim - 1, d1, by congr 1; omega, by omega, by rw [hp1.1, hds], Hj hA1, Hj hp1⟩
         · go_wp2_with fail
           go_meet
           case rel => exact ⟨lim, dk, rfl, hlim', hds, HA, Hj (Go.Sort.permIn_refl dk a' b')⟩
        case rest =>
         obtain ⟨l1, d1, rfl, hl1, hs1, HA1, HP1⟩ := hcut
         have HC := Hj (uPiv_at w0 wc blk off cap sz a' b' d1 HA1.out hs1 h12b hb' hsz)
         go_upto_if 50 with (go_at_call 220; refine HC.out.mono ?_; rintro e w2 ⟨⟨r, s, rfl, hr1, hr2, hs2⟩, hA2⟩)
         go_cut [11, 12] from 19 to 133 (fun s11 s12 wc => ∃ (p t : Nat) (d2 : Array Nat), s11 = .int .i64 (p : Int) ∧ s12 = .int .i64 (t : Int) ∧ a' ≤ p ∧ p < b' ∧ t ≤ 1 ∧ d2.size = sz ∧ Hid (Arr w0 wc blk off d2) ∧ Hid (Go.Sort.PermIn a' b' d1 d2))
         case first =>
          by_cases hs2' : s = 2
          · subst hs2'
            have HC2 := Hj (uRev_at w0 w2 blk off cap sz a' b' d1 hA2 hs1 (by omega) hb' hsz)
            go_wp2_with (go_at_call 221; refine HC2.out.mono ?_; rintro e w3 ⟨rfl, d2, hp2, hA3⟩)
            go_meet
            case rel => exact ⟨(b' - 1) - (r - a'), 1, d2, by congr 1; omega, rfl, by omega, by omega, by omega, by rw [hp2.1, hs1], Hj hA3, Hj hp2⟩
          · have hs3 : ¬ (s : Int) = 2 := by omega
            go_wp2_with fail
            go_meet
            case rel => exact ⟨r, s, d1, rfl, rfl, hr1, hr2, by omega, hs1, Hj hA2, Hj (Go.Sort.permIn_refl d1 a' b')⟩
         case rest =>
          clear hA2 hr1 hr2 hs2
          obtain ⟨p, t, d2, rfl, rfl, hap, hpb, ht1, hs3, HA2, HP2⟩ := hcut
          have HPm : Hid (Go.Sort.PermIn a' b' dk d2) := Hj (Go.Sort.permIn_trans _ _ _ a' b' HP1.out HP2.out)
          have HB2 : Hid (Go.Sort.Below ltN a' b' d2) := Hj (HB.out.perm (by omega) HPm.out)
          go_upto_region 15 with fail
          go_cut [12, 68] from 19 to 133 (fun s12 s68 wx => ∃ c : Bool, s12 = .int .i64 (t : Int) ∧ s68 = .bool c ∧ wx = wc)
          case first =>
           by_cases ht0 : t = 1
           · subst ht0
             cases wb <;> cases wp <;>
              (go_wp2_with fail
               go_meet
               exact ⟨_, rfl, rfl, rfl⟩)
           · have ht2 : ¬ (t : Int) = 1 := by omega
             cases wb <;> cases wp <;>
              (go_wp2_with fail
               go_meet
               exact ⟨_, rfl, rfl, rfl⟩)
          case rest =>
           obtain ⟨c, rfl, rfl, rfl⟩ := hcut
           go_upto_if 68 with fail
           go_cut [] from 19 to 133 (fun wx => ∃ (d3 : Array Nat), d3.size = sz ∧ Hid (Arr w0 wx blk off d3) ∧ Hid (Go.Sort.PermIn a' b' dk d3))
           case first =>
            cases c
            · go_wp2_with fail
              go_meet
              case rel => exact ⟨d2, hs3, HA2, HPm⟩
            · have HC3 := Hj (uPins_at w0 wc blk off cap sz a' b' d2 HA2.out hs3 (by omega) hb' hsz HB2.out)
              go_wp2_with (go_at_call 222; refine HC3.out.mono ?_; rintro e w4 ⟨c3, d3, rfl, hp3, hq3, hA3⟩)
              all_goals first
               | (go_meet
                  exact ⟨d3, by rw [hp3.1, hs3], Hj hA3, Hj (Go.Sort.permIn_trans _ _ _ a' b' HPm.out hp3)⟩)
               | ((try simp only [Exit.inBlock, Exit.then]); refine bodyPost_ret (results_none rfl _ _ _) rfl ?_
                  have hq := hq3 (by first | rfl | assumption)
                  have hp := Go.Sort.permIn_trans _ _ _ a' b' HPm.out hp3
                  exact ⟨rfl, d3, (HR.out d3 hp hq).1, (HR.out d3 hp hq).2, hA3⟩)
           case rest =>
            clear HA HA1 HA2 HB2 HC
            obtain ⟨d3, hs4, HA3, HP3⟩ := hcut
            have HR3 : Hid (Rest a b a' b' d d3) := Hj (HR.out.perm HP3.out)
            have HB3 : Hid (Go.Sort.Below ltN a' b' d3) := Hj (HB.out.perm (by omega) HP3.out)
            have hb3 : b' ≤ d3.size := by omega
            go_upto_region 17 with fail
            go_cut [87] from 19 to 133 (fun s87 wx => ∃ c : Bool, s87 = .bool c ∧ (c = true → 0 < a' ∧ ltN d3[a' - 1]! d3[p]! = false) ∧ Hid (Arr w0 wx blk off d3))
            case first =>
             rcases Nat.eq_zero_or_pos a' with ha0 | ha0
             · have ha0z : decide ((0 : Int) < (a' : Int)) = false := decide_eq_false (by omega)
               go_quiet (fail)
               go_wp2_with fail
               go_meet
               case rel => exact ⟨false, rfl, by simp, Hj (HA3.out.drewN nq)⟩
             · have ha0z : (0 : Int) < (a' : Int) := by omega
               obtain ⟨q, hq⟩ : ∃ q, a' = q + 1 := ⟨a' - 1, by omega⟩
               have eq1 : (a' : Int) - 1 = (q : Int) := by omega
               have hqs : (q : Int) < (sz : Int) := by omega
               have hps : (p : Int) < (sz : Int) := by omega
               have c0 := HA3.out.cell q (by omega); have c1 := HA3.out.cell p (by omega)
               obtain ⟨x, hx⟩ : ∃ x, d3[q]! = x := ⟨_, rfl⟩
               obtain ⟨y, hy⟩ : ∃ y, d3[p]! = y := ⟨_, rfl⟩
               rw [hx] at c0
               rw [hy] at c1
               have HX := Hj hx; have HY := Hj hy; have HQ := Hj hq
               clear hx hy hq
               go_quiet ((go_at_call 158; exact Calls.quiet_of_same (qah _ _ _)))
               go_wp2_with fail
               go_meet
               case rel => exact ⟨_, rfl, fun h => ⟨by omega, by rw [show a' - 1 = q by have := HQ.out; omega, HX.out, HY.out]; simpa using h⟩, Hj (HA3.out.drewN nq)⟩
            case rest =>
             clear HA3
             obtain ⟨c, rfl, hc87, HA3⟩ := hcut
             cases c
             · have HC4 := Hj (uPar_at w0 wc blk off cap sz a' b' p d3 HA3.out hs4 hap hpb hb' hsz)
               clear hc87
               go_upto_if 113 with (go_at_call 224; refine HC4.out.mono ?_; rintro e w7 ⟨m, cc, ap, d4, rfl, hx, hA7⟩; obtain ⟨r1, r2, r3, r4, r5, r6, r7⟩ := HR3.out.part hap hpb hb3 HB3.out hx; have HA7 := Hj hA7; have HR6 := Hj r6; have HR7 := Hj r7; have HR4 := Hj r4; have HR5 := Hj r5; have HX := Hj r3; clear hx hA7 r3 r4 r5 r6 r7)
               have hs5 : d4.size = sz := by have := HX.out; omega
               by_cases h4 : m - a' < b' - m
               · have h4z : (m : Int) - (a' : Int) < (b' : Int) - (m : Int) := by omega
                 have HI := Hj (IH.out w0 w7 blk off cap sz a' m l1 d4 (by omega) HA7.out hs5 r1 (by omega) hsz (by omega) HR4.out)
                 go_wp2_with (go_at_call 191; refine HI.out.mono ?_; rintro e w8 ⟨rfl, d5, hp5, hq5, hA8⟩)
                 go_roundg (b' - (m + 1))
                 case measure => omega
                 case rel =>
                  exact ⟨m + 1, b', l1, _, _, d5, by simp, rfl, rfl, rfl, rfl, by omega, hb', Nat.le_refl _, by omega, hl1, by rw [hp5.1, hs5], Hj (HR6.out d5 hp5 hq5).1, Hj hA8, Hj (HR6.out d5 hp5 hq5).2⟩
               · have h4z : ¬ ((m : Int) - (a' : Int) < (b' : Int) - (m : Int)) := by omega
                 have em : (m : Int) + 1 = ((m + 1 : Nat) : Int) := by omega
                 have HI := Hj (IH.out w0 w7 blk off cap sz (m + 1) b' l1 d4 (by omega) HA7.out hs5 (by omega) hb' hsz (by omega) HR5.out)
                 have hm0 : (m : Int) ≤ 1099511627776 := by omega
                 clear em
                 go_wp2_with (go_at_call 191; refine HI.out.mono ?_; rintro e w8 ⟨rfl, d5, hp5, hq5, hA8⟩)
                 go_roundg (m - a')
                 case measure => omega
                 case rel =>
                  exact ⟨a', m, l1, _, _, d5, rfl, rfl, rfl, rfl, rfl, r1, by omega, Nat.le_refl _, by omega, hl1, by rw [hp5.1, hs5], Hj (HR7.out d5 hp5 hq5).1, Hj hA8, Hj (HR7.out d5 hp5 hq5).2⟩
             · have hc1 := (hc87 rfl).1; have hc2 := (hc87 rfl).2
               have HC4 := Hj (uPeq_at w0 wc blk off cap sz a' b' p d3 HA3.out hs4 hap hpb hb' hsz)
               have HC2 := Hj hc2
               clear hc87 hc2
               go_wp2_with (go_at_call 223; refine HC4.out.mono ?_; rintro e w7 ⟨m, d4, rfl, hx, hA7⟩)
               obtain ⟨r1, r2, r3, r4, r5⟩ := HR3.out.eq hc1 hap hpb hb3 HB3.out HC2.out hx
               go_roundg (b' - m)
               case measure => omega
               case rel =>
                exact ⟨m, b', l1, wb, wp, d4, rfl, rfl, rfl, rfl, rfl, r2, hb', Nat.le_refl _, by omega, hl1, by omega, Hj r4, Hj hA7, Hj r5⟩
end
section
set_option maxHeartbeats 2000000
set_option maxRecDepth 100000
open Go.RowKit Go.Shelf
attribute [local go_sem] Oper.semAt_some
def encI (x : Int) : Array Value := #[.int .i64 x]
theorem i64s_nil {l : List Int} (h : l = []) : i64s l = [] := by rw [h]; rfl
theorem ownI_lt {w : World} {v : Value} {l : List Int} (h : Holds w v (i64s l)) {k : Nat} (hk : ownH v l k) : k < w.heap.size := by
 obtain ⟨g, hg, hlt⟩ := h.lt (fun e => hk.1 (by cases l <;> simp_all [i64s]))
 have h2 := hk.2
 rw [hg] at h2
 simp only [Option.some.injEq] at h2
 omega
theorem qir {w : World} {ad : Option Addr} {cap : Nat} {l : List Int} (h : Holds w (.slice ad l.length cap) (i64s l)) {j : Nat} {y : Int} (hj : l[j]? = some y) :
 ∃ b off, ad = some ⟨b, off, none⟩ ∧ w.cell? ⟨b, off + j, none⟩ = some (.int .i64 y) := by
 obtain ⟨b, off, cap', hv, hc⟩ := h.index (j := j) (u := .int .i64 y) (by simp [i64s, hj])
 simp only [Value.slice.injEq] at hv
 exact ⟨b, off, hv.1, hc⟩
def qec (d : Int) (l : List Int) (j : Nat) : List Int := match l[j - 1]? with | some t => chgF d t (l.drop j) | none => []
theorem chgFrom_one (l : List Int) : qec 0 l 1 = qbh l := by cases l <;> simp [qec, qbh]
theorem W_wrap64 (x : Int) : wrap64 x = W x := (IntWalk.i64_left x).symm
theorem chgFrom_step {d t s : Int} {l : List Int} {j : Nat} (ht : l[j - 1]? = some t) (hs : l[j]? = some s) : qec d l j = W (W (s - t) - d) :: qec (W (s - t)) l (j + 1) := by
 have hlt : j < l.length := (List.getElem?_eq_some_iff.1 hs).1
 have e : l[j] = s := by rw [List.getElem?_eq_getElem hlt] at hs; simpa using hs
 unfold qec
 rw [ht, Nat.add_sub_cancel, hs]
 simp only
 rw [List.drop_eq_getElem_cons hlt, e]
 rfl
theorem chgFrom_end {d : Int} {l : List Int} {j : Nat} (h : l.length ≤ j) : qec d l j = [] := by
 unfold qec
 split
 · rw [List.drop_eq_nil_of_le h]; rfl
 · rfl
theorem changes_seq (Bx : Nat) (v : Value) (l : List Int) (w : World) (hl : l.length ≤ 140737488351232) (hc : w.cell? ⟨Bx, 0, none⟩ = some v) (h : Holds w v (i64s l)) (hX : ∀ x ∈ l, inI x) :
 SeqR Tryz.prog 95 #[.pointer (some ⟨Bx, 0, none⟩)] encI (fun k => k = Bx ∨ ownH v l k) (fun _ => False) (fun xs => xs = qbh l) (fun pre => pre <+: qbh l) w := by
 intro L J Jx W0 hW hJ hJx hY h0
 have hc1 : W0.cell? ⟨Bx, 0, none⟩ = some v := hW.cell hc (fun h => h (.inl rfl))
 have h1 : Holds W0 v (i64s l) := h.keepsH hW i64s_nil (fun g hg hn => hn (.inr hg))
 have HH := Hj h1; have HX := Hj hX
 obtain ⟨ad, cap, rfl, hcap, hcells⟩ := h1
 clear hcells h hc hW hX
 rw [qil] at hcap hc1 HH hY
 refine callsIn_of_wp Tryz.func95 rfl trivial ?_ rfl
 simp only [Tryz.ntmps95, List.size_toArray, List.length_cons, List.length_nil, Nat.reduceAdd, Nat.reduceSub, Array.replicate_succ, Array.replicate_zero, List.push_toArray, List.append_toArray, List.nil_append, List.cons_append]
 have HY := Hj hY
 have HJ := Hj hJ
 have HJx := Hj hJx
 clear hY hJ hJx
 gi_wp2
 gi_loopw [3, 4] (fun t3 t4 wr => ∃ (j : Nat) (d : Int) (pre : List Int), 1 ≤ j ∧ (j ≤ l.length ∨ j = 1) ∧ t3 = .int .i64 d ∧ t4 = .int .i64 j ∧ inI d ∧ pre ++ qec d l j = qbh l ∧ wr.cell? ⟨Bx, 0, none⟩ = some (.slice ad l.length cap) ∧ Holds wr (.slice ad l.length cap) (i64s l) ∧ J pre wr)
  (fun _ t4 wr => l.length - (intOf t4).toNat)
 case atStart => exact ⟨1, 0, [], by omega, .inr rfl, rfl, rfl, by unfold inI; omega, by rw [chgFrom_one]; rfl, hc1, HH.out, h0⟩
 case round =>
  obtain ⟨j, d, pre, hj1, hj, rfl, rfl, hd, hx, hcb, hh, hJp⟩ := hrel
  clear hc1 h0
  by_cases hlt : j < l.length
  · obtain ⟨s, hs⟩ : ∃ s, l[j]? = some s := ⟨l[j], by simp [hlt]⟩
    obtain ⟨t, ht⟩ : ∃ t, l[j - 1]? = some t := ⟨l[j - 1], List.getElem?_eq_getElem (by omega)⟩
    obtain ⟨b, off, rfl, hcs⟩ := qir hh hs
    obtain ⟨b', off', hbo, hct⟩ := qir hh ht
    simp only [Option.some.injEq, Addr.mk.injEq] at hbo
    obtain ⟨rfl, rfl, -⟩ := hbo
    rw [chgFrom_step ht hs] at hx
    obtain ⟨d2, hd2⟩ : ∃ d2, d2 = W (s - t) := ⟨_, rfl⟩
    obtain ⟨x, hxx⟩ : ∃ x, x = W (d2 - d) := ⟨_, rfl⟩
    rw [← hd2, ← hxx] at hx
    have w1 : IntKind.i64.wrap (s - t) = d2 := hd2.symm
    have w2 : wrap64 (s - t) = d2 := by rw [hd2, W_wrap64]
    have w3 : IntKind.i64.wrap (d2 - d) = x := hxx.symm
    have w4 : wrap64 (d2 - d) = x := by rw [hxx, W_wrap64]
    have hdI : inI d2 := by rw [hd2]; exact W_in _
    obtain ⟨j1, hj1e⟩ : ∃ j1, j1 = j - 1 := ⟨_, rfl⟩
    rw [← hj1e] at hct
    have w5 : (j : Int) - 1 = j1 := by omega
    have w6 : IntKind.i64.wrap (j1 : Int) = j1 := qcj j1 (by omega)
    have w7 : IntKind.i64.wrap ((j : Int) - 1) = j1 := by rw [w5, w6]
    have hjl : (j : Int) < l.length := by omega
    have hj1l : (j1 : Int) < l.length := by omega
    have hpx : pre ++ [x] <+: qbh l := ⟨qec d2 l (j + 1), by rw [← hx]; simp⟩
    have HX1 := Hj hx; have HPX := Hj hpx; have HJP := Hj hJp; have Hh := Hj hh; have HD2 := Hj hd2; have HXX := Hj hxx; have HJ1 := Hj hj1e; have HDI := Hj hdI
    clear hx hpx hJp hh hd2 hxx hs ht HH hj1e hd hdI hj
    gi_wp2
    gi_quiet (fail)
    obtain ⟨wq, hwq⟩ : ∃ wq, wq = wr.drewN nq := ⟨_, rfl⟩
    rw [← hwq]
    have hcq : wq.cell? ⟨Bx, 0, none⟩ = some (.slice (some ⟨b, off, none⟩) l.length cap) := by rw [hwq]; exact hcb
    have hhq : Holds wq (.slice (some ⟨b, off, none⟩) l.length cap) (i64s l) := Hh.out.keeps (S := fun _ => False) (by rw [hwq]; exact (Keeps.refl _ _).drewN nq) (fun _ _ h => h)
    obtain ⟨fn, tmps, assign, body, hyy, hR⟩ := HY.out pre x wq (HJ.out _ _ _ HJP.out (by rw [hwq]; exact (Keeps.refl _ _).drewN nq)) HPX.out
    simp only [encI] at hyy
    have HHQ := Hj hhq
    clear hwq hhq hcs hct hcb
    gi_wp2
    refine ⟨rfl, hR.mono ?_⟩
    rintro e W3 (⟨rfl, hJ3, hk3⟩ | ⟨rfl, hJx3, hk3⟩)
    · have hc3 := hk3.cell hcq (fun h => h (.inl rfl))
      have hh3 := HHQ.out.keepsH hk3 i64s_nil (fun g hg hs => hs (.inr hg))
      have HJ3 := Hj hJ3; have HH3 := Hj hh3
      clear hJ3 hk3 hh3 hcq
      gi_wp2
      refine ⟨⟨j + 1, d2, pre ++ [x], by omega, .inl (by omega), rfl, by go_num, HDI.out, ?_, hc3, HH3.out, HJ3.out⟩, by simp [intOf]; omega⟩
      rw [← HX1.out]; simp
    · have HJx3 := Hj hJx3
      clear hJx3 hk3 hcq
      gi_wp2
      refine bodyPost_ret (results_none rfl _ _ _) rfl ?_
      exact ⟨⟨_, rfl⟩, .inr ⟨_, HPX.out, HJx3.out⟩⟩
  · rw [chgFrom_end (by omega), List.append_nil] at hx
    have hjl : ¬ (j : Int) < l.length := by omega
    have HX1 := Hj hx; have HJP := Hj hJp
    clear hx hJp hh HH
    gi_wp2
    go_end0
    exact ⟨⟨_, rfl⟩, .inl (by rw [← HX1.out]; exact HJP.out)⟩
theorem qis (ad : Option Addr) (len cap : Nat) (w : World) : Calls Tryz.prog 41 #[.slice ad len cap] w fun e w' => e = .returned (.func (.func 95) #[] #[.pointer (some ⟨w.heap.size, 0, none⟩)]) ∧ w' = w.alloc (.cells #[.slice ad len cap] 54) := by
 have hmf : ∀ (fn : Fn) (first cap : Array Value) (w : World), (Instr.makeFunc fn first cap).run Tryz.prog w = .ok (.func fn first cap) w := fun _ _ _ _ => rfl
 go_enter Tryz.func41, Tryz.ntmps41
 go_wp2
 go_ret
 exact ⟨rfl, rfl⟩
theorem qhj (ad : Option Addr) (cap : Nat) (l : List Int) (w : World) (hl : l.length ≤ 140737488351232) (h : Holds w (.slice ad l.length cap) (i64s l)) (hX : ∀ x ∈ l, inI x) :
 SeqR Tryz.prog 95 #[.pointer (some ⟨w.heap.size, 0, none⟩)] encI (fun k => k = w.heap.size ∨ ownH (.slice ad l.length cap) l k) (fun _ => False) (fun xs => xs = qbh l) (fun pre => pre <+: qbh l) (w.alloc (.cells #[.slice ad l.length cap] 54)) :=
 changes_seq w.heap.size _ l _ hl (by rw [cell_of_row _ _ _ _ _ _ (heap_alloc_new w _)]; rfl) (h.keeps ((Keeps.refl (fun _ => False) w).alloc _) (fun _ _ h => h)) hX
end
section
open Go.RowKit Go.Shelf
attribute [local go_sem] Oper.semAt_some
end
section
open Go.RowKit
end
section
open Go.RowKit
end
end Go.Proofs.YtfpcgcbehdogjaaGreatDoor
