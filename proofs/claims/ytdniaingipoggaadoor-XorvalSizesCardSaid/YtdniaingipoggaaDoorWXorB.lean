/-
  WALKS: the encoder of xorval: put, encode, for a function that takes the bits.
-/
import Derived.Test.YtdniaingipoggaaDoorWXorA
import Derived.Deep.RegionHeld3
import Derived.Deep.DrawnRows
namespace Go.Proofs.YtdniaingipoggaaDoor
open Go.RowKit

theorem wrap_u64' (n : Nat) (h : n < 18446744073709551616) : IntKind.u64.wrap (n : Int) = n := IntWalk.u64_in _ (by omega)
/-- a function that takes bits: behind its calls R holds of the bits that it took -/
structure OutC (F : Nat) (cap : Value) (S : Nat → Prop) (n0 : Nat) (R : List Bool → World → Prop) : Prop where
  enter : ∀ args w, (callFunc F args).run Tryd.prog w = .ok (.enter F args) w
  call : ∀ cur (x n : Nat) (w : World), R cur w → n0 ≤ w.heap.size → x < 18446744073709551616 → n ≤ 64 → cur.length ≤ 1000000000100 → Calls Tryd.prog F #[.int .u64 (x : Nat), .int .i64 (n : Nat), cap] w fun e w' => e = .returned (.tuple #[]) ∧ R (cur ++ fieldBits x n) w' ∧ Keeps (fun k => S k ∨ n0 ≤ k) w w' ∧ ∀ (E : Nat) cs, w.heap[E]? = some (Obj.cells cs 123 (0, 0)) → w'.heap[E]? = some (Obj.cells cs 123 (0, 0))
  keep : ∀ cur (a b : World) (E : Nat) cs, R cur a → a.heap[E]? = some (Obj.cells cs 123 (0, 0)) → Keeps (fun k => k = E) a b → n0 ≤ E → R cur b
  tab : 1 < n0 ∧ ¬ S 1
/-- the encoder's block -/
def encCells (last : Nat) (s : Nat × Nat) (fv : Value) : Array Value := #[.int .u64 (last : Nat), .int .i64 (s.1 : Nat), .int .i64 ((64 - s.1 - s.2 : Nat) : Int), fv]
def IsE (w : World) (E last : Nat) (s : Nat × Nat) (fv : Value) : Prop := w.heap[E]? = some (.cells (encCells last s fv) 123 (0, 0))
theorem IsE.cells {w : World} {E last : Nat} {s : Nat × Nat} {fv : Value} (h : IsE w E last s fv) : w.cell? ⟨E, 0, none⟩ = some (.int .u64 (last : Nat)) ∧ w.cell? ⟨E, 1, none⟩ = some (.int .i64 (s.1 : Nat)) ∧ w.cell? ⟨E, 2, none⟩ = some (.int .i64 ((64 - s.1 - s.2 : Nat) : Int)) ∧ w.cell? ⟨E, 3, none⟩ = some fv ∧
    ∀ j, w.frozen? ⟨E, j, none⟩ = false := by
  refine ⟨?_, ?_, ?_, ?_, fun j => frozen_of_row _ _ _ _ _ h⟩ <;> (rw [cell_of_row _ _ _ _ _ _ h]; rfl)

theorem IsE.set0 {w : World} {E last v : Nat} {s : Nat × Nat} {fv : Value} (h : IsE w E last s fv) : IsE (w.setCell ⟨E, 0, none⟩ (.int .u64 (v : Nat))) E v s fv := by
  have := heap_setCell_same w E 0 _ _ (.int .u64 (v : Nat)) h
  simpa [IsE, encCells] using this
theorem IsE.setW {w : World} {E last : Nat} {s s' : Nat × Nat} {fv : Value} (h : IsE w E last s fv) : IsE ((w.setCell ⟨E, 1, none⟩ (.int .i64 (s'.1 : Nat))).setCell ⟨E, 2, none⟩ (.int .i64 ((64 - s'.1 - s'.2 : Nat) : Int))) E last s' fv := by
  have h1 := heap_setCell_same w E 1 _ _ (.int .i64 (s'.1 : Nat)) h
  have h2 := heap_setCell_same _ E 2 _ _ (.int .i64 ((64 - s'.1 - s'.2 : Nat) : Int)) h1
  simpa [IsE, encCells] using h2
/-- what the encoder's put leaves -/
def PutX (S : Nat → Prop) (n0 : Nat) (R : List Bool → World → Prop) (E v : Nat) (s : Nat × Nat) (x : Nat) (cur : List Bool) (fv : Value) (w : World) (e : Ending) (w' : World) : Prop :=
  e = .returned (.tuple #[]) ∧ R (cur ++ bitsX s x) w' ∧ IsE w' E v (newX s x) fv ∧ Keeps (fun k => S k ∨ n0 ≤ k) w w'
section
variable (F : Nat) (cap : Value) (S : Nat → Prop) (n0 : Nat) (R : List Bool → World → Prop) (hO : OutC F cap S n0 R) (E v last : Nat) (s : Nat × Nat) (cur : List Bool) (w : World)
include hO
set_option maxRecDepth 100000 in
set_option maxHeartbeats 2000000 in
theorem eput_zero (hE : IsE w E v s (.func (.func F) #[] #[cap])) (hv : v < 18446744073709551616) (hR : R cur w) (hn0 : n0 ≤ E) (hcl : cur.length ≤ 1000000000000) :
    Calls Tryd.prog 70 #[.pointer (some ⟨E, 0, none⟩), .int .u64 (v : Nat)] w (PutX S n0 R E v s 0 cur (.func (.func F) #[] #[cap]) w) := by
  obtain ⟨c0, c1, c2, c3, cf⟩ := hE.cells
  have cf0 := cf 0
  have hx : bits BinOp.xor IntKind.u64 (v : Int) (v : Int) = 0 := by rw [bits_xor_u64_nat v v hv hv, Nat.xor_self]; rfl
  have he := fun args w => hO.enter args w
  obtain ⟨w1, hw1⟩ : ∃ w1, w1 = w.setCell ⟨E, 0, none⟩ (.int .u64 (v : Nat)) := ⟨_, rfl⟩
  have i1 : IsE w1 E v s (.func (.func F) #[] #[cap]) := by rw [hw1]; exact hE.set0
  have kE : Keeps (fun k => k = E) w w1 := by rw [hw1]; exact (Keeps.refl (fun k => k = E) w).setCell (p := ⟨E, 0, none⟩) (fun _ => rfl) _
  have r1 := hO.keep _ _ _ E _ hR hE kE hn0
  have hs1 : n0 ≤ w1.heap.size := Nat.le_trans hn0 (Nat.le_of_lt (Array.getElem?_eq_some_iff.1 i1).1)
  have hc := hO.call cur 0 1 w1 r1 hs1 (by decide) (by decide) (by omega)
  have e1 : cur ++ fieldBits 0 1 = cur ++ bitsX s 0 := by simp [bitsX, fieldBits]
  have e2 : newX s 0 = s := by simp [newX]
  rw [e1] at hc
  have HC := Lib.hid hc; have I1 := Lib.hid i1; have KE := Lib.hid kE; have HW1 := Lib.hid hw1; have E2 := Lib.hid e2
  clear cf hc i1 kE r1 hw1 e1 e2 hR hE
  go_enter Tryd.func70, Tryd.ntmps70
  go_wp2
  rw [← HW1.out]
  refine HC.out.mono ?_
  rintro e w2 ⟨rfl, r2, k2, e2⟩
  have HE2 := Lib.hid (e2 E _ I1.out); have R2 := Lib.hid r2
  have K2 := Lib.hid ((KE.out.mono (fun k _ e => .inr (by rw [e]; exact hn0))).trans k2 (fun _ _ h => h))
  clear r2 k2 e2 c0 c1 c2 c3 cf0
  go_wp2
  go_end0
  exact ⟨rfl, R2.out, by rw [E2.out]; exact HE2.out, K2.out⟩
set_option maxRecDepth 100000 in
set_option maxHeartbeats 4000000 in
theorem eput_fits (x : Nat) (hE : IsE w E last s (.func (.func F) #[] #[cap])) (hv : v < 18446744073709551616) (hl : last < 18446744073709551616) (hxx : x = v ^^^ last) (h0 : x ≠ 0) (hf : fitsX s x = true) (hs : s.1 + s.2 ≤ 63) (hR : R cur w) (hn0 : n0 ≤ E) (hcl : cur.length ≤ 1000000000000) (hT : TabZ w) :
    Calls Tryd.prog 70 #[.pointer (some ⟨E, 0, none⟩), .int .u64 (v : Nat)] w (PutX S n0 R E v s x cur (.func (.func F) #[] #[cap]) w) := by
  obtain ⟨c0, c1, c2, c3, cf⟩ := hE.cells
  have cf0 := cf 0
  have hx64 : x < 18446744073709551616 := by rw [hxx]; exact xor_lt64 hv hl
  have hx : bits BinOp.xor IntKind.u64 (v : Int) (last : Int) = (x : Int) := by rw [bits_xor_u64_nat v last hv hl, hxx]
  have hx0 : ((x : Int) == 0) = false := beq_eq_false_iff_ne.2 (by omega)
  have he := fun args w => hO.enter args w
  obtain ⟨w1, hw1⟩ : ∃ w1, w1 = w.setCell ⟨E, 0, none⟩ (.int .u64 (v : Nat)) := ⟨_, rfl⟩
  have i1 : IsE w1 E v s (.func (.func F) #[] #[cap]) := by rw [hw1]; exact hE.set0
  have kE : Keeps (fun k => k = E) w w1 := by rw [hw1]; exact (Keeps.refl (fun k => k = E) w).setCell (p := ⟨E, 0, none⟩) (fun _ => rfl) _
  have r1 := hO.keep _ _ _ E _ hR hE kE hn0
  have hs1 : n0 ≤ w1.heap.size := Nat.le_trans hn0 (Nat.le_of_lt (Array.getElem?_eq_some_iff.1 i1).1)
  have hbE : 1 < E := Nat.lt_of_lt_of_le hO.tab.1 hn0
  have t1 := hT.keeps kE (by omega)
  obtain ⟨d0, d1, d2, d3, df⟩ := i1.cells
  have hfit := fits_any E x s w1 hx64 h0 (.inr hs) d1 d2 t1
  rw [hf] at hfit
  have hnew : newX s x = s := by unfold newX; rw [if_neg h0, if_pos hf]
  have hbits : bitsX s x = [true, false] ++ fieldBits (x / 2 ^ s.2) (64 - s.1 - s.2) := by unfold bitsX headX; rw [if_neg h0, if_pos hf, hnew]
  obtain ⟨a, ha⟩ : ∃ a, a = s.1 := ⟨_, rfl⟩
  obtain ⟨b, hb⟩ : ∃ b, b = s.2 := ⟨_, rfl⟩
  obtain ⟨c, hc⟩ : ∃ c, c = 64 - a - b := ⟨_, rfl⟩
  rw [← ha, ← hb, ← hc] at hbits
  rw [← ha, ← hb] at hs
  have hcells : encCells v s (.func (.func F) #[] #[cap]) = #[.int .u64 (v : Nat), .int .i64 (a : Nat), .int .i64 (c : Nat), .func (.func F) #[] #[cap]] := by rw [hc, ha, hb]; rfl
  have hxs : x / 2 ^ b < 18446744073709551616 := Nat.lt_of_le_of_lt (Nat.div_le_self _ _) hx64
  have I1 := Lib.hid i1; have KE := Lib.hid kE; have HW1 := Lib.hid hw1; have HNEW := Lib.hid hnew; have HB := Lib.hid hbits; have HFIT := Lib.hid hfit; have R1 := Lib.hid r1; have HC := Lib.hid hc; have HCE := Lib.hid hcells; have HF := Lib.hid hf; have H0 := Lib.hid h0; have HA := Lib.hid ha; have HBB := Lib.hid hb; have D3 := Lib.hid d3
  clear cf i1 kE r1 hw1 hR hE hxx hnew hbits hfit d0 d1 d2 d3 df t1 hT hc hcells hf h0 ha hb
  go_enter Tryd.func70, Tryd.ntmps70
  go_wp2_with fail
  rw [← HW1.out]
  refine HFIT.out.mono ?_
  rintro e w2 ⟨rfl, k2⟩
  have i2 := k2.heap I1.out (fun h => h)
  have r2 := hO.keep _ _ _ E _ R1.out I1.out (k2.mono (fun _ _ h => h.elim)) hn0
  have c3' : w2.cell? ⟨E, 3, none⟩ = some (.func (.func F) #[] #[cap]) := k2.cell D3.out (fun h => h)
  have hs2 : n0 ≤ w2.heap.size := Nat.le_trans hs1 k2.size
  have hcall := hO.call cur 2 2 w2 r2 hs2 (by decide) (by decide) (by omega)
  have HCALL := Lib.hid hcall; have I2 := Lib.hid i2
  have K2 := Lib.hid ((KE.out.mono (S' := fun k => S k ∨ n0 ≤ k) (fun k _ e => .inr (by rw [e]; exact hn0))).trans k2 (fun _ _ h => h.elim))
  clear hcall i2 r2 k2 c0 c1 c2 c3 cf0 hx
  go_wp2
  refine HCALL.out.mono ?_
  rintro e w3 ⟨rfl, r3, k3, e3⟩
  have i3 := e3 E _ I2.out
  rw [HCE.out] at i3
  have f1 : w3.cell? ⟨E, 1, none⟩ = some (.int .i64 (a : Nat)) := by rw [cell_of_row _ _ _ _ _ _ i3]; rfl
  have f2 : w3.cell? ⟨E, 2, none⟩ = some (.int .i64 (c : Nat)) := by rw [cell_of_row _ _ _ _ _ _ i3]; rfl
  have f3 : w3.cell? ⟨E, 3, none⟩ = some (.func (.func F) #[] #[cap]) := by rw [cell_of_row _ _ _ _ _ _ i3]; rfl
  have I3 := Lib.hid i3; have R3 := Lib.hid r3; have K3 := Lib.hid (K2.out.trans k3 (fun _ _ h => h))
  have hs3 : n0 ≤ w3.heap.size := Nat.le_trans hs2 k3.size
  clear i3 r3 k3 e3 c3'
  have htr : 64 - a - c = b := by have := HC.out; omega
  have HTR := Lib.hid htr
  have hshr : ((x / 2 ^ b : Nat) : Int) = (x : Int) / 2 ^ b := by rw [Int.natCast_ediv]; simp
  have hcl3 : (cur ++ fieldBits 2 2).length ≤ 1000000000100 := by rw [List.length_append, fieldBits_length]; omega
  have hc64 : c ≤ 64 := by have := HC.out; omega
  clear htr
  go_wp2
  go_region_held3 (fun w' => w'.cell? ⟨E, 1, none⟩ = some (.int .i64 (a : Nat)) ∧ w'.cell? ⟨E, 2, none⟩ = some (.int .i64 (c : Nat)) ∧ w'.cell? ⟨E, 3, none⟩ = some (.func (.func F) #[] #[cap])) (go_keep)
    (first
      | (go_at_call 67
         go_must (
           refine (trail_any a c _ (by have := HC.out; omega)).mono ?_
           rw [HTR.out]
           rintro e wb ⟨rfl, kb⟩
           have kb3 : Keeps (fun _ => False) w3 wb := ((Keeps.refl (fun _ => False) w3).drew).trans kb (fun _ _ h => h)
           have sB1 := kb3.cell (p := ⟨E, 1, none⟩) f1 (fun h => h)
           have sB2 := kb3.cell (p := ⟨E, 2, none⟩) f2 (fun h => h)
           have sB3 := kb3.cell (p := ⟨E, 3, none⟩) f3 (fun h => h)
           have iB := Lib.hid (kb3.heap I3.out (fun h => h))
           have HOUT := Lib.hid (hO.call (cur ++ fieldBits 2 2) (x / 2 ^ b) c wb (hO.keep _ _ _ E _ R3.out I3.out (kb3.mono (fun _ _ h => h.elim)) hn0) (Nat.le_trans hs3 kb3.size) hxs hc64 hcl3)
           have KB3 := Lib.hid kb3
           clear kb kb3))
      | ((
           refine HOUT.out.mono ?_
           rintro e wc ⟨rfl, rc, kc, ec⟩
           have iC := ec E _ iB.out
           have sC1 : wc.cell? ⟨E, 1, none⟩ = some (.int .i64 (a : Nat)) := by rw [cell_of_row _ _ _ _ _ _ iC]; rfl
           have sC2 : wc.cell? ⟨E, 2, none⟩ = some (.int .i64 (c : Nat)) := by rw [cell_of_row _ _ _ _ _ _ iC]; rfl
           have sC3 : wc.cell? ⟨E, 3, none⟩ = some (.func (.func F) #[] #[cap]) := by rw [cell_of_row _ _ _ _ _ _ iC]; rfl
           have IC := Lib.hid iC
           have RC := Lib.hid rc
           have KC := Lib.hid kc
           clear iC rc kc ec)))
  clear hcl3 hshr
  go_end0
  have hb22 : fieldBits 2 2 = [true, false] := by decide
  refine ⟨rfl, ?_, ?_, (K3.out.trans KB3.out (fun _ _ h => h.elim)).trans KC.out (fun _ _ h => h)⟩
  · have := RC.out
    rw [List.append_assoc, hb22, ← HB.out] at this
    exact this
  · rw [HNEW.out]
    unfold IsE
    rw [HCE.out]
    exact IC.out
set_option maxRecDepth 100000 in
set_option maxHeartbeats 4000000 in
theorem eput_new (x : Nat) (hE : IsE w E last s (.func (.func F) #[] #[cap])) (hv : v < 18446744073709551616) (hl : last < 18446744073709551616) (hxx : x = v ^^^ last) (h0 : x ≠ 0) (hf : fitsX s x = false) (hs : okWin s) (hR : R cur w) (hn0 : n0 ≤ E) (hcl : cur.length ≤ 1000000000000) (hT : TabZ w) :
    Calls Tryd.prog 70 #[.pointer (some ⟨E, 0, none⟩), .int .u64 (v : Nat)] w (PutX S n0 R E v s x cur (.func (.func F) #[] #[cap]) w) := by
  obtain ⟨c0, c1, c2, c3, cf⟩ := hE.cells
  have cf0 := cf 0
  have hx64 : x < 18446744073709551616 := by rw [hxx]; exact xor_lt64 hv hl
  have hx : bits BinOp.xor IntKind.u64 (v : Int) (last : Int) = (x : Int) := by rw [bits_xor_u64_nat v last hv hl, hxx]
  have hx0 : ((x : Int) == 0) = false := beq_eq_false_iff_ne.2 (by omega)
  have he := fun args w => hO.enter args w
  obtain ⟨w1, hw1⟩ : ∃ w1, w1 = w.setCell ⟨E, 0, none⟩ (.int .u64 (v : Nat)) := ⟨_, rfl⟩
  have i1 : IsE w1 E v s (.func (.func F) #[] #[cap]) := by rw [hw1]; exact hE.set0
  have kE : Keeps (fun k => k = E) w w1 := by rw [hw1]; exact (Keeps.refl (fun k => k = E) w).setCell (p := ⟨E, 0, none⟩) (fun _ => rfl) _
  have r1 := hO.keep _ _ _ E _ hR hE kE hn0
  have hs1 : n0 ≤ w1.heap.size := Nat.le_trans hn0 (Nat.le_of_lt (Array.getElem?_eq_some_iff.1 i1).1)
  have hbE : 1 < E := Nat.lt_of_lt_of_le hO.tab.1 hn0
  have t1 := hT.keeps kE (by omega)
  obtain ⟨d0, d1, d2, d3, df⟩ := i1.cells
  have hfit := fits_any E x s w1 hx64 h0 hs d1 d2 t1
  rw [hf] at hfit
  have hlt := lz_tz hx64 h0
  have hwin := windowOf_any x
  have hnew : newX s x = (lz x, tz x) := by unfold newX; rw [if_neg h0, if_neg (by simp [hf])]
  have hbits : bitsX s x = [true, true] ++ fieldBits (lz x) 6 ++ fieldBits (63 - lz x - tz x) 6 ++ fieldBits (x / 2 ^ tz x) (64 - lz x - tz x) := by
    unfold bitsX headX; rw [if_neg h0, if_neg (by simp [hf]), hnew]
  have hwin := fun w' (h : TabZ w') => windowOf_any x w' hx64 h0 h
  obtain ⟨a, ha⟩ : ∃ a, a = lz x := ⟨_, rfl⟩
  obtain ⟨b, hb⟩ : ∃ b, b = tz x := ⟨_, rfl⟩
  obtain ⟨c, hc⟩ : ∃ c, c = 64 - a - b := ⟨_, rfl⟩
  obtain ⟨m, hm⟩ : ∃ m, m = 63 - a - b := ⟨_, rfl⟩
  rw [← ha, ← hb] at hbits hwin hlt hnew
  rw [← hc, ← hm] at hbits
  rw [← hc] at hwin
  have hcells : encCells v (a, b) (.func (.func F) #[] #[cap]) = #[.int .u64 (v : Nat), .int .i64 (a : Nat), .int .i64 (c : Nat), .func (.func F) #[] #[cap]] := by rw [hc]; rfl
  have HWIN := Lib.hid hwin; have HM := Lib.hid hm
  have hxs : x / 2 ^ b < 18446744073709551616 := Nat.lt_of_le_of_lt (Nat.div_le_self _ _) hx64
  have I1 := Lib.hid i1; have KE := Lib.hid kE; have HW1 := Lib.hid hw1; have HNEW := Lib.hid hnew; have HB := Lib.hid hbits; have HFIT := Lib.hid hfit; have R1 := Lib.hid r1; have HC := Lib.hid hc; have HCE := Lib.hid hcells; have HF := Lib.hid hf; have H0 := Lib.hid h0; have HA := Lib.hid ha; have HBB := Lib.hid hb; have D3 := Lib.hid d3; have T1 := Lib.hid t1
  clear cf i1 kE r1 hw1 hR hE hxx hnew hbits hfit d0 d1 d2 d3 df t1 hT hc hcells hf h0 ha hb hwin hm hs
  go_enter Tryd.func70, Tryd.ntmps70
  go_wp2_with fail
  rw [← HW1.out]
  refine HFIT.out.mono ?_
  rintro e w2 ⟨rfl, k2⟩
  have i2 := k2.heap I1.out (fun h => h)
  have r2 := hO.keep _ _ _ E _ R1.out I1.out (k2.mono (fun _ _ h => h.elim)) hn0
  have t2 := T1.out.keeps k2 (fun h => h)
  have K2 := Lib.hid ((KE.out.mono (S' := fun k => S k ∨ n0 ≤ k) (fun k _ e => .inr (by rw [e]; exact hn0))).trans k2 (fun _ _ h => h.elim))
  have hs2 : n0 ≤ w2.heap.size := Nat.le_trans hs1 k2.size
  have I2 := Lib.hid i2; have R2 := Lib.hid r2; have T2 := Lib.hid t2
  clear i2 r2 k2 t2 c0 c1 c2 c3 cf0 hx
  go_wp2_with fail
  refine (HWIN.out _ T2.out).mono ?_
  rintro e w3 ⟨rfl, k3⟩
  have i3 := k3.heap I2.out (fun h => h)
  have r3 := hO.keep _ _ _ E _ R2.out I2.out (k3.mono (fun _ _ h => h.elim)) hn0
  have hs3 : n0 ≤ w3.heap.size := Nat.le_trans hs2 k3.size
  obtain ⟨c0, c1, c2, c3, cf⟩ := IsE.cells i3
  have cf1 := cf 1
  have cf2 := cf 2
  have K3 := Lib.hid (K2.out.trans k3 (fun _ _ h => h.elim))
  have I3 := Lib.hid i3; have R3 := Lib.hid r3
  clear cf i3 r3 k3
  go_wp2
  obtain ⟨w4, hw4⟩ : ∃ w4, w4 = (w3.setCell ⟨E, 1, none⟩ (.int .i64 (a : Nat))).setCell ⟨E, 2, none⟩ (.int .i64 (c : Nat)) := ⟨_, rfl⟩
  rw [← hw4]
  have i4 : IsE w4 E v (a, b) (.func (.func F) #[] #[cap]) := by rw [hw4, HC.out]; exact IsE.setW (s' := (a, b)) I3.out
  have k4 : Keeps (fun k => k = E) w3 w4 := by rw [hw4]; exact ((Keeps.refl (fun k => k = E) w3).setCell (p := ⟨E, 1, none⟩) (fun _ => rfl) _).setCell (p := ⟨E, 2, none⟩) (fun _ => rfl) _
  have r4 := hO.keep _ _ _ E _ R3.out I3.out k4 hn0
  have hs4 : n0 ≤ w4.heap.size := Nat.le_trans hs3 k4.size
  unfold IsE at i4
  rw [HCE.out] at i4
  have K4 := Lib.hid (K3.out.trans k4 (fun k _ e => .inr (by rw [e]; exact hn0)))
  have I4 := Lib.hid i4; have R4 := Lib.hid r4
  clear i4 k4 r4 hw4 c0 c1 c2 c3 cf1 cf2
  refine (hO.call cur 3 2 w4 R4.out hs4 (by decide) (by decide) (by omega)).mono ?_
  rintro e w5 ⟨rfl, r5, k5, e5⟩
  have i5 := e5 E _ I4.out
  have f1 : w5.cell? ⟨E, 1, none⟩ = some (.int .i64 (a : Nat)) := by rw [cell_of_row _ _ _ _ _ _ i5]; rfl
  have f2 : w5.cell? ⟨E, 2, none⟩ = some (.int .i64 (c : Nat)) := by rw [cell_of_row _ _ _ _ _ _ i5]; rfl
  have f3 : w5.cell? ⟨E, 3, none⟩ = some (.func (.func F) #[] #[cap]) := by rw [cell_of_row _ _ _ _ _ _ i5]; rfl
  have I5 := Lib.hid i5; have R5 := Lib.hid r5; have K5 := Lib.hid (K4.out.trans k5 (fun _ _ h => h))
  have hs5 : n0 ≤ w5.heap.size := Nat.le_trans hs4 k5.size
  clear i5 r5 k5 e5
  have ew1 : IntKind.u64.wrap (a : Int) = a := wrap_u64' a (by omega)
  go_wp2
  have HOUT6 := Lib.hid (hO.call (cur ++ fieldBits 3 2) a 6 w5.drew (hO.keep _ _ _ E _ R5.out I5.out ((Keeps.refl (fun k => k = E) w5).drew) hn0) hs5 (by omega) (by decide) (by simp only [List.length_append, fieldBits_length]; omega))
  have J5 : Hid (w5.drew.heap[E]? = some (.cells #[.int .u64 (v : Nat), .int .i64 (a : Nat), .int .i64 (c : Nat), .func (.func F) #[] #[cap]] 123 (0, 0))) := Lib.hid I5.out
  go_region_held3 (fun w' => w'.cell? ⟨E, 1, none⟩ = some (.int .i64 (a : Nat)) ∧ w'.cell? ⟨E, 2, none⟩ = some (.int .i64 (c : Nat)) ∧ w'.cell? ⟨E, 3, none⟩ = some (.func (.func F) #[] #[cap])) (go_keep)
    ((refine HOUT6.out.mono ?_
      rintro e w6 ⟨rfl, rc, kc, ec⟩
      have iC := ec E _ J5.out
      have g1 : w6.cell? ⟨E, 1, none⟩ = some (.int .i64 (a : Nat)) := by rw [cell_of_row _ _ _ _ _ _ iC]; rfl
      have g2 : w6.cell? ⟨E, 2, none⟩ = some (.int .i64 (c : Nat)) := by rw [cell_of_row _ _ _ _ _ _ iC]; rfl
      have g3 : w6.cell? ⟨E, 3, none⟩ = some (.func (.func F) #[] #[cap]) := by rw [cell_of_row _ _ _ _ _ _ iC]; rfl
      have I6 := Lib.hid iC
      have R6 := Lib.hid rc
      have KC6 := Lib.hid kc
      clear iC rc kc ec))
  have K6 := Lib.hid (((K5.out.drew)).trans KC6.out (fun _ _ h => h))
  have hs6 : n0 ≤ w6.heap.size := Nat.le_trans hs5 KC6.out.size
  clear f1 f2 f3 HOUT6 KC6
  have f1 := g1
  have f2 := g2
  have f3 := g3
  clear g1 g2 g3
  clear ew1
  have ew1 : (c : Int) - 1 = (m : Int) := by have := HC.out; have := HM.out; omega
  have ew2 : IntKind.i64.wrap (m : Int) = m := wrap_nat m (by have := HM.out; omega)
  have ew3 : IntKind.u64.wrap (m : Int) = m := wrap_u64' m (by have := HM.out; omega)
  have ew4 : IntKind.i64.wrap ((c : Int) - 1) = m := by rw [ew1, ew2]
  have hm63 : m ≤ 63 := by have := HM.out; omega
  go_wp2
  have HOUT7 := Lib.hid (hO.call (cur ++ fieldBits 3 2 ++ fieldBits a 6) m 6 w6.drew (hO.keep _ _ _ E _ R6.out I6.out ((Keeps.refl (fun k => k = E) w6).drew) hn0) hs6 (by omega) (by decide) (by simp only [List.length_append, fieldBits_length]; omega))
  have J6 : Hid (w6.drew.heap[E]? = some (.cells #[.int .u64 (v : Nat), .int .i64 (a : Nat), .int .i64 (c : Nat), .func (.func F) #[] #[cap]] 123 (0, 0))) := Lib.hid I6.out
  go_region_held3 (fun w' => w'.cell? ⟨E, 1, none⟩ = some (.int .i64 (a : Nat)) ∧ w'.cell? ⟨E, 2, none⟩ = some (.int .i64 (c : Nat)) ∧ w'.cell? ⟨E, 3, none⟩ = some (.func (.func F) #[] #[cap])) (go_keep)
    ((refine HOUT7.out.mono ?_
      rintro e w7 ⟨rfl, rc, kc, ec⟩
      have iC := ec E _ J6.out
      have g1 : w7.cell? ⟨E, 1, none⟩ = some (.int .i64 (a : Nat)) := by rw [cell_of_row _ _ _ _ _ _ iC]; rfl
      have g2 : w7.cell? ⟨E, 2, none⟩ = some (.int .i64 (c : Nat)) := by rw [cell_of_row _ _ _ _ _ _ iC]; rfl
      have g3 : w7.cell? ⟨E, 3, none⟩ = some (.func (.func F) #[] #[cap]) := by rw [cell_of_row _ _ _ _ _ _ iC]; rfl
      have I7 := Lib.hid iC
      have R7 := Lib.hid rc
      have KC7 := Lib.hid kc
      clear iC rc kc ec))
  have K7 := Lib.hid (((K6.out.drew)).trans KC7.out (fun _ _ h => h))
  have hs7 : n0 ≤ w7.heap.size := Nat.le_trans hs6 KC7.out.size
  clear f1 f2 f3 HOUT7 KC7
  have f1 := g1
  have f2 := g2
  have f3 := g3
  clear g1 g2 g3
  clear ew1 ew2 ew3 ew4
  have htr : 64 - a - c = b := by have := HC.out; omega
  have HTR := Lib.hid htr
  have hshr : ((x / 2 ^ b : Nat) : Int) = (x : Int) / 2 ^ b := by rw [Int.natCast_ediv]; simp
  have hcl3 : (cur ++ fieldBits 3 2 ++ fieldBits a 6 ++ fieldBits m 6).length ≤ 1000000000100 := by simp only [List.length_append, fieldBits_length]; omega
  have hc64 : c ≤ 64 := by have := HC.out; omega
  clear htr
  go_wp2
  go_region_held3 (fun w' => w'.cell? ⟨E, 1, none⟩ = some (.int .i64 (a : Nat)) ∧ w'.cell? ⟨E, 2, none⟩ = some (.int .i64 (c : Nat)) ∧ w'.cell? ⟨E, 3, none⟩ = some (.func (.func F) #[] #[cap])) (go_keep)
    (first
      | (go_at_call 67
         go_must (
           refine (trail_any a c _ (by have := HC.out; omega)).mono ?_
           rw [HTR.out]
           rintro e wb ⟨rfl, kb⟩
           have kb3 : Keeps (fun _ => False) w7 wb := ((Keeps.refl (fun _ => False) w7).drew).trans kb (fun _ _ h => h)
           have sB1 := kb3.cell (p := ⟨E, 1, none⟩) f1 (fun h => h)
           have sB2 := kb3.cell (p := ⟨E, 2, none⟩) f2 (fun h => h)
           have sB3 := kb3.cell (p := ⟨E, 3, none⟩) f3 (fun h => h)
           have iB := Lib.hid (kb3.heap I7.out (fun h => h))
           have HOUT := Lib.hid (hO.call (cur ++ fieldBits 3 2 ++ fieldBits a 6 ++ fieldBits m 6) (x / 2 ^ b) c wb (hO.keep _ _ _ E _ R7.out I7.out (kb3.mono (fun _ _ h => h.elim)) hn0) (Nat.le_trans hs7 kb3.size) hxs hc64 hcl3)
           have KB3 := Lib.hid kb3
           clear kb kb3))
      | ((
           refine HOUT.out.mono ?_
           rintro e wc ⟨rfl, rc, kc, ec⟩
           have iC := ec E _ iB.out
           have sC1 : wc.cell? ⟨E, 1, none⟩ = some (.int .i64 (a : Nat)) := by rw [cell_of_row _ _ _ _ _ _ iC]; rfl
           have sC2 : wc.cell? ⟨E, 2, none⟩ = some (.int .i64 (c : Nat)) := by rw [cell_of_row _ _ _ _ _ _ iC]; rfl
           have sC3 : wc.cell? ⟨E, 3, none⟩ = some (.func (.func F) #[] #[cap]) := by rw [cell_of_row _ _ _ _ _ _ iC]; rfl
           have IC := Lib.hid iC
           have RC := Lib.hid rc
           have KC := Lib.hid kc
           clear iC rc kc ec)))
  clear hcl3 hshr
  go_end0
  have hb22 : fieldBits 3 2 = [true, true] := by decide
  refine ⟨rfl, ?_, ?_, (K7.out.trans KB3.out (fun _ _ h => h.elim)).trans KC.out (fun _ _ h => h)⟩
  · have := RC.out
    have e : cur ++ fieldBits 3 2 ++ fieldBits a 6 ++ fieldBits m 6 ++ fieldBits (x / 2 ^ b) c = cur ++ bitsX s x := by rw [HB.out, hb22]; simp only [List.append_assoc]
    rwa [e] at this
  · rw [HNEW.out]
    unfold IsE
    rw [HCE.out]
    exact IC.out
end
end Go.Proofs.YtdniaingipoggaaDoor
