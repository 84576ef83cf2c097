/-
  WALKS: the decoder of xorval: bits, check, fresh.
-/
import Derived.Test.YtdniaingipoggaaDoorWXorA
import Derived.Test.YtdniaingipoggaaDoorDStep
import Derived.Deep.RegionHeld3
import Derived.Deep.DrawnRows
namespace Go.Proofs.YtdniaingipoggaaDoor
open Go.RowKit

/-- the decoder's block -/
def decCells (last : Nat) (s : Nat × Nat) (p : Nat) (err : Nat) : Array Value := #[.int .u64 (last : Nat), .int .i64 (s.1 : Nat), .int .i64 ((64 - s.1 - s.2 : Nat) : Int), .pointer (some ⟨p, 0, none⟩), .int .i64 (err : Nat)]
/-- a decoder D over a reader at bit i -/
structure DS (w : World) (base p : Nat) (v : Value) (bs : List Nat) (i D last : Nat) (s : Nat × Nat) (err : Nat) : Prop where
  rd : IsR w base p v bs i
  dec : w.heap[D]? = some (.cells (decCells last s p err) 103 (0, 0))
theorem DS.ne {w : World} {base p : Nat} {v : Value} {bs : List Nat} {i D last : Nat} {s : Nat × Nat} {err : Nat} (h : DS w base p v bs i D last s err) : p ≠ D ∧ ∀ g, v.ownBlock = some g → g ≠ D := by
  refine ⟨ne_of_types h.rd.blk h.dec (by decide), fun g hg => ?_⟩
  obtain ⟨c', hc'⟩ := row_type h.rd.row hg
  exact ne_of_types hc' h.dec (by decide)
theorem DS.keeps {w w' : World} {base p : Nat} {v : Value} {bs : List Nat} {i D last : Nat} {s : Nat × Nat} {err : Nat} (h : DS w base p v bs i D last s err) (k : Keeps (fun _ => False) w w') : DS w' base p v bs i D last s err :=
  ⟨h.rd.keeps k (fun h => h) (fun _ _ h => h), k.heap h.dec (fun h => h)⟩
theorem DS.cells {w : World} {base p : Nat} {v : Value} {bs : List Nat} {i D last : Nat} {s : Nat × Nat} {err : Nat} (h : DS w base p v bs i D last s err) :
    w.cell? ⟨D, 0, none⟩ = some (.int .u64 (last : Nat)) ∧ w.cell? ⟨D, 1, none⟩ = some (.int .i64 (s.1 : Nat)) ∧ w.cell? ⟨D, 2, none⟩ = some (.int .i64 ((64 - s.1 - s.2 : Nat) : Int)) ∧ w.cell? ⟨D, 3, none⟩ = some (.pointer (some ⟨p, 0, none⟩)) ∧ w.cell? ⟨D, 4, none⟩ = some (.int .i64 (err : Nat)) ∧ ∀ j, w.frozen? ⟨D, j, none⟩ = false := by
  have hd := h.dec
  refine ⟨?_, ?_, ?_, ?_, ?_, fun j => frozen_of_row _ _ _ _ _ hd⟩ <;> (rw [cell_of_row _ _ _ _ _ _ hd]; rfl)
theorem DS.set {w w' : World} {base p : Nat} {v : Value} {bs : List Nat} {i D last last' : Nat} {s s' : Nat × Nat} {err err' : Nat} (h : DS w base p v bs i D last s err) (k : Keeps (fun k => k = D) w w')
    (hd : w'.heap[D]? = some (.cells (decCells last' s' p err') 103 (0, 0))) : DS w' base p v bs i D last' s' err' :=
  ⟨h.rd.keeps k h.ne.1 h.ne.2, hd⟩
theorem DS.setErr {w : World} {base p : Nat} {v : Value} {bs : List Nat} {i D last : Nat} {s : Nat × Nat} {err e : Nat} (h : DS w base p v bs i D last s err) :
    DS (w.setCell ⟨D, 4, none⟩ (.int .i64 (e : Nat))) base p v bs i D last s e ∧ Keeps (fun k => k = D) w (w.setCell ⟨D, 4, none⟩ (.int .i64 (e : Nat))) := by
  have k : Keeps (fun k => k = D) w (w.setCell ⟨D, 4, none⟩ (.int .i64 (e : Nat))) := (Keeps.refl (fun k => k = D) w).setCell (p := ⟨D, 4, none⟩) (fun _ => rfl) _
  refine ⟨h.set k ?_, k⟩
  have := heap_setCell_same w D 4 _ _ (.int .i64 (e : Nat)) h.dec
  simpa [decCells] using this
theorem DS.setLast {w : World} {base p : Nat} {v : Value} {bs : List Nat} {i D last : Nat} {s : Nat × Nat} {err e : Nat} (h : DS w base p v bs i D last s err) :
    DS (w.setCell ⟨D, 0, none⟩ (.int .u64 (e : Nat))) base p v bs i D e s err ∧ Keeps (fun k => k = D) w (w.setCell ⟨D, 0, none⟩ (.int .u64 (e : Nat))) := by
  have k : Keeps (fun k => k = D) w (w.setCell ⟨D, 0, none⟩ (.int .u64 (e : Nat))) := (Keeps.refl (fun k => k = D) w).setCell (p := ⟨D, 0, none⟩) (fun _ => rfl) _
  refine ⟨h.set k ?_, k⟩
  have := heap_setCell_same w D 0 _ _ (.int .u64 (e : Nat)) h.dec
  simpa [decCells] using this
theorem DS.setWin {w : World} {base p : Nat} {v : Value} {bs : List Nat} {i D last : Nat} {s : Nat × Nat} {err a c : Nat} {t : Nat} (h : DS w base p v bs i D last s err) (hc : c = 64 - a - t) :
    DS ((w.setCell ⟨D, 1, none⟩ (.int .i64 (a : Nat))).setCell ⟨D, 2, none⟩ (.int .i64 (c : Nat))) base p v bs i D last (a, t) err ∧ Keeps (fun k => k = D) w ((w.setCell ⟨D, 1, none⟩ (.int .i64 (a : Nat))).setCell ⟨D, 2, none⟩ (.int .i64 (c : Nat))) := by
  subst hc
  have k : Keeps (fun k => k = D) w ((w.setCell ⟨D, 1, none⟩ (.int .i64 (a : Nat))).setCell ⟨D, 2, none⟩ (.int .i64 ((64 - a - t : Nat) : Int))) := ((Keeps.refl (fun k => k = D) w).setCell (p := ⟨D, 1, none⟩) (fun _ => rfl) _).setCell (p := ⟨D, 2, none⟩) (fun _ => rfl) _
  refine ⟨h.set k ?_, k⟩
  have h1 := heap_setCell_same w D 1 _ _ (.int .i64 (a : Nat)) h.dec
  have h2 := heap_setCell_same _ D 2 _ _ (.int .i64 ((64 - a - t : Nat) : Int)) h1
  simpa [decCells] using h2

section
variable (base p : Nat) (v : Value) (bs : List Nat) (i D last : Nat) (s : Nat × Nat) (w : World)
set_option maxHeartbeats 1000000 in
theorem dbits_err (err : Nat) (n : Int) (h : DS w base p v bs i D last s err) (he : err ≠ 0) : Calls Tryd.prog 53 #[.pointer (some ⟨D, 0, none⟩), .int .i64 n] w fun e w' => e = .returned (.int .u64 0) ∧ w = w' := by
  obtain ⟨-, -, -, -, c4, -⟩ := h.cells
  have h1 : ((err : Int) == 0) = false := by simp; omega
  have h2 : (err : Int) ≠ 0 := by omega
  clear h
  go_enter Tryd.func53, Tryd.ntmps53
  go_wp2
  go_ret
  exact ⟨rfl, rfl⟩
set_option maxHeartbeats 2000000 in
theorem dbits_any (n x e m : Nat) (h : DS w base p v bs i D last s 0) (hl : bs.length ≤ 1099511627776) (hi : i ≤ 8 * bs.length) (hs : stepB (n : Int) ((unpackB bs).drop i) = (x, e, m)) :
    Calls Tryd.prog 53 #[.pointer (some ⟨D, 0, none⟩), .int .i64 (n : Nat)] w fun e' w' => e' = .returned (.int .u64 (x : Nat)) ∧ DS w' base p v bs (i + m) D last s e ∧ Keeps (fun k => k = p ∨ k = D) w w' := by
  obtain ⟨c0, c1, c2, c3, c4, cf⟩ := h.cells
  have hr := rbits_all base p v bs i (n : Int) w h.rd (by omega) hi
  rw [hs] at hr
  have HR := Lib.hid hr; have H := Lib.hid h
  have hne := h.ne
  have HNE := Lib.hid hne
  clear hr h hs hne cf c0 c1 c2
  go_enter Tryd.func53, Tryd.ntmps53
  go_wp2_with fail
  refine HR.out.mono ?_
  rintro e1 w1 ⟨rfl, r1, k1⟩
  have hd1 := k1.heap H.out.dec (fun e => HNE.out.1 e.symm)
  have d1 : DS w1 base p v bs (i + m) D last s 0 := ⟨r1, hd1⟩
  have cf1 := d1.cells.2.2.2.2.2 4
  have g1 := d1.cells.2.2.2.2.1
  obtain ⟨s1, s2⟩ := d1.setErr (e := e)
  have S1 := Lib.hid s1
  have K := Lib.hid ((k1.mono (S' := fun k => k = p ∨ k = D) (fun _ _ h => .inl h)).trans s2 (fun _ _ h => .inr h))
  clear r1 k1 hd1 d1 s1 s2 c3 c4
  go_wp2
  go_ret
  exact ⟨rfl, S1.out, K.out⟩
theorem dbits_in (n : Nat) (h : DS w base p v bs i D last s 0) (hl : bs.length ≤ 1099511627776) (hi : i ≤ 8 * bs.length) (hn : n ≤ 64) (hr : n ≤ ((unpackB bs).drop i).length) :
    Calls Tryd.prog 53 #[.pointer (some ⟨D, 0, none⟩), .int .i64 (n : Nat)] w fun e' w' => e' = .returned (.int .u64 ((bitsNat (((unpackB bs).drop i).take n) : Nat) : Int)) ∧ DS w' base p v bs (i + n) D last s 0 ∧ Keeps (fun k => k = p ∨ k = D) w w' :=
  dbits_any base p v bs i D last s w n _ _ _ h hl hi (stepB_in n _ hn hr)
theorem dbits_eof (n : Nat) (h : DS w base p v bs i D last s 0) (hl : bs.length ≤ 1099511627776) (hi : i ≤ 8 * bs.length) (hn : n ≤ 64) (hr : ((unpackB bs).drop i).length < n) :
    Calls Tryd.prog 53 #[.pointer (some ⟨D, 0, none⟩), .int .i64 (n : Nat)] w fun e' w' => e' = .returned (.int .u64 0) ∧ DS w' base p v bs i D last s 3 ∧ Keeps (fun k => k = p ∨ k = D) w w' :=
  dbits_any base p v bs i D last s w n 0 3 0 h hl hi (stepB_eof n _ hn hr)
set_option maxHeartbeats 1000000 in
theorem dcheck_err (err : Nat) (ok : Bool) (h : DS w base p v bs i D last s err) (he : err ≠ 0 ∨ ok = true) : Calls Tryd.prog 66 #[.pointer (some ⟨D, 0, none⟩), .bool ok] w fun e w' => e = .returned (.tuple #[]) ∧ w = w' := by
  obtain ⟨-, -, -, -, c4, -⟩ := h.cells
  clear h
  by_cases h0 : err = 0
  · obtain rfl : ok = true := he.resolve_left (fun h => h h0)
    subst h0
    clear he
    go_enter Tryd.func66, Tryd.ntmps66
    go_wp2
    go_end0
    exact ⟨rfl, rfl⟩
  · have h1 : ((err : Int) == 0) = false := by simp; omega
    have h2 : (err : Int) ≠ 0 := by omega
    clear he h0
    go_enter Tryd.func66, Tryd.ntmps66
    go_wp2
    go_end0
    exact ⟨rfl, rfl⟩
set_option maxHeartbeats 1000000 in
theorem dcheck_bad (h : DS w base p v bs i D last s 0) : Calls Tryd.prog 66 #[.pointer (some ⟨D, 0, none⟩), .bool false] w fun e w' => e = .returned (.tuple #[]) ∧ DS w' base p v bs i D last s 8 ∧ Keeps (fun k => k = p ∨ k = D) w w' := by
  obtain ⟨-, -, -, -, c4, cf⟩ := h.cells
  have cf4 := cf 4
  obtain ⟨s1, s2⟩ := h.setErr (e := 8)
  have S1 := Lib.hid s1; have S2 := Lib.hid s2
  clear h cf s1 s2
  go_enter Tryd.func66, Tryd.ntmps66
  go_wp2
  go_end0
  exact ⟨rfl, S1.out, S2.out.mono (fun _ _ h => .inr h)⟩
/-- what a read answers, whatever the error before -/
def readD (err : Nat) (n : Int) (r : List Bool) : Nat × Nat × Nat := if err = 0 then stepB n r else (0, err, 0)
def checkE (err : Nat) (ok : Bool) : Nat := if err = 0 ∧ ok = false then 8 else err
theorem dbits_gen (err n x e m : Nat) (h : DS w base p v bs i D last s err) (hl : bs.length ≤ 1099511627776) (hi : i ≤ 8 * bs.length) (hs : readD err (n : Int) ((unpackB bs).drop i) = (x, e, m)) :
    Calls Tryd.prog 53 #[.pointer (some ⟨D, 0, none⟩), .int .i64 (n : Nat)] w fun e' w' => e' = .returned (.int .u64 (x : Nat)) ∧ DS w' base p v bs (i + m) D last s e ∧ Keeps (fun k => k = p ∨ k = D) w w' := by
  unfold readD at hs
  split at hs
  · rename_i h0
    subst h0
    exact dbits_any base p v bs i D last s w n x e m h hl hi hs
  · rename_i h0
    simp only [Prod.mk.injEq] at hs
    obtain ⟨rfl, rfl, rfl⟩ := hs
    exact (dbits_err base p v bs i D last s w err n h h0).mono fun e' w' ⟨he, hw⟩ => ⟨he, by rw [← hw]; exact h, by rw [← hw]; exact Keeps.refl _ _⟩
theorem dcheck_gen (err e : Nat) (ok : Bool) (h : DS w base p v bs i D last s err) (he : checkE err ok = e) : Calls Tryd.prog 66 #[.pointer (some ⟨D, 0, none⟩), .bool ok] w fun e' w' => e' = .returned (.tuple #[]) ∧ DS w' base p v bs i D last s e ∧ Keeps (fun k => k = p ∨ k = D) w w' := by
  unfold checkE at he
  split at he
  · rename_i h0
    obtain ⟨rfl, rfl⟩ := h0
    subst he
    exact dcheck_bad base p v bs i D last s w h
  · rename_i h0
    subst he
    exact (dcheck_err base p v bs i D last s w err ok h (by by_cases h1 : err = 0 <;> cases ok <;> simp_all)).mono fun e' w' ⟨he, hw⟩ => ⟨he, by rw [← hw]; exact h, by rw [← hw]; exact Keeps.refl _ _⟩
theorem DS.other {w w' : World} {base p : Nat} {v : Value} {bs : List Nat} {i D last : Nat} {s : Nat × Nat} {err : Nat} (h : DS w base p v bs i D last s err) (k : Keeps (fun k => k = p ∨ k = D) w w') {B : Nat} {cs : Array Value} {fr : Nat × Nat} (hB : w.heap[B]? = some (.cells cs 99 fr)) : w'.heap[B]? = some (.cells cs 99 fr) :=
  k.heap hB (fun e => e.elim (ne_of_types hB h.rd.blk (by decide)) (ne_of_types hB h.dec (by decide)))
set_option maxRecDepth 100000 in
set_option maxHeartbeats 2000000 in
theorem fresh_gen (err x1 e1 m1 x2 e2 m2 e3 : Nat) (h : DS w base p v bs i D last s err) (hl : bs.length ≤ 1099511627776) (hi : i ≤ 8 * bs.length) (h1 : readD err ((6 : Nat) : Int) ((unpackB bs).drop i) = (x1, e1, m1)) (hx1 : x1 ≤ 63) (hm1 : i + m1 ≤ 8 * bs.length)
    (h2 : readD e1 ((6 : Nat) : Int) ((unpackB bs).drop (i + m1)) = (x2, e2, m2)) (hx2 : x2 ≤ 63) (h3 : checkE e2 (decide (x1 + (x2 + 1) ≤ 64)) = e3) :
    Calls Tryd.prog 65 #[.pointer (some ⟨D, 0, none⟩)] w fun e' w' => e' = .returned (.agg #[.int .i64 (x1 : Nat), .int .i64 ((x2 + 1 : Nat) : Int)]) ∧ DS w' base p v bs (i + m1 + m2) D last s e3 ∧ Keeps (fun k => k = p ∨ k = D) w w' := by
  obtain ⟨B, hB⟩ : ∃ B, B = w.heap.size := ⟨_, rfl⟩
  obtain ⟨w1, hw1⟩ : ∃ w1, w1 = w.alloc (.cells #[.int .i64 0, .int .i64 0] 99) := ⟨_, rfl⟩
  have k1 : Keeps (fun _ => False) w w1 := by rw [hw1]; exact (Keeps.refl _ w).alloc _
  have d1 := h.keeps k1
  have hb1 : w1.heap[B]? = some (.cells #[.int .i64 0, .int .i64 0] 99 (0, 0)) := by rw [hw1, hB]; exact heap_alloc_new w _
  have hc1 := dbits_gen base p v bs i D last s w1 err 6 x1 e1 m1 d1 hl hi h1
  have HC1 := Lib.hid hc1
  have HB1 := Lib.hid hb1; have K1 := Lib.hid k1; have HBB := Lib.hid hB; have D1 := Lib.hid d1; have HW1 := Lib.hid hw1; have H2 := Lib.hid h2; have H3 := Lib.hid h3
  obtain ⟨z, hz⟩ : ∃ z, z = x2 + 1 := ⟨_, rfl⟩
  have hzb : z ≤ 64 := by omega
  have y3 : (x2 : Int) + 1 = (z : Int) := by omega
  have y6 : decide ((x1 : Int) + z ≤ 64) = decide (x1 + z ≤ 64) := by simp only [decide_eq_decide]; omega
  have y5 : IntKind.i64.wrap ((x1 : Int) + z) = x1 + z := IntWalk.i64_in _ (by omega)
  rw [← hz]
  rw [← hz] at H3
  have y1 : IntKind.i64.wrap (x1 : Int) = x1 := wrap_nat x1 (Nat.le_trans hx1 (by decide))
  have y2 : IntKind.i64.wrap (x2 : Int) = x2 := wrap_nat x2 (Nat.le_trans hx2 (by decide))
  have y4 : IntKind.i64.wrap (z : Int) = z := wrap_nat z (Nat.le_trans hzb (by decide))
  have Y6 := Lib.hid y6
  clear hc1 hb1 k1 hB d1 hw1 h h1 h2 h3 hz y6
  go_enter Tryd.func65, Tryd.ntmps65
  go_wp2_with fail
  rw [← HW1.out]
  refine HC1.out.mono ?_
  rintro e w2 ⟨rfl, d2, k2⟩
  have hb2 := D1.out.other k2 HB1.out
  have HS2 := Lib.hid (Nat.le_trans K1.out.size k2.size)
  obtain ⟨B2, hB2⟩ : ∃ B2, B2 = w2.heap.size := ⟨_, rfl⟩
  obtain ⟨w3, hw3⟩ : ∃ w3, w3 = w2.alloc (.cells #[.int .i64 (x1 : Nat), .int .i64 0] 99) := ⟨_, rfl⟩
  have k3 : Keeps (fun _ => False) w2 w3 := by rw [hw3]; exact (Keeps.refl _ w2).alloc _
  have hb3 : w3.heap[B2]? = some (.cells #[.int .i64 (x1 : Nat), .int .i64 0] 99 (0, 0)) := by rw [hw3, hB2]; exact heap_alloc_new w2 _
  have d3 := d2.keeps k3
  have hc2 := dbits_gen base p v bs (i + m1) D last s w3 e1 6 x2 e2 m2 d3 hl hm1 H2.out
  have K3 := Lib.hid (((K1.out.mono (S' := fun k => k = p ∨ k = D) (fun _ _ h => h.elim)).trans k2 (fun _ _ h => h)).trans k3 (fun _ _ h => h.elim))
  have HB3 := Lib.hid hb3; have HC2 := Lib.hid hc2; have D3 := Lib.hid d3; have HW3 := Lib.hid hw3; have HBB2 := Lib.hid hB2; have HBR := Lib.hid (k3.heap hb2 (fun h => h))
  have hBB : B ≠ B2 := by
    have := (Array.getElem?_eq_some_iff.1 hb2).1
    omega
  have HNE := Lib.hid hBB
  clear hb2 hw3 k3 hb3 d3 hc2 d2 k2 hB2 hBB
  go_wp2_with fail
  rw [← HW3.out, ← HBB2.out]
  refine HC2.out.mono ?_
  rintro e w4 ⟨rfl, d4, k4⟩
  have hb4 := D3.out.other k4 HB3.out
  have hbr4 := D3.out.other k4 HBR.out
  have fz := frozen_of_row w4 B2 1 _ _ hb4
  have K4 := Lib.hid (K3.out.trans k4 (fun _ _ h => h)); have D4 := Lib.hid d4; have HB4 := Lib.hid hb4; have HBR4 := Lib.hid hbr4
  have g1 : w4.cell? ⟨B2, 1, none⟩ = some (.int .i64 0) := by rw [cell_of_row _ _ _ _ _ _ hb4]; rfl
  have g0 : w4.cell? ⟨B2, 0, none⟩ = some (.int .i64 (x1 : Nat)) := by rw [cell_of_row _ _ _ _ _ _ hb4]; rfl
  obtain ⟨w5, hw5⟩ : ∃ w5, w5 = w4.setCell ⟨B2, 1, none⟩ (.int .i64 (z : Nat)) := ⟨_, rfl⟩
  have k5 : Keeps (fun k => k = B2) w4 w5 := by rw [hw5]; exact (Keeps.refl (fun k => k = B2) w4).setCell (p := ⟨B2, 1, none⟩) (fun _ => rfl) _
  have hnp : ∀ {B cs fr}, w4.heap[(B : Nat)]? = some (Obj.cells cs 99 fr) → B ≠ p ∧ B ≠ D ∧ ∀ g, v.ownBlock = some g → B ≠ g := fun hB => by
    refine ⟨ne_of_types hB d4.rd.blk (by decide), ne_of_types hB d4.dec (by decide), fun g hg => ?_⟩
    obtain ⟨c', hc'⟩ := row_type d4.rd.row hg
    exact ne_of_types hB hc' (by decide)
  have np2 := hnp hb4
  have d5 : DS w5 base p v bs (i + m1 + m2) D last s e2 := ⟨d4.rd.keeps k5 (fun e => np2.1 e.symm) (fun g hg e => np2.2.2 g hg e.symm), k5.heap d4.dec (fun e => np2.2.1 e.symm)⟩
  have hb5 : w5.heap[B2]? = some (.cells #[.int .i64 (x1 : Nat), .int .i64 (z : Nat)] 99 (0, 0)) := by
    rw [hw5]
    have := heap_setCell_same w4 B2 1 _ _ (.int .i64 (z : Nat)) hb4
    simpa using this
  have hbr5 := k5.heap hbr4 HNE.out
  have hc3 := dcheck_gen base p v bs (i + m1 + m2) D last s w5 e2 e3 _ d5 H3.out
  rw [← Y6.out] at hc3
  have K5 := Lib.hid ((K4.out.mono (S' := fun k => k = p ∨ k = D ∨ w.heap.size ≤ k) (fun k _ h => h.elim .inl (fun h => .inr (.inl h)))).trans k5 (fun k hk e => .inr (.inr (by have := HBB2.out; have := HS2.out; omega))))
  have HC3 := Lib.hid hc3; have HB5 := Lib.hid hb5; have HBR5 := Lib.hid hbr5; have D5 := Lib.hid d5; have HW5 := Lib.hid hw5
  clear hb4 hbr4 k4 d4 hw5 k5 hnp np2 d5 hb5 hbr5 hc3
  go_wp2_with fail
  rw [← HW5.out]
  refine HC3.out.mono ?_
  rintro e w6 ⟨rfl, d6, k6⟩
  have hb6 := D5.out.other k6 HB5.out
  have hbr6 := D5.out.other k6 HBR5.out
  have q0 : w6.cell? ⟨B2, 0, none⟩ = some (.int .i64 (x1 : Nat)) := by rw [cell_of_row _ _ _ _ _ _ hb6]; rfl
  have q1 : w6.cell? ⟨B2, 1, none⟩ = some (.int .i64 (z : Nat)) := by rw [cell_of_row _ _ _ _ _ _ hb6]; rfl
  have r0 : w6.cell? ⟨B, 0, none⟩ = some (.int .i64 0) := by rw [cell_of_row _ _ _ _ _ _ hbr6]; rfl
  have r1 : w6.cell? ⟨B, 1, none⟩ = some (.int .i64 0) := by rw [cell_of_row _ _ _ _ _ _ hbr6]; rfl
  have z0 := frozen_of_row w6 B 0 _ _ hbr6
  have z1 := frozen_of_row w6 B 1 _ _ hbr6
  have k7 : Keeps (fun k => k = B) w6 ((w6.setCell ⟨B, 0, none⟩ (.int .i64 (x1 : Nat))).setCell ⟨B, 1, none⟩ (.int .i64 (z : Nat))) := ((Keeps.refl (fun k => k = B) w6).setCell (p := ⟨B, 0, none⟩) (fun _ => rfl) _).setCell (p := ⟨B, 1, none⟩) (fun _ => rfl) _
  have hnp : B ≠ p ∧ B ≠ D ∧ ∀ g, v.ownBlock = some g → B ≠ g := by
    refine ⟨ne_of_types hbr6 d6.rd.blk (by decide), ne_of_types hbr6 d6.dec (by decide), fun g hg => ?_⟩
    obtain ⟨c', hc'⟩ := row_type d6.rd.row hg
    exact ne_of_types hbr6 hc' (by decide)
  have d7 : DS _ base p v bs (i + m1 + m2) D last s e3 := ⟨d6.rd.keeps k7 (fun e => hnp.1 e.symm) (fun g hg e => hnp.2.2 g hg e.symm), k7.heap d6.dec (fun e => hnp.2.1 e.symm)⟩
  have k57 := (K5.out.trans k6 (fun k _ h => h.elim .inl (fun h => .inr (.inl h)))).trans k7 (fun k hk e => .inr (.inr (by have := HBB.out; omega)))
  have hk : Keeps (fun k => k = p ∨ k = D) w ((w6.setCell ⟨B, 0, none⟩ (.int .i64 (x1 : Nat))).setCell ⟨B, 1, none⟩ (.int .i64 (z : Nat))) := k57.mono (fun k hk e => by
    rcases e with e | e | e
    · exact .inl e
    · exact .inr e
    · omega)
  rw [HBB.out] at r0 r1 z0 z1 hk d7
  have HK := Lib.hid hk; have D7 := Lib.hid d7
  clear hk d7 k57 k7 hnp hb6 hbr6 d6 k6 y1 y2 y3 y4 y5
  go_wp2_with fail
  exact bodyPost_ret (v := .agg #[.int .i64 (x1 : Nat), .int .i64 (z : Nat)]) (by simp [results, Tryd.results65, go_sem, r0, r1]) rfl ⟨rfl, D7.out, HK.out⟩
end
end Go.Proofs.YtdniaingipoggaaDoor
