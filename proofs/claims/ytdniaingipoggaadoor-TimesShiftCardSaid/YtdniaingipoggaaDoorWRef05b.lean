/-
  WALKS: tsblockref05.Put.
-/
import Derived.Test.YtdniaingipoggaaDoorWRef05
import Derived.Test.YtdniaingipoggaaDoorWTimesC
import Derived.Deep.RegionHeld3
import Derived.Deep.DrawnRows
import Derived.Deep.QuietTactic
import Derived.BigQuiet
namespace Go.Proofs.YtdniaingipoggaaDoor
open Go.RowKit

theorem RowTo.earlier {e : TypeId} {base : Nat} {v v1 : Value} {w0 w w1 : World} {xs : List Value} (h : RowTo e base v w v1 xs w1) (k : Keeps (fun _ => False) w0 w) : RowTo e base v w0 v1 xs w1 :=
  ⟨h.row, (k.mono (fun _ _ h => h.elim)).trans h.keeps (fun _ _ h => h), fun g hg => (h.new g hg).imp id (fun h => Nat.le_trans k.size h)⟩
/-- the bits from time i on, the difference before being d -/
def restR (i : Nat) (d : Int) (l : List Int) : List Bool := if i = 0 then enc5 l else encChanges (chgFrom d l i)
theorem restR_zero (l : List Int) : restR 0 0 l = enc5 l := rfl
theorem restR_first {t : Int} {l : List Int} (h : l[0]? = some t) : restR 0 0 l = fieldBits (U t) 64 ++ restR 1 0 l := by
  cases l with
  | nil => simp at h
  | cons s r => simp only [List.getElem?_cons_zero, Option.some.injEq] at h; subst h; simp [restR, enc5, chgFrom_one, changesOf]
theorem restR_step {d t s : Int} {l : List Int} {j : Nat} (hj : j ≠ 0) (ht : l[j - 1]? = some t) (hs : l[j]? = some s) : restR j d l = encChange (W (W (s - t) - d)) ++ restR (j + 1) (W (s - t)) l := by
  unfold restR
  rw [if_neg hj, if_neg (by omega), chgFrom_step ht hs, encChanges, List.flatMap_cons]
  rfl
theorem restR_end {d : Int} {l : List Int} {j : Nat} (h : l.length ≤ j) : restR j d l = [] := by
  unfold restR
  split
  · rename_i h0
    have : l = [] := List.eq_nil_of_length_eq_zero (by omega)
    rw [this]; rfl
  · rw [chgFrom_end h]; rfl
def pfxCells : Array Value := #[.int .u64 0, .int .u64 2, .int .u64 6, .int .u64 14, .int .u64 15]
def lenCells : Array Value := #[.int .i64 1, .int .i64 2, .int .i64 3, .int .i64 4, .int .i64 4]
def widCells : Array Value := #[.int .i64 0, .int .i64 7, .int .i64 12, .int .i64 32, .int .i64 64]
theorem tab_cells (k : Nat) (hk : k ≤ 4) : pfxCells[k]? = some (.int .u64 ((fBits k : Nat) : Int)) ∧ lenCells[k]? = some (.int .i64 ((fLen k : Nat) : Int)) ∧ widCells[k]? = some (.int .i64 ((fWidth k : Nat) : Int)) := by
  have hc : k = 0 ∨ k = 1 ∨ k = 2 ∨ k = 3 ∨ k = 4 := by omega
  rcases hc with rfl | rfl | rfl | rfl | rfl <;> exact ⟨rfl, rfl, rfl⟩
theorem fBits_le (k : Nat) : fBits k ≤ 15 := by
  rcases k with _ | _ | _ | _ | _ | k <;> simp [fBits]

set_option maxRecDepth 100000 in
set_option maxHeartbeats 4000000 in
theorem rput5_any (base : Nat) (v0 v : Value) (l0 : List Bool) (l : List Int) (w : World) (h0 : w.ownsRow base 4 1 v0 (bools l0).length (bools l0)) (hl0 : l0.length ≤ 1000000000) (hb0 : base ≤ w.heap.size)
    (hl : l.length ≤ 1000000000) (hX : ∀ x ∈ l, inI x) (h : Holds w v (i64s l)) (hap : ∀ g, ownH v l g → ¬ own v0 g) :
    Calls Tryd.prog 22 #[v0, v] w fun e w' => ∃ v', e = .returned v' ∧ RowTo 4 base v0 w v' (bools (l0 ++ enc5 l)) w' := by
  have HH := Lib.hid h; have H0 := Lib.hid h0; have HX := Lib.hid hX; have HAP := Lib.hid hap
  obtain ⟨ad, cap, rfl, hc, _⟩ := h
  rw [i64s_length] at hc HH HAP ⊢
  obtain ⟨ad0, cap0, rfl⟩ := row_slice h0
  have hel := enc5_length l
  have hvl : ∀ g, own (.slice ad0 (bools l0).length cap0) g → g < w.heap.size := fun g hg => (H0.out.lt g hg).2
  have HVL := Lib.hid hvl
  obtain ⟨w3, hw3⟩ : ∃ w3, w3 = ((w.alloc (.cells pfxCells 88)).alloc (.cells lenCells 83)).alloc (.cells widCells 83) := ⟨_, rfl⟩
  have k3 : Keeps (fun _ => False) w w3 := by rw [hw3]; exact (((Keeps.refl _ w).alloc _).alloc _).alloc _
  have hs3 : w3.heap.size = w.heap.size + 3 := by rw [hw3]; simp
  have hp3 : w3.heap[w.heap.size]? = some (.cells pfxCells 88 (0, 0)) := by
    rw [hw3]
    exact (Below.heap_alloc _ _ _ (by simp; omega)).trans ((Below.heap_alloc _ _ _ (by simp)).trans (heap_alloc_new w _))
  have hq3 : w3.heap[w.heap.size + 1]? = some (.cells lenCells 83 (0, 0)) := by
    rw [hw3]
    refine (Below.heap_alloc _ _ _ (by simp)).trans ?_
    have := heap_alloc_new (w.alloc (.cells pfxCells 88)) (.cells lenCells 83)
    rwa [World.size_alloc] at this
  have hr3 : w3.heap[w.heap.size + 2]? = some (.cells widCells 83 (0, 0)) := by
    rw [hw3]
    have := heap_alloc_new ((w.alloc (.cells pfxCells 88)).alloc (.cells lenCells 83)) (.cells widCells 83)
    rwa [World.size_alloc, World.size_alloc] at this
  have HW3 := Lib.hid hw3; have K3 := Lib.hid k3; have HP3 := Lib.hid hp3; have HQ3 := Lib.hid hq3; have HR3 := Lib.hid hr3; have HS3 := Lib.hid hs3
  have h30 := Lib.hid (RowTo.refl (k3.row h0 (fun _ _ h => h)))
  clear h0 hX hap hvl hw3 k3 hp3 hq3 hr3
  go_enter Tryd.func22, Tryd.ntmps22
  go_wp2
  rw [show ((w.alloc (.cells #[.int .u64 0, .int .u64 2, .int .u64 6, .int .u64 14, .int .u64 15] 88)).alloc (.cells #[.int .i64 1, .int .i64 2, .int .i64 3, .int .i64 4, .int .i64 4] 83)).alloc (.cells #[.int .i64 0, .int .i64 7, .int .i64 12, .int .i64 32, .int .i64 64] 83) = w3 from HW3.out.symm]
  go_loopw [0, 8, 9] (fun b d i wr => ∃ (k : Nat) (dd : Int) (vb : Value) (cur : List Bool), k ≤ l.length ∧ vb = b ∧ d = .int .i64 dd ∧ i = .int .i64 k ∧ inI dd ∧ (k = 0 → dd = 0) ∧ cur ++ restR k dd l = l0 ++ enc5 l ∧ RowTo 4 base (.slice ad0 (bools l0).length cap0) w3 vb (bools cur) wr) (fun _ _ i _ => l.length - (intOf i).toNat)
  case atStart => exact ⟨0, 0, _, l0, by omega, rfl, rfl, rfl, by unfold inI; omega, fun _ => rfl, by rw [restR_zero], h30.out⟩
  case round =>
    obtain ⟨k, dd, vb, cur, hk, rfl, rfl, rfl, hdd, hk0, hcur, hR⟩ := hrel
    clear h30
    have hvlt : ∀ g, own vb g → g < w.heap.size ∨ w3.heap.size ≤ g := fun g hg => (hR.new g hg).imp (fun h => HVL.out g h) id
    by_cases hlt : k < l.length
    · have hcl : cur.length ≤ 1000000000000 := by
        have := congrArg List.length hcur
        simp only [List.length_append] at this
        omega
      have hkl : (k : Int) < l.length := by omega
      have hbw : base ≤ wr.heap.size := by have := hR.keeps.size; omega
      have kw : Keeps (own (.slice ad0 (bools l0).length cap0)) w wr := (K3.out.mono (fun _ _ h => h.elim)).trans hR.keeps (fun _ _ h => h)
      have hh : Holds wr (.slice ad l.length cap) (i64s l) := HH.out.keepsH kw i64s_nil (fun g hg e => HAP.out g hg e)
      have hsz : w3.heap.size ≤ wr.heap.size := hR.keeps.size
      by_cases hk1 : k = 0
      · subst hk1
        obtain rfl := hk0 rfl
        obtain ⟨t, ht⟩ : ∃ t, l[0]? = some t := ⟨l[0], by simp [hlt]⟩
        obtain ⟨b, off, rfl, hcell⟩ := long_cell hh ht
        rw [restR_first ht, ← List.append_assoc] at hcur
        have hUt : IntKind.u64.wrap t = ((U t : Nat) : Int) := U_wrap t
        have hUl : U t ≤ 18446744073709551615 := by have := U_lt t; omega
        have HC := Lib.hid hcur; have HRR := Lib.hid hR
        have hcell' : wr.cell? ⟨b, off, none⟩ = some (.int .i64 t) := hcell
        clear hcur hR kw hh ht hk0 hdd hvlt hcell
        go_wp2_with fail
        refine (refWrite_any base vb cur (U t) 64 wr HRR.out.row hUl (by decide) (by omega) hbw).mono ?_
        rintro e w4 ⟨v4, rfl, hR4⟩
        have F := Lib.hid (HRR.out.trans hR4)
        clear hR4 hcell'
        go_wp2
        exact ⟨⟨1, 0, v4, _, by omega, rfl, rfl, rfl, by unfold inI; omega, fun h => by omega, HC.out, F.out⟩, by simp [intOf]; omega⟩
      · obtain ⟨s, hs⟩ : ∃ s, l[k]? = some s := ⟨l[k], by simp [hlt]⟩
        obtain ⟨t, ht⟩ : ∃ t, l[k - 1]? = some t := ⟨l[k - 1], List.getElem?_eq_getElem (by omega)⟩
        obtain ⟨b, off, rfl, hcs⟩ := long_cell hh hs
        obtain ⟨b', off', hbo, hct⟩ := long_cell hh ht
        simp only [Option.some.injEq, Addr.mk.injEq] at hbo
        obtain ⟨rfl, rfl, -⟩ := hbo
        rw [restR_step hk1 ht hs] at hcur
        obtain ⟨d2, hd2⟩ : ∃ d2, d2 = W (s - t) := ⟨_, rfl⟩
        obtain ⟨x, hxx⟩ : ∃ x, x = W (d2 - dd) := ⟨_, rfl⟩
        rw [← hd2, ← hxx] at hcur
        obtain ⟨q, hq⟩ : ∃ q, q = formI x := ⟨_, rfl⟩
        have hq4 : q ≤ 4 := by rw [hq]; exact formI_le x
        rw [encChange, ← hq, ← List.append_assoc, ← List.append_assoc] at hcur
        obtain ⟨t0, t1, t2⟩ := tab_cells q hq4
        have pl := fLen_le q hq4
        have pw := fWidth_le q hq4
        have pb := fBits_le q
        generalize fBits q = fb at *
        generalize fLen q = fl at *
        generalize fWidth q = fw at *
        have hnv : ∀ j, w.heap.size ≤ j → j < w3.heap.size → ¬ own (.slice ad0 (bools l0).length cap0) j := fun j h1 h2 e => by have := HVL.out j e; omega
        have c0 : wr.heap[w.heap.size]? = some (.cells pfxCells 88 (0, 0)) := hR.keeps.heap HP3.out (hnv _ (by omega) (by have := HS3.out; omega))
        have c1 : wr.heap[w.heap.size + 1]? = some (.cells lenCells 83 (0, 0)) := hR.keeps.heap HQ3.out (hnv _ (by omega) (by have := HS3.out; omega))
        have c2 : wr.heap[w.heap.size + 2]? = some (.cells widCells 83 (0, 0)) := hR.keeps.heap HR3.out (hnv _ (by omega) (by have := HS3.out; omega))
        have w1 : IntKind.i64.wrap (s - t) = d2 := hd2.symm
        have w2 : wrap64 (s - t) = d2 := by rw [hd2, W_wrap64]
        have w3' : IntKind.i64.wrap (d2 - dd) = x := hxx.symm
        have w4 : wrap64 (d2 - dd) = x := by rw [hxx, W_wrap64]
        have hdI : inI d2 := by rw [hd2]; exact W_in _
        obtain ⟨j1, hj1e⟩ : ∃ j1, j1 = k - 1 := ⟨_, rfl⟩
        rw [← hj1e] at hct
        have w5 : (k : Int) - 1 = j1 := by omega
        have w6 : IntKind.i64.wrap (j1 : Int) = j1 := wrap_nat j1 (by omega)
        have w7 : IntKind.i64.wrap ((k : Int) - 1) = j1 := by rw [w5, w6]
        have hj1l : (j1 : Int) < l.length := by omega
        have hUx : IntKind.u64.wrap x = ((U x : Nat) : Int) := U_wrap x
        have hUl : U x ≤ 18446744073709551615 := by have := U_lt x; omega
        have hk1' : ((k : Int) == 0) = false := by simp; omega
        have hvn : ∀ j, w.heap.size ≤ j → j < w3.heap.size → ¬ own vb j := fun j h1 h2 e => by have := hvlt j e; omega
        have HC := Lib.hid hcur; have HRR := Lib.hid hR; have HD2 := Lib.hid hd2; have HXX := Lib.hid hxx; have HQ := Lib.hid hq; have C0 := Lib.hid c0; have C1 := Lib.hid c1; have C2 := Lib.hid c2; have HDI := Lib.hid hdI; have T0 := Lib.hid t0; have T1 := Lib.hid t1; have T2 := Lib.hid t2; have HVN := Lib.hid hvn; have HJ := Lib.hid hj1e
        clear hcur hR kw hh ht hs hk0 hdd hvlt hd2 hxx hq c0 c1 c2 hdI hnv t0 t1 t2 hvn hj1e hk1
        go_wp2
        go_quiet (fail)
        obtain ⟨wq, hwq⟩ : ∃ wq, wq = wr.drewN nq := ⟨_, rfl⟩
        rw [← hwq]
        have kq : Keeps (fun _ => False) wr wq := by rw [hwq]; exact (Keeps.refl _ _).drewN nq
        have cs1 := kq.cell hcs (fun h => h)
        have ct1 := kq.cell hct (fun h => h)
        have KQ := Lib.hid kq
        clear hwq kq hcs hct
        go_wp2
        go_quiet (fail)
        obtain ⟨wp, hwp⟩ : ∃ wp, wp = wq.drewN nq := ⟨_, rfl⟩
        rw [← hwp]
        have kp : Keeps (fun _ => False) wr wp := by rw [hwp]; exact KQ.out.drewN _
        have KP := Lib.hid kp
        have b0 : wp.cell? ⟨w.heap.size, q, none⟩ = some (.int .u64 (fb : Nat)) := by rw [cell_of_row _ _ _ _ _ _ (kp.heap C0.out (fun h => h))]; exact T0.out
        have b1 : wp.cell? ⟨w.heap.size + 1, q, none⟩ = some (.int .i64 (fl : Nat)) := by rw [cell_of_row _ _ _ _ _ _ (kp.heap C1.out (fun h => h))]; exact T1.out
        have b2 : wp.heap[w.heap.size + 1 + 1]? = some (.cells widCells 83 (0, 0)) := kp.heap C2.out (fun h => h)
        have hr1 := HRR.out.later kp
        have hr2 : Hid (wp.drew.ownsRow base 4 1 vb (bools cur).length (bools cur)) := Lib.hid (((Keeps.refl (fun _ => False) wp).drew).row hr1.row (fun _ _ h => h))
        have R1 := Lib.hid hr1; have B2 := Lib.hid b2
        have hwp3 : w3.heap.size ≤ wp.heap.size := by have := kp.size; omega
        have hbp : base ≤ wp.heap.size := by have := kp.size; omega
        have nv0 : ¬ own vb w.heap.size := HVN.out _ (by omega) (by have := HS3.out; omega)
        have nv1 : ¬ own vb (w.heap.size + 1) := HVN.out _ (by omega) (by have := HS3.out; omega)
        have nv2 : ¬ own vb (w.heap.size + 1 + 1) := HVN.out _ (by omega) (by have := HS3.out; omega)
        have NV0 := Lib.hid nv0; have NV1 := Lib.hid nv1; have NV2 := Lib.hid nv2
        have hq5 : (q : Int) < 5 := by omega
        clear hwp kp cs1 ct1 hr1 b2 nv0 nv1 nv2
        go_wp2_with (go_at_call 49; refine (rform_any _ _).mono ?_; rw [← HQ.out]; rintro e wz ⟨rfl, rfl⟩)
        go_region_held3 (fun w' => w'.cell? ⟨w.heap.size, q, none⟩ = some (.int .u64 (fb : Nat)) ∧ w'.cell? ⟨w.heap.size + 1, q, none⟩ = some (.int .i64 (fl : Nat))) (go_keep) ((go_at_call 46; go_must (refine (refWrite_any base vb cur fb fl wp.drew hr2.out (by omega) (by omega) (by omega) (by simpa using hbp)).mono ?_; rintro e wb ⟨v5, rfl, hR5⟩; have sB1 := hR5.keeps.cell (p := ⟨w.heap.size, q, none⟩) b0 NV0.out; have sB2 := hR5.keeps.cell (p := ⟨w.heap.size + 1, q, none⟩) b1 NV1.out)))
        have f5 := R1.out.trans (hR5.earlier ((Keeps.refl (fun _ => False) wp).drew))
        have c2b : wb.cell? ⟨w.heap.size + 1 + 1, q, none⟩ = some (.int .i64 (fw : Nat)) := by
          rw [cell_of_row _ _ _ _ _ _ (hR5.keeps.heap (k := w.heap.size + 1 + 1) (o := .cells widCells 83 (0, 0)) B2.out NV2.out)]
          exact T2.out
        have hbb : base ≤ wb.heap.size := by have := hR5.keeps.size; simp at this; omega
        have hlen5 : (cur ++ fieldBits fb fl).length ≤ 1099511627776 := by rw [List.length_append, fieldBits_length]; omega
        have F5 := Lib.hid f5
        clear f5 hR5 sB1 sB2 b0 b1
        go_wp2_with fail
        refine (refWrite_any base v5 _ (U x) fw wb F5.out.row hUl (by omega) hlen5 hbb).mono ?_
        rintro e wc ⟨v6, rfl, hR6⟩
        have F6 := Lib.hid (F5.out.trans hR6)
        clear hR6 c2b
        go_wp2
        exact ⟨⟨k + 1, d2, v6, _, by omega, rfl, rfl, by go_num, HDI.out, fun h => by omega, HC.out, F6.out⟩, by simp [intOf]; omega⟩
    · have ek : k = l.length := by omega
      rw [restR_end (by omega), List.append_nil] at hcur
      subst hcur
      have HRR := Lib.hid hR
      have hkl : ¬ (k : Int) < l.length := by omega
      clear hR hk0 hdd hvlt ek
      go_wp2
      go_ret
      exact ⟨_, rfl, HRR.out.earlier K3.out⟩
end Go.Proofs.YtdniaingipoggaaDoor
