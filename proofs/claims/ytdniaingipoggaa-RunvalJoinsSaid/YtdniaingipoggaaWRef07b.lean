/-
  WALKS: tsblockref07.Put.
-/
import Derived.Test.YtdniaingipoggaaWRef07
import Derived.Test.YtdniaingipoggaaWRef01
import Derived.Test.YtdniaingipoggaaWRef01b
import Derived.Test.YtdniaingipoggaaWRunF
namespace Go.Proofs.Ytdniaingipoggaa
open Go.RowKit

theorem RowTo.later {e : TypeId} {base : Nat} {v v1 : Value} {w w1 w2 : World} {xs : List Value} (h : RowTo e base v w v1 xs w1) (k : Keeps (fun _ => False) w1 w2) : RowTo e base v w v1 xs w2 :=
  ⟨k.row h.row (fun _ _ h => h), h.keeps.trans k (fun _ _ h => h.elim), h.new⟩
theorem row_cell {w : World} {base : Nat} {e : TypeId} {v : Value} {n : Nat} {xs : List Value} (h : w.ownsRow base e 1 v n xs) {i : Nat} {u : Value} (hi : xs[i]? = some u) :
    ∃ g cap, v = .slice (some ⟨g, 0, none⟩) n cap ∧ n ≤ cap ∧ i < n ∧ w.cell? ⟨g, i, none⟩ = some u ∧ w.frozen? ⟨g, i, none⟩ = false := by
  have hlt : i < xs.length := (List.getElem?_eq_some_iff.1 hi).1
  have hl : xs.length = n := by have := h.1; omega
  obtain ⟨g, cap, cur, rfl, hb, hg, hn1, _, hs1, ht1⟩ := row_shape h (by omega)
  exact ⟨g, cap, rfl, hn1, by omega, take_cell hg ht1 hi, frozen_of_row _ _ _ _ _ hg⟩
theorem take_snoc_run {rs : List (Nat × Nat)} {k : Nat} {f : Nat × Nat} (h : rs[k]? = some f) : rs.take (k + 1) = rs.take k ++ [f] := by
  rw [List.take_add_one, h]; rfl
theorem row_other {w w' : World} {b1 b2 : Nat} {e1 e2 : TypeId} {s1 s2 n m : Nat} {u v : Value} {xs ys : List Value} (hu : w.ownsRow b1 e1 s1 u n xs) (hv : w.ownsRow b2 e2 s2 v m ys) (k : Keeps (own v) w w') (hne : e1 ≠ e2) : w'.ownsRow b1 e1 s1 u n xs :=
  k.row hu (fun g hg e => by
    obtain ⟨c', hc'⟩ := row_type hu hg
    obtain ⟨c'', hc''⟩ := row_type hv e
    exact ne_of_types hc' hc'' hne rfl)
set_option maxRecDepth 100000 in
set_option maxHeartbeats 1000000 in
theorem ref7Put_any (base : Nat) (v0 v : Value) (l0 : List Bool) (l : List Nat) (w : World) (h0 : w.ownsRow base 4 1 v0 (bools l0).length (bools l0)) (hl0 : l0.length ≤ 1000000000) (hb0 : base ≤ w.heap.size)
    (hl : l.length ≤ 1000000000) (hX : ∀ x ∈ l, x ≤ 18446744073709551615) (h : Holds w v (u64s l)) :
    Calls Try.prog 54 #[v0, v] w fun e w' => ∃ v', e = .returned v' ∧ RowTo 4 base v0 w v' (bools (l0 ++ encRuns (runsOf l))) w' := by
  have HH := Lib.hid h; have H0 := Lib.hid h0; have HX := Lib.hid hX
  obtain ⟨ad, cap, rfl, hc, _⟩ := h
  rw [u64s_length] at hc HH ⊢
  obtain ⟨ad0, cap0, rfl⟩ := row_slice h0
  obtain ⟨rs, hrs⟩ : ∃ rs, rs = runsOf l := ⟨_, rfl⟩
  rw [← hrs]
  clear h0 hX
  go_enter Try.func54, Try.ntmps54
  go_wp2_with fail
  refine (refSplit_any _ l w hl HH.out).mono ?_
  rintro e w1 ⟨v1, v2, rfl, hr1, hr2, hk1⟩
  rw [← hrs] at hr1 hr2
  have hrl : rs.length ≤ l.length := by rw [hrs]; exact runsOf_length l
  have hrm : ∀ p ∈ rs, p.1 ∈ l ∧ 1 ≤ p.2 ∧ p.2 ≤ 128 := fun p hp => runsOf_mem (by rw [← hrs]; exact hp)
  have HRM := Lib.hid hrm
  obtain ⟨a1, c1, rfl⟩ := row_slice hr1
  obtain ⟨a2, c2, rfl⟩ := row_slice hr2
  have HR1 := Lib.hid hr1; have HR2 := Lib.hid hr2
  have hR0 := (RowTo.refl H0.out).later hk1
  have HR0 := Lib.hid hR0
  have hws0 := hk1.size
  clear hr1 hr2 hrs hrm hk1 hR0
  go_wp2
  go_loopw [0, 7] (fun b i wr => ∃ (k : Nat) (vb : Value), k ≤ rs.length ∧ vb = b ∧ i = .int .i64 k ∧ RowTo 4 base (.slice ad0 (bools l0).length cap0) w vb (bools (l0 ++ encRuns (rs.take k))) wr ∧
      wr.ownsRow w.heap.size 35 1 (.slice a1 rs.length c1) rs.length (u64s (rs.map (·.1))) ∧ wr.ownsRow w.heap.size 3 1 (.slice a2 rs.length c2) rs.length (natI (rs.map (·.2)))) (fun _ i _ => rs.length - (intOf i).toNat)
  case atStart => exact ⟨0, _, by omega, rfl, rfl, by simpa [encRuns] using HR0.out, HR1.out, HR2.out⟩
  case round =>
    obtain ⟨k, vb, hk, rfl, rfl, hR, hq1, hq2⟩ := hrel
    by_cases hlt : k < rs.length
    · obtain ⟨⟨x, c⟩, hxk⟩ : ∃ p, rs[k]? = some p := ⟨rs[k], by simp [hlt]⟩
      obtain ⟨hm1, hm2, hm3⟩ := HRM.out (x, c) (List.mem_of_getElem? hxk)
      simp only at hm1 hm2 hm3
      have hx := HX.out x hm1
      obtain ⟨g1, cp1, hv1, hn1, _, hcell1, _⟩ := row_cell hq1 (i := k) (u := .int .u64 (x : Nat)) (by simp [u64s, hxk])
      simp only [Value.slice.injEq] at hv1
      obtain ⟨rfl, _, rfl⟩ := hv1
      obtain ⟨g2, cp2, hv2, hn2, _, hcell2, _⟩ := row_cell hq2 (i := k) (u := .int .i64 (c : Nat)) (by simp [natI, hxk])
      simp only [Value.slice.injEq] at hv2
      obtain ⟨rfl, _, rfl⟩ := hv2
      have hen : l0 ++ encRuns (rs.take (k + 1)) = (l0 ++ encRuns (rs.take k) ++ fieldBits x 64) ++ fieldBits (c - 1) 7 := by
        rw [take_snoc_run hxk, encRuns_snoc, encRun]; simp
      have hlen : (l0 ++ encRuns (rs.take k)).length ≤ 1000000000000 := by rw [List.length_append, encRuns_length, List.length_take]; omega
      have hws : base ≤ wr.heap.size := Nat.le_trans hb0 hR.keeps.size
      obtain ⟨m, hm⟩ : ∃ m, m = c - 1 := ⟨_, rfl⟩
      rw [← hm] at hen
      have hcm : (c : Int) - 1 = m := by omega
      have hwm : IntKind.u64.wrap (m : Int) = m := wrap_u64 m (by omega)
      have hwi : IntKind.i64.wrap (m : Int) = m := wrap_nat m (by omega)
      have hm7 : m ≤ 127 := by omega
      generalize l0 ++ encRuns (rs.take k) = cur at *
      have HE := Lib.hid hen; have HRR := Lib.hid hR; have HQ1 := Lib.hid hq1; have HQ2 := Lib.hid hq2
      have hbl : (cur ++ fieldBits x 64).length ≤ 1099511627776 := by rw [List.length_append, fieldBits_length]; omega
      have HXK := Lib.hid hxk
      clear hxk
      clear hen hR hq1 hq2 hm hm1 hcell2
      go_wp2_with fail
      refine (refWrite_any base vb cur x 64 wr HRR.out.row hx (by decide) (by omega) hws).mono ?_
      rintro e w2 ⟨vb2, rfl, hR2⟩
      have hq12 := row_other HQ1.out HRR.out.row hR2.keeps (by decide)
      have hq22 := row_other HQ2.out HRR.out.row hR2.keeps (by decide)
      have hR3 := HRR.out.trans hR2
      have hws2 : base ≤ w2.heap.size := Nat.le_trans hb0 hR3.keeps.size
      obtain ⟨g2', cp2', hv2', _, _, hcell2', _⟩ := row_cell hq22 (i := k) (u := .int .i64 (c : Nat)) (by have := HXK.out; simp [natI, this])
      simp only [Value.slice.injEq, Option.some.injEq, Addr.mk.injEq] at hv2'
      obtain ⟨⟨rfl, _, _⟩, _, rfl⟩ := hv2'
      have HR3 := Lib.hid hR3; have HQ12 := Lib.hid hq12; have HQ22 := Lib.hid hq22
      clear hR2 hq12 hq22 hR3 hcell1
      go_wp2_with fail
      refine (refWrite_any base vb2 _ m 7 w2 HR3.out.row (by omega) (by decide) hbl hws2).mono ?_
      rintro e w3 ⟨vb3, rfl, hR4⟩
      have f1 := row_other HQ12.out HR3.out.row hR4.keeps (by decide)
      have f2 := row_other HQ22.out HR3.out.row hR4.keeps (by decide)
      have f3 := HR3.out.trans hR4
      rw [← HE.out] at f3
      have F1 := Lib.hid f1; have F2 := Lib.hid f2; have F3 := Lib.hid f3
      clear f1 f2 f3 hR4 hcell2'
      go_wp2
      exact ⟨⟨k + 1, _, by omega, rfl, by go_num, F3.out, F1.out, F2.out⟩, by simp [intOf]; omega⟩
    · obtain rfl : k = rs.length := by omega
      rw [List.take_length] at hR
      go_wp2
      go_ret
      exact ⟨_, rfl, hR⟩
end Go.Proofs.Ytdniaingipoggaa
