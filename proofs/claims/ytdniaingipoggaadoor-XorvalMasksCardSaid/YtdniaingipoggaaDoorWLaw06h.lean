/-
  WALKS: XorvalMasks.
-/
import Derived.Test.YtdniaingipoggaaDoorWAlive06
import Derived.Test.YtdniaingipoggaaDoorWClone6
namespace Go.Proofs.YtdniaingipoggaaDoor
open Go.RowKit

theorem enc6_long (l : List Nat) (h : l ≠ []) : 64 ≤ (enc6 l).length := by
  cases l with
  | nil => exact absurd rfl h
  | cons v r => rw [enc6, List.length_append, fieldBits_length]; omega
def maskL (b : Nat) (l : List Nat) (k : Nat) : List Nat := (l.take k).map (· ^^^ b) ++ l.drop k
theorem maskL_length (b : Nat) (l : List Nat) (k : Nat) (h : k ≤ l.length) : (maskL b l k).length = l.length := by
  unfold maskL
  rw [List.length_append, List.length_map, List.length_take, List.length_drop]
  omega
theorem maskL_get {b : Nat} {l : List Nat} {k : Nat} {x : Nat} (h : l[k]? = some x) : (maskL b l k)[k]? = some x := by
  have hlt : k < l.length := (List.getElem?_eq_some_iff.1 h).1
  unfold maskL
  rw [List.getElem?_append_right (by rw [List.length_map, List.length_take]; omega), List.length_map, List.length_take, List.getElem?_drop]
  rw [show k + (k - min k l.length) = k by omega]
  exact h
theorem maskL_set {b : Nat} {l : List Nat} {k : Nat} {x : Nat} (h : l[k]? = some x) : (maskL b l k).set k (x ^^^ b) = maskL b l (k + 1) := by
  have hlt : k < l.length := (List.getElem?_eq_some_iff.1 h).1
  have hx : l[k] = x := by rw [List.getElem?_eq_getElem hlt] at h; simpa using h
  unfold maskL
  rw [List.set_append, if_neg (by rw [List.length_map, List.length_take]; omega), List.length_map, List.length_take, show k - min k l.length = 0 by omega, List.drop_eq_getElem_cons hlt, List.set_cons_zero, List.take_add_one, h]
  simp
theorem maskL_all (b : Nat) (l : List Nat) : maskL b l l.length = l.map fun x => x ^^^ b := by simp [maskL]

set_option maxRecDepth 100000 in
set_option maxHeartbeats 4000000 in
theorem xorvalMasks_any (v : Value) (l : List Nat) (by' : Nat) (w : World) (h : Holds w v (u64s l)) (hX : ∀ x ∈ l, x ≤ 18446744073709551615) (hb' : by' ≤ 18446744073709551615) (hT : TabZ w) :
    Calls Tryd.prog 12 #[v, .int .u64 by'] w fun e w' => e = .returned (.bool true) ∧ Keeps (fun _ => False) w w' := by
  have HH := Lib.hid h; have HX := Lib.hid hX; have HT := Lib.hid hT
  obtain ⟨ad, cap, rfl, hc, _⟩ := h
  rw [u64s_length] at hc HH ⊢
  clear hX hT
  by_cases hbad : 300 < l.length ∨ l.length = 0
  · have hd : (300 < (l.length : Int)) ∨ (¬ 300 < (l.length : Int) ∧ (l.length : Int) = 0) := by omega
    rcases hd with h1 | ⟨h1, h2⟩
    · go_enter Tryd.func12, Tryd.ntmps12
      go_wp2_with fail
      refine (alive06_any w HT.out).mono ?_
      rintro e w3 ⟨rfl, k3⟩
      have K3 := Lib.hid k3
      clear k3
      go_wp2
      go_ret
      exact ⟨rfl, K3.out⟩
    · obtain rfl : l = [] := List.eq_nil_of_length_eq_zero (by omega)
      go_enter Tryd.func12, Tryd.ntmps12
      go_wp2_with fail
      refine (alive06_any w HT.out).mono ?_
      rintro e w3 ⟨rfl, k3⟩
      have K3 := Lib.hid k3
      clear k3
      go_wp2
      go_ret
      exact ⟨rfl, K3.out⟩
  · have h1 : ¬ 300 < (l.length : Int) := by omega
    have h2 : ((l.length : Int) == 0) = false := beq_eq_false_iff_ne.2 (by omega)
    have h3 : decide (300 < (l.length : Int)) = false := by simp; omega
    have h4 : ¬ (l.length : Int) = 0 := by omega
    have hl : l.length ≤ 300 := by omega
    have hne : l ≠ [] := fun e => by rw [e] at hbad; simp at hbad
    have HNE := Lib.hid hne
    clear hbad hne
    go_enter Tryd.func12, Tryd.ntmps12
    go_wp2_with fail
    refine (cloneWords_any _ l w HH.out (by omega)).mono ?_
    rintro e w1 ⟨v1, rfl, hr1, k1⟩
    obtain ⟨adm, capm, rfl⟩ := row_slice hr1
    have K1 := Lib.hid k1
    have HR1 := Lib.hid hr1
    clear h1 h2 h3 h4 hr1 k1
    go_wp2
    go_loopw [24] (fun i wr => ∃ k : Nat, k ≤ l.length ∧ i = .int .i64 k ∧ wr.ownsRow w.heap.size 48 1 (.slice adm l.length capm) l.length (u64s (maskL by' l k)) ∧ Keeps (fun _ => False) w wr) (fun i _ => l.length - (intOf i).toNat)
    case atStart => exact ⟨0, by omega, rfl, by have := HR1.out; simpa [maskL] using this, K1.out⟩
    case round =>
      obtain ⟨k, hk, rfl, hrow, hkr⟩ := hrel
      by_cases hlt : k < l.length
      · have hkl : (k : Int) < l.length := by omega
        obtain ⟨x, hx⟩ : ∃ x, l[k]? = some x := ⟨l[k], by simp [hlt]⟩
        have hs := maskL_set (b := by') hx
        obtain ⟨g1, cp1, hv1, hn1, _, hcell, hfr⟩ := row_cell hrow (i := k) (u := .int .u64 (x : Nat)) (by simp [u64s, maskL_get hx])
        simp only [Value.slice.injEq] at hv1
        obtain ⟨rfl, _, rfl⟩ := hv1
        obtain ⟨x2, hx2⟩ : ∃ x2, x2 = x ^^^ by' := ⟨_, rfl⟩
        rw [← hx2] at hs
        have hxl : x < 18446744073709551616 := by have := HX.out x (List.mem_of_getElem? hx); omega
        have hxw : bits BinOp.xor IntKind.u64 (x : Int) (by' : Int) = (x2 : Int) := by rw [bits_xor_u64_nat x by' hxl (by omega), hx2]
        have hst := hrow.stored k (.int .u64 (x2 : Nat))
        have hst1 := hst.1
        have hgw : w.heap.size ≤ g1 := by
          have := hrow.lt g1 rfl
          exact this.1
        have hk2 : Keeps (fun _ => False) w (wr.setCell ⟨g1, k, none⟩ (.int .u64 (x2 : Nat))) := hkr.setCell (p := ⟨g1, k, none⟩) (fun h => absurd h (by show ¬ g1 < _; omega)) _
        have hset : (u64s (maskL by' l k)).set k (.int .u64 (x2 : Nat)) = u64s (maskL by' l (k + 1)) := by rw [← hs]; simp [u64s, List.map_set]
        rw [hset] at hst1
        have F1 := Lib.hid hst1; have F2 := Lib.hid hk2
        clear hst hst1 hk2 hset hs hx hx2 hrow hkr
        go_wp2
        exact ⟨⟨k + 1, by omega, by go_num, F1.out, F2.out⟩, by simp [intOf]; omega⟩
      · obtain rfl : k = l.length := by omega
        rw [maskL_all] at hrow
        have hkl : ¬ (l.length : Int) < l.length := by omega
        have hel := enc6_mask by' l
        have hlong := enc6_long l HNE.out
        have hle := enc6_length l
        have hmX : ∀ x ∈ l.map (· ^^^ by'), x ≤ 18446744073709551615 := by
          intro x hx
          simp only [List.mem_map] at hx
          obtain ⟨y, _, rfl⟩ := hx
          have := xor_lt64 (a := y) (b := by') (by have := HX.out y (by assumption); omega) (by omega)
          omega
        have hml : (l.map (· ^^^ by')).length = l.length := by simp
        obtain ⟨m, hm⟩ : ∃ m, m = l.map (· ^^^ by') := ⟨_, rfl⟩
        rw [← hm] at hrow hel hmX hml
        have hhm : Holds wr (.slice adm l.length capm) (u64s m) := holds_row hrow
        have HEL := Lib.hid hel; have HMX := Lib.hid hmX; have HM := Lib.hid hhm; have KR := Lib.hid hkr; have HML := Lib.hid hml; have HROW := Lib.hid hrow; have HLONG := Lib.hid hlong; have HLE := Lib.hid hle
        have HHr := Lib.hid (HH.out.keeps hkr (fun _ _ h => h))
        clear hel hmX hhm hkr hml hm hrow hlong hle HR1 K1
        go_wp2_with fail
        refine (newWriter_any wr).mono ?_
        rintro e w2 ⟨rfl, hw2⟩
        have a2 := newWriter_is wr wr.heap.size (Nat.le_refl _)
        rw [← hw2] at a2
        have k2 : Keeps (fun _ => False) wr w2 := by rw [hw2]; exact (Keeps.refl _ _).alloc _
        have hs2 : w2.heap.size = wr.heap.size + 1 := by rw [hw2]; simp
        have A2 := Lib.hid a2; have K2 := Lib.hid k2; have S2 := Lib.hid hs2
        clear hw2 a2 k2 hs2
        go_wp2_with fail
        refine (newWriter_any w2).mono ?_
        rintro e w3 ⟨rfl, hw3⟩
        have b3 := newWriter_is w2 w2.heap.size (Nat.le_refl _)
        rw [← hw3] at b3
        have k3 : Keeps (fun _ => False) w2 w3 := by rw [hw3]; exact (Keeps.refl _ _).alloc _
        have a3 := A2.out.keeps k3 (fun h => h) (fun _ _ h => h)
        have hs3 : w3.heap.size = w2.heap.size + 1 := by rw [hw3]; simp
        have kr3 := K2.out.trans k3 (fun _ _ h => h)
        have hl3 := HHr.out.keeps kr3 (fun _ _ h => h)
        have hm3 := HM.out.keeps kr3 (fun _ _ h => h)
        obtain ⟨PA, hPA⟩ : ∃ PA, PA = wr.heap.size := ⟨_, rfl⟩
        obtain ⟨PB, hPB⟩ : ∃ PB, PB = w2.heap.size := ⟨_, rfl⟩
        rw [← hPA] at a3 ⊢
        rw [← hPB] at b3 hs3 ⊢
        have hAB : PB = PA + 1 := by rw [hPB, hPA]; exact S2.out
        have hwr : w.heap.size ≤ PA := by rw [hPA]; exact KR.out.size
        have KW3 := Lib.hid (KR.out.trans kr3 (fun _ _ h => h))
        have hlw : ∀ g, ownH (.slice ad l.length cap) l g → g < w.heap.size := fun g hg => ownH_lt HH.out hg
        have hmw : ∀ g, (Value.slice adm l.length capm).ownBlock = some g → g < PA := fun g hg => by rw [hPA]; exact (HROW.out.lt g hg).2
        have A3 := Lib.hid a3; have B3 := Lib.hid b3; have HL3 := Lib.hid hl3; have HM3 := Lib.hid hm3; have HLW := Lib.hid hlw; have HMW := Lib.hid hmw; have HABH := Lib.hid hAB; have HWR := Lib.hid hwr; have HS3 := Lib.hid hs3
        clear hw3 a3 b3 k3 hs3 kr3 hl3 hm3 hPA hPB hAB hwr hlw hmw
        go_wp2_with fail
        refine (put6_any PA PA _ _ [] l w3 A3.out (by have := HS3.out; have := HABH.out; omega) (by simp) (by omega) HX.out HL3.out (fun k hk e => e.elim (fun e => by have := HLW.out k hk; have := HWR.out; omega) (fun e => by simp [Value.ownBlock] at e)) (HT.out.keeps KW3.out (fun h => h)) (by have := HT.out.pos; have := HWR.out; omega)).mono ?_
        rintro e w4 ⟨rfl, va, a4, k4, n4⟩
        have b4 := B3.out.keeps k4 (fun e => e.elim (fun e => by have := HABH.out; omega) (fun e => by simp [Value.ownBlock] at e)) (fun g hg e => by simp [Value.ownBlock] at hg)
        have hm4 := HM3.out.keeps k4 (fun g hg e => e.elim (fun e => by have := HMW.out g hg; omega) (fun e => by simp [Value.ownBlock] at e))
        have kw4 : Keeps (fun _ => False) w w4 := KW3.out.trans k4 (fun k hk e => e.elim (fun e => by have := HWR.out; omega) (fun e => by simp [Value.ownBlock] at e))
        have na4 : ∀ g, va.ownBlock = some g → PB < g := fun g hg => (n4 g hg).elim (fun e => by simp [Value.ownBlock] at e) (fun e => by have := HS3.out; omega)
        rw [List.nil_append] at a4
        have A4 := Lib.hid a4; have B4 := Lib.hid b4; have HM4 := Lib.hid hm4; have KW4 := Lib.hid kw4; have NA4 := Lib.hid na4
        have hs4 : PB < w4.heap.size := by have := k4.size; have := HS3.out; omega
        clear a4 k4 n4 b4 hm4 kw4 na4
        go_wp2_with fail
        refine (put6_any PB PB _ _ [] m w4 B4.out (by omega) (by simp) (by rw [HML.out]; omega) HMX.out HM4.out (fun k hk e => e.elim (fun e => by have := HMW.out k hk.2; have := HABH.out; omega) (fun e => by simp [Value.ownBlock] at e)) (HT.out.keeps KW4.out (fun h => h)) (by have := HT.out.pos; have := HABH.out; have := HWR.out; omega)).mono ?_
        rintro e w5 ⟨rfl, vb, b5, k5, n5⟩
        have a5 := A4.out.keeps k5 (fun e => e.elim (fun e => by have := HABH.out; omega) (fun e => by simp [Value.ownBlock] at e)) (fun g hg e => e.elim (fun e => by have := NA4.out g hg; omega) (fun e => by simp [Value.ownBlock] at e))
        have kw5 : Keeps (fun _ => False) w w5 := KW4.out.trans k5 (fun k hk e => e.elim (fun e => by have := HWR.out; have := HABH.out; omega) (fun e => by simp [Value.ownBlock] at e))
        rw [List.nil_append] at b5
        have A5 := Lib.hid a5; have B5 := Lib.hid b5; have KW5 := Lib.hid kw5
        clear a5 b5 k5 n5 kw5
        obtain ⟨LA, hLA⟩ : ∃ LA, LA = enc6 l := ⟨_, rfl⟩
        obtain ⟨LB, hLB⟩ : ∃ LB, LB = enc6 m := ⟨_, rfl⟩
        rw [← hLA] at A5 HEL HLONG HLE
        rw [← hLB] at B5 HEL
        have hlab : LB.length = LA.length := HEL.out.2
        have hpd : (packed LB).drop 8 = (packed LA).drop 8 := by rw [packed_drop8, packed_drop8, HEL.out.1]
        have hlong := HLONG.out
        have hle := HLE.out
        have HPD := Lib.hid hpd
        have HLAB := Lib.hid hlab
        clear hLA hLB hlab hpd
        go_wp2_with fail
        refine (wbytes_any PA PA _ LA w5 A5.out (by omega)).mono ?_
        rintro e w6 ⟨vx, rfl, rx, k6⟩
        have A6 := Lib.hid (A5.out.keeps k6 (fun h => h) (fun _ _ h => h)); have B6 := Lib.hid (B5.out.keeps k6 (fun h => h) (fun _ _ h => h)); have KW6 := Lib.hid (KW5.out.trans k6 (fun _ _ h => h)); have RX := Lib.hid (holds_row rx)
        obtain ⟨gx, cx, curx, rfl, _, _, hcx, _, _, _⟩ := row_shape rx (by rw [packed_length]; omega)
        have HCX := Lib.hid hcx
        clear rx k6 hcx
        go_wp2_with fail
        refine (wbytes_any PB PB _ LB w6 B6.out (by rw [HLAB.out]; omega)).mono ?_
        rintro e w7 ⟨vy, rfl, ry, k7⟩
        have A7 := Lib.hid (A6.out.keeps k7 (fun h => h) (fun _ _ h => h)); have B7 := Lib.hid (B6.out.keeps k7 (fun h => h) (fun _ _ h => h)); have KW7 := Lib.hid (KW6.out.trans k7 (fun _ _ h => h)); have RX7 := Lib.hid (RX.out.keeps k7 (fun _ _ h => h)); have RY7 := Lib.hid (holds_row ry)
        obtain ⟨gy, cy, cury, rfl, _, _, hcy, _, _, _⟩ := row_shape ry (by rw [packed_length, HLAB.out]; omega)
        have hpb : (packed LB).length = (packed LA).length := by rw [packed_length, packed_length, HLAB.out]
        have hpl : 8 ≤ (packed LA).length := by rw [packed_length]; omega
        have hpu : (packed LA).length ≤ 3000 := by rw [packed_length]; omega
        have HCY := Lib.hid hcy
        rw [hpb] at HCY RY7 ⊢
        clear ry k7 hcy hpb
        obtain ⟨n, hn⟩ : ∃ n, n = (packed LA).length := ⟨_, rfl⟩
        rw [← hn] at HCX HCY RX7 RY7 hpl hpu ⊢
        have HN := Lib.hid hn
        clear hn
        have z1 : ¬ (n : Int) < 8 := by omega
        have z2 : decide ((n : Int) < 8) = false := by simp; omega
        have hn8 : (8 : Int) ≤ n := by omega
        have hcx8 : (n : Int) ≤ cx := by have := HCX.out; omega
        have hcy8 : (n : Int) ≤ cy := by have := HCY.out; omega
        go_upto_region 15 with fail
        obtain ⟨C, hC⟩ : ∃ C : World → Prop, C = fun w' => Keeps (fun _ => False) w7 w' := ⟨_, rfl⟩
        have cw : C { w7 with drawn := w7.drawn + 1 } := by rw [hC]; exact (Keeps.refl (fun _ => False) w7).drew
        have ca : ∀ wq, C wq → Calls Tryd.prog 34 #[] wq fun e w' => e = .returned (.bool true) ∧ C w' := by
          rw [hC]
          exact fun wq hk => (alive06_any wq (HT.out.keeps (KW7.out.trans hk (fun _ _ h => h)) (fun h => h))).mono fun e w' ⟨he, hk'⟩ => ⟨he, hk.trans hk' (fun _ _ h => h)⟩
        have cla : ∀ wq, C wq → Calls Tryd.prog 28 #[.pointer (some ⟨PA, 0, none⟩)] wq fun e w' => e = .returned (.int .i64 (LA.length : Nat)) ∧ C w' := by
          rw [hC]
          exact fun wq hk => (wlen_any PA PA _ LA wq (A7.out.keeps hk (fun h => h) (fun _ _ h => h))).mono fun e w' ⟨he, hk'⟩ => ⟨he, by rw [← hk']; exact hk⟩
        have clb : ∀ wq, C wq → Calls Tryd.prog 28 #[.pointer (some ⟨PB, 0, none⟩)] wq fun e w' => e = .returned (.int .i64 (LA.length : Nat)) ∧ C w' := by
          rw [hC]
          exact fun wq hk => (wlen_any PB PB _ LB wq (B7.out.keeps hk (fun h => h) (fun _ _ h => h))).mono fun e w' ⟨he, hk'⟩ => ⟨by rw [he, HLAB.out], by rw [← hk']; exact hk⟩
        have hbx : (u8s (packed LA)).drop 8 = u8s ((packed LA).drop 8) := by simp [u8s]
        have hby8 : (u8s (packed LB)).drop 8 = u8s ((packed LA).drop 8) := by rw [← HPD.out]; simp [u8s]
        have tx := RX7.out.tail 8 hpl
        have ty := RY7.out.tail 8 hpl
        rw [hbx] at tx
        rw [hby8] at ty
        have cbe : ∀ wq, C wq → Calls Tryd.prog 29 #[.slice (if cx = 8 then some ⟨gx, 0, none⟩ else some ⟨gx, 8, none⟩) (n - 8) (cx - 8), .slice (if cy = 8 then some ⟨gy, 0, none⟩ else some ⟨gy, 8, none⟩) (n - 8) (cy - 8)] wq fun e w' => e = .returned (.bool true) ∧ C w' := by
          rw [hC]
          refine fun wq hk => (bytesEqual_any _ _ ((packed LA).drop 8) ((packed LA).drop 8) wq (tx.keeps hk (fun _ _ h => h)) (ty.keeps hk (fun _ _ h => h)) (fun c hc => packed_lt LA c (List.mem_of_mem_drop hc)) (fun c hc => packed_lt LA c (List.mem_of_mem_drop hc))).mono fun e w' ⟨he, hk'⟩ => ⟨by rw [he]; simp, by rw [← hk']; exact hk⟩
        have ck : ∀ wq, C wq → Keeps (fun _ => False) w wq := by rw [hC]; exact fun wq hk => KW7.out.trans hk (fun _ _ h => h)
        have CBE := Lib.hid cbe
        clear hbx hby8 tx ty cbe
        have CW := Lib.hid cw; have CA := Lib.hid ca; have CLA := Lib.hid cla; have CLB := Lib.hid clb; have CK := Lib.hid ck
        clear cw ca cla clb ck hC
        refine wp_region_class C (by kernel_rfl) (by kernel_rfl) CW.out ?_
        repeat (
          refine wpQuiet_step (fun K hK => ?_)
          go_simp
          first
            | (refine hK _ ?_; clear hK K)
            | (refine ⟨_, fun _ _ => rfl, hK _ ?_⟩; clear hK K)
            | (apply Exists.intro
               refine ⟨fun wq hwq => ?_, hK _ ?_⟩
               (first
                | (go_at_call 34; with_reducible exact CA.out _ hwq)
                | (go_at_call 29; exact CBE.out _ hwq)
                | (go_at_call 28; first | (with_reducible exact CLA.out _ hwq) | (with_reducible exact CLB.out _ hwq)))
               clear hK K))
        refine wpQuiet_nil ?_
        intro wz hwz
        have KZ := Lib.hid (CK.out _ hwz)
        clear hwz CA CLA CLB CBE CW CK
        go_wp2
        all_goals (go_ret; exact ⟨rfl, KZ.out⟩)
end Go.Proofs.YtdniaingipoggaaDoor
