/-
  Lemmas on which LTopChunks rests, packed out of the texts WWireB WRdB WRdC WRdD WRdE WRdF; each for all arguments under the hypotheses it names.
-/
import Derived.Test.YtfpcgcbehdogjaaGreatDoorT13
namespace Go.Proofs.YtfpcgcbehdogjaaGreatDoor
section
set_option maxHeartbeats 2000000
set_option maxRecDepth 100000
open Go.RowKit
section
variable {P : Program}
theorem run_append_full (w : World) (base : Nat) (t ty e : TypeId) (i : TypeInfo) (z : Value) (bytes : Nat) (ht : P.underlying t = some (.slice e)) (hi : P.info? e = some i) (hz : i.zero = some z)
 (hsize : i.size = 1) (hby : i.bytes = bytes) (hzs : z.cells.size = 1) (g n : Nat) (xs : List Value) (hx : Holds w (.slice (some ⟨g, 0, none⟩) n n) xs) (hxl : xs.length = n) (y : Value) (ys : List Value) (hy : Holds w y ys) (hpos : 0 < ys.length)
 (h63 : n + ys.length ≤ maxLen) (hbytes : (n + ys.length) * bytes ≤ 140737488355328) (hbase : base ≤ w.heap.size) :
 ∃ v' w', (Builtin.append_ #[t, t] ty #[.slice (some ⟨g, 0, none⟩) n n, y]).run P w = .ok v' w' ∧ w'.ownsRow base e 1 v' (n + ys.length) (xs ++ ys) ∧ w.grownBy w' none ∧ (∀ g, v'.ownBlock = some g → w.heap.size ≤ g) := by
 obtain ⟨ay, cy, rfl, hcy, hyc⟩ := hy
 obtain ⟨by_, oy, rfl, hyd⟩ : ∃ b off, ay = some ⟨b, off, none⟩ ∧ ∀ j u, ys[j]? = some u → w.cell? ⟨b, off + j, none⟩ = some u := by
  rcases hyc with h | h
  · rw [h] at hpos; simp at hpos
  · exact h
 have holds : ∀ j u, xs[j]? = some u → w.cell? ((⟨g, 0, none⟩ : Addr).add j) = some u := fun j u hj => by
  obtain ⟨a, c, hv, _, h | ⟨b, off, rfl, h⟩⟩ := hx
  · rw [h] at hj; simp at hj
  · simp only [Value.slice.injEq, Option.some.injEq, Addr.mk.injEq, and_true] at hv
    obtain ⟨⟨rfl, rfl⟩, _⟩ := hv
    have h2 := h j u hj
    rwa [show ((⟨g, 0, none⟩ : Addr).add j) = ⟨g, 0 + j, none⟩ from by unfold Addr.add; split <;> simp_all]
 have hsmall : n + ys.length ≤ 9223372036854775807 := by simp only [maxLen] at h63; omega
 have hr := run_append_grow (P := P) w t ty e i z ht hi hz ⟨g, 0, none⟩ n n xs (by rw [hsize]; omega) holds ⟨by_, oy, none⟩ ys.length cy ys (by rw [hsize]; omega) (fun j u hj => by
  have := hyd j u hj
  rw [show ((⟨by_, oy, none⟩ : Addr).add j) = ⟨by_, oy + j, none⟩ from by unfold Addr.add; split <;> simp_all]
  exact this) (by omega) (by omega) (growslice_fits (by omega) (by rw [hby]; exact hbytes))
 have hge := grownCap_ge w (n + ys.length) n e
 have hcm : grownCap w (n + ys.length) n e ≤ maxLen := grownCap_le_maxLen w (n + ys.length) n e h63
 refine ⟨_, _, hr, ⟨by rw [List.length_append]; omega, .inr ⟨w.heap.size, _, _, rfl, hbase, heap_alloc_new w.drew _, hge, hcm, ?_, ?_⟩⟩, ⟨rfl, rfl, rfl, by simp, fun k hk _ => Below.heap_alloc w.drew _ k hk⟩, fun g hg => by simp only [Value.ownBlock, Option.some.injEq] at hg; omega⟩
 · simp only [Array.size_append, List.size_toArray, size_zeroCells, hzs]
   omega
 · simp only [Array.toList_append, List.append_assoc]
   rw [← List.append_assoc, show (n + ys.length) * 1 = (xs ++ ys).length by rw [List.length_append]; omega]
   exact List.take_left
theorem wpList_append_full (w : World) {ops : Array Oper} {rest : List Oper} {o : Oper} {a : Act} {Q : Exit → Act → World → Prop} (hgd : o.guard = none) (s x : Operand) (t : TypeId)
 (ho : o.op = .call { callee := .builtin .append, args := #[s, x], argTypes := #[t, t] })
 (base : Nat) (e : TypeId) (i : TypeInfo) (z : Value) (bytes : Nat) (ht : P.underlying t = some (.slice e)) (hi : P.info? e = some i) (hz : i.zero = some z)
 (hsize : i.size = 1) (hby : i.bytes = bytes) (hzs : z.cells.size = 1) (g n : Nat) (xs : List Value) (hs : a.eval s = .slice (some ⟨g, 0, none⟩) n n) (hx : Holds w (.slice (some ⟨g, 0, none⟩) n n) xs) (hxl : xs.length = n) (y : Value) (ys : List Value) (hxe : a.eval x = y) (hy : Holds w y ys) (hpos : 0 < ys.length)
 (h63 : n + ys.length ≤ maxLen) (hbytes : (n + ys.length) * bytes ≤ 140737488355328) (hbase : base ≤ w.heap.size)
 (h : ∀ v' w', w'.ownsRow base e 1 v' (n + ys.length) (xs ++ ys) → w.grownBy w' none → (∀ g, v'.ownBlock = some g → w.heap.size ≤ g) → wpList P ops Q rest (a.put o.dst v') w') : wpList P ops Q (o :: rest) a w := by
 obtain ⟨v', w', hr, h2, h3, h4⟩ := run_append_full (P := P) w base t o.type e i z bytes ht hi hz hsize hby hzs g n xs hx hxl y ys hy hpos h63 hbytes hbase
 refine wpList_plain hgd fun K hK => ?_
 unfold Oper.wp execOp
 simp only [ho, resolve, invoke, builtin, Sem.run_bind, Sem.run_pure, Result.andThen_ok, List.map_toArray, List.map_cons, List.map_nil, hs, hxe, hr]
 exact hK _ _ (h v' w' h2 h3 h4)
end
theorem appsec_full (base g : Nat) (vd : Value) (l data : List Nat) (id : Nat) (w : World) (h : Holds w (.slice (some ⟨g, 0, none⟩) l.length l.length) (u8s l)) (hl : l.length ≤ 1000000000) (hd : Holds w vd (u8s data)) (hdb : ∀ c ∈ data, c < 256) (hdl : data.length ≤ 1000000000) (hid : id < 256) (hb0 : base ≤ w.heap.size) (hT : TabC w) (hTb : 1 < base) :
 Calls Tryz.prog 69 #[.slice (some ⟨g, 0, none⟩) l.length l.length, .agg #[.int .u8 (id : Int), vd]] w fun e w' => ∃ v', e = .returned v' ∧ w'.ownsRow base 5 1 v' (u8s (l ++ secO id data)).length (u8s (l ++ secO id data)) ∧ Keeps (fun _ => False) w w' ∧ (∀ g, v'.ownBlock = some g → w.heap.size ≤ g) := by
 obtain ⟨i0, hi, hz0, hz1, hz2⟩ := info_parts infoU8
 have hlt := frameO_lt id data hid hdb hdl
 have hln := lenB_length data
 have hbn := bytesN_strN data hdb
 have hss := strN_size data
 obtain ⟨W1, hW1⟩ : ∃ W1, W1 = (w.alloc (.cells #[.int .u8 (id : Int), vd] 142)).alloc (.cells #[.int .u8 (id : Int)] 5) := ⟨_, rfl⟩
 have hk1 : Keeps (fun _ => False) w W1 := by rw [hW1]; exact ((Keeps.refl _ w).alloc _).alloc _
 have hs1 : W1.heap.size = w.heap.size + 2 := by rw [hW1]; simp
 have hc1 : W1.heap[w.heap.size]? = some (.cells #[.int .u8 (id : Int), vd] 142 (0, 0)) := by
  rw [hW1]; exact (Below.heap_alloc _ _ _ (by simp)).trans (heap_alloc_new w _)
 have hv1 : W1.cell? ⟨w.heap.size, 1, none⟩ = some vd := by rw [cell_of_row _ _ _ _ _ _ hc1]; rfl
 have hrow1 : W1.ownsRow (w.heap.size + 1) 5 1 (.slice (some ⟨w.heap.size + 1, 0, none⟩) 1 1) (u8s [id]).length (u8s [id]) := by
  refine ⟨rfl, .inr ⟨w.heap.size + 1, 1, #[.int .u8 (id : Int)], rfl, Nat.le_refl _, ?_, Nat.le_refl _, by unfold maxLen; omega, rfl, rfl⟩⟩
  rw [hW1]
  have := heap_alloc_new (w.alloc (.cells #[.int .u8 (id : Int), vd] 142)) (.cells #[.int .u8 (id : Int)] 5)
  rwa [show (w.alloc (.cells #[.int .u8 (id : Int), vd] 142)).heap.size = w.heap.size + 1 by simp] at this
 have hconv := qdo (hd.keeps hk1 (fun _ _ e => e))
 have HAB := Hj (appb_any (w.heap.size + 1) _ [id] (strN data) W1 hrow1 (by simp) (by rw [hss]; exact hdl) (by omega))
 rw [hbn] at HAB
 have HF : Hid ([id] ++ lenB data = frameO id data) := Hj rfl
 rw [HF.out] at HAB
 have HCR : Hid (∀ (wq : World) (vq : Value), Keeps (fun k => w.heap.size + 1 ≤ k) W1 wq → wq.ownsRow (w.heap.size + 1) 5 1 vq (frameO id data).length (u8s (frameO id data)) → Calls Tryz.prog 71 #[vq] wq fun e w' => ∃ v', e = .returned v' ∧ w'.ownsRow wq.heap.size 5 1 v' (secO id data).length (u8s (secO id data)) ∧ Keeps (fun _ => False) wq w') := Hj (fun wq vq hk hr =>
  crca_any vq (frameO id data) wq (qaq (show wq.ownsRow (w.heap.size + 1) 5 1 vq (u8s (frameO id data)).length (u8s (frameO id data)) by rw [qac]; exact hr)) hlt (by unfold frameO; rw [List.length_cons]; omega) ((hT.keeps hk1 (fun e => e)).keeps hk (fun e => by omega)))
 have HH := Hj h; have HK1 := Hj hk1; have HS1 := Hj hs1; have HB0 := Hj hb0; have HW1 := Hj hW1
 have HSL := Hj (qcl id data)
 have HSP : Hid (0 < (secO id data).length) := Hj (by unfold secO; rw [crcApp_length]; omega)
 rw [hW1] at hconv
 clear h hd hT hk1 hc1 hrow1 hlt hbn hss hs1 hb0 hln hv1 hW1
 go_enter Tryz.func69, Tryz.ntmps69
 go_wp2_with (first
  | (go_at_call 126; rw [← HW1.out]; refine HAB.out.mono ?_; rintro e w2 ⟨v2, rfl, h2, hk2⟩; have H2 := Hj h2; have HK2 := Hj hk2; clear h2 hk2)
  | (go_at_call 71; refine (HCR.out _ _ HK2.out H2.out).mono ?_; rintro e w3 ⟨v3, rfl, h3, hk3⟩; have HH3 := Hj (qaq (show w3.ownsRow w2.heap.size 5 1 v3 (u8s (secO id data)).length (u8s (secO id data)) by rw [qac]; exact h3))
     have hkk : Keeps (fun k => w.heap.size + 1 ≤ k) W1 w3 := HK2.out.trans hk3 (fun _ _ e => e.elim)
     have hkw : Keeps (fun _ => False) w w3 := HK1.out.trans hkk (fun k hk e => by omega)
     have HKW := Hj hkw
     have HHW := Hj (HH.out.keeps hkw (fun _ _ e => e))
     clear h3 hk3 hkk hkw)
  | (at_builtin; refine wpList_append_full _ rfl _ _ 29 rfl base 5 i0 (.int .u8 0) 1 Tryz.underlying29 hi hz0 hz1 hz2 rfl g l.length (u8s l) rfl HHW.out (qac l) v3 (u8s (secO id data)) rfl HH3.out (by rw [qac]; exact HSP.out) (by rw [qac]; have := HSL.out; unfold maxLen; omega) (by rw [qac]; have := HSL.out; omega) (Nat.le_trans HB0.out HKW.out.size) ?_; intro v4 w4 hr4 hg4 hn4))
 go_ret
 refine ⟨v4, rfl, by simpa [u8s] using hr4, HKW.out.grown hg4 (fun k _ e => by cases e), fun g hg => Nat.le_trans HKW.out.size (hn4 g hg)⟩
end
section
set_option maxHeartbeats 1000000
set_option maxRecDepth 100000
open Go.RowKit
attribute [local go_sem ↓] Go.wp_at_zero Go.wp_at_succ
theorem take1_any {p bn br : Nat} {v : Value} {l : List Nat} {i x : Nat} {w : World} (h : IsRd w p v l i x) (n : Nat) (hn : n ≤ 1000000000000)
 (hcn : w.cell? ⟨bn, 0, none⟩ = some (.int .i64 (n : Int))) (hcr : w.cell? ⟨br, 0, none⟩ = some (.pointer (some ⟨p, 0, none⟩))) :
 Calls Tryz.prog 148 #[.int .i64 (i : Int), .pointer (some ⟨bn, 0, none⟩), .pointer (some ⟨br, 0, none⟩)] w fun e w' => ∃ u ut er, e = .returned (.tuple #[u, .int .i64 (ut : Nat), .int .i64 (er : Nat)]) ∧ (er = 0 → ut ≤ l.length) ∧
  (if n ≤ l.length - i then ut = i + n ∧ er = 0 ∧ w'.ownsRow w.heap.size 5 1 u n (u8s ((l.drop i).take n)) else u = .slice none 0 0 ∧ er = 3) ∧ Keeps (fun _ => False) w w' := by
 have HL := Hj (fun n => wleft_any (h.keep ((Keeps.refl (fun _ => False) w).drewN n)) i h.le)
 have hle := h.le
 have hlen := h.len
 have c0 := h.c0
 have hcases : (v = .slice none 0 0 ∧ l.length = 0) ∨ ∃ g cap, v = .slice (some ⟨g, 0, none⟩) l.length cap ∧ l.length ≤ cap := by
  rcases h.row.2 with ⟨hv, h0⟩ | ⟨g, cap, cur, hv, _, _, hle, _⟩
  · exact .inl ⟨hv, h0⟩
  · exact .inr ⟨g, cap, hv, hle⟩
 have HH := Hj h
 have hw1 : IntKind.i64.wrap ((i : Int) + n) = i + n := IntWalk.i64_in _ (by omega)
 clear h
 by_cases hni : n ≤ l.length - i
 · simp only [if_pos hni]
   have hg : ¬ (((l.length - i : Nat) : Int) < n) := by omega
   go_enter Tryz.func148, Tryz.ntmps148
   go_wp2
   go_quiet ((go_at_call 147; exact Calls.quiet_of_same (HL.out _)))
   go_wp2
   have HLN : Hid (((l.drop i).take n).length = n) := Hj (by rw [List.length_take, List.length_drop]; omega)
   rcases hcases with ⟨rfl, h0⟩ | ⟨g, cap, rfl, hcap⟩
   · obtain rfl : i = 0 := by omega
     obtain rfl : n = 0 := by omega
     clear hw1
     have hw2 : IntKind.i64.wrap 0 = 0 := rfl
     have HM : Hid (∀ m, Holds (w.drewN m) (.slice none 0 0) (u8s ((l.drop 0).take 0))) := Hj (fun m => by simpa [u8s] using Holds.nil _)
     go_region_held3 (fun x => Keeps (fun _ => False) w x ∧ x.cell? ⟨br, 0, none⟩ = some (.pointer (some ⟨p, 0, none⟩)) ∧ x.cell? ⟨bn, 0, none⟩ = some (.int .i64 ((0 : Nat) : Int)) ∧ x.cell? ⟨p, 0, none⟩ = some (.slice none 0 0)) (first | assumption | (refine ⟨?_, ?_, ?_, ?_⟩ <;> first | assumption | exact Keeps.drewN (Keeps.refl _ _) _ | exact Keeps.drew (Keeps.drewN (Keeps.refl _ _) _) | go_keep)) (first
      | (go_at_call 52; go_must (refine (qbp _ ((l.drop 0).take 0) _ (HM.out _) (by rw [List.length_take]; omega)).mono ?_; rintro e wb ⟨vb, rfl, hb, kb⟩; have d0 := kb.trans (Keeps.refl (fun _ => False) wb) (fun _ _ e => e); have d1 := (((Keeps.refl (fun _ => False) w).drewN _).trans kb (fun _ _ e => e)); have d2 := d1.cell hcr (fun e => e); have d3 := d1.cell hcn (fun e => e); have d4 := d1.cell c0 (fun e => e); have KB := Hj d1; have RB := Hj hb; clear d0 hb kb)))
     all_goals
      go_wp2
      go_ret3
      exact ⟨vb, 0 + 0, 0, by simp, fun _ => by omega, ⟨rfl, rfl, by have := RB.out; rwa [HLN.out] at this⟩, KB.out⟩
   · have b1 : (0 : Int) ≤ i := by omega
     have b2 : (i : Int) + n ≤ cap := by omega
     have b3 : (i : Int) ≤ i + n := by omega
     have b4 : ((i : Int) + n - i).toNat = n := by omega
     have b5 : ((cap : Int) - i).toNat = cap - i := by omega
     have b6 : ((i : Int) + n).toNat = i + n := by omega
     have hmid := HH.out.row
     by_cases hci : cap = i
     · obtain rfl : n = 0 := by omega
       subst hci
       clear b2 b3 b4 b5 b6 hw1 hmid
       have hw2 : IntKind.i64.wrap (cap : Int) = cap := IntWalk.i64_in _ (by omega)
       have HM : Hid (∀ (ad : Option Addr) m, Holds (w.drewN m) (.slice ad 0 0) (u8s ((l.drop cap).take 0))) := Hj (fun ad m => ⟨ad, 0, by simp [u8s], Nat.zero_le _, .inl (by simp [u8s])⟩)
       go_region_held3 (fun x => Keeps (fun _ => False) w x ∧ x.cell? ⟨br, 0, none⟩ = some (.pointer (some ⟨p, 0, none⟩)) ∧ x.cell? ⟨bn, 0, none⟩ = some (.int .i64 ((0 : Nat) : Int)) ∧ x.cell? ⟨p, 0, none⟩ = some (.slice (some ⟨g, 0, none⟩) l.length cap)) (first | assumption | (refine ⟨?_, ?_, ?_, ?_⟩ <;> first | assumption | exact Keeps.drewN (Keeps.refl _ _) _ | exact Keeps.drew (Keeps.drewN (Keeps.refl _ _) _) | go_keep)) (first
        | (go_at_call 52; go_must (refine (qbp _ ((l.drop cap).take 0) _ (HM.out _ _) (by rw [List.length_take]; omega)).mono ?_; rintro e wb ⟨vb, rfl, hb, kb⟩; have d0 := kb.trans (Keeps.refl (fun _ => False) wb) (fun _ _ e => e); have d1 := (((Keeps.refl (fun _ => False) w).drewN _).trans kb (fun _ _ e => e)); have d2 := d1.cell hcr (fun e => e); have d3 := d1.cell hcn (fun e => e); have d4 := d1.cell c0 (fun e => e); have KB := Hj d1; have RB := Hj hb; clear d0 hb kb)))
       all_goals
        go_wp2
        go_ret3
        exact ⟨vb, cap + 0, 0, by simp, fun _ => by omega, ⟨rfl, rfl, by have := RB.out; rwa [HLN.out] at this⟩, KB.out⟩
     · have b7 : ¬ ((cap : Int) = i) := by omega
       have HM : Hid (∀ m, Holds (w.drewN m) (.slice (some ⟨g, i, none⟩) n (cap - i)) (u8s ((l.drop i).take n))) := Hj (fun m => by
        have := (qaq (((Keeps.refl (fun _ => False) w).drewN m).row (show w.ownsRow 0 5 1 (.slice (some ⟨g, 0, none⟩) l.length cap) (u8s l).length (u8s l) by rw [qac]; exact hmid) (fun _ _ e => e)))
        obtain ⟨ad', cp', hv, _, hh⟩ := this
        simp only [Value.slice.injEq] at hv
        obtain ⟨rfl, _, rfl⟩ := hv
        refine ⟨_, cap - i, by rw [qac, List.length_take, List.length_drop]; congr 1; omega, by rw [qac, List.length_take, List.length_drop]; omega, ?_⟩
        rcases hh with hh | ⟨b, off, hb, hh⟩
        · left
          have hl0 : l.length = 0 := by have := congrArg List.length hh; rw [qac] at this; simpa using this
          have : l = [] := List.eq_nil_of_length_eq_zero hl0
          subst this; simp [u8s]
        · simp only [Option.some.injEq, Addr.mk.injEq] at hb
          obtain ⟨rfl, rfl, -⟩ := hb
          refine .inr ⟨g, i, rfl, fun j u hj => ?_⟩
          have hq : (u8s l)[i + j]? = some u := by
           unfold u8s at hj ⊢
           rw [List.getElem?_map, List.getElem?_take] at hj
           split at hj
           · rwa [List.getElem?_drop, ← List.getElem?_map] at hj
           · cases hj
          have := hh (i + j) u hq
          rwa [Nat.zero_add] at this)
       clear hmid
       go_region_held3 (fun x => Keeps (fun _ => False) w x ∧ x.cell? ⟨br, 0, none⟩ = some (.pointer (some ⟨p, 0, none⟩)) ∧ x.cell? ⟨bn, 0, none⟩ = some (.int .i64 (n : Int)) ∧ x.cell? ⟨p, 0, none⟩ = some (.slice (some ⟨g, 0, none⟩) l.length cap)) (first | assumption | (refine ⟨?_, ?_, ?_, ?_⟩ <;> first | assumption | exact Keeps.drewN (Keeps.refl _ _) _ | exact Keeps.drew (Keeps.drewN (Keeps.refl _ _) _) | go_keep)) (first
        | (go_at_call 52; go_must (refine (qbp _ ((l.drop i).take n) _ (HM.out _) (by rw [List.length_take]; omega)).mono ?_; rintro e wb ⟨vb, rfl, hb, kb⟩; have d0 := kb.trans (Keeps.refl (fun _ => False) wb) (fun _ _ e => e); have d1 := (((Keeps.refl (fun _ => False) w).drewN _).trans kb (fun _ _ e => e)); have d2 := d1.cell hcr (fun e => e); have d3 := d1.cell hcn (fun e => e); have d4 := d1.cell c0 (fun e => e); have KB := Hj d1; have RB := Hj hb; clear d0 hb kb)))
       all_goals
        go_wp2
        go_ret3
        exact ⟨vb, i + n, 0, by simp, fun _ => by omega, ⟨rfl, rfl, by have := RB.out; rwa [HLN.out] at this⟩, KB.out⟩
 · simp only [if_neg hni]
   have hg : (((l.length - i : Nat) : Int) < n) := by omega
   go_enter Tryz.func148, Tryz.ntmps148
   go_wp2
   go_quiet ((go_at_call 147; exact Calls.quiet_of_same (HL.out _)))
   go_wp2
   go_ret3
   exact ⟨_, 0, 3, rfl, by omega, ⟨rfl, rfl⟩, (Keeps.refl (fun _ => False) w).drewN _⟩
def rdTake (l : List Nat) (i x n : Nat) : List Nat × Nat × Nat := if x = 0 then if n ≤ l.length - i then ((l.drop i).take n, i + n, 0) else ([], i, 3) else ([], i, x)
theorem wtake_any {p : Nat} {v : Value} {l : List Nat} {i x : Nat} {w : World} (h : IsRd w p v l i x) (n : Nat) (hn : n ≤ 1000000000000) :
 Calls Tryz.prog 91 #[.pointer (some ⟨p, 0, none⟩), .int .i64 (n : Int)] w fun e w' => ∃ u, e = .returned u ∧ w'.ownsRow w.heap.size 5 1 u (rdTake l i x n).1.length (u8s (rdTake l i x n).1) ∧ IsRd w' p v l (rdTake l i x n).2.1 (rdTake l i x n).2.2 ∧ Keeps (fun k => k = p) w w' := by
 obtain ⟨W1, hW1⟩ : ∃ W1, W1 = (w.alloc (.cells #[.pointer (some ⟨p, 0, none⟩)] 173)).alloc (.cells #[.int .i64 (n : Int)] 3) := ⟨_, rfl⟩
 have hk1 : Keeps (fun _ => False) w W1 := by rw [hW1]; exact ((Keeps.refl _ w).alloc _).alloc _
 have hb0 : W1.heap[w.heap.size]? = some (.cells #[.pointer (some ⟨p, 0, none⟩)] 173 (0, 0)) := by
  rw [hW1]; exact (Below.heap_alloc _ _ _ (by simp)).trans (heap_alloc_new w _)
 have hb1 : W1.heap[w.heap.size + 1]? = some (.cells #[.int .i64 (n : Int)] 3 (0, 0)) := by
  rw [hW1]
  have := heap_alloc_new (w.alloc (.cells #[.pointer (some ⟨p, 0, none⟩)] 173)) (.cells #[.int .i64 (n : Int)] 3)
  rwa [show (w.alloc (.cells #[.pointer (some ⟨p, 0, none⟩)] 173)).heap.size = w.heap.size + 1 by simp] at this
 have cr : W1.cell? ⟨w.heap.size, 0, none⟩ = some (.pointer (some ⟨p, 0, none⟩)) := by rw [cell_of_row _ _ _ _ _ _ hb0]; rfl
 have cn : W1.cell? ⟨w.heap.size + 1, 0, none⟩ = some (.int .i64 (n : Int)) := by rw [cell_of_row _ _ _ _ _ _ hb1]; rfl
 have h1 := h.keep hk1
 have hpw := h.lt
 have hlt := h.own
 have hr := (wreadb_any 148 Tryz.call148 #[.pointer (some ⟨w.heap.size + 1, 0, none⟩), .pointer (some ⟨w.heap.size, 0, none⟩)] _ h1 (fun _ => take1_any h1 n hn cn cr)).mono (R' := fun e w' => ∃ u, e = .returned u ∧ w'.ownsRow w.heap.size 5 1 u (rdTake l i x n).1.length (u8s (rdTake l i x n).1) ∧ IsRd w' p v l (rdTake l i x n).2.1 (rdTake l i x n).2.2 ∧ Keeps (fun k => k = p) w w') (by
  rintro e w' (⟨hx, rfl, rfl⟩ | ⟨rfl, u, ut, er, w2, hu, hk2, hk3, hres⟩)
  · refine ⟨_, rfl, ?_, ?_, hk1.mono (fun _ _ e => e.elim)⟩
    · unfold rdTake; rw [if_neg hx]; exact World.ownsRow_nil _ _ _ _
    · unfold rdTake; rw [if_neg hx]; exact h1
  · have hkk : Keeps (fun k => k = p) w w' := (hk1.trans hk2 (fun _ _ e => e)).mono (S' := fun k => k = p) (fun _ _ e => e.elim) |>.trans hk3 (fun _ _ e => e)
    by_cases hni : n ≤ l.length - i
    · rw [if_pos hni] at hu
      obtain ⟨rfl, rfl, hrow⟩ := hu
      rw [if_pos rfl] at hres
      obtain ⟨rfl, hrd⟩ := hres
      have hl : ((l.drop i).take n).length = n := by rw [List.length_take, List.length_drop]; omega
      have e1 : rdTake l i 0 n = ((l.drop i).take n, i + n, 0) := by unfold rdTake; rw [if_pos rfl, if_pos hni]
      rw [e1]
      refine ⟨_, rfl, ?_, hrd, hkk⟩
      rw [hl]
      refine qam (hk3.row hrow (fun g hg e => ?_)) (fun g hg => ?_)
      · have := (hrow.lt g hg).1; have := hk1.size; omega
      · have := (hrow.lt g hg).1; have := hk1.size; omega
    · rw [if_neg hni] at hu
      obtain ⟨rfl, rfl⟩ := hu
      rw [if_neg (by decide)] at hres
      obtain ⟨rfl, hrd⟩ := hres
      have e1 : rdTake l i 0 n = ([], i, 3) := by unfold rdTake; rw [if_pos rfl, if_neg hni]
      rw [e1]
      exact ⟨_, rfl, World.ownsRow_nil _ _ _ _, hrd, hkk⟩)
 have HR := Hj hr; have HW1 := Hj hW1
 clear h hk1 hb0 hb1 h1 hW1 hr hlt hpw
 go_enter Tryz.func91, Tryz.ntmps91
 go_wp2_with (go_at_call 145; rw [← HW1.out]; refine HR.out.mono ?_; rintro e w2 ⟨u, rfl, hres⟩; have HRES := Hj hres; clear hres)
 go_ret
 exact ⟨u, rfl, HRES.out⟩
end
section
set_option maxHeartbeats 1000000
set_option maxRecDepth 100000
open Go.RowKit
theorem wreadu_any (fn : FuncId) (hE : ∀ (args : Array Value) (w : World), (callFunc fn args).run Tryz.prog w = .ok (.enter fn args) w) (cs : Array Value) (Φ : Value → Nat → Nat → World → Prop) {p : Nat} {v : Value} {l : List Nat} {i x : Nat} {w : World} (h : IsRd w p v l i x)
 (hf : x = 0 → Calls Tryz.prog fn (#[.int .i64 (i : Int)] ++ cs) w fun e w' => ∃ u ut er, e = .returned (.tuple #[u, .int .i64 (ut : Nat), .int .i64 (er : Nat)]) ∧ (er = 0 → ut ≤ l.length) ∧ Φ u ut er w' ∧ Keeps (fun _ => False) w w') :
 Calls Tryz.prog 215 #[.pointer (some ⟨p, 0, none⟩), .func (.func fn) #[] cs] w fun e w' =>
  (x ≠ 0 ∧ e = .returned (.int .u64 0) ∧ w' = w) ∨
  (x = 0 ∧ ∃ u ut er w2, Φ u ut er w2 ∧ Keeps (fun _ => False) w w2 ∧ Keeps (fun k => k = p) w2 w' ∧ (if er = 0 then e = .returned u ∧ IsRd w' p v l ut 0 else e = .returned (.int .u64 0) ∧ IsRd w' p v l i er)) := by
 have c1 := h.c1
 have HE := Hj (qch h)
 have HH := Hj h
 clear h
 by_cases hx : x = 0
 · subst hx
   have HF := Hj (hf rfl)
   clear hf
   go_enter Tryz.func215, Tryz.ntmps215
   go_wp2_with (first
    | (go_at_call 134; refine HE.out.mono ?_; rintro e w1 ⟨rfl, rfl⟩)
    | (refine HF.out.mono ?_
       rintro e w2 ⟨u, ut, er, rfl, hto, hu, hk⟩
       have hH2 := HH.out.keep hk
       have f1 := hH2.free 1
       have f2 := hH2.free 2
       have cc1 := hH2.c1
       have cc2 := hH2.c2
       have HH2 := Hj hH2; have HU := Hj hu; have HK := Hj hk; have HT := Hj hto
       clear hH2 hu hk hto c1
       by_cases her : er = 0
       all_goals (first | subst her | have hne : (((er : Nat) : Int) == 0) = false := by simp; omega)))
   · go_ret
     exact .inr ⟨by simp, u, ut, 0, w2, HU.out, HK.out, (Keeps.refl (fun k => k = p) w2).setCell (p := ⟨p, 1, none⟩) (fun _ => rfl) _, by rw [if_pos rfl]; exact ⟨rfl, HH2.out.setAt ut (HT.out (by simp))⟩⟩
   · go_ret
     exact .inr ⟨by simp, u, ut, er, w2, HU.out, HK.out, (Keeps.refl (fun k => k = p) w2).setCell (p := ⟨p, 2, none⟩) (fun _ => rfl) _, by rw [if_neg her]; exact ⟨rfl, HH2.out.setErr er⟩⟩
 · have hx' : (((x : Nat) : Int) == 0) = false := by simp; omega
   clear hf
   go_enter Tryz.func215, Tryz.ntmps215
   go_wp2_with (first | (go_at_call 134; refine HE.out.mono ?_; rintro e w1 ⟨rfl, rfl⟩))
   go_ret
   exact .inl ⟨hx, rfl, rfl⟩
theorem wreads_any (fn : FuncId) (hE : ∀ (args : Array Value) (w : World), (callFunc fn args).run Tryz.prog w = .ok (.enter fn args) w) (cs : Array Value) (Φ : Value → Nat → Nat → World → Prop) {p : Nat} {v : Value} {l : List Nat} {i x : Nat} {w : World} (h : IsRd w p v l i x)
 (hf : x = 0 → Calls Tryz.prog fn (#[.int .i64 (i : Int)] ++ cs) w fun e w' => ∃ u ut er, e = .returned (.tuple #[u, .int .i64 (ut : Nat), .int .i64 (er : Nat)]) ∧ (er = 0 → ut ≤ l.length) ∧ Φ u ut er w' ∧ Keeps (fun _ => False) w w') :
 Calls Tryz.prog 180 #[.pointer (some ⟨p, 0, none⟩), .func (.func fn) #[] cs] w fun e w' =>
  (x ≠ 0 ∧ e = .returned (.string ⟨#[]⟩) ∧ w' = w) ∨
  (x = 0 ∧ ∃ u ut er w2, Φ u ut er w2 ∧ Keeps (fun _ => False) w w2 ∧ Keeps (fun k => k = p) w2 w' ∧ (if er = 0 then e = .returned u ∧ IsRd w' p v l ut 0 else e = .returned (.string ⟨#[]⟩) ∧ IsRd w' p v l i er)) := by
 have c1 := h.c1
 have HE := Hj (qch h)
 have HH := Hj h
 clear h
 by_cases hx : x = 0
 · subst hx
   have HF := Hj (hf rfl)
   clear hf
   go_enter Tryz.func180, Tryz.ntmps180
   go_wp2_with (first
    | (go_at_call 134; refine HE.out.mono ?_; rintro e w1 ⟨rfl, rfl⟩)
    | (refine HF.out.mono ?_
       rintro e w2 ⟨u, ut, er, rfl, hto, hu, hk⟩
       have hH2 := HH.out.keep hk
       have f1 := hH2.free 1
       have f2 := hH2.free 2
       have cc1 := hH2.c1
       have cc2 := hH2.c2
       have HH2 := Hj hH2; have HU := Hj hu; have HK := Hj hk; have HT := Hj hto
       clear hH2 hu hk hto c1
       by_cases her : er = 0
       all_goals (first | subst her | have hne : (((er : Nat) : Int) == 0) = false := by simp; omega)))
   · go_ret
     exact .inr ⟨by simp, u, ut, 0, w2, HU.out, HK.out, (Keeps.refl (fun k => k = p) w2).setCell (p := ⟨p, 1, none⟩) (fun _ => rfl) _, by rw [if_pos rfl]; exact ⟨rfl, HH2.out.setAt ut (HT.out (by simp))⟩⟩
   · go_ret
     exact .inr ⟨by simp, u, ut, er, w2, HU.out, HK.out, (Keeps.refl (fun k => k = p) w2).setCell (p := ⟨p, 2, none⟩) (fun _ => rfl) _, by rw [if_neg her]; exact ⟨rfl, HH2.out.setErr er⟩⟩
 · have hx' : (((x : Nat) : Int) == 0) = false := by simp; omega
   clear hf
   go_enter Tryz.func180, Tryz.ntmps180
   go_wp2_with (first | (go_at_call 134; refine HE.out.mono ?_; rintro e w1 ⟨rfl, rfl⟩))
   go_ret
   exact .inl ⟨hx, rfl, rfl⟩
theorem vgo_lenG (l : List Nat) : ∀ i acc, (vgo i acc l).2.1 ≤ i + l.length := by
 induction l with
 | nil => intro i acc; simp [vgo]
 | cons c r ih =>
   intro i acc
   rw [vgo]
   rw [List.length_cons]
   split
   · exact Nat.zero_le _
   · split
     · exact Nat.zero_le _
     · split
       · show i + 1 ≤ _; omega
       · have := ih (i + 1) (acc + c % 128 * 2 ^ (7 * i)); omega
theorem vgo_len (l : List Nat) : (vgo 0 0 l).2.1 ≤ l.length := by have := vgo_lenG l 0 0; omega
def rdUint (l : List Nat) (i x most : Nat) : Nat × Nat × Nat :=
 if x ≠ 0 then (0, i, x) else
 if (vgo 0 0 (l.drop i)).2.2 ≠ 0 then (0, i, (vgo 0 0 (l.drop i)).2.2) else
 if most < (vgo 0 0 (l.drop i)).1 then (0, i, 7) else ((vgo 0 0 (l.drop i)).1, i + (vgo 0 0 (l.drop i)).2.1, 0)
theorem uint1_any {p bm br : Nat} {v : Value} {l : List Nat} {i x : Nat} {w : World} (h : IsRd w p v l i x) (most : Nat)
 (hcm : w.cell? ⟨bm, 0, none⟩ = some (.int .u64 (most : Int))) (hcr : w.cell? ⟨br, 0, none⟩ = some (.pointer (some ⟨p, 0, none⟩))) :
 Calls Tryz.prog 216 #[.int .i64 (i : Int), .pointer (some ⟨br, 0, none⟩), .pointer (some ⟨bm, 0, none⟩)] w fun e w' => ∃ u ut er, e = .returned (.tuple #[u, .int .i64 (ut : Nat), .int .i64 (er : Nat)]) ∧ (er = 0 → ut ≤ l.length) ∧
  (er = (rdUint l i 0 most).2.2 ∧ (er = 0 → u = .int .u64 ((rdUint l i 0 most).1 : Nat) ∧ ut = (rdUint l i 0 most).2.1)) ∧ Keeps (fun _ => False) w w' := by
 have HG := Hj (vget_any v l i w (by have := qaq (show w.ownsRow 0 5 1 v (u8s l).length (u8s l) by rw [qac]; exact h.row); exact this) h.bytes h.le (by have := h.len; omega))
 have c0 := h.c0
 have hto := vgo_len (l.drop i)
 have hle := h.le
 unfold rdUint
 rw [if_neg (by simp)]
 unfold vres at HG
 obtain ⟨X, d, er, hv⟩ : ∃ X d er, vgo 0 0 (l.drop i) = (X, d, er) := ⟨_, _, _, rfl⟩
 rw [hv] at HG hto ⊢
 rw [List.length_drop] at hto
 simp only [] at HG hto ⊢
 clear h hv
 by_cases her : er = 0
 · subst her
   rw [if_pos rfl] at HG
   rw [if_neg (by simp)]
   by_cases hm : most < X
   · rw [if_pos hm]
     have hm' : (most : Int) < X := by omega
     go_enter Tryz.func216, Tryz.ntmps216
     go_wp2_with (go_at_call 132; refine HG.out.mono ?_; rintro e w1 ⟨rfl, rfl⟩)
     go_ret3
     exact ⟨_, i + d, 7, rfl, by omega, ⟨rfl, by omega⟩, Keeps.refl _ _⟩
   · rw [if_neg hm]
     have hm' : ¬ (most : Int) < X := by omega
     go_enter Tryz.func216, Tryz.ntmps216
     go_wp2_with (go_at_call 132; refine HG.out.mono ?_; rintro e w1 ⟨rfl, rfl⟩)
     go_ret3
     exact ⟨_, i + d, 0, rfl, by omega, ⟨rfl, fun _ => ⟨rfl, rfl⟩⟩, Keeps.refl _ _⟩
 · rw [if_neg her] at HG
   rw [if_pos her]
   have hne : (((er : Nat) : Int) == 0) = false := by simp; omega
   go_enter Tryz.func216, Tryz.ntmps216
   go_wp2_with (go_at_call 132; refine HG.out.mono ?_; rintro e w1 ⟨rfl, rfl⟩)
   go_ret3
   exact ⟨_, 0, er, rfl, by omega, ⟨rfl, by omega⟩, Keeps.refl _ _⟩
theorem rd_cells {w W1 : World} {p : Nat} {u : Value} {t : TypeId} (hW1 : W1 = (w.alloc (.cells #[.pointer (some ⟨p, 0, none⟩)] 173)).alloc (.cells #[u] t)) :
 Keeps (fun _ => False) w W1 ∧ W1.cell? ⟨w.heap.size, 0, none⟩ = some (.pointer (some ⟨p, 0, none⟩)) ∧ W1.cell? ⟨w.heap.size + 1, 0, none⟩ = some u := by
 have hb0 : W1.heap[w.heap.size]? = some (.cells #[.pointer (some ⟨p, 0, none⟩)] 173 (0, 0)) := by
  rw [hW1]; exact (Below.heap_alloc _ _ _ (by simp)).trans (heap_alloc_new w _)
 have hb1 : W1.heap[w.heap.size + 1]? = some (.cells #[u] t (0, 0)) := by
  rw [hW1]
  have := heap_alloc_new (w.alloc (.cells #[.pointer (some ⟨p, 0, none⟩)] 173)) (.cells #[u] t)
  rwa [show (w.alloc (.cells #[.pointer (some ⟨p, 0, none⟩)] 173)).heap.size = w.heap.size + 1 by simp] at this
 exact ⟨by rw [hW1]; exact ((Keeps.refl _ w).alloc _).alloc _, by rw [cell_of_row _ _ _ _ _ _ hb0]; rfl, by rw [cell_of_row _ _ _ _ _ _ hb1]; rfl⟩
theorem qdp {p : Nat} {v : Value} {l : List Nat} {i x : Nat} {w : World} (h : IsRd w p v l i x) (most : Nat) :
 Calls Tryz.prog 188 #[.pointer (some ⟨p, 0, none⟩), .int .u64 (most : Int)] w fun e w' => e = .returned (.int .u64 ((rdUint l i x most).1 : Nat)) ∧ IsRd w' p v l (rdUint l i x most).2.1 (rdUint l i x most).2.2 ∧ Keeps (fun k => k = p) w w' := by
 obtain ⟨W1, hW1⟩ : ∃ W1, W1 = (w.alloc (.cells #[.pointer (some ⟨p, 0, none⟩)] 173)).alloc (.cells #[.int .u64 (most : Int)] 23) := ⟨_, rfl⟩
 obtain ⟨hk1, cr, cn⟩ := rd_cells hW1
 have h1 := h.keep hk1
 have hr := (wreadu_any 216 Tryz.call216 #[.pointer (some ⟨w.heap.size, 0, none⟩), .pointer (some ⟨w.heap.size + 1, 0, none⟩)] _ h1 (fun _ => uint1_any h1 most cn cr)).mono (R' := fun e w' => e = .returned (.int .u64 ((rdUint l i x most).1 : Nat)) ∧ IsRd w' p v l (rdUint l i x most).2.1 (rdUint l i x most).2.2 ∧ Keeps (fun k => k = p) w w') (by
  rintro e w' (⟨hx, rfl, rfl⟩ | ⟨rfl, u, ut, er, w2, ⟨he, hu⟩, hk2, hk3, hres⟩)
  · have e1 : rdUint l i x most = (0, i, x) := by unfold rdUint; rw [if_pos hx]
    rw [e1]
    exact ⟨rfl, h1, hk1.mono (fun _ _ e => e.elim)⟩
  · have hkk : Keeps (fun k => k = p) w w' := (hk1.trans hk2 (fun _ _ e => e)).mono (S' := fun k => k = p) (fun _ _ e => e.elim) |>.trans hk3 (fun _ _ e => e)
    by_cases her : er = 0
    · rw [if_pos her] at hres
      obtain ⟨rfl, hrd⟩ := hres
      obtain ⟨rfl, rfl⟩ := hu her
      rw [← he, her]
      exact ⟨rfl, hrd, hkk⟩
    · rw [if_neg her] at hres
      obtain ⟨rfl, hrd⟩ := hres
      have e1 : rdUint l i 0 most = (0, i, er) := by
       rw [he] at her ⊢
       unfold rdUint at *
       rw [if_neg (by simp)] at *
       by_cases h1 : (vgo 0 0 (l.drop i)).2.2 ≠ 0
       · rw [if_pos h1] at *
       · rw [if_neg h1] at *
         by_cases h2 : most < (vgo 0 0 (l.drop i)).1
         · rw [if_pos h2] at *
         · rw [if_neg h2] at her; exact absurd rfl her
      rw [e1]
      exact ⟨rfl, hrd, hkk⟩)
 have HR := Hj hr; have HW1 := Hj hW1
 clear h hk1 h1 hW1 hr cr cn
 go_enter Tryz.func188, Tryz.ntmps188
 go_wp2_with (go_at_call 215; rw [← HW1.out]; refine HR.out.mono ?_; rintro e w2 ⟨rfl, hres⟩; have HRES := Hj hres; clear hres)
 go_ret
 exact ⟨rfl, HRES.out⟩
end
section
set_option maxHeartbeats 2000000
set_option maxRecDepth 100000
open Go.RowKit
theorem rd_mid {w : World} {l : List Nat} {g cap : Nat} (h : w.ownsRow 0 5 1 (.slice (some ⟨g, 0, none⟩) l.length cap) l.length (u8s l)) (a n : Nat) (ha : a + n ≤ l.length) (hc : l.length ≤ cap) :
 Holds w (.slice (some ⟨g, a, none⟩) n (cap - a)) (u8s ((l.drop a).take n)) := by
 have := qaq (show w.ownsRow 0 5 1 (.slice (some ⟨g, 0, none⟩) l.length cap) (u8s l).length (u8s l) by rw [qac]; exact h)
 obtain ⟨ad', cp', hv, _, hh⟩ := this
 simp only [Value.slice.injEq] at hv
 obtain ⟨rfl, _, rfl⟩ := hv
 refine ⟨_, cap - a, by rw [qac, List.length_take, List.length_drop]; congr 1; omega, by rw [qac, List.length_take, List.length_drop]; omega, ?_⟩
 rcases hh with hh | ⟨b, off, hb, hh⟩
 · left
   have hl0 : l.length = 0 := by have := congrArg List.length hh; rw [qac] at this; simpa using this
   have : l = [] := List.eq_nil_of_length_eq_zero hl0
   subst this; simp [u8s]
 · simp only [Option.some.injEq, Addr.mk.injEq] at hb
   obtain ⟨rfl, rfl, -⟩ := hb
   refine .inr ⟨g, a, rfl, fun j u hj => ?_⟩
   have hq : (u8s l)[a + j]? = some u := by
    unfold u8s at hj ⊢
    rw [List.getElem?_map, List.getElem?_take] at hj
    split at hj
    · rwa [List.getElem?_drop, ← List.getElem?_map] at hj
    · cases hj
   have := hh (a + j) u hq
   rwa [Nat.zero_add] at this
theorem holds_empty (w : World) (ad : Option Addr) (c : Nat) : Holds w (.slice ad 0 c) (u8s []) := ⟨ad, c, rfl, Nat.zero_le _, .inl rfl⟩
def rdStr (l : List Nat) (i x most : Nat) : List Nat × Nat × Nat :=
 if x ≠ 0 then ([], i, x) else
 if (vgo 0 0 (l.drop i)).2.2 ≠ 0 then ([], i, (vgo 0 0 (l.drop i)).2.2) else
 if most < (vgo 0 0 (l.drop i)).1 then ([], i, 7) else
 if l.length - (i + (vgo 0 0 (l.drop i)).2.1) < (vgo 0 0 (l.drop i)).1 then ([], i, 3) else
 ((l.drop (i + (vgo 0 0 (l.drop i)).2.1)).take (vgo 0 0 (l.drop i)).1, i + (vgo 0 0 (l.drop i)).2.1 + (vgo 0 0 (l.drop i)).1, 0)
theorem str1_any {p bm br : Nat} {v : Value} {l : List Nat} {i x : Nat} {w : World} (h : IsRd w p v l i x) (most : Nat) (hmost : most ≤ 1000000000000)
 (hcm : w.cell? ⟨bm, 0, none⟩ = some (.int .i64 (most : Int))) (hcr : w.cell? ⟨br, 0, none⟩ = some (.pointer (some ⟨p, 0, none⟩))) :
 Calls Tryz.prog 181 #[.int .i64 (i : Int), .pointer (some ⟨br, 0, none⟩), .pointer (some ⟨bm, 0, none⟩)] w fun e w' => ∃ u ut er, e = .returned (.tuple #[u, .int .i64 (ut : Nat), .int .i64 (er : Nat)]) ∧ (er = 0 → ut ≤ l.length) ∧
  (er = (rdStr l i 0 most).2.2 ∧ (er = 0 → u = .string (strN (rdStr l i 0 most).1) ∧ ut = (rdStr l i 0 most).2.1)) ∧ Keeps (fun _ => False) w w' := by
 have HG := Hj (vget_any v l i w (by have := qaq (show w.ownsRow 0 5 1 v (u8s l).length (u8s l) by rw [qac]; exact h.row); exact this) h.bytes h.le (by have := h.len; omega))
 have c0 := h.c0
 have hto := vgo_len (l.drop i)
 have hle := h.le
 have hlen := h.len
 have HH := Hj h
 unfold rdStr
 rw [if_neg (by simp)]
 unfold vres at HG
 obtain ⟨X, d, er, hv⟩ : ∃ X d er, vgo 0 0 (l.drop i) = (X, d, er) := ⟨_, _, _, rfl⟩
 rw [hv] at HG hto ⊢
 rw [List.length_drop] at hto
 simp only [] at HG hto ⊢
 have hmost0 : ¬ (most : Int) < 0 := by omega
 have hmw : IntKind.u64.wrap (most : Int) = most := IntWalk.u64_in _ (by omega)
 by_cases her : er = 0
 · subst her
   have HL := Hj (wleft_any h (i + d) (by omega))
   rw [if_pos rfl] at HG
   rw [if_neg (by simp)]
   have hlnil : l ≠ [] := by rintro rfl; simp [vgo] at hv
   by_cases hm : most < X
   · rw [if_pos hm]
     have hm' : (most : Int) < X := by omega
     clear h hv
     go_enter Tryz.func181, Tryz.ntmps181
     go_wp2_with (go_at_call 132; refine HG.out.mono ?_; rintro e w1 ⟨rfl, rfl⟩)
     go_ret3
     exact ⟨_, 0, 7, rfl, by omega, ⟨rfl, by omega⟩, Keeps.refl _ _⟩
   · rw [if_neg hm]
     have hm' : ¬ (most : Int) < X := by omega
     have hlw : IntKind.u64.wrap ((l.length - (i + d) : Nat) : Int) = ((l.length - (i + d) : Nat) : Int) := IntWalk.u64_in _ (by omega)
     by_cases hx : l.length - (i + d) < X
     · rw [if_pos hx]
       have hx' : ((l.length - (i + d) : Nat) : Int) < X := by omega
       clear h hv
       go_enter Tryz.func181, Tryz.ntmps181
       go_wp2_with (first | (go_at_call 132; refine HG.out.mono ?_; rintro e w1 ⟨rfl, rfl⟩) | (go_at_call 147; refine HL.out.mono ?_; rintro e w1 ⟨rfl, rfl⟩))
       go_ret3
       exact ⟨_, 0, 3, rfl, by omega, ⟨rfl, by omega⟩, Keeps.refl _ _⟩
     · rw [if_neg hx]
       have hx' : ¬ ((l.length - (i + d) : Nat) : Int) < X := by omega
       obtain ⟨g, cap, hvs, hcap⟩ : ∃ g cap, v = .slice (some ⟨g, 0, none⟩) l.length cap ∧ l.length ≤ cap := by
        rcases h.row.2 with ⟨hv, h0⟩ | ⟨g, cap, cur, hv, _, _, hle, _⟩
        · exact absurd (List.eq_nil_of_length_eq_zero h0) hlnil
        · exact ⟨g, cap, hv, hle⟩
       subst hvs
       have hkl : i + d ≤ l.length := by omega
       generalize i + d = k at *
       have hxw : IntKind.i64.wrap (X : Int) = X := IntWalk.i64_in _ (by omega)
       have hsw : IntKind.i64.wrap ((k : Int) + X) = k + X := IntWalk.i64_in _ (by omega)
       have b1 : (0 : Int) ≤ k := by omega
       have b2 : (k : Int) + X ≤ cap := by omega
       have b3 : (k : Int) ≤ k + X := by omega
       have b4 : ((k : Int) + X - k).toNat = X := by omega
       have b5 : ((cap : Int) - k).toNat = cap - k := by omega
       have hrow := h.row
       by_cases hck : cap = k
       · obtain rfl : X = 0 := by omega
         subst hck
         clear hxw hsw b2 b3 b4 b5 hx' hx
         have hxw : IntKind.i64.wrap 0 = 0 := rfl
         have hsw : IntKind.i64.wrap (cap : Int) = cap := IntWalk.i64_in _ (by omega)
         have hx' : ¬ ((l.length - cap : Nat) : Int) < 0 := by omega
         have hcv := fun ad => qdo (holds_empty w ad 0)
         have hdl : (l.drop cap).take 0 = [] := by simp
         clear h hv hrow
         go_enter Tryz.func181, Tryz.ntmps181
         go_wp2_with (first | (go_at_call 132; refine HG.out.mono ?_; rintro e w1 ⟨rfl, rfl⟩) | (go_at_call 147; refine HL.out.mono ?_; rintro e w1 ⟨rfl, rfl⟩))
         go_ret3
         exact ⟨_, cap, 0, rfl, by omega, ⟨rfl, fun _ => ⟨by rw [hdl]; rfl, rfl⟩⟩, Keeps.refl _ _⟩
       · have b7 : ¬ ((cap : Int) = k) := by omega
         have hcv := qdo (rd_mid hrow k X (by omega) hcap)
         clear h hv hrow
         go_enter Tryz.func181, Tryz.ntmps181
         go_wp2_with (first | (go_at_call 132; refine HG.out.mono ?_; rintro e w1 ⟨rfl, rfl⟩) | (go_at_call 147; refine HL.out.mono ?_; rintro e w1 ⟨rfl, rfl⟩))
         go_ret3
         exact ⟨_, k + X, 0, by simp, by omega, ⟨rfl, fun _ => ⟨rfl, rfl⟩⟩, Keeps.refl _ _⟩
 · rw [if_neg her] at HG
   rw [if_pos her]
   have hne : (((er : Nat) : Int) == 0) = false := by simp; omega
   clear h hv
   go_enter Tryz.func181, Tryz.ntmps181
   go_wp2_with (go_at_call 132; refine HG.out.mono ?_; rintro e w1 ⟨rfl, rfl⟩)
   go_ret3
   exact ⟨_, 0, er, rfl, by omega, ⟨rfl, by omega⟩, Keeps.refl _ _⟩
theorem rdStr_err (l : List Nat) (i most er : Nat) (h : er = (rdStr l i 0 most).2.2) (he : er ≠ 0) : rdStr l i 0 most = ([], i, er) := by
 subst h
 unfold rdStr at *
 rw [if_neg (by simp)] at *
 by_cases h1 : (vgo 0 0 (l.drop i)).2.2 ≠ 0
 · rw [if_pos h1] at *
 · rw [if_neg h1] at *
   by_cases h2 : most < (vgo 0 0 (l.drop i)).1
   · rw [if_pos h2] at *
   · rw [if_neg h2] at *
     by_cases h3 : l.length - (i + (vgo 0 0 (l.drop i)).2.1) < (vgo 0 0 (l.drop i)).1
     · rw [if_pos h3] at *
     · rw [if_neg h3] at he; exact absurd rfl he
theorem wstr_any {p : Nat} {v : Value} {l : List Nat} {i x : Nat} {w : World} (h : IsRd w p v l i x) (most : Nat) (hmost : most ≤ 1000000000000) :
 Calls Tryz.prog 133 #[.pointer (some ⟨p, 0, none⟩), .int .i64 (most : Int)] w fun e w' => e = .returned (.string (strN (rdStr l i x most).1)) ∧ IsRd w' p v l (rdStr l i x most).2.1 (rdStr l i x most).2.2 ∧ Keeps (fun k => k = p) w w' := by
 obtain ⟨W1, hW1⟩ : ∃ W1, W1 = (w.alloc (.cells #[.pointer (some ⟨p, 0, none⟩)] 173)).alloc (.cells #[.int .i64 (most : Int)] 3) := ⟨_, rfl⟩
 obtain ⟨hk1, cr, cn⟩ := rd_cells hW1
 have h1 := h.keep hk1
 have hr := (wreads_any 181 Tryz.call181 #[.pointer (some ⟨w.heap.size, 0, none⟩), .pointer (some ⟨w.heap.size + 1, 0, none⟩)] _ h1 (fun _ => str1_any h1 most hmost cn cr)).mono (R' := fun e w' => e = .returned (.string (strN (rdStr l i x most).1)) ∧ IsRd w' p v l (rdStr l i x most).2.1 (rdStr l i x most).2.2 ∧ Keeps (fun k => k = p) w w') (by
  rintro e w' (⟨hx, rfl, rfl⟩ | ⟨rfl, u, ut, er, w2, ⟨he, hu⟩, hk2, hk3, hres⟩)
  · have e1 : rdStr l i x most = ([], i, x) := by unfold rdStr; rw [if_pos hx]
    rw [e1]
    exact ⟨rfl, h1, hk1.mono (fun _ _ e => e.elim)⟩
  · have hkk : Keeps (fun k => k = p) w w' := (hk1.trans hk2 (fun _ _ e => e)).mono (S' := fun k => k = p) (fun _ _ e => e.elim) |>.trans hk3 (fun _ _ e => e)
    by_cases her : er = 0
    · rw [if_pos her] at hres
      obtain ⟨rfl, hrd⟩ := hres
      obtain ⟨rfl, rfl⟩ := hu her
      rw [← he, her]
      exact ⟨rfl, hrd, hkk⟩
    · rw [if_neg her] at hres
      obtain ⟨rfl, hrd⟩ := hres
      rw [rdStr_err l i most er he her]
      exact ⟨rfl, hrd, hkk⟩)
 have HR := Hj hr; have HW1 := Hj hW1
 clear h hk1 h1 hW1 hr cr cn
 go_enter Tryz.func133, Tryz.ntmps133
 go_wp2_with (go_at_call 180; rw [← HW1.out]; refine HR.out.mono ?_; rintro e w2 ⟨rfl, hres⟩; have HRES := Hj hres; clear hres)
 go_ret
 exact ⟨rfl, HRES.out⟩
end
section
set_option maxHeartbeats 2000000
set_option maxRecDepth 100000
open Go.RowKit
def rdSecB (l : List Nat) (i : Nat) (g : Nat × Nat × Nat) : List Nat × Nat × Nat :=
 if g.2.2 ≠ 0 then ([], i, g.2.2) else
 if l.length - (i + 1 + g.2.1) < 4 + g.1 then ([], i, 3) else
 if chkO ((l.drop i).take (1 + g.2.1 + g.1 + 4)) = false then ([], i, 12) else
 ((l.drop (i + 1 + g.2.1)).take g.1, i + 1 + g.2.1 + g.1 + 4, 0)
def rdSec (l : List Nat) (i x id : Nat) : List Nat × Nat × Nat :=
 if x ≠ 0 then ([], i, x) else
 if l.length ≤ i then ([], i, 3) else
 if l.getD i 0 ≠ id then ([], i, 11) else rdSecB l i (vgo 0 0 (l.drop (i + 1)))
theorem sec1_any {p bm br : Nat} {v : Value} {l : List Nat} {i x : Nat} {w : World} (h : IsRd w p v l i x) (id : Nat) (hid : id < 256) (hT : TabC w)
 (hcm : w.cell? ⟨bm, 0, none⟩ = some (.int .u8 (id : Int))) (hcr : w.cell? ⟨br, 0, none⟩ = some (.pointer (some ⟨p, 0, none⟩))) :
 Calls Tryz.prog 146 #[.int .i64 (i : Int), .pointer (some ⟨br, 0, none⟩), .pointer (some ⟨bm, 0, none⟩)] w fun e w' => ∃ u ut er, e = .returned (.tuple #[u, .int .i64 (ut : Nat), .int .i64 (er : Nat)]) ∧ (er = 0 → ut ≤ l.length) ∧
  (er = (rdSec l i 0 id).2.2 ∧ (er = 0 → ut = (rdSec l i 0 id).2.1 ∧ w'.ownsRow w.heap.size 5 1 u (rdSec l i 0 id).1.length (u8s (rdSec l i 0 id).1))) ∧ Keeps (fun _ => False) w w' := by
 have c0 := h.c0
 have hle := h.le
 have hlen := h.len
 have HL0 := Hj (wleft_any h i h.le)
 unfold rdSec
 rw [if_neg (by simp)]
 by_cases hil : l.length ≤ i
 · rw [if_pos hil]
   have hz : l.length - i = 0 := by omega
   rw [hz] at HL0
   clear h
   go_enter Tryz.func146, Tryz.ntmps146
   go_wp2_with (go_at_call 147; refine HL0.out.mono ?_; rintro e w1 ⟨rfl, rfl⟩)
   go_ret3
   exact ⟨_, 0, 3, rfl, by omega, ⟨rfl, by omega⟩, Keeps.refl _ _⟩
 rw [if_neg hil]
 obtain ⟨g, cap, hvs, hcap⟩ : ∃ g cap, v = .slice (some ⟨g, 0, none⟩) l.length cap ∧ l.length ≤ cap := by
  rcases h.row.2 with ⟨hv, h0⟩ | ⟨g, cap, cur, hv, _, _, hle, _⟩
  · omega
  · exact ⟨g, cap, hv, hle⟩
 subst hvs
 have hl1 : ¬ ((l.length - i : Nat) : Int) < 1 := by omega
 have hrow := h.row
 have hhold := qaq (show w.ownsRow 0 5 1 (.slice (some ⟨g, 0, none⟩) l.length cap) (u8s l).length (u8s l) by rw [qac]; exact hrow)
 obtain ⟨b, hb⟩ : ∃ b, b = l.getD i 0 := ⟨_, rfl⟩
 have hcell : w.cell? ⟨g, i, none⟩ = some (.int .u8 (b : Int)) := by
  obtain ⟨ad', cp', hv, _, hh⟩ := hhold
  simp only [Value.slice.injEq] at hv
  obtain ⟨rfl, _, rfl⟩ := hv
  rcases hh with hh | ⟨b', off, hb', hh⟩
  · have := congrArg List.length hh; rw [qac] at this; simp only [List.length_nil] at this; omega
  · simp only [Option.some.injEq, Addr.mk.injEq] at hb'
    obtain ⟨rfl, rfl, -⟩ := hb'
    have hbi : l[i]? = some b := by rw [hb, List.getD_eq_getElem?_getD, List.getElem?_eq_getElem (h := by omega)]; rfl
    have := hh i (.int .u8 (b : Int)) (by unfold u8s; rw [List.getElem?_map, hbi]; rfl)
    rwa [Nat.zero_add] at this
 rw [← hb]
 have i1 : (0 : Int) ≤ i := by omega
 have i2 : (i : Int) < l.length := by omega
 by_cases hbi : b ≠ id
 · rw [if_pos hbi]
   have hbi' : ((b : Int) == (id : Int)) = false := by simp; omega
   clear h hhold hrow hb
   go_enter Tryz.func146, Tryz.ntmps146
   go_wp2_with (go_at_call 147; refine HL0.out.mono ?_; rintro e w1 ⟨rfl, rfl⟩)
   go_quiet (fail)
   go_wp2
   go_ret3
   exact ⟨_, 0, 11, rfl, by omega, ⟨rfl, by omega⟩, (Keeps.refl (fun _ => False) _).drewN _⟩
 rw [if_neg hbi]
 simp only [ne_eq, Decidable.not_not] at hbi
 subst hbi
 have HG := Hj (fun n => vget_any (.slice (some ⟨g, 0, none⟩) l.length cap) l (i + 1) (w.drewN n) (hhold.keeps ((Keeps.refl (fun _ => False) w).drewN n) (fun _ _ e => e)) h.bytes (by omega) (by omega))
 have hto := vgo_len (l.drop (i + 1))
 obtain ⟨X, d, er, hv⟩ : ∃ X d er, vgo 0 0 (l.drop (i + 1)) = (X, d, er) := ⟨_, _, _, rfl⟩
 have hw1 : IntKind.i64.wrap ((i : Int) + 1) = ((i + 1 : Nat) : Int) := by rw [IntWalk.i64_in _ (by omega)]; omega
 unfold vres at HG
 rw [hv] at HG hto ⊢
 rw [List.length_drop] at hto
 simp only [] at HG hto ⊢
 unfold rdSecB
 simp only []
 by_cases her : er = 0
 · subst her
   rw [if_pos rfl] at HG
   rw [if_neg (by simp)]
   have hkl : i + 1 + d ≤ l.length := by omega
   have HL := Hj (fun n => wleft_any (h.keep ((Keeps.refl (fun _ => False) w).drewN n)) (i + 1 + d) hkl)
   have hk0 : i + 1 ≤ i + 1 + d := by omega
   have hdk : ∀ X, 1 + d + X + 4 = i + 1 + d + X + 4 - i := fun X => by omega
   rw [hdk X]
   clear hdk hto hv
   generalize i + 1 + d = k at *
   obtain ⟨m, hm⟩ : ∃ m, m = l.length - k := ⟨_, rfl⟩
   have hmk : k + m = l.length := by omega
   rw [← hm] at HL ⊢
   have hw2 : IntKind.i64.wrap ((m : Int) - 4) = (m : Int) - 4 := IntWalk.i64_in _ (by omega)
   by_cases hm4 : m < 4 + X
   · rw [if_pos hm4]
     by_cases hm3 : m < 4
     · have hn0 : (m : Int) - 4 < 0 := by omega
       clear h hhold hrow hb
       go_enter Tryz.func146, Tryz.ntmps146
       go_wp2_with (first | (go_at_call 147; refine HL0.out.mono ?_; rintro e w1 ⟨rfl, rfl⟩))
       go_quiet (fail)
       go_wp2_with (first | (go_at_call 132; refine (HG.out _).mono ?_; rintro e w1 ⟨rfl, rfl⟩) | (go_at_call 147; refine (HL.out _).mono ?_; rintro e w1 ⟨rfl, rfl⟩))
       go_ret3
       exact ⟨_, 0, 3, rfl, by omega, ⟨rfl, by omega⟩, (Keeps.refl (fun _ => False) _).drewN _⟩
     · have hn0 : ¬ (m : Int) - 4 < 0 := by omega
       have hw3 : IntKind.u64.wrap ((m : Int) - 4) = (m : Int) - 4 := IntWalk.u64_in _ (by omega)
       have hn1 : (m : Int) - 4 < X := by omega
       clear h hhold hrow hb
       go_enter Tryz.func146, Tryz.ntmps146
       go_wp2_with (first | (go_at_call 147; refine HL0.out.mono ?_; rintro e w1 ⟨rfl, rfl⟩))
       go_quiet (fail)
       go_wp2_with (first | (go_at_call 132; refine (HG.out _).mono ?_; rintro e w1 ⟨rfl, rfl⟩) | (go_at_call 147; refine (HL.out _).mono ?_; rintro e w1 ⟨rfl, rfl⟩))
       go_ret3
       exact ⟨_, 0, 3, rfl, by omega, ⟨rfl, by omega⟩, (Keeps.refl (fun _ => False) _).drewN _⟩
   · rw [if_neg hm4]
     have hn0 : ¬ (m : Int) - 4 < 0 := by omega
     have hw3 : IntKind.u64.wrap ((m : Int) - 4) = (m : Int) - 4 := IntWalk.u64_in _ (by omega)
     have hn1 : ¬ (m : Int) - 4 < X := by omega
     have hw4 : IntKind.i64.wrap (X : Int) = X := IntWalk.i64_in _ (by omega)
     have hw5 : IntKind.i64.wrap ((k : Int) + X) = ((k + X : Nat) : Int) := by rw [IntWalk.i64_in _ (by omega)]; omega
     generalize ht : k + X = t at *
     have hw6 : IntKind.i64.wrap ((t : Int) + 4) = ((t + 4 : Nat) : Int) := by rw [IntWalk.i64_in _ (by omega)]; omega
     have HCK := Hj (fun n => crck_any (.slice (some ⟨g, i, none⟩) (t + 4 - i) (cap - i)) ((l.drop i).take (t + 4 - i)) (w.drewN n) ((rd_mid hrow i (t + 4 - i) (by omega) hcap).keeps ((Keeps.refl (fun _ => False) w).drewN n) (fun _ _ e => e)) (fun c hc => h.bytes c (List.mem_of_mem_drop (List.mem_of_mem_take hc))) (by rw [List.length_take, List.length_drop]; omega) (hT.keeps ((Keeps.refl (fun _ => False) w).drewN n) (fun e => e)))
     have HCL := Hj (fun n => qbp (.slice (some ⟨g, k, none⟩) (t - k) (cap - k)) ((l.drop k).take X) (w.drewN n) (by rw [show X = t - k by omega]; exact (rd_mid hrow k (t - k) (by omega) hcap).keeps ((Keeps.refl (fun _ => False) w).drewN n) (fun _ _ e => e)) (by rw [List.length_take, List.length_drop]; omega))
     generalize hu : t + 4 = u at *
     have s1 : (i : Int) ≤ u := by omega
     have s2 : (u : Int) ≤ cap := by omega
     have s3 : ((u : Int) - i).toNat = u - i := by omega
     have s4 : ((cap : Int) - i).toNat = cap - i := by omega
     have s5 : ¬ (cap : Int) = i := by omega
     have s6 : (0 : Int) ≤ k := by omega
     have s7 : (k : Int) ≤ t := by omega
     have s8 : (t : Int) ≤ cap := by omega
     have s9 : ((t : Int) - k).toNat = t - k := by omega
     have s10 : ((cap : Int) - k).toNat = cap - k := by omega
     have s11 : ¬ (cap : Int) = k := by omega
     have hul : u ≤ l.length := by omega
     by_cases hck : chkO ((l.drop i).take (u - i)) = false
     · rw [if_pos hck]
       rw [hck] at HCK
       clear h hhold hrow hb
       go_enter Tryz.func146, Tryz.ntmps146
       go_wp2_with (first | (go_at_call 147; refine HL0.out.mono ?_; rintro e w1 ⟨rfl, rfl⟩))
       go_quiet (fail)
       go_wp2_with (first | (go_at_call 132; refine (HG.out _).mono ?_; rintro e w1 ⟨rfl, rfl⟩) | (go_at_call 147; refine (HL.out _).mono ?_; rintro e w1 ⟨rfl, rfl⟩) | (go_at_call 92; refine (HCK.out _).mono ?_; rintro e w1 ⟨rfl, rfl⟩))
       go_ret3
       exact ⟨_, 0, 12, rfl, by omega, ⟨rfl, by omega⟩, (Keeps.refl (fun _ => False) _).drewN _⟩
     · rw [if_neg hck]
       have hck' : chkO ((l.drop i).take (u - i)) = true := by simpa using hck
       rw [hck'] at HCK
       clear h hhold hrow hb
       go_enter Tryz.func146, Tryz.ntmps146
       go_wp2_with (first | (go_at_call 147; refine HL0.out.mono ?_; rintro e w1 ⟨rfl, rfl⟩))
       go_quiet (fail)
       go_wp2_with (first | (go_at_call 132; refine (HG.out _).mono ?_; rintro e w1 ⟨rfl, rfl⟩) | (go_at_call 147; refine (HL.out _).mono ?_; rintro e w1 ⟨rfl, rfl⟩) | (go_at_call 92; refine (HCK.out _).mono ?_; rintro e w1 ⟨rfl, rfl⟩) | (go_at_call 52; refine (HCL.out _).mono ?_; rintro e wb ⟨vb, rfl, hb, kb⟩; have RB := Hj hb; have KB := Hj kb; clear hb kb))
       go_ret3
       exact ⟨vb, u, 0, by simp, by omega, ⟨rfl, fun _ => ⟨rfl, RB.out⟩⟩, ((Keeps.refl (fun _ => False) _).drewN _).trans KB.out (fun _ _ e => e)⟩
 · rw [if_neg her] at HG
   rw [if_pos her]
   have hne : (((er : Nat) : Int) == 0) = false := by simp; omega
   clear h hv hhold hrow hb
   go_enter Tryz.func146, Tryz.ntmps146
   go_wp2_with (first | (go_at_call 147; refine HL0.out.mono ?_; rintro e w1 ⟨rfl, rfl⟩))
   go_quiet (fail)
   go_wp2_with (go_at_call 132; refine (HG.out _).mono ?_; rintro e w1 ⟨rfl, rfl⟩)
   go_ret3
   exact ⟨_, 0, er, rfl, by omega, ⟨rfl, by omega⟩, (Keeps.refl (fun _ => False) _).drewN _⟩
end
section
set_option maxHeartbeats 1000000
set_option maxRecDepth 100000
open Go.RowKit
theorem rdSec_err (l : List Nat) (i id er : Nat) (h : er = (rdSec l i 0 id).2.2) (he : er ≠ 0) : rdSec l i 0 id = ([], i, er) := by
 subst h
 unfold rdSec at *
 rw [if_neg (by simp)] at *
 by_cases h1 : l.length ≤ i
 · rw [if_pos h1]
 · rw [if_neg h1] at *
   by_cases h2 : l.getD i 0 ≠ id
   · rw [if_pos h2] at *
   · rw [if_neg h2] at *
     unfold rdSecB at *
     by_cases h3 : (vgo 0 0 (l.drop (i + 1))).2.2 ≠ 0
     · rw [if_pos h3] at *
     · rw [if_neg h3] at *
       by_cases h4 : l.length - (i + 1 + (vgo 0 0 (l.drop (i + 1))).2.1) < 4 + (vgo 0 0 (l.drop (i + 1))).1
       · rw [if_pos h4] at *
       · rw [if_neg h4] at *
         by_cases h5 : chkO ((l.drop i).take (1 + (vgo 0 0 (l.drop (i + 1))).2.1 + (vgo 0 0 (l.drop (i + 1))).1 + 4)) = false
         · rw [if_pos h5] at *
         · rw [if_neg h5] at he; exact absurd rfl he
theorem wsec_any {p : Nat} {v : Value} {l : List Nat} {i x : Nat} {w : World} (h : IsRd w p v l i x) (id : Nat) (hid : id < 256) (hT : TabC w) :
 Calls Tryz.prog 88 #[.pointer (some ⟨p, 0, none⟩), .int .u8 (id : Int)] w fun e w' => ∃ u, e = .returned u ∧ w'.ownsRow w.heap.size 5 1 u (rdSec l i x id).1.length (u8s (rdSec l i x id).1) ∧ IsRd w' p v l (rdSec l i x id).2.1 (rdSec l i x id).2.2 ∧ Keeps (fun k => k = p) w w' := by
 obtain ⟨W1, hW1⟩ : ∃ W1, W1 = (w.alloc (.cells #[.pointer (some ⟨p, 0, none⟩)] 173)).alloc (.cells #[.int .u8 (id : Int)] 5) := ⟨_, rfl⟩
 obtain ⟨hk1, cr, cn⟩ := rd_cells hW1
 have h1 := h.keep hk1
 have hpw := h.lt
 have hT1 := hT.keeps hk1 (fun e => e)
 have hr := (wreadb_any 146 Tryz.call146 #[.pointer (some ⟨w.heap.size, 0, none⟩), .pointer (some ⟨w.heap.size + 1, 0, none⟩)] _ h1 (fun _ => sec1_any h1 id hid hT1 cn cr)).mono (R' := fun e w' => ∃ u, e = .returned u ∧ w'.ownsRow w.heap.size 5 1 u (rdSec l i x id).1.length (u8s (rdSec l i x id).1) ∧ IsRd w' p v l (rdSec l i x id).2.1 (rdSec l i x id).2.2 ∧ Keeps (fun k => k = p) w w') (by
  rintro e w' (⟨hx, rfl, rfl⟩ | ⟨rfl, u, ut, er, w2, ⟨he, hu⟩, hk2, hk3, hres⟩)
  · have e1 : rdSec l i x id = ([], i, x) := by unfold rdSec; rw [if_pos hx]
    rw [e1]
    exact ⟨_, rfl, World.ownsRow_nil _ _ _ _, h1, hk1.mono (fun _ _ e => e.elim)⟩
  · have hkk : Keeps (fun k => k = p) w w' := (hk1.trans hk2 (fun _ _ e => e)).mono (S' := fun k => k = p) (fun _ _ e => e.elim) |>.trans hk3 (fun _ _ e => e)
    by_cases her : er = 0
    · rw [if_pos her] at hres
      obtain ⟨rfl, hrd⟩ := hres
      obtain ⟨rfl, hrow⟩ := hu her
      rw [← he, her]
      refine ⟨_, rfl, ?_, hrd, hkk⟩
      refine qam (hk3.row hrow (fun g hg e => ?_)) (fun g hg => ?_)
      · have := (hrow.lt g hg).1; have := hk1.size; omega
      · have := (hrow.lt g hg).1; have := hk1.size; omega
    · rw [if_neg her] at hres
      obtain ⟨rfl, hrd⟩ := hres
      rw [rdSec_err l i id er he her]
      exact ⟨_, rfl, World.ownsRow_nil _ _ _ _, hrd, hkk⟩)
 have HR := Hj hr; have HW1 := Hj hW1
 clear h hk1 h1 hW1 hr cr cn hT1 hpw
 go_enter Tryz.func88, Tryz.ntmps88
 go_wp2_with (go_at_call 145; rw [← HW1.out]; refine HR.out.mono ?_; rintro e w2 ⟨u, rfl, hres⟩; have HRES := Hj hres; clear hres)
 go_ret
 exact ⟨u, rfl, HRES.out⟩
end
end Go.Proofs.YtfpcgcbehdogjaaGreatDoor
