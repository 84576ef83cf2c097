/-
  WALKS: labels.Check; the reference's Check and Compare (printed by gen_lab2.py).
-/
import Derived.Test.YtnoodiibkchaaaaGreatDoorWLabD
namespace Go.Proofs.YtnoodiibkchaaaaGreatDoor
open Go.RowKit
attribute [local go_sem ↓] Go.wp_at_zero Go.wp_at_succ

theorem ordS_ways (a b : ByteArray) : ordS a b = -1 ∨ ordS a b = 0 ∨ ordS a b = 1 := by
  unfold ordS
  split
  · exact .inl rfl
  · split
    · exact .inr (.inl rfl)
    · exact .inr (.inr rfl)
def prevOf (l : List Lab) (k : Nat) : Option Lab := if k = 0 then none else l[k - 1]?
theorem prevOf_succ (l : List Lab) (k : Nat) : prevOf l (k + 1) = l[k]? := by unfold prevOf; rw [if_neg (by omega), Nat.add_sub_cancel]
theorem chkE_err (p : Option Lab) (x : Lab) (r : List Lab) (h : labE x ≠ 0) : chkE p (x :: r) = labE x := by unfold chkE; rw [if_pos h]
theorem chkE_first (x : Lab) (r : List Lab) (h : labE x = 0) : chkE none (x :: r) = chkE (some x) r := by rw [chkE, if_neg (by simpa using h)]
theorem chkE_dup (q x : Lab) (r : List Lab) (h : labE x = 0) (h2 : ordS q.1 x.1 = 0) : chkE (some q) (x :: r) = 18 := by rw [chkE, if_neg (by simpa using h)]; simp [h2]
theorem chkE_ord (q x : Lab) (r : List Lab) (h : labE x = 0) (h2 : ordS q.1 x.1 = 1) : chkE (some q) (x :: r) = 16 := by rw [chkE, if_neg (by simpa using h)]; simp [h2]
theorem chkE_next (q x : Lab) (r : List Lab) (h : labE x = 0) (h2 : ordS q.1 x.1 = -1) : chkE (some q) (x :: r) = chkE (some x) r := by rw [chkE, if_neg (by simpa using h)]; simp [h2]
def KRel (l : List Lab) (w1 : World) (i : Value) (wr : World) : Prop := ∃ k : Nat, k ≤ l.length ∧ i = .int .i64 (k : Nat) ∧ Hid (chkE none l = chkE (prevOf l k) (l.drop k)) ∧ Below w1.heap.size w1 wr
theorem KRel.next {l : List Lab} {w1 wr : World} {k : Nat} {x : Lab} {p : Option Lab} (hx : l[k]? = some x) (hE : chkE none l = chkE p (l.drop k)) (h : chkE p (x :: l.drop (k + 1)) = chkE (some x) (l.drop (k + 1))) (hb : Below w1.heap.size w1 wr) : KRel l w1 (.int .i64 ((k : Int) + 1)) wr :=
  ⟨k + 1, (List.getElem?_eq_some_iff.1 hx).1, rfl, Lib.hid (by rw [hE, drop_at hx, h, prevOf_succ, hx]), hb⟩
set_option maxHeartbeats 2000000 in
set_option maxRecDepth 100000 in
theorem check_any (v : Value) (l : List Lab) (w : World) (h : RdL w v l) (hl : l.length ≤ 1099511627776) :
    Calls Tryz.prog 81 #[v] w fun e w' => e = .returned (.int .i64 (chkE none l)) ∧ Below w.heap.size w w' := by
  have HH := Lib.hid h
  obtain ⟨ad, cap, rfl, hcap⟩ := h.slice
  clear h
  have hx0 := fun w => ix0 (.func (.func 139) #[] #[]) (.func (.func 140) #[] #[]) w
  have hf0 := fun w => fd0 139 w
  go_enter Tryz.func81, Tryz.ntmps81
  go_wp2_with (first
    | (go_at_call 110; refine (parts_any _).mono ?_; rintro e w1 ⟨rfl, hb1⟩)
    | (go_at_call 109; refine (by_any 139 _).mono ?_; rintro e w2 ⟨B, rfl, hcB, hb2⟩))
  have hb12 := hb1.trans (hb2.mono hb1.size)
  have HB12 := Lib.hid hb12; have HCB := Lib.hid hcB
  clear hb1 hb2 hb12 hcB
  go_loopw [13] (fun i wr => KRel l w2 i wr) (fun i _ => l.length - (intOf i).toNat)
  case atStart => exact ⟨0, by omega, rfl, Lib.hid rfl, Below.refl _ _⟩
  case round =>
    obtain ⟨k, hk, rfl, HE, hbr⟩ := hrel
    by_cases hkl : k < l.length
    · have hrd : RdL wr (.slice ad l.length cap) l := HH.out.below (HB12.out.trans (hbr.mono HB12.out.size))
      obtain ⟨⟨x1, x2⟩, hx⟩ := at_some hkl
      obtain ⟨b, off, rfl, c1, c2⟩ := hrd.at hx
      have hkl' : (k : Int) < (l.length : Int) := by omega
      obtain ⟨W1, hW1⟩ : ∃ W1, W1 = wr.alloc (.cells #[.string x1, .string x2] 46) := ⟨_, rfl⟩
      have hr1 : W1.heap[wr.heap.size]? = some (.cells #[.string x1, .string x2] 46 (0, 0)) := by rw [hW1]; exact heap_alloc_new wr _
      have e1 : W1.cell? ⟨wr.heap.size, 0, none⟩ = some (.string x1) := by rw [cell_of_row _ _ _ _ _ _ hr1]; rfl
      have e2 : W1.cell? ⟨wr.heap.size, 1, none⟩ = some (.string x2) := by rw [cell_of_row _ _ _ _ _ _ hr1]; rfl
      have hbW : Below w2.heap.size w2 W1 := by rw [hW1]; exact hbr.alloc hbr.size _
      have hbW2 : Below wr.heap.size wr W1 := by rw [hW1]; exact (Below.refl _ _).alloc (Nat.le_refl _) _
      have HBW := Lib.hid hbW; have HBW2 := Lib.hid hbW2
      have HSG := Lib.hid (single_any (x1, x2) W1)
      have HX := Lib.hid hx
      have HRD := Lib.hid hrd
      obtain ⟨E, hE⟩ : ∃ E, E = labE (x1, x2) := ⟨_, rfl⟩
      rw [← hE] at HSG
      have HLE := Lib.hid hE
      clear hr1 hbW hbW2 hx hrd hE hkl
      by_cases hz : E = 0
      · subst hz
        rcases Nat.eq_zero_or_pos k with rfl | hkp
        · simp only [Nat.zero_mul, Nat.add_zero] at c1 c2
          have h0l : (0 : Int) < (l.length : Int) := by omega
          clear hkl' hk
          go_wp2_with fail
          rw [← hW1]
          go_wp2_with (go_at_call 111; refine HSG.out.mono ?_; rintro e w3 ⟨rfl, hb3⟩)
          exact ⟨KRel.next HX.out HE.out (chkE_first _ _ HLE.out.symm) (HBW.out.trans (hb3.mono HBW.out.size)), by simp [intOf]; omega⟩
        · obtain ⟨j, rfl⟩ : ∃ j, k = j + 1 := ⟨k - 1, by omega⟩
          obtain ⟨⟨q1, q2⟩, hq⟩ := at_some (l := l) (k := j) (by omega)
          obtain ⟨b', off', hbb, d1, d2⟩ := HRD.out.at hq
          simp only [Option.some.injEq, Addr.mk.injEq, and_true] at hbb
          obtain ⟨rfl, rfl⟩ := hbb
          have hjl : (j : Int) < (l.length : Int) := by omega
          have hjl2 : ((j : Int) + 1) < (l.length : Int) := by omega
          have HQ : Hid (chkE none l = chkE (some (q1, q2)) (l.drop (j + 1))) := Lib.hid (by rw [HE.out, prevOf_succ, hq])
          have hj0 : (0 : Int) ≤ (j : Int) := by omega
          have hjw : IntKind.i64.wrap (j : Int) = (j : Int) := by rw [IntKind.wrap_i64]; omega
          have hkz : (((j : Int) + 1) == 0) = false := by rw [beq_eq_false_iff_ne]; omega
          have HD1 := Lib.hid d1; have HD2 := Lib.hid d2; have HE1 := Lib.hid e1; have HE2 := Lib.hid e2
          clear hkp hk hq hkl' d1 d2 e1 e2
          obtain ⟨D, hD⟩ : ∃ D, D = ordS q1 x1 := ⟨_, rfl⟩
          have HDD := Lib.hid hD
          have hway := ordS_ways q1 x1
          rw [← hD] at hway
          clear hD
          go_wp2_with fail
          rw [← hW1]
          have e1 := HE1.out; have e2 := HE2.out
          clear c1 c2
          go_wp2_with (go_at_call 111; refine HSG.out.mono ?_; rintro e w3 ⟨rfl, hb3⟩)
          have HB3 := Lib.hid (HBW.out.trans (hb3.mono HBW.out.size))
          have CC : Hid (∀ wq, Below w3.heap.size w3 wq → wq.cell? ⟨b, off + j * 2, none⟩ = some (.string q1) ∧ wq.cell? ⟨b, off + j * 2 + 1, none⟩ = some (.string q2) ∧ wq.cell? ⟨wr.heap.size, 0, none⟩ = some (.string x1) ∧ wq.cell? ⟨wr.heap.size, 1, none⟩ = some (.string x2) ∧ wq.cell? ⟨B, 0, none⟩ = some (.func (.func 139) #[] #[])) := Lib.hid (fun wq h => by
            have g1 : Below W1.heap.size W1 wq := hb3.trans (h.mono hb3.size)
            have g2 : Below wr.heap.size wr wq := HBW2.out.trans (g1.mono HBW2.out.size)
            have g3 : Below w2.heap.size w2 wq := HBW.out.trans (g1.mono HBW.out.size)
            refine ⟨?_, ?_, ?_, ?_, ?_⟩
            · rw [g2.cell (World.block_lt_of_cell? wr _ HD1.out)]; exact HD1.out
            · rw [g2.cell (World.block_lt_of_cell? wr _ HD2.out)]; exact HD2.out
            · rw [g1.cell (World.block_lt_of_cell? W1 _ HE1.out)]; exact HE1.out
            · rw [g1.cell (World.block_lt_of_cell? W1 _ HE2.out)]; exact HE2.out
            · rw [g3.cell (World.block_lt_of_cell? w2 _ HCB.out)]; exact HCB.out)
          have CB : Hid (∀ wq, Below w3.heap.size w3 wq → Calls Tryz.prog 137 #[.agg #[.string q1, .string q2], .agg #[.string x1, .string x2], .pointer (some ⟨B, 0, none⟩)] wq fun e w' => e = .returned (.int .i64 D) ∧ Below w3.heap.size w3 w') := Lib.hid (fun wq h => by
            have h2 := by1_1 (q1, q2) (x1, x2) B wq (CC.out wq h).2.2.2.2
            rw [← HDD.out] at h2
            exact h2.mono fun e w' ⟨he, hb⟩ => ⟨he, h.trans (hb.mono h.size)⟩)
          clear e1 e2 hb3 hW1
          refine wp_region_class (fun x => Below w3.heap.size w3 x) (by kernel_rfl) (by kernel_rfl) (Below.refl _ _).drew ?_
          repeat (
            refine wpQuiet_step (fun K hK => ?_)
            go_simp
            first
              | (refine hK _ ?_; clear hK K)
              | (refine ⟨_, fun _ _ => rfl, hK _ ?_⟩; clear hK K)
              | (apply Exists.intro
                 refine ⟨fun wq hwq => ?_, hK _ ?_⟩
                 (first
                  | (go_at_call 137; exact CB.out _ hwq)
                  | (have hc := CC.out _ hwq; go_simp; exact rfl)
                  | (obtain ⟨hc0, hc1, hc2, hc3, hc4⟩ := CC.out _ hwq; go_simp; exact rfl))
                 clear hK K))
          refine wpQuiet_nil ?_
          intro wq hwq
          have HBQ := Lib.hid (HB3.out.trans (hwq.mono HB3.out.size))
          clear hwq CC CB
          rcases hway with rfl | rfl | rfl
          · go_wp2
            exact ⟨KRel.next (p := some (q1, q2)) HX.out HQ.out (chkE_next _ _ _ HLE.out.symm HDD.out.symm) HBQ.out, by simp [intOf]; omega⟩
          · have HF : Hid (chkE none l = 18) := Lib.hid (HQ.out.trans (by rw [drop_at HX.out]; exact chkE_dup _ _ _ HLE.out.symm HDD.out.symm))
            go_wp2
            go_ret
            exact ⟨ret_i64 HF.out.symm, HB12.out.trans (HBQ.out.mono HB12.out.size)⟩
          · have HF : Hid (chkE none l = 16) := Lib.hid (HQ.out.trans (by rw [drop_at HX.out]; exact chkE_ord _ _ _ HLE.out.symm HDD.out.symm))
            go_wp2
            go_ret
            exact ⟨ret_i64 HF.out.symm, HB12.out.trans (HBQ.out.mono HB12.out.size)⟩
      · have hn : (E != 0) = true := by simpa using hz
        have HF : Hid (chkE none l = E) := Lib.hid (by rw [HE.out, drop_at HX.out, chkE_err _ _ _ (by rw [← HLE.out]; exact hz)]; exact HLE.out.symm)
        clear hz hk HE
        go_wp2_with fail
        rw [← hW1]
        go_wp2_with (go_at_call 111; refine HSG.out.mono ?_; rintro e w3 ⟨rfl, hb3⟩)
        go_ret
        have hb4 := HBW.out.trans (hb3.mono HBW.out.size)
        exact ⟨ret_i64 HF.out.symm, HB12.out.trans (hb4.mono HB12.out.size)⟩
    · obtain rfl : k = l.length := by omega
      have HF : Hid (chkE none l = 0) := Lib.hid (by rw [HE.out, List.drop_length]; unfold chkE; rfl)
      clear HE
      go_wp2
      go_ret
      exact ⟨ret_i64 HF.out.symm, HB12.out.trans (hbr.mono HB12.out.size)⟩
end Go.Proofs.YtnoodiibkchaaaaGreatDoor
