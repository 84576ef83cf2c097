/-
  WALKS: comparing times and series, ascending, the reference's times (printed by gen_mod.py).
-/
import Derived.Test.YtnoodiibkchaaaaGreatDoorXMem
import Derived.Test.YtnoodiibkchaaaaGreatDoorWLabF
namespace Go.Proofs.YtnoodiibkchaaaaGreatDoor
open Go.RowKit
attribute [local go_sem ↓] Go.wp_at_zero Go.wp_at_succ

theorem nanI_any (a : Int) (w : World) : Calls Tryz.prog 141 #[.int .i64 a] w fun e w' => e = .returned (.bool false) ∧ w = w' := by
  go_enter Tryz.func141, Tryz.ntmps141
  go_wp2
  go_ret
  exact ⟨rfl, rfl⟩
theorem cmpI_any (a b : Int) (w : World) : Calls Tryz.prog 112 #[.int .i64 a, .int .i64 b] w fun e w' => e = .returned (.int .i64 (ordI a b)) ∧ w = w' := by
  rcases Int.lt_trichotomy a b with h | h | h
  · have H : Hid (ordI a b = -1) := Lib.hid (by unfold ordI; rw [if_pos h])
    skip
    go_enter Tryz.func112, Tryz.ntmps112
    go_wp2_with (go_at_call 141; refine (nanI_any _ _).mono ?_; rintro e w1 ⟨rfl, rfl⟩)
    go_ret
    exact ⟨ret_i64 H.out.symm, rfl⟩
  · have H : Hid (ordI a b = 0) := Lib.hid (by unfold ordI; rw [if_neg (by omega), if_neg (by omega)])
    subst h
    go_enter Tryz.func112, Tryz.ntmps112
    go_wp2_with (go_at_call 141; refine (nanI_any _ _).mono ?_; rintro e w1 ⟨rfl, rfl⟩)
    go_ret
    exact ⟨ret_i64 H.out.symm, rfl⟩
  · have H : Hid (ordI a b = 1) := Lib.hid (by unfold ordI; rw [if_neg (by omega), if_pos h])
    have h2 : b ≤ a := by omega
    go_enter Tryz.func112, Tryz.ntmps112
    go_wp2_with (go_at_call 141; refine (nanI_any _ _).mono ?_; rintro e w1 ⟨rfl, rfl⟩)
    go_ret
    exact ⟨ret_i64 H.out.symm, rfl⟩
theorem byTime_any (x y : Smp) (w : World) : Calls Tryz.prog 83 #[.agg #[.int .i64 x.1, .int .u64 x.2], .agg #[.int .i64 y.1, .int .u64 y.2]] w fun e w' => e = .returned (.int .i64 (cmpT x y)) ∧ Below w.heap.size w w' := by
  obtain ⟨x1, x2⟩ := x
  obtain ⟨y1, y2⟩ := y
  have hb := ((Below.refl w.heap.size w).alloc (Nat.le_refl _) (.cells #[.int .i64 x1, .int .u64 x2] 56)).alloc (by simp) (.cells #[.int .i64 y1, .int .u64 y2] 56)
  have HB := Lib.hid hb
  clear hb
  go_enter Tryz.func83, Tryz.ntmps83
  go_wp2_with (go_at_call 112; refine (cmpI_any _ _ _).mono ?_; rintro e w1 ⟨rfl, hw1⟩)
  go_ret
  exact ⟨rfl, hw1 ▸ HB.out⟩
theorem bySet_any (x y : Hdr) (a b : List Lab) (w : World) (ha : RdL w x.lv a) (hb : RdL w y.lv b) (hla : a.length ≤ 1099511627776) (hlb : b.length ≤ 1099511627776) :
    Calls Tryz.prog 57 #[.agg #[.slice x.la x.ln x.lc, .slice x.sa x.sn x.sc], .agg #[.slice y.la y.ln y.lc, .slice y.sa y.sn y.sc]] w fun e w' => e = .returned (.int .i64 (cmpL a b)) ∧ Below w.heap.size w w' := by
  obtain ⟨xa, xn, xc, xsa, xsn, xsc⟩ := x
  obtain ⟨ya, yn, yc, ysa, ysn, ysc⟩ := y
  have hbb := ((Below.refl w.heap.size w).alloc (Nat.le_refl _) (.cells #[.slice xa xn xc, .slice xsa xsn xsc] 53)).alloc (by simp) (.cells #[.slice ya yn yc, .slice ysa ysn ysc] 53)
  have HBB := Lib.hid hbb
  have H := Lib.hid (fun w' hw' => compare_any (.slice xa xn xc) (.slice ya yn yc) a b w' (ha.below hw') (hb.below hw') hla hlb)
  clear hbb ha hb hla hlb
  go_enter Tryz.func57, Tryz.ntmps57
  go_wp2_with (go_at_call 84; refine (H.out _ HBB.out).mono ?_; rintro e w1 ⟨rfl, hw1⟩)
  go_ret
  exact ⟨rfl, HBB.out.trans (hw1.mono HBB.out.size)⟩
theorem asc_step {α : Type} (c : α → α → Int) (eq : Int) {l : List α} {j : Nat} {x y : α} (hx : l[j]? = some x) (hy : l[j + 1]? = some y) :
    ascE c eq (l.drop j) = if c x y = 0 then eq else if 0 < c x y then 16 else ascE c eq (l.drop (j + 1)) := by
  rw [drop_at hx, drop_at hy]
  rfl
theorem asc_end {α : Type} (c : α → α → Int) (eq : Int) {l : List α} {j : Nat} (h : l.length ≤ j + 1) : ascE c eq (l.drop j) = 0 := by
  have hl : (l.drop j).length ≤ 1 := by rw [List.length_drop]; omega
  match hd : l.drop j, hl with
  | [], _ => rfl
  | [_], _ => rfl
  | _ :: _ :: _, h => simp at h
set_option maxHeartbeats 2000000 in
set_option maxRecDepth 100000 in
theorem ascS_any (v : Value) (l : List Smp) (w : World) (h : RdS w v l) (hl : l.length ≤ 1099511627776) (eq : Int) :
    Calls Tryz.prog 82 #[v, .func (.func 83) #[] #[], .int .i64 eq] w fun e w' => e = .returned (.int .i64 (ascE cmpT eq l)) ∧ Below w.heap.size w w' := by
  have HH := Lib.hid h
  obtain ⟨ad, cap, rfl, hcap⟩ := Rd.slice h
  clear h
  go_enter Tryz.func82, Tryz.ntmps82
  go_wp2
  go_step3
  go_wp2
  go_step3
  go_wp2
  go_loopw [7, 8] (fun e7 i wr => ∃ j : Nat, (j + 1 ≤ l.length ∨ j = 0) ∧ e7 = .int .i64 0 ∧ i = .int .i64 ((j : Int) + 1) ∧ Hid (ascE cmpT eq l = ascE cmpT eq (l.drop j)) ∧ Below w.heap.size w wr) (fun _ i _ => l.length + 1 - (intOf i).toNat)
  case atStart => exact ⟨0, .inr rfl, rfl, rfl, Lib.hid rfl, Below.refl _ _⟩
  case round =>
    obtain ⟨j, hj, rfl, rfl, HE, hbr⟩ := hrel
    by_cases hjl : j + 1 < l.length
    · obtain ⟨⟨x1, x2⟩, hx⟩ := at_some (l := l) (k := j) (by omega)
      obtain ⟨⟨y1, y2⟩, hy⟩ := at_some hjl
      have hrd := HH.out.below hbr
      obtain ⟨b, off, rfl, c1, c2⟩ := RdS.at hrd hx
      obtain ⟨b', off', hbb, c3, c4⟩ := RdS.at hrd hy
      simp only [Option.some.injEq, Addr.mk.injEq, and_true] at hbb
      obtain ⟨rfl, rfl⟩ := hbb
      have CC : Hid (∀ wq, Below wr.heap.size wr wq → wq.cell? ⟨b, off + j * 2, none⟩ = some (.int .i64 x1) ∧ wq.cell? ⟨b, off + j * 2 + 1, none⟩ = some (.int .u64 x2) ∧ wq.cell? ⟨b, off + (j + 1) * 2, none⟩ = some (.int .i64 y1) ∧ wq.cell? ⟨b, off + (j + 1) * 2 + 1, none⟩ = some (.int .u64 y2) ∧ True) := Lib.hid (fun wq h => by
        refine ⟨?_, ?_, ?_, ?_, trivial⟩
        · rw [h.cell (World.block_lt_of_cell? wr _ c1)]; exact c1
        · rw [h.cell (World.block_lt_of_cell? wr _ c2)]; exact c2
        · rw [h.cell (World.block_lt_of_cell? wr _ c3)]; exact c3
        · rw [h.cell (World.block_lt_of_cell? wr _ c4)]; exact c4)
      have CB : Hid (∀ wq, Below wr.heap.size wr wq → Calls Tryz.prog 83 #[.agg #[.int .i64 x1, .int .u64 x2], .agg #[.int .i64 y1, .int .u64 y2]] wq fun e w' => e = .returned (.int .i64 (cmpT (x1, x2) (y1, y2))) ∧ Below wr.heap.size wr w') := Lib.hid (fun wq h => (byTime_any (x1, x2) (y1, y2) wq).mono fun e w' ⟨he, hb⟩ => ⟨he, h.trans (hb.mono h.size)⟩)
      obtain ⟨D, hD⟩ : ∃ D, D = cmpT (x1, x2) (y1, y2) := ⟨_, rfl⟩
      have HST : Hid (ascE cmpT eq l = if D = 0 then eq else if 0 < D then 16 else ascE cmpT eq (l.drop (j + 1))) := Lib.hid (by rw [HE.out, asc_step cmpT eq hx hy, hD])
      rw [← hD] at CB
      have HBR := Lib.hid hbr
      have hj0 : (0 : Int) ≤ (j : Int) := by omega
      have hj1 : (0 : Int) ≤ (j : Int) + 1 := by omega
      have hjl1 : (j : Int) < (l.length : Int) := by omega
      have hjl2 : (j : Int) + 1 < (l.length : Int) := by omega
      have hjw : IntKind.i64.wrap (j : Int) = (j : Int) := by rw [IntKind.wrap_i64]; omega
      clear hx hy hrd c1 c2 c3 c4 hjl hD HE hj hbr
      go_wp2_with fail
      refine wp_region_class (fun x => Below wr.heap.size wr x) (by kernel_rfl) (by kernel_rfl) ((Below.refl _ _).drew) ?_
      repeat (
        refine wpQuiet_step (fun K hK => ?_)
        go_simp
        first
          | (refine hK _ ?_; clear hK K)
          | (refine ⟨_, fun _ _ => rfl, hK _ ?_⟩; clear hK K)
          | (apply Exists.intro
             refine ⟨fun wq hwq => ?_, hK _ ?_⟩
             (first
              | (go_at_call 83; exact CB.out _ hwq)
              | (have hc := CC.out _ hwq; go_simp; exact rfl)
              | (obtain ⟨hc0, hc1, hc2, hc3, hc4⟩ := CC.out _ hwq; go_simp; exact rfl))
             clear hK K))
      refine wpQuiet_nil ?_
      intro wq hwq
      have HBQ := Lib.hid (HBR.out.trans (hwq.mono HBR.out.size))
      clear hwq CC CB HBR
      by_cases hz : D = 0
      · have he : (D == 0) = true := by simpa using hz
        have HF := Lib.hid (HST.out.trans (if_pos hz))
        clear hz HST
        go_wp2
        (try rw [Exit.noGoto_ret]); go_ret
        exact ⟨ret_i64 HF.out.symm, HBQ.out⟩
      · have he : (D == 0) = false := by simpa using hz
        have HST2 := Lib.hid (HST.out.trans (if_neg hz))
        by_cases hp : 0 < D
        · have HF := Lib.hid (HST2.out.trans (if_pos hp))
          clear hz HST HST2
          go_wp2
          (try rw [Exit.noGoto_ret]); go_ret
          exact ⟨ret_i64 HF.out.symm, HBQ.out⟩
        · have hp2 : D ≤ 0 := by omega
          have HF := Lib.hid (HST2.out.trans (if_neg hp))
          clear hz HST HST2 hp
          go_wp2
          exact ⟨⟨j + 1, .inl (by omega), rfl, rfl, HF, HBQ.out⟩, by simp [intOf]; omega⟩
    · have HF : Hid (ascE cmpT eq l = 0) := Lib.hid (by rw [HE.out]; exact asc_end cmpT eq (by omega))
      have hjl2 : (l.length : Int) ≤ (j : Int) + 1 := by omega
      clear HE hj
      go_wp2
      (try rw [Exit.noGoto_ret]); go_ret
      exact ⟨ret_i64 HF.out.symm, hbr⟩
set_option maxHeartbeats 2000000 in
set_option maxRecDepth 100000 in
theorem ascB_any (v : Value) (l : List Hdr) (bs : List Ser) (w : World) (h : RdB w v l bs) (hl : l.length ≤ 1099511627776) (hlab : ∀ x ∈ bs, x.1.length ≤ 1099511627776) (eq : Int) :
    Calls Tryz.prog 56 #[v, .func (.func 57) #[] #[], .int .i64 eq] w fun e w' => e = .returned (.int .i64 (ascE cmpB eq bs)) ∧ Below w.heap.size w w' := by
  have HH := Lib.hid h
  have HLN := Lib.hid h.1
  obtain ⟨ad, cap, rfl, hcap⟩ := Rd.slice h.2.1
  clear h
  go_enter Tryz.func56, Tryz.ntmps56
  go_wp2
  go_step3
  go_wp2
  go_step3
  go_wp2
  go_loopw [7, 8] (fun e7 i wr => ∃ j : Nat, (j + 1 ≤ l.length ∨ j = 0) ∧ e7 = .int .i64 0 ∧ i = .int .i64 ((j : Int) + 1) ∧ Hid (ascE cmpB eq bs = ascE cmpB eq (bs.drop j)) ∧ Below w.heap.size w wr) (fun _ i _ => l.length + 1 - (intOf i).toNat)
  case atStart => exact ⟨0, .inr rfl, rfl, rfl, Lib.hid rfl, Below.refl _ _⟩
  case round =>
    obtain ⟨j, hj, rfl, rfl, HE, hbr⟩ := hrel
    by_cases hjl : j + 1 < l.length
    · obtain ⟨x, hx⟩ := at_some (l := l) (k := j) (by omega)
      obtain ⟨y, hy⟩ := at_some hjl
      obtain ⟨p, hp⟩ := at_some (l := bs) (k := j) (by have := HLN.out; omega)
      obtain ⟨q, hq⟩ := at_some (l := bs) (k := j + 1) (by have := HLN.out; omega)
      have hrd := HH.out.below hbr
      have s1 := hrd.2.2 _ _ _ hx hp
      have s2 := hrd.2.2 _ _ _ hy hq
      obtain ⟨b, off, rfl, c1, c2⟩ := RdH.at hrd.2.1 hx
      obtain ⟨b', off', hbb, c3, c4⟩ := RdH.at hrd.2.1 hy
      simp only [Option.some.injEq, Addr.mk.injEq, and_true] at hbb
      obtain ⟨rfl, rfl⟩ := hbb
      have CB : Hid (∀ wq, Below wr.heap.size wr wq → Calls Tryz.prog 57 #[.agg #[.slice x.la x.ln x.lc, .slice x.sa x.sn x.sc], .agg #[.slice y.la y.ln y.lc, .slice y.sa y.sn y.sc]] wq fun e w' => e = .returned (.int .i64 (cmpB p q)) ∧ Below wr.heap.size wr w') := Lib.hid (fun wq h => (bySet_any x y p.1 q.1 wq (s1.below h).1 (s2.below h).1 (hlab _ (List.mem_of_getElem? hp)) (hlab _ (List.mem_of_getElem? hq))).mono fun e w' ⟨he, hb⟩ => ⟨he, h.trans (hb.mono h.size)⟩)
      obtain ⟨xa, xn, xc, xsa, xsn, xsc⟩ := x
      obtain ⟨ya, yn, yc, ysa, ysn, ysc⟩ := y
      have CC : Hid (∀ wq, Below wr.heap.size wr wq → wq.cell? ⟨b, off + j * 2, none⟩ = some (.slice xa xn xc) ∧ wq.cell? ⟨b, off + j * 2 + 1, none⟩ = some (.slice xsa xsn xsc) ∧ wq.cell? ⟨b, off + (j + 1) * 2, none⟩ = some (.slice ya yn yc) ∧ wq.cell? ⟨b, off + (j + 1) * 2 + 1, none⟩ = some (.slice ysa ysn ysc) ∧ True) := Lib.hid (fun wq h => by
        refine ⟨?_, ?_, ?_, ?_, trivial⟩
        · rw [h.cell (World.block_lt_of_cell? wr _ c1)]; exact c1
        · rw [h.cell (World.block_lt_of_cell? wr _ c2)]; exact c2
        · rw [h.cell (World.block_lt_of_cell? wr _ c3)]; exact c3
        · rw [h.cell (World.block_lt_of_cell? wr _ c4)]; exact c4)
      obtain ⟨D, hD⟩ : ∃ D, D = cmpB p q := ⟨_, rfl⟩
      have HST : Hid (ascE cmpB eq bs = if D = 0 then eq else if 0 < D then 16 else ascE cmpB eq (bs.drop (j + 1))) := Lib.hid (by rw [HE.out, asc_step cmpB eq hp hq, hD])
      rw [← hD] at CB
      have HBR := Lib.hid hbr
      have hj0 : (0 : Int) ≤ (j : Int) := by omega
      have hj1 : (0 : Int) ≤ (j : Int) + 1 := by omega
      have hjl1 : (j : Int) < (l.length : Int) := by omega
      have hjl2 : (j : Int) + 1 < (l.length : Int) := by omega
      have hjw : IntKind.i64.wrap (j : Int) = (j : Int) := by rw [IntKind.wrap_i64]; omega
      clear hx hy hp hq hrd s1 s2 c1 c2 c3 c4 hjl hD HE hj hbr
      go_wp2_with fail
      refine wp_region_class (fun x => Below wr.heap.size wr x) (by kernel_rfl) (by kernel_rfl) ((Below.refl _ _).drew) ?_
      repeat (
        refine wpQuiet_step (fun K hK => ?_)
        go_simp
        first
          | (refine hK _ ?_; clear hK K)
          | (refine ⟨_, fun _ _ => rfl, hK _ ?_⟩; clear hK K)
          | (apply Exists.intro
             refine ⟨fun wq hwq => ?_, hK _ ?_⟩
             (first
              | (go_at_call 57; exact CB.out _ hwq)
              | (have hc := CC.out _ hwq; go_simp; exact rfl)
              | (obtain ⟨hc0, hc1, hc2, hc3, hc4⟩ := CC.out _ hwq; go_simp; exact rfl))
             clear hK K))
      refine wpQuiet_nil ?_
      intro wq hwq
      have HBQ := Lib.hid (HBR.out.trans (hwq.mono HBR.out.size))
      clear hwq CC CB HBR
      by_cases hz : D = 0
      · have he : (D == 0) = true := by simpa using hz
        have HF := Lib.hid (HST.out.trans (if_pos hz))
        clear hz HST
        go_wp2
        (try rw [Exit.noGoto_ret]); go_ret
        exact ⟨ret_i64 HF.out.symm, HBQ.out⟩
      · have he : (D == 0) = false := by simpa using hz
        have HST2 := Lib.hid (HST.out.trans (if_neg hz))
        by_cases hp : 0 < D
        · have HF := Lib.hid (HST2.out.trans (if_pos hp))
          clear hz HST HST2
          go_wp2
          (try rw [Exit.noGoto_ret]); go_ret
          exact ⟨ret_i64 HF.out.symm, HBQ.out⟩
        · have hp2 : D ≤ 0 := by omega
          have HF := Lib.hid (HST2.out.trans (if_neg hp))
          clear hz HST HST2 hp
          go_wp2
          exact ⟨⟨j + 1, .inl (by omega), rfl, rfl, HF, HBQ.out⟩, by simp [intOf]; omega⟩
    · have HF : Hid (ascE cmpB eq bs = 0) := Lib.hid (by rw [HE.out]; exact asc_end cmpB eq (by have := HLN.out; omega))
      have hjl2 : (l.length : Int) ≤ (j : Int) + 1 := by omega
      clear HE hj
      go_wp2
      (try rw [Exit.noGoto_ret]); go_ret
      exact ⟨ret_i64 HF.out.symm, hbr⟩
end Go.Proofs.YtnoodiibkchaaaaGreatDoor
