/-
  WALKS: the examples of chapter 23 hold.
  WALKS: ArchiveParsesHeads, ArchiveImports, ArchiveIsCanonical.
-/
import Derived.Test.YtnoodiibkchaaaaGreatDoorWArcM
import Derived.Test.YtnoodiibkchaaaaGreatDoorWArcI
namespace Go.Proofs.YtnoodiibkchaaaaGreatDoor
open Go.RowKit
attribute [local go_sem ↓] Go.wp_at_zero Go.wp_at_succ

def lab0 : Lab := ({ data := #[97] }, { data := #[49] })
def blk0 : List Ser := [([lab0], [(5, 255)])]
theorem itoa5 : itoaN 5 = [53] := by
  unfold itoaN
  rw [show (5 : Int) = ((5 : Nat) : Int) from rfl, itoa_pos, Lib.decDigits]
  rfl
theorem blk0_mod : modE blk0 = 0 := by decide +kernel
theorem blk0_text : bloT blk0 = [123, 34, 97, 34, 61, 34, 49, 34, 125, 10, 53, 32, 48, 48, 48, 48, 48, 48, 48, 48, 48, 48, 48, 48, 48, 48, 102, 102, 10] := by
  simp only [bloT, blk0, List.flatMap_cons, List.flatMap_nil, serT, smpsT, smpT, itoa5]
  decide +kernel
theorem blk0_fit : ∀ x ∈ blk0, ∀ y ∈ x.2, FitT y := by
  intro x hx y hy
  simp only [blk0, List.mem_cons, List.not_mem_nil, or_false] at hx
  subst hx
  simp only [List.mem_cons, List.not_mem_nil, or_false] at hy
  subst hy
  exact ⟨by decide, by decide⟩
theorem blk0_ok : Ok blk0 := ⟨by rw [blk0_text]; decide, blk0_fit⟩
/-- Import, its answer known -/
theorem import_is (t : ByteArray) (b : List Ser) (a : Nat) (c : Int) (w : World) (hs : t.size ≤ 1099511627776) (hT : TabsN w) (h : impV t = (b, a, c)) :
    Calls Tryz.prog 13 #[.string t] w fun e w' => (∃ ad cap hs, e = .returned (.tuple #[.slice ad b.length cap, .int .i64 (a : Nat), .int .i64 c]) ∧ RdB w' (.slice ad b.length cap) hs b) ∧ Below w.heap.size w w' :=
  (import_any t w hs hT).mono fun e w' ⟨hi, hb⟩ => by
    obtain ⟨v, hds, b', a', c', hv, rfl, ho⟩ := hi
    rw [h] at hv
    simp only [Prod.mk.injEq] at hv
    obtain ⟨rfl, rfl, rfl⟩ := hv
    obtain ⟨ad, cap, rfl⟩ := ho.slice
    exact ⟨⟨ad, cap, hds, rfl, ho.rd⟩, hb⟩
theorem refImport_is (t : ByteArray) (b : List Ser) (a : Nat) (c : Int) (w : World) (hs : t.size ≤ 1099511627776) (hT : TabsN w) (h : impV t = (b, a, c)) :
    Calls Tryz.prog 14 #[.string t] w fun e w' => (∃ ad cap hs, e = .returned (.tuple #[.slice ad b.length cap, .int .i64 (a : Nat), .int .i64 c]) ∧ RdB w' (.slice ad b.length cap) hs b) ∧ Below w.heap.size w w' :=
  (refImport_any t w hs hT).mono fun e w' ⟨hi, hb⟩ => by
    obtain ⟨v, hds, b', a', c', hv, rfl, ho⟩ := hi
    rw [h] at hv
    simp only [Prod.mk.injEq] at hv
    obtain ⟨rfl, rfl, rfl⟩ := hv
    obtain ⟨ad, cap, rfl⟩ := ho.slice
    exact ⟨⟨ad, cap, hds, rfl, ho.rd⟩, hb⟩
/-- the example's block in new memory -/
theorem blk0_mem (w : World) : ∃ W, W = ((w.alloc (.cells #[.string { data := #[97] }, .string { data := #[49] }] 46)).alloc (.cells #[.int .i64 5, .int .u64 255] 56)).alloc (.cells #[.slice (some ⟨w.heap.size, 0, none⟩) 1 1, .slice (some ⟨w.heap.size + 1, 0, none⟩) 1 1] 53) ∧
    Below w.heap.size w W ∧ RdB W (.slice (some ⟨w.heap.size + 1 + 1, 0, none⟩) 1 1) [⟨some ⟨w.heap.size, 0, none⟩, 1, 1, some ⟨w.heap.size + 1, 0, none⟩, 1, 1⟩] blk0 ∧ W.cell? ⟨w.heap.size + 1 + 1, 0, none⟩ = some (.slice (some ⟨w.heap.size, 0, none⟩) 1 1) ∧ W.heap.size = w.heap.size + 3 := by
  have hb : Below w.heap.size w (((w.alloc (.cells #[.string { data := #[97] }, .string { data := #[49] }] 46)).alloc (.cells #[.int .i64 5, .int .u64 255] 56)).alloc (.cells #[.slice (some ⟨w.heap.size, 0, none⟩) 1 1, .slice (some ⟨w.heap.size + 1, 0, none⟩) 1 1] 53)) :=
    (((Below.refl w.heap.size w).alloc (Nat.le_refl _) _).alloc (by simp) _).alloc (by simp; omega) _
  have r2 := rd_new ((w.alloc (.cells #[.string { data := #[97] }, .string { data := #[49] }] 46)).alloc (.cells #[.int .i64 5, .int .u64 255] 56)) 2 1 [.slice (some ⟨w.heap.size, 0, none⟩) 1 1, .slice (some ⟨w.heap.size + 1, 0, none⟩) 1 1] 53 1 rfl (Nat.le_refl _)
  rw [World.size_alloc, World.size_alloc] at r2
  have r1 := (rd_new (w.alloc (.cells #[.string { data := #[97] }, .string { data := #[49] }] 46)) 2 1 [.int .i64 5, .int .u64 255] 56 1 rfl (Nat.le_refl _)).below ((Below.refl _ _).alloc (Nat.le_refl _) (.cells #[.slice (some ⟨w.heap.size, 0, none⟩) 1 1, .slice (some ⟨w.heap.size + 1, 0, none⟩) 1 1] 53))
  rw [World.size_alloc] at r1
  have r0 := (rd_new w 2 1 [.string { data := #[97] }, .string { data := #[49] }] 46 1 rfl (Nat.le_refl _)).below (((Below.refl _ _).alloc (Nat.le_refl _) (.cells #[.int .i64 5, .int .u64 255] 56)).alloc (by simp) (.cells #[.slice (some ⟨w.heap.size, 0, none⟩) 1 1, .slice (some ⟨w.heap.size + 1, 0, none⟩) 1 1] 53))
  refine ⟨_, rfl, hb, ⟨rfl, r2, ?_⟩, ?_, by simp⟩
  · intro i h x h1 h2
    match i, h1, h2 with
    | 0, h1, h2 =>
      simp only [List.getElem?_cons_zero, Option.some.injEq, blk0] at h1 h2
      subst h1
      subst h2
      exact ⟨r0, r1⟩
    | i + 1, h1, _ => simp at h1
  · have h := heap_alloc_new ((w.alloc (.cells #[.string { data := #[97] }, .string { data := #[49] }] 46)).alloc (.cells #[.int .i64 5, .int .u64 255] 56)) (.cells #[.slice (some ⟨w.heap.size, 0, none⟩) 1 1, .slice (some ⟨w.heap.size + 1, 0, none⟩) 1 1] 53)
    rw [World.size_alloc, World.size_alloc] at h
    rw [cell_of_row _ _ _ _ _ _ h]; rfl
set_option maxHeartbeats 4000000 in
set_option maxRecDepth 100000 in
theorem alive23_any (w : World) (hT : TabsN w) : Calls Tryz.prog 10 #[] w fun e w' => e = .returned (.bool true) ∧ Below w.heap.size w w' := by
  obtain ⟨W, hW, hbW, hrd, hc, hsz⟩ := blk0_mem w
  have HT : Hid (∀ q, Below w.heap.size w q → TabsN q) := Lib.hid (fun q hq => hT.below hq)
  have HRD := Lib.hid hrd; have HBW := Lib.hid hbW
  obtain ⟨q, hq⟩ : ∃ q, q = strOf (bloT blk0) := ⟨_, rfl⟩
  have HX : Hid (∀ u, Below w.heap.size w u → RdB u (.slice (some ⟨w.heap.size + 1 + 1, 0, none⟩) 1 1) [⟨some ⟨w.heap.size, 0, none⟩, 1, 1, some ⟨w.heap.size + 1, 0, none⟩, 1, 1⟩] blk0 → Calls Tryz.prog 11 #[.slice (some ⟨w.heap.size + 1 + 1, 0, none⟩) 1 1] u fun e w' => e = .returned (.tuple #[.string q, .int .i64 0]) ∧ Below u.heap.size u w') := Lib.hid (fun u hu hr => by
    have h := export_any _ _ blk0 u hr (HT.out u hu) blk0_ok
    rw [show expV blk0 = .tuple #[.string q, .int .i64 0] from by unfold expV; rw [if_neg (by rw [blk0_mod]; decide), hq]] at h
    exact h)
  have hqs : q.size = 29 := by rw [hq, strOf_size, blk0_text]; rfl
  have hql : (q.toList == [123, 34, 97, 34, 61, 34, 49, 34, 125, 10, 53, 32, 48, 48, 48, 48, 48, 48, 48, 48, 48, 48, 48, 48, 48, 48, 102, 102, 10]) = true := by
    rw [hq, blk0_text, Lib.toList_data, strOf_list]; decide +kernel
  have HI : Hid (impV q = (blk0, q.size, 0)) := Lib.hid (by rw [hqs, hq, impV_round blk0 blk0_fit blk0_mod, blk0_text]; rfl)
  have HI0 : Hid (impV { data := #[] } = ([], 0, 0)) := Lib.hid (impV_round [] (fun x hx => by cases hx) (by decide +kernel))
  have HHD : Hid (∀ u, Below w.heap.size w u → RdL u (.slice (some ⟨w.heap.size, 0, none⟩) 1 1) [lab0] → Calls Tryz.prog 18 #[.slice (some ⟨w.heap.size, 0, none⟩) 1 1] u fun e w' => e = .returned (.string (strOf (headL [lab0]))) ∧ Below u.heap.size u w') := Lib.hid (fun u hu hr => head_any _ [lab0] u hr (HT.out u hu).a.tabs (by decide +kernel))
  have HPH : Hid (∀ u, Below w.heap.size w u → Calls Tryz.prog 19 #[.string (strOf (headL [lab0]))] u fun e w' => (∃ la lc, e = .returned (.tuple #[.slice la 1 lc, .int .i64 0])) ∧ Below u.heap.size u w') := Lib.hid (fun u hu =>
    (parse_some (strOf (headL [lab0])) [lab0] u 0 (Nat.zero_le _) (by rw [strOf_size]; decide +kernel) (HT.out u hu).a.tabs (hd_round _)).mono fun e w' ⟨⟨la, lc, he, _⟩, hb⟩ => ⟨⟨la, lc, he⟩, hb⟩)
  have hW0 := HX.out _ HBW.out HRD.out
  have HX0 := Lib.hid hW0
  obtain ⟨HDS, hHDS⟩ : ∃ H, H = strOf (headL [lab0]) := ⟨_, rfl⟩
  rw [← hHDS] at HHD HPH
  have HC3 : Hid (∀ u, RdB u (.slice (some ⟨w.heap.size + 1 + 1, 0, none⟩) 1 1) [⟨some ⟨w.heap.size, 0, none⟩, 1, 1, some ⟨w.heap.size + 1, 0, none⟩, 1, 1⟩] blk0 → u.cell? ⟨w.heap.size + 1 + 1, 0, none⟩ = some (.slice (some ⟨w.heap.size, 0, none⟩) 1 1)) := Lib.hid (fun u hu => by
    obtain ⟨b', o', e', g1, _⟩ := RdH.at hu.2.1 (i := 0) rfl
    simp only [Option.some.injEq, Addr.mk.injEq, and_true] at e'
    obtain ⟨rfl, rfl⟩ := e'
    exact g1)
  clear hT hbW hrd hq hc hsz hW0 hHDS
  go_enter Tryz.func10, Tryz.ntmps10
  go_wp2_with (go_at_call 11; rw [← hW]; refine HX0.out.mono ?_; rintro r w1 ⟨rfl, hb1⟩)
  have hB1 := HBW.out.trans (hb1.mono HBW.out.size)
  have HB1 := Lib.hid hB1; have HRD1 := Lib.hid (HRD.out.below hb1)
  clear hb1 hB1
  refine (import_is q blk0 q.size 0 w1 (by omega) (HT.out _ HB1.out) HI.out).mono ?_
  rintro r w2 ⟨⟨ad, cap, hds, rfl, hr2⟩, hb2⟩
  have hB2 := HB1.out.trans (hb2.mono HB1.out.size)
  have HB2 := Lib.hid hB2; have HRD2 := Lib.hid (HRD1.out.below hb2); have HR2 := Lib.hid hr2
  clear hb2 hB2 hr2
  go_wp2_with (go_at_call 13; (with_reducible refine (import_is { data := #[] } [] 0 0 w2 (by decide) (HT.out _ HB2.out) HI0.out).mono ?_); rintro r w3 ⟨⟨ad3, cap3, hds3, rfl, hr3⟩, hb3⟩; have hc3 := HC3.out w3 (HRD2.out.below hb3))
  have hB3 := HB2.out.trans (hb3.mono HB2.out.size)
  have HB3 := Lib.hid hB3; have HRD3 := Lib.hid (HRD2.out.below hb3); have HR3 := Lib.hid (HR2.out.below hb3)
  clear hb3 hB3 hr3
  go_wp2_with (go_at_call 18; refine (HHD.out _ HB3.out (HRD3.out.2.2 0 _ _ rfl rfl).1).mono ?_; rintro r w4 ⟨rfl, hb4⟩)
  have hB4 := HB3.out.trans (hb4.mono HB3.out.size)
  have HB4 := Lib.hid hB4; have HRD4 := Lib.hid (HRD3.out.below hb4); have HR4 := Lib.hid (HR3.out.below hb4)
  clear hb4 hB4 hc3
  refine (HPH.out _ HB4.out).mono ?_
  rintro r w5 ⟨⟨la, lc, rfl⟩, hb5⟩
  have hB5 := HB4.out.trans (hb5.mono HB4.out.size)
  have HB5 := Lib.hid hB5; have HRD5 := Lib.hid (HRD4.out.below hb5); have HR5 := Lib.hid (HR4.out.below hb5)
  clear hb5 hB5
  go_wp2_with (go_at_call 15; refine (equal_same _ _ _ _ blk0 _ HRD5.out HR5.out (by decide) (fun x hx => (blk0_ok.lens.2.2 x hx).1)).mono ?_; rintro r w6 ⟨rfl, hb6⟩)
  go_ret
  exact ⟨by first | rfl | simp, HB5.out.trans (hb6.mono HB5.out.size)⟩
end Go.Proofs.YtnoodiibkchaaaaGreatDoor
namespace Go.Proofs.YtnoodiibkchaaaaGreatDoor
open Go.RowKit
attribute [local go_sem ↓] Go.wp_at_zero Go.wp_at_succ

theorem impGo_le (t : ByteArray) : ∀ f a b x, a ≤ t.size → impGo t f a b = .inr x → x ≤ t.size
  | 0, a, b, x, ha, h => by
    rw [impGo, Sum.inr.injEq] at h
    omega
  | f + 1, a, b, x, ha, h => by
    rw [impGo] at h
    split at h
    · cases h1 : nlAt t (t.size + 1) a with
      | none => rw [h1] at h; simp only [Sum.inr.injEq] at h; omega
      | some e =>
        rw [h1] at h
        simp only at h
        obtain ⟨n1, n2, _, _⟩ := nlAt_spec t _ a e h1
        cases h2 : stepB b (t.extract a e) with
        | none => rw [h2] at h; simp only [Sum.inr.injEq] at h; omega
        | some b1 => rw [h2] at h; simp only at h; exact impGo_le t f (e + 1) b1 x (by omega) h
    · cases h
/-- what is known of Import's answer -/
theorem impV_facts {t : ByteArray} {b : List Ser} {a : Nat} {c : Int} (h : impV t = (b, a, c)) (hs : t.size ≤ 1099511627776) : a ≤ t.size ∧ (c ≠ 0 → b = []) ∧ b.length ≤ t.size ∧ (∀ x ∈ b, Fit x) ∧ (c = 0 → Ok b ∧ modE b = 0 ∧ strOf (bloT b) = t) := by
  unfold impV at h
  cases h1 : impGo t (t.size + 1) 0 [] with
  | inr x =>
    rw [h1] at h
    simp only [Prod.mk.injEq] at h
    obtain ⟨rfl, rfl, rfl⟩ := h
    exact ⟨impGo_le t _ 0 [] _ (Nat.zero_le _) h1, fun _ => rfl, by simp, (fun x hx => by cases hx), (fun h => by cases h)⟩
  | inl b1 =>
    rw [h1] at h
    simp only at h
    have htx := impGo_text t _ 0 [] b1 (Nat.zero_le _) h1
    rw [show bloT [] = [] from rfl, List.nil_append, Nat.sub_zero] at htx
    have hbd := blo_bounds htx hs
    have hfit := impGo_fit t _ 0 [] b1 (fun x hx => by cases hx) h1
    split at h
    · rename_i hm
      simp only [Prod.mk.injEq] at h
      obtain ⟨rfl, rfl, rfl⟩ := h
      exact ⟨Nat.le_refl _, fun _ => rfl, by simp, (fun x hx => by cases hx), (fun h => absurd h hm)⟩
    · rename_i hm
      simp only [Prod.mk.injEq] at h
      obtain ⟨rfl, rfl, rfl⟩ := h
      exact ⟨Nat.le_refl _, (fun h => absurd rfl h), hbd.1, (fun x hx => (hbd.2.2 x hx).1), fun _ => ⟨⟨by rw [htx, cut_length]; exact hs, hfit⟩, by simpa using hm, by rw [htx, strOf_all]⟩⟩
set_option maxHeartbeats 2000000 in
set_option maxRecDepth 100000 in
theorem archiveImports_any (t : ByteArray) (w : World) (hT : TabsN w) : Calls Tryz.prog 4 #[.string t] w fun e w' => e = .returned (.bool true) ∧ Below w.heap.size w w' := by
  have HT : Hid (∀ q, Below w.heap.size w q → TabsN q) := Lib.hid (fun q hq => hT.below hq)
  clear hT
  by_cases hs : t.size ≤ 20000
  · obtain ⟨b, a, c, hv⟩ : ∃ b a c, impV t = (b, a, c) := ⟨_, _, _, rfl⟩
    have hf := impV_facts hv (by omega)
    have HF := Lib.hid hf
    have HI := Lib.hid (fun q (hq : Below w.heap.size w q) => import_is t b a c q (by omega) (HT.out q hq) hv)
    have HR := Lib.hid (fun q (hq : Below w.heap.size w q) => refImport_is t b a c q (by omega) (HT.out q hq) hv)
    have HAL := Lib.hid (fun q (hq : Below w.heap.size w q) => alive23_any q (HT.out q hq))
    have hsi : (t.size : Int) ≤ 20000 := by omega
    clear hf hv
    go_enter Tryz.func4, Tryz.ntmps4
    go_wp2_with (go_at_call 13; refine (HI.out _ (Below.refl _ _)).mono ?_; rintro r w1 ⟨⟨ad1, cap1, hd1, rfl, hr1⟩, hb1⟩)
    have HB1 := Lib.hid hb1; have HR1 := Lib.hid hr1
    clear hb1 hr1
    go_wp2_with (go_at_call 14; refine (HR.out _ HB1.out).mono ?_; rintro r w2 ⟨⟨ad2, cap2, hd2, rfl, hr2⟩, hb2⟩)
    have HB2 := Lib.hid (HB1.out.trans (hb2.mono HB1.out.size)); have HR1' := Lib.hid (HR1.out.below hb2); have HR2 := Lib.hid hr2
    clear hb2 hr2 HR1
    go_wp2_with (go_at_call 10; refine (HAL.out _ HB2.out).mono ?_; rintro r w3 ⟨rfl, hb3⟩)
    have HB3 := Lib.hid (HB2.out.trans (hb3.mono HB2.out.size)); have HR3 := Lib.hid (HR1'.out.below hb3); have HR4 := Lib.hid (HR2.out.below hb3)
    clear hb3 HR1' HR2
    go_wp2_with (go_at_call 15; refine (equal_same _ _ _ _ b _ HR3.out HR4.out (by have := HF.out.2.2.1; omega) HF.out.2.2.2.1).mono ?_; rintro r w4 ⟨rfl, hb4⟩)
    go_ret
    exact ⟨by first | rfl | simp, HB3.out.trans (hb4.mono HB3.out.size)⟩
  · have hsi : (20000 : Int) < (t.size : Int) := by omega
    have HAL := Lib.hid (alive23_any w (HT.out w (Below.refl _ _)))
    clear hs
    go_enter Tryz.func4, Tryz.ntmps4
    go_wp2_with (go_at_call 10; refine HAL.out.mono ?_; rintro r w3 ⟨rfl, hb3⟩)
    go_ret
    exact ⟨rfl, hb3⟩
set_option maxHeartbeats 2000000 in
set_option maxRecDepth 100000 in
theorem archiveCanon_any (t : ByteArray) (w : World) (hT : TabsN w) : Calls Tryz.prog 5 #[.string t] w fun e w' => e = .returned (.bool true) ∧ Below w.heap.size w w' := by
  have HT : Hid (∀ q, Below w.heap.size w q → TabsN q) := Lib.hid (fun q hq => hT.below hq)
  clear hT
  have HAL := Lib.hid (fun q (hq : Below w.heap.size w q) => alive23_any q (HT.out q hq))
  by_cases hs : t.size ≤ 20000
  · obtain ⟨b, a, c, hv⟩ : ∃ b a c, impV t = (b, a, c) := ⟨_, _, _, rfl⟩
    have hf := impV_facts hv (by omega)
    have HF := Lib.hid hf
    have HI := Lib.hid (fun q (hq : Below w.heap.size w q) => import_is t b a c q (by omega) (HT.out q hq) hv)
    have hsi : (t.size : Int) ≤ 20000 := by omega
    have hai : (a : Int) ≤ (t.size : Int) := by have := hf.1; omega
    have ha0 : (0 : Int) ≤ (a : Int) := by omega
    clear hv
    by_cases hc : c = 0
    · subst hc
      obtain ⟨ok, hm, htx⟩ := hf.2.2.2.2 rfl
      have HX := Lib.hid (fun q v hds (hq : Below w.heap.size w q) (hr : RdB q v hds b) => (by
        have h := export_any v hds b q hr (HT.out q hq) ok
        rw [show expV b = .tuple #[.string t, .int .i64 0] from by unfold expV; rw [if_neg (by rw [hm]; decide), htx]] at h
        exact h : Calls Tryz.prog 11 #[v] q fun e w' => e = .returned (.tuple #[.string t, .int .i64 0]) ∧ Below q.heap.size q w'))
      clear hf ok hm htx
      go_enter Tryz.func5, Tryz.ntmps5
      go_wp2_with (go_at_call 13; refine (HI.out _ (Below.refl _ _)).mono ?_; rintro r w1 ⟨⟨ad1, cap1, hd1, rfl, hr1⟩, hb1⟩)
      have HB1 := Lib.hid hb1; have HR1 := Lib.hid hr1
      clear hb1 hr1
      go_wp2_with (go_at_call 11; refine (HX.out _ _ _ HB1.out HR1.out).mono ?_; rintro r w2 ⟨rfl, hb2⟩)
      have HB2 := Lib.hid (HB1.out.trans (hb2.mono HB1.out.size))
      clear hb2
      go_wp2_with (go_at_call 10; refine (HAL.out _ HB2.out).mono ?_; rintro r w3 ⟨rfl, hb3⟩)
      go_ret
      exact ⟨by first | rfl | simp, HB2.out.trans (hb3.mono HB2.out.size)⟩
    · obtain rfl := hf.2.1 hc
      have hn : (c != 0) = true := by simpa using hc
      clear hf hc
      go_enter Tryz.func5, Tryz.ntmps5
      go_wp2_with (go_at_call 13; refine (HI.out _ (Below.refl _ _)).mono ?_; rintro r w1 ⟨⟨ad1, cap1, hd1, rfl, hr1⟩, hb1⟩)
      have HB1 := Lib.hid hb1
      clear hb1 hr1
      go_wp2_with (go_at_call 10; refine (HAL.out _ HB1.out).mono ?_; rintro r w3 ⟨rfl, hb3⟩)
      go_ret
      exact ⟨by first | rfl | simp, HB1.out.trans (hb3.mono HB1.out.size)⟩
  · have hsi : (20000 : Int) < (t.size : Int) := by omega
    clear hs
    go_enter Tryz.func5, Tryz.ntmps5
    go_wp2_with (go_at_call 10; refine (HAL.out _ (Below.refl _ _)).mono ?_; rintro r w3 ⟨rfl, hb3⟩)
    go_ret
    exact ⟨rfl, hb3⟩
theorem labsT_of {t : ByteArray} {l : List Lab} (h : hdV t = some l) (hs : t.size ≤ 20000) : (labsT l).length ≤ 20000 ∧ l.length ≤ 20000 := by
  have h1 := hd_canon h
  have h2 : t.size = (labsT l).length + 2 := by rw [h1, strOf_size]; simp [headL]
  have h3 := labsT_ge l
  omega
set_option maxHeartbeats 2000000 in
set_option maxRecDepth 100000 in
theorem archiveParses_any (t : ByteArray) (w : World) (hT : TabsN w) : Calls Tryz.prog 7 #[.string t] w fun e w' => e = .returned (.bool true) ∧ Below w.heap.size w w' := by
  have HT : Hid (∀ q, Below w.heap.size w q → TabsN q) := Lib.hid (fun q hq => hT.below hq)
  clear hT
  have HAL := Lib.hid (fun q (hq : Below w.heap.size w q) => alive23_any q (HT.out q hq))
  by_cases hs : t.size ≤ 20000
  · have hsi : (t.size : Int) ≤ 20000 := by omega
    cases hv : hdV t with
    | some l =>
      obtain ⟨hl1, hl2⟩ := labsT_of hv hs
      have HP := Lib.hid (fun q (hq : Below w.heap.size w q) => parse_some t l q 0 (Nat.zero_le _) (by omega) (HT.out q hq).a.tabs hv)
      have HR := Lib.hid (fun q (hq : Below w.heap.size w q) => refParse_some t l q 0 (Nat.zero_le _) (by omega) (HT.out q hq).a.tabs hv)
      have HHD := Lib.hid (fun q v (hq : Below w.heap.size w q) (hr : RdL q v l) => (by
        have h := head_any v l q hr (HT.out q hq).a.tabs (by omega)
        rw [← hd_canon hv] at h
        exact h : Calls Tryz.prog 18 #[v] q fun e w' => e = .returned (.string t) ∧ Below q.heap.size q w'))
      clear hv
      go_enter Tryz.func7, Tryz.ntmps7
      go_wp2_with (go_at_call 19; refine (HP.out _ (Below.refl _ _)).mono ?_; rintro r w1 ⟨⟨la1, lc1, rfl, hr1⟩, hb1⟩)
      have HB1 := Lib.hid hb1; have HR1 := Lib.hid (rdL_row hr1)
      clear hb1 hr1
      go_wp2_with (go_at_call 22; refine (HR.out _ HB1.out).mono ?_; rintro r w2 ⟨⟨la2, lc2, rfl, hr2⟩, hb2⟩)
      have HB2 := Lib.hid (HB1.out.trans (hb2.mono HB1.out.size)); have HR1' := Lib.hid (HR1.out.below hb2); have HR2 := Lib.hid (rdL_row hr2)
      clear hb2 hr2
      go_wp2_with (go_at_call 10; refine (HAL.out _ HB2.out).mono ?_; rintro r w3 ⟨rfl, hb3⟩)
      have HB3 := Lib.hid (HB2.out.trans (hb3.mono HB2.out.size)); have HR3 := Lib.hid (HR1'.out.below hb3); have HR4 := Lib.hid (HR2.out.below hb3)
      clear hb3
      go_wp2_with (go_at_call 21; refine (eqLabels_same _ _ l _ HR3.out HR4.out (by omega)).mono ?_; rintro r w4 ⟨rfl, hb4⟩)
      have HB4 := Lib.hid (HB3.out.trans (hb4.mono HB3.out.size)); have HR5 := Lib.hid (HR3.out.below hb4)
      clear hb4
      go_wp2_with (go_at_call 18; refine (HHD.out _ _ HB4.out HR5.out).mono ?_; rintro r w5 ⟨rfl, hb5⟩)
      go_ret
      exact ⟨by first | rfl | simp, HB4.out.trans (hb5.mono HB4.out.size)⟩
    | none =>
      have HP := Lib.hid (fun q (hq : Below w.heap.size w q) => parse_no t q (by omega) (HT.out q hq).a.tabs hv)
      have HR := Lib.hid (fun q (hq : Below w.heap.size w q) => refParse_no t q (by omega) (HT.out q hq).a.tabs hv)
      clear hv
      go_enter Tryz.func7, Tryz.ntmps7
      go_wp2_with (go_at_call 19; refine (HP.out _ (Below.refl _ _)).mono ?_; rintro r w1 ⟨rfl, hb1⟩)
      have HB1 := Lib.hid hb1
      clear hb1
      go_wp2_with (go_at_call 22; refine (HR.out _ HB1.out).mono ?_; rintro r w2 ⟨rfl, hb2⟩)
      have HB2 := Lib.hid (HB1.out.trans (hb2.mono HB1.out.size))
      clear hb2
      go_wp2_with (go_at_call 10; refine (HAL.out _ HB2.out).mono ?_; rintro r w3 ⟨rfl, hb3⟩)
      have HB3 := Lib.hid (HB2.out.trans (hb3.mono HB2.out.size))
      clear hb3
      go_wp2_with (go_at_call 21; refine (eqLabels_same _ _ [] _ (Rd.nil _ _) (Rd.nil _ _) (by decide)).mono ?_; rintro r w4 ⟨rfl, hb4⟩)
      go_ret
      exact ⟨by first | rfl | simp, HB3.out.trans (hb4.mono HB3.out.size)⟩
  · have hsi : (20000 : Int) < (t.size : Int) := by omega
    clear hs
    go_enter Tryz.func7, Tryz.ntmps7
    go_wp2_with (go_at_call 10; refine (HAL.out _ (Below.refl _ _)).mono ?_; rintro r w3 ⟨rfl, hb3⟩)
    go_ret
    exact ⟨rfl, hb3⟩
end Go.Proofs.YtnoodiibkchaaaaGreatDoor
