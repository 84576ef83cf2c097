/-
  WALK: ArchiveRoundTrip.
-/
import Derived.Test.YtnoodiibkchaaaaGreatDoorXFin
import Derived.Test.YtnoodiibkchaaaaGreatDoorPFits
namespace Go.Proofs.YtnoodiibkchaaaaGreatDoor
open Go.RowKit
attribute [local go_sem ↓] Go.wp_at_zero Go.wp_at_succ

set_option maxHeartbeats 2000000 in
set_option maxRecDepth 100000 in
theorem archiveRound_any (v : Value) (hs : List Hdr) (b : List Ser) (w : World) (hr : RdB w v hs b) (hT : TabsN w) (hl : b.length ≤ 4398046511104) (hf : ∀ x ∈ b, x.1.length ≤ 4398046511104) (hft : ∀ x ∈ b, ∀ y ∈ x.2, FitT y) :
    Calls Tryz.prog 8 #[v] w fun e w' => e = .returned (.bool true) ∧ Below w.heap.size w w' := by
  have HT : Hid (∀ q, Below w.heap.size w q → TabsN q) := Lib.hid (fun q hq => hT.below hq)
  have HL := Lib.hid (large23_any v hs b w hr hl hf)
  have HAL := Lib.hid (fun q (hq : Below w.heap.size w q) => alive23_any q (HT.out q hq))
  have HOK := Lib.hid (fun (h : Small b) (h2 : ∀ x ∈ b, Short x.1) => ok_of h h2 hft)
  have hlen : hs.length = b.length := hr.1
  have HCK := Lib.hid (fun (hok : Ok b) q (hq : Below w.heap.size w q) => rCheck_any v hs b q (hr.below hq) (by have := hok.lens.1; omega) hok.lens.2.1 (fun x hx => (hok.lens.2.2 x hx).1))
  have HSM := Lib.hid (fun (hok : Ok b) q (hq : Below w.heap.size w q) => refSamples_any v hs b q (hr.below hq) (by have := hok.lens.1; omega) hok.lens.2.1)
  have HRB := Lib.hid (fun q (hq : Below w.heap.size w q) => hr.below hq)
  have HFI := Lib.hid (fun (hok : Ok b) x hx => (hok.lens.2.2 x hx).1)
  have HLE := Lib.hid (fun (hok : Ok b) => (show b.length ≤ 1099511627776 ∧ samplesN b ≤ 1099511627776 from ⟨hok.lens.1, hok.lens.2.1⟩))
  obtain ⟨t, ht⟩ : ∃ t, t = strOf (bloT b) := ⟨_, rfl⟩
  have HX := Lib.hid (fun (hok : Ok b) (hm : modE b = 0) q (hq : Below w.heap.size w q) => (by
    have h := export_any v hs b q (hr.below hq) (HT.out q hq) hok
    rw [show expV b = .tuple #[.string t, .int .i64 0] from by unfold expV; rw [if_neg (by rw [hm]; decide), ht]] at h
    exact h : Calls Tryz.prog 11 #[v] q fun e w' => e = .returned (.tuple #[.string t, .int .i64 0]) ∧ Below q.heap.size q w'))
  have htz : t.size = (bloT b).length := by rw [ht, strOf_size]
  have HI := Lib.hid (fun (hok : Ok b) (hm : modE b = 0) q (hq : Below w.heap.size w q) => import_is t b t.size 0 q (by rw [htz]; exact hok.len) (HT.out q hq) (by rw [htz, ht]; exact impV_round b hft hm))
  have hcn : Lib.countByte t.data.toList 10 = b.length + samplesN b := by rw [ht, count_nls _ (bloT_lt b), nls_bloT b hft]
  have HCN := Lib.hid (fun q => (by
    have h := Tryz.strings_Count_one t 10 q
    rw [hcn] at h
    exact h : Calls Tryz.prog 24 #[.string t, .string { data := #[10] }] q fun e w' => e = .returned (.int .i64 ((b.length + samplesN b : Nat) : Int)) ∧ w' = q))
  obtain ⟨ad, cap, rfl, hcap⟩ := Rd.slice hr.2.1
  rw [hlen] at hcap HL HCK HSM HRB HX ⊢
  clear hT hl hf hft hr ht htz hcn
  by_cases hm : modE b = 0
  · have HX' := Lib.hid (fun hok => HX.out hok hm); have HI' := Lib.hid (fun hok => HI.out hok hm)
    rw [hm] at HCK
    clear hm
    go_enter Tryz.func8, Tryz.ntmps8
    go_wp2_with (go_at_call 9; refine HL.out.mono ?_; rintro r w1 ⟨he, hb1⟩; rcases he with rfl | ⟨rfl, hsm, hsh⟩)
    · have HB1 := Lib.hid hb1
      clear hb1
      go_wp2_with (go_at_call 10; refine (HAL.out _ HB1.out).mono ?_; rintro r w3 ⟨rfl, hb3⟩)
      go_ret
      exact ⟨rfl, HB1.out.trans (hb3.mono HB1.out.size)⟩
    · have HB1 := Lib.hid hb1
      have hok := HOK.out hsm hsh
      have HOK2 := Lib.hid hok
      obtain ⟨hbl, hsn⟩ := HLE.out hok
      clear hb1 hsm hsh hok
      go_wp2_with (go_at_call 23; refine (HCK.out HOK2.out _ HB1.out).mono ?_; rintro r w2 ⟨rfl, hb2⟩)
      have HB2 := Lib.hid (HB1.out.trans (hb2.mono HB1.out.size))
      clear hb2
      go_wp2_with (go_at_call 11; refine (HX'.out HOK2.out _ HB2.out).mono ?_; rintro r w3 ⟨rfl, hb3⟩)
      have HB3 := Lib.hid (HB2.out.trans (hb3.mono HB2.out.size))
      clear hb3
      go_wp2_with (go_at_call 13; refine (HI'.out HOK2.out _ HB3.out).mono ?_; rintro r w4 ⟨⟨ad4, cap4, hd4, rfl, hr4⟩, hb4⟩)
      have HB4 := Lib.hid (HB3.out.trans (hb4.mono HB3.out.size)); have HR4 := Lib.hid hr4
      clear hb4 hr4
      go_wp2_with (go_at_call 10; refine (HAL.out _ HB4.out).mono ?_; rintro r w5 ⟨rfl, hb5⟩)
      have HB5 := Lib.hid (HB4.out.trans (hb5.mono HB4.out.size)); have HR5 := Lib.hid (HR4.out.below hb5)
      clear hb5
      go_wp2_with (go_at_call 15; refine (equal_same _ _ _ _ b _ (HRB.out _ HB5.out) HR5.out hbl (HFI.out HOK2.out)).mono ?_; rintro r w6 ⟨rfl, hb6⟩)
      have HB6 := Lib.hid (HB5.out.trans (hb6.mono HB5.out.size))
      clear hb6
      go_wp2_with (go_at_call 24; refine (HCN.out _).mono ?_; rintro r w7 ⟨rfl, rfl⟩)
      go_wp2_with (go_at_call 25; refine (HSM.out HOK2.out _ HB6.out).mono ?_; rintro r w8 ⟨rfl, hb8⟩)
      go_ret
      exact ⟨by first | rfl | simp, HB6.out.trans (hb8.mono HB6.out.size)⟩
  · have hm' : (modE b != 0) = true := by simpa using hm
    clear hm HX HI
    go_enter Tryz.func8, Tryz.ntmps8
    go_wp2_with (go_at_call 9; refine HL.out.mono ?_; rintro r w1 ⟨he, hb1⟩; rcases he with rfl | ⟨rfl, hsm, hsh⟩)
    · have HB1 := Lib.hid hb1
      clear hb1
      go_wp2_with (go_at_call 10; refine (HAL.out _ HB1.out).mono ?_; rintro r w3 ⟨rfl, hb3⟩)
      go_ret
      exact ⟨rfl, HB1.out.trans (hb3.mono HB1.out.size)⟩
    · have HB1 := Lib.hid hb1
      have hok := HOK.out hsm hsh
      have HOK2 := Lib.hid hok
      obtain ⟨hbl, hsn⟩ := HLE.out hok
      clear hb1 hsm hsh hok
      go_wp2_with (go_at_call 23; refine (HCK.out HOK2.out _ HB1.out).mono ?_; rintro r w2 ⟨rfl, hb2⟩)
      have HB2 := Lib.hid (HB1.out.trans (hb2.mono HB1.out.size))
      clear hb2
      go_wp2_with (go_at_call 10; refine (HAL.out _ HB2.out).mono ?_; rintro r w3 ⟨rfl, hb3⟩)
      go_ret
      exact ⟨rfl, HB2.out.trans (hb3.mono HB2.out.size)⟩
end Go.Proofs.YtnoodiibkchaaaaGreatDoor
