/-
  WALK: ArchiveExports.
-/
import Derived.Test.YtnoodiibkchaaaaGreatDoorXFin
import Derived.Test.YtnoodiibkchaaaaGreatDoorPFits
namespace Go.Proofs.YtnoodiibkchaaaaGreatDoor
open Go.RowKit
attribute [local go_sem ↓] Go.wp_at_zero Go.wp_at_succ

set_option maxHeartbeats 2000000 in
set_option maxRecDepth 100000 in
theorem archiveExports_any (v : Value) (hs : List Hdr) (b : List Ser) (w : World) (hr : RdB w v hs b) (hT : TabsN w) (hl : b.length ≤ 4398046511104) (hf : ∀ x ∈ b, x.1.length ≤ 4398046511104) (hft : ∀ x ∈ b, ∀ y ∈ x.2, FitT y) :
    Calls Tryz.prog 3 #[v] w fun e w' => e = .returned (.bool true) ∧ Below w.heap.size w w' := by
  have HT : Hid (∀ q, Below w.heap.size w q → TabsN q) := Lib.hid (fun q hq => hT.below hq)
  have HL := Lib.hid (large23_any v hs b w hr hl hf)
  have HAL := Lib.hid (fun q (hq : Below w.heap.size w q) => alive23_any q (HT.out q hq))
  have HOK := Lib.hid (fun (h : Small b) (h2 : ∀ x ∈ b, Short x.1) => ok_of h h2 hft)
  obtain ⟨r1, r2, hex⟩ : ∃ r1 r2, expV b = .tuple #[.string r1, .int .i64 r2] := by
    unfold expV
    split
    · exact ⟨_, _, rfl⟩
    · exact ⟨_, _, rfl⟩
  have HX := Lib.hid (fun (hok : Ok b) q (hq : Below w.heap.size w q) => (by
    have h := export_any v hs b q (hr.below hq) (HT.out q hq) hok
    rw [hex] at h
    exact h : Calls Tryz.prog 11 #[v] q fun e w' => e = .returned (.tuple #[.string r1, .int .i64 r2]) ∧ Below q.heap.size q w'))
  have HRX := Lib.hid (fun (hok : Ok b) q (hq : Below w.heap.size w q) => (by
    have h := refExport_any v hs b q (hr.below hq) (HT.out q hq) hok
    rw [hex] at h
    exact h : Calls Tryz.prog 12 #[v] q fun e w' => e = .returned (.tuple #[.string r1, .int .i64 r2]) ∧ Below q.heap.size q w'))
  obtain ⟨ad, cap, rfl, hcap⟩ := Rd.slice hr.2.1
  clear hT hl hf hft hex hr
  go_enter Tryz.func3, Tryz.ntmps3
  go_wp2_with (go_at_call 9; refine HL.out.mono ?_; rintro r w1 ⟨he, hb1⟩; rcases he with rfl | ⟨rfl, hsm, hsh⟩)
  · have HB1 := Lib.hid hb1
    clear hb1
    go_wp2_with (go_at_call 10; refine (HAL.out _ HB1.out).mono ?_; rintro r w3 ⟨rfl, hb3⟩)
    go_ret
    exact ⟨rfl, HB1.out.trans (hb3.mono HB1.out.size)⟩
  · have HB1 := Lib.hid hb1
    have hok := HOK.out hsm hsh
    have HOK2 := Lib.hid hok
    clear hb1 hsm hsh hok
    go_wp2_with (go_at_call 11; refine (HX.out HOK2.out _ HB1.out).mono ?_; rintro r w2 ⟨rfl, hb2⟩)
    have HB2 := Lib.hid (HB1.out.trans (hb2.mono HB1.out.size))
    clear hb2
    go_wp2_with (go_at_call 12; refine (HRX.out HOK2.out _ HB2.out).mono ?_; rintro r w3 ⟨rfl, hb3⟩)
    have HB3 := Lib.hid (HB2.out.trans (hb3.mono HB2.out.size))
    clear hb3
    go_wp2_with (go_at_call 10; refine (HAL.out _ HB3.out).mono ?_; rintro r w4 ⟨rfl, hb4⟩)
    go_ret
    exact ⟨by first | rfl | simp, HB3.out.trans (hb4.mono HB3.out.size)⟩
end Go.Proofs.YtnoodiibkchaaaaGreatDoor
