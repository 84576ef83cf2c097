/-
  WALKS: runval.getRun.
-/
import Derived.Test.YtdniaingipoggaaWRunD
import Derived.Test.YtdniaingipoggaaWReader
import Derived.WalkSpells
import Derived.WalkLawsBesides
namespace Go.Proofs.Ytdniaingipoggaa
open Go.RowKit

theorem rest_length (bs : List Nat) (i : Nat) : ((unpackB bs).drop i).length = 8 * bs.length - i := by rw [List.length_drop, unpackB_length]
theorem ret_run {x c e : Nat} {a : Value} (h : a = .agg #[.int .u64 (x : Nat), .int .i64 (c : Nat)]) : Ending.returned (.tuple #[a, .int .i64 (e : Nat)]) = .returned (.tuple #[.agg #[.int .u64 (x : Nat), .int .i64 (c : Nat)], .int .i64 (e : Nat)]) := by rw [h]
/-- what getRun does at the bits that are left: the run, the error, how many bits it took -/
def getB (b : List Bool) : Nat × Nat × Nat × Nat :=
  if b.length < 64 then (0, 0, 3, 0) else if b.length < 71 then (bitsNat (b.take 64), 1, 3, 64) else (bitsNat (b.take 64), bitsNat ((b.drop 64).take 7) + 1, 0, 71)
theorem getB_le (b : List Bool) : (getB b).2.2.2 ≤ b.length := by
  unfold getB
  split
  · exact Nat.zero_le _
  · split
    · show 64 ≤ _; omega
    · show 71 ≤ _; omega
set_option maxRecDepth 100000 in
set_option maxHeartbeats 1000000 in
theorem getRun_any (base p : Nat) (v : Value) (bs : List Nat) (i : Nat) (w : World) (h : IsR w base p v bs i) (hl : bs.length ≤ 1099511627776) (hi : i ≤ 8 * bs.length) :
    Calls Try.prog 69 #[.pointer (some ⟨p, 0, none⟩)] w fun e w' => e = .returned (.tuple #[.agg #[.int .u64 (((getB ((unpackB bs).drop i)).1 : Nat) : Int), .int .i64 (((getB ((unpackB bs).drop i)).2.1 : Nat) : Int)], .int .i64 (((getB ((unpackB bs).drop i)).2.2.1 : Nat) : Int)]) ∧
      IsR w' base p v bs (i + (getB ((unpackB bs).drop i)).2.2.2) ∧ Keeps (fun k => k = p) w w' := by
  have hlen := rest_length bs i
  have hR := Lib.hid h
  have hp := h.lt
  have hpo : ∀ g, v.ownBlock = some g → g < w.heap.size := fun g hg => h.own_lt hg
  have HPO := Lib.hid hpo
  clear h hpo
  obtain ⟨w0, hw0⟩ : ∃ w0, w0 = w.alloc (.cells #[.int .u64 0, .int .i64 0] 82) := ⟨_, rfl⟩
  have hk0 : ∀ S, Keeps S w w0 := fun S => by rw [hw0]; exact (Keeps.refl S w).alloc _
  have hR0 : IsR w0 base p v bs i := hR.out.keeps (hk0 (fun _ => False)) (fun h => h) (fun _ _ h => h)
  have hD : w0.heap[w.heap.size]? = some (.cells #[.int .u64 0, .int .i64 0] 82 (0, 0)) := by rw [hw0]; exact heap_alloc_new w _
  have HR0 := Lib.hid hR0; have HK0 := Lib.hid hk0; have HW0 := Lib.hid hw0; have HD := Lib.hid hD
  clear hR0 hk0 hw0 hD
  by_cases h1 : 8 * bs.length < i + 64
  · have e : getB ((unpackB bs).drop i) = (0, 0, 3, 0) := by unfold getB; rw [if_pos (by omega)]
    have HE := Lib.hid e
    clear e hlen
    go_enter Try.func69, Try.ntmps69
    go_wp2_with fail
    rw [← HW0.out]
    refine (rbits_eof base p v bs i 64 w0 HR0.out (by omega) hi (by decide) h1).mono ?_
    rintro e w1 ⟨rfl, n, hw1⟩
    have hd1 : w1.heap[w.heap.size]? = some (.cells #[.int .u64 0, .int .i64 0] 82 (0, 0)) := by rw [hw1]; exact HD.out
    have hc0 : w1.cell? ⟨w.heap.size, 0, none⟩ = some (.int .u64 0) := by rw [cell_of_row _ _ _ _ _ _ hd1]; rfl
    have hc1 : w1.cell? ⟨w.heap.size, 1, none⟩ = some (.int .i64 0) := by rw [cell_of_row _ _ _ _ _ _ hd1]; rfl
    have hf0 : w1.frozen? ⟨w.heap.size, 0, none⟩ = false := frozen_of_row _ _ _ _ _ hd1
    have hf1 : w1.frozen? ⟨w.heap.size, 1, none⟩ = false := frozen_of_row _ _ _ _ _ hd1
    have hR1 : IsR w1 base p v bs i := by rw [hw1]; exact HR0.out.drewN n
    have hk1 : Keeps (fun _ => False) w w1 := by rw [hw1]; exact (HK0.out _).drewN n
    have HR1 := Lib.hid hR1; have HK1 := Lib.hid hk1
    clear hw1 hR1 hk1
    have HD1 := Lib.hid hd1
    clear hd1
    go_wp2
    obtain ⟨w2, hw2⟩ : ∃ w2, w2 = (w1.setCell ⟨w.heap.size, 0, none⟩ (.int .u64 0)).setCell ⟨w.heap.size, 1, none⟩ (.int .i64 0) := ⟨_, rfl⟩
    rw [← hw2]
    have g2 := heap_setCell_same _ w.heap.size 1 _ _ (.int .i64 0) (heap_setCell_same _ w.heap.size 0 _ _ (.int .u64 0) HD1.out)
    rw [← hw2] at g2
    have e0 : w2.cell? ⟨w.heap.size, 0, none⟩ = some (.int .u64 0) := by rw [cell_of_row _ _ _ _ _ _ g2]; rfl
    have e1 : w2.cell? ⟨w.heap.size, 1, none⟩ = some (.int .i64 0) := by rw [cell_of_row _ _ _ _ _ _ g2]; rfl
    have k2 : Keeps (fun k => k = w.heap.size) w1 w2 := by rw [hw2]; exact ((Keeps.refl (fun k => k = w.heap.size) _).setCell (p := ⟨w.heap.size, 0, none⟩) (fun _ => rfl) _).setCell (p := ⟨w.heap.size, 1, none⟩) (fun _ => rfl) _
    have hR2 := HR1.out.keeps k2 (by omega) (fun g hg e => by have := HPO.out g hg; omega)
    have hk2 := HK1.out.trans k2 (fun k hk e => by omega)
    refine bodyPost_ret (v := .tuple #[.agg #[.int .u64 0, .int .i64 0], .int .i64 3]) (by simp [results, Try.results69, go_sem, e0, e1]) rfl ⟨?_, ?_, ?_⟩
    · rw [HE.out]; rfl
    · rw [HE.out]; exact hR2
    · exact hk2.mono (fun _ _ h => h.elim)
  · obtain ⟨x, hx⟩ : ∃ x, x = bitsNat (bitsFrom bs i 64) := ⟨_, rfl⟩
    have hx1 := bitsFrom_lt bs i 64
    rw [← hx] at hx1
    by_cases h2 : 8 * bs.length < i + 71
    · have e : getB ((unpackB bs).drop i) = (x, 1, 3, 64) := by unfold getB; rw [if_neg (by omega), if_pos (by omega), hx]; rfl
      have HE := Lib.hid e; have HX := Lib.hid hx
      clear e hlen hx
      go_enter Try.func69, Try.ntmps69
      go_wp2_with fail
      rw [← HW0.out]
      refine (rbits_any base p v bs i 64 w0 HR0.out (by omega) (by decide) (by omega)).mono ?_
      rw [← HX.out]
      rintro e wa ⟨rfl, hRa, hka⟩
      have hkwa : Keeps (fun k => k = p) w wa := (HK0.out (fun k => k = p)).trans hka (fun _ _ h => h)
      have hda := hka.heap HD.out (show ¬ w.heap.size = p by omega)
      have HRA := Lib.hid hRa; have HKWA := Lib.hid hkwa; have HDA := Lib.hid hda
      clear hRa hkwa hda hka
      go_wp2_with fail
      refine (rbits_eof base p v bs (i + 64) 7 wa HRA.out (by omega) (by omega) (by decide) (by omega)).mono ?_
      rintro e w1 ⟨rfl, n, hw1⟩
      have hd1 : w1.heap[w.heap.size]? = some (.cells #[.int .u64 0, .int .i64 0] 82 (0, 0)) := by rw [hw1]; exact HDA.out
      have hR1 : IsR w1 base p v bs (i + 64) := by rw [hw1]; exact HRA.out.drewN n
      have hk1 : Keeps (fun k => k = p) w w1 := by rw [hw1]; exact HKWA.out.drewN n
      clear hw1
      have hc0 : w1.cell? ⟨w.heap.size, 0, none⟩ = some (.int .u64 0) := by rw [cell_of_row _ _ _ _ _ _ hd1]; rfl
      have hc1 : w1.cell? ⟨w.heap.size, 1, none⟩ = some (.int .i64 0) := by rw [cell_of_row _ _ _ _ _ _ hd1]; rfl
      have hf0 : w1.frozen? ⟨w.heap.size, 0, none⟩ = false := frozen_of_row _ _ _ _ _ hd1
      have hf1 : w1.frozen? ⟨w.heap.size, 1, none⟩ = false := frozen_of_row _ _ _ _ _ hd1
      have HR1 := Lib.hid hR1; have HK1 := Lib.hid hk1; have HD1 := Lib.hid hd1
      clear hR1 hk1 hd1
      go_wp2
      obtain ⟨w2, hw2⟩ : ∃ w2, w2 = (w1.setCell ⟨w.heap.size, 0, none⟩ (.int .u64 (x : Nat))).setCell ⟨w.heap.size, 1, none⟩ (.int .i64 1) := ⟨_, rfl⟩
      rw [← hw2]
      have g2 := heap_setCell_same _ w.heap.size 1 _ _ (.int .i64 1) (heap_setCell_same _ w.heap.size 0 _ _ (.int .u64 (x : Nat)) HD1.out)
      rw [← hw2] at g2
      have e0 : w2.cell? ⟨w.heap.size, 0, none⟩ = some (.int .u64 (x : Nat)) := by rw [cell_of_row _ _ _ _ _ _ g2]; rfl
      have e1 : w2.cell? ⟨w.heap.size, 1, none⟩ = some (.int .i64 1) := by rw [cell_of_row _ _ _ _ _ _ g2]; rfl
      have k2 : Keeps (fun k => k = w.heap.size) w1 w2 := by rw [hw2]; exact ((Keeps.refl (fun k => k = w.heap.size) _).setCell (p := ⟨w.heap.size, 0, none⟩) (fun _ => rfl) _).setCell (p := ⟨w.heap.size, 1, none⟩) (fun _ => rfl) _
      have hR2 := HR1.out.keeps k2 (by omega) (fun g hg e => by have := HPO.out g hg; omega)
      have hk2 := HK1.out.trans k2 (fun k hk e => by omega)
      refine bodyPost_ret (v := .tuple #[.agg #[.int .u64 (x : Nat), .int .i64 1], .int .i64 3]) (by simp [results, Try.results69, go_sem, e0, e1]) rfl ⟨?_, ?_, ?_⟩
      · rw [HE.out]; rfl
      · rw [HE.out]; exact hR2
      · exact hk2
    · obtain ⟨c, hc⟩ : ∃ c, c = bitsNat (bitsFrom bs (i + 64) 7) := ⟨_, rfl⟩
      have hc1 := bitsFrom_lt bs (i + 64) 7
      rw [← hc] at hc1
      have e : getB ((unpackB bs).drop i) = (x, c + 1, 0, 71) := by
        unfold getB
        rw [if_neg (by omega), if_neg (by omega), hx, hc, List.drop_drop]; rfl
      have HC := Lib.hid hc
      have hwc : IntKind.i64.wrap (c : Int) = c := wrap_nat _ (by omega)
      have hwc1 : IntKind.i64.wrap ((c : Int) + 1) = c + 1 := IntWalk.i64_in _ (by omega)
      clear hc
      have HE := Lib.hid e; have HX := Lib.hid hx
      clear e hlen hx
      go_enter Try.func69, Try.ntmps69
      go_wp2_with fail
      rw [← HW0.out]
      refine (rbits_any base p v bs i 64 w0 HR0.out (by omega) (by decide) (by omega)).mono ?_
      rw [← HX.out]
      rintro e wa ⟨rfl, hRa, hka⟩
      have hkwa : Keeps (fun k => k = p) w wa := (HK0.out (fun k => k = p)).trans hka (fun _ _ h => h)
      have hda := hka.heap HD.out (show ¬ w.heap.size = p by omega)
      have HRA := Lib.hid hRa; have HKWA := Lib.hid hkwa; have HDA := Lib.hid hda
      clear hRa hkwa hda hka
      go_wp2_with fail
      refine (rbits_any base p v bs (i + 64) 7 wa HRA.out (by omega) (by decide) (by omega)).mono ?_
      rw [← HC.out]
      rintro e w1 ⟨rfl, hR1', hk1'⟩
      have hd1 := hk1'.heap HDA.out (show ¬ w.heap.size = p by omega)
      have hR1 : IsR w1 base p v bs (i + 71) := hR1'
      have hk1 : Keeps (fun k => k = p) w w1 := HKWA.out.trans hk1' (fun _ _ h => h)
      clear hR1' hk1' hc1
      have hc0 : w1.cell? ⟨w.heap.size, 0, none⟩ = some (.int .u64 0) := by rw [cell_of_row _ _ _ _ _ _ hd1]; rfl
      have hc1 : w1.cell? ⟨w.heap.size, 1, none⟩ = some (.int .i64 0) := by rw [cell_of_row _ _ _ _ _ _ hd1]; rfl
      have hf0 : w1.frozen? ⟨w.heap.size, 0, none⟩ = false := frozen_of_row _ _ _ _ _ hd1
      have hf1 : w1.frozen? ⟨w.heap.size, 1, none⟩ = false := frozen_of_row _ _ _ _ _ hd1
      have HR1 := Lib.hid hR1; have HK1 := Lib.hid hk1; have HD1 := Lib.hid hd1
      clear hR1 hk1 hd1
      go_wp2
      obtain ⟨w2, hw2⟩ : ∃ w2, w2 = (w1.setCell ⟨w.heap.size, 0, none⟩ (.int .u64 (x : Nat))).setCell ⟨w.heap.size, 1, none⟩ (.int .i64 ((c : Int) + 1)) := ⟨_, rfl⟩
      rw [← hw2]
      have g2 := heap_setCell_same _ w.heap.size 1 _ _ (.int .i64 ((c : Int) + 1)) (heap_setCell_same _ w.heap.size 0 _ _ (.int .u64 (x : Nat)) HD1.out)
      rw [← hw2] at g2
      have e0 : w2.cell? ⟨w.heap.size, 0, none⟩ = some (.int .u64 (x : Nat)) := by rw [cell_of_row _ _ _ _ _ _ g2]; rfl
      have e1 : w2.cell? ⟨w.heap.size, 1, none⟩ = some (.int .i64 ((c : Int) + 1)) := by rw [cell_of_row _ _ _ _ _ _ g2]; rfl
      have k2 : Keeps (fun k => k = w.heap.size) w1 w2 := by rw [hw2]; exact ((Keeps.refl (fun k => k = w.heap.size) _).setCell (p := ⟨w.heap.size, 0, none⟩) (fun _ => rfl) _).setCell (p := ⟨w.heap.size, 1, none⟩) (fun _ => rfl) _
      have hR2 := HR1.out.keeps k2 (by omega) (fun g hg e => by have := HPO.out g hg; omega)
      have hk2 := HK1.out.trans k2 (fun k hk e => by omega)
      refine bodyPost_ret (v := .tuple #[.agg #[.int .u64 (x : Nat), .int .i64 ((c : Int) + 1)], .int .i64 0]) (by simp [results, Try.results69, go_sem, e0, e1]) rfl ⟨?_, ?_, ?_⟩
      · rw [HE.out]; rfl
      · rw [HE.out]; exact hR2
      · exact hk2
end Go.Proofs.Ytdniaingipoggaa
