/-
  WALKS: tsblocklaw02.alive.
-/
import Derived.Test.YtdniaingipoggaaWVarC
import Derived.Test.YtdniaingipoggaaWSize
import Derived.WalkKit
import Derived.WalkSpells
import Derived.WalkLawsBesides
import Derived.Lib.Hide
namespace Go.Proofs.Ytdniaingipoggaa
open Go.RowKit

/-- a literal of bytes -/
theorem holds_lit2 (w : World) (l : List Nat) : Holds (w.alloc (.cells (u8s l).toArray 5)) (.slice (some ⟨w.heap.size, 0, none⟩) l.length l.length) (u8s l) := by
  refine ⟨_, l.length, by rw [u8s_length], by rw [u8s_length]; exact Nat.le_refl _, .inr ⟨_, 0, rfl, fun j u hj => ?_⟩⟩
  rw [cell_of_row _ _ _ _ _ _ (heap_alloc_new w _), Nat.zero_add]
  simpa using hj
theorem RowTo.ofNil {e : TypeId} {base : Nat} {v : Value} {w w' : World} {xs : List Value} (h : RowTo e base (.slice none 0 0) w v xs w') : Keeps (fun _ => False) w w' :=
  h.keeps.mono (fun k _ hk => by simp [own, Value.ownBlock] at hk)

set_option maxRecDepth 100000 in
set_option maxHeartbeats 1000000 in
theorem alive02_any (w : World) : Calls Try.prog 37 #[] w fun e w' => e = .returned (.bool true) ∧ Keeps (fun _ => False) w w' := by
  have e1 : vgo 0 0 ([128, 0].drop 0) = (0, 0, 5) := by decide
  have e2 : ([] ++ venc 300) = [172, 2] := by decide
  have e3 : ([] ++ venc (foldN (-3))) = [5] := by decide
  have E1 := Lib.hid e1; have E2 := Lib.hid e2; have E3 := Lib.hid e3
  clear e1 e2 e3
  go_enter Try.func37, Try.ntmps37
  go_wp2_with fail
  refine (vget_any _ [128, 0] 0 _ (holds_lit2 w [128, 0]) (by decide) (by decide) (by decide)).mono ?_
  rw [E1.out]
  rintro e w1 ⟨rfl, rfl⟩
  simp only [vres]
  obtain ⟨w1, hw1⟩ : ∃ w1, w1 = w.alloc (.cells (u8s [128, 0]).toArray 5) := ⟨_, rfl⟩
  have K1 : Hid (Keeps (fun _ => False) w w1) := Lib.hid (by rw [hw1]; exact (Keeps.refl _ _).alloc _)
  rw [← hw1]
  clear hw1
  go_wp2_with fail
  refine (append_any w1.heap.size (.slice none 0 0) [] 300 w1 (World.ownsRow_nil _ _ _ _) (by decide) (by decide) (Nat.le_refl _)).mono ?_
  rw [E2.out]
  rintro e w2 ⟨v2, rfl, h2⟩
  have K2 := Lib.hid (K1.out.false_trans h2.ofNil)
  have HH2 := Lib.hid ((holds_row h2.row).keeps ((Keeps.refl (fun _ => False) w2).alloc (.cells (u8s [172, 2]).toArray 5)) (fun _ _ h => h))
  have HL2 := Lib.hid (holds_lit2 w2 [172, 2])
  clear h2
  go_wp2_with fail
  refine (bytesEqual_any _ _ [172, 2] [172, 2] _ HH2.out HL2.out (by decide) (by decide)).mono ?_
  rintro e w3 ⟨rfl, rfl⟩
  obtain ⟨w3, hw3⟩ : ∃ w3, w3 = w2.alloc (.cells (u8s [172, 2]).toArray 5) := ⟨_, rfl⟩
  have K3 : Hid (Keeps (fun _ => False) w w3) := Lib.hid (by rw [hw3]; exact K2.out.alloc _)
  rw [← hw3]
  clear hw3
  go_wp2_with fail
  refine (appendSigned_any w3.heap.size (.slice none 0 0) [] (-3) w3 (World.ownsRow_nil _ _ _ _) (by decide) (by decide) (by decide) (Nat.le_refl _)).mono ?_
  rw [E3.out]
  rintro e w4 ⟨v4, rfl, h4⟩
  have K4 := Lib.hid (K3.out.false_trans h4.ofNil)
  have HH4 := Lib.hid ((holds_row h4.row).keeps ((Keeps.refl (fun _ => False) w4).alloc (.cells (u8s [5]).toArray 5)) (fun _ _ h => h))
  have HL4 := Lib.hid (holds_lit2 w4 [5])
  clear h4
  go_wp2_with fail
  refine (bytesEqual_any _ _ [5] [5] _ HH4.out HL4.out (by decide) (by decide)).mono ?_
  rintro e w5 ⟨rfl, rfl⟩
  have hlen : (venc 300).length = 2 := by decide
  go_wp2_with fail
  refine (size_any 300 _ (by decide)).mono ?_
  rw [hlen]
  rintro e w6 ⟨rfl, rfl⟩
  clear hlen
  go_wp2
  go_ret
  exact ⟨rfl, K4.out.alloc _⟩
end Go.Proofs.Ytdniaingipoggaa
