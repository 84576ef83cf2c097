/-
  WALKS: the examples of chapter 22 hold.
-/
import Derived.Test.YtgleiicielmnmaaDoorWEscF
import Derived.Test.YtgleiicielmnmaaDoorWEscN
namespace Go.Proofs.YtgleiicielmnmaaDoor
open Go.RowKit

/-- all tables that the chapter reads -/
def TabsA (w : World) : Prop := Tabs w ∧ TabD w
theorem TabsA.below {w w' : World} (h : TabsA w) (b : Below w.heap.size w w') : TabsA w' := ⟨h.1.below b, h.2.below b⟩
theorem aq1 (w : World) (hT : Tabs w) : ∃ q : ByteArray, (q.toList == [34, 97, 92, 34, 98, 92, 110, 34]) = true ∧ Calls Tryd.prog 12 #[.string { data := #[97, 34, 98, 10] }] w fun e w' => e = .returned (.string q) ∧ Below w.heap.size w w' := by
  have h := quote_any { data := #[97, 34, 98, 10] } w (by decide) hT
  refine ⟨_, ?_, h⟩
  rw [show strOf (quoteL { data := #[97, 34, 98, 10] }) = { data := #[34, 97, 92, 34, 98, 92, 110, 34] } by decide +kernel, ByteArray.toList_eq]
  rfl
theorem aq2 (w : World) (hT : Tabs w) : ∃ q : ByteArray, (q.toList == [34, 92, 120, 102, 102, 34]) = true ∧ Calls Tryd.prog 12 #[.string { data := #[255] }] w fun e w' => e = .returned (.string q) ∧ Below w.heap.size w w' := by
  have h := quote_any { data := #[255] } w (by decide) hT
  refine ⟨_, ?_, h⟩
  rw [show strOf (quoteL { data := #[255] }) = { data := #[34, 92, 120, 102, 102, 34] } by decide +kernel, ByteArray.toList_eq]
  rfl
theorem ah (w : World) (hT : TabD w) : ∃ q : ByteArray, (q.toList == [48, 48, 48, 48, 48, 48, 48, 48, 48, 48, 48, 48, 48, 48, 102, 102]) = true ∧ Calls Tryd.prog 19 #[.int .u64 255] w fun e w' => e = .returned (.string q) ∧ Below w.heap.size w w' := by
  have h := hex_any 255 w (by decide) hT
  refine ⟨_, ?_, h⟩
  rw [show strOf (hexTail 255 16) = { data := #[48, 48, 48, 48, 48, 48, 48, 48, 48, 48, 48, 48, 48, 48, 102, 102] } by decide +kernel, ByteArray.toList_eq]
  rfl
theorem au (w : World) (hT : Tabs w) : Calls Tryd.prog 10 #[.string { data := #[34, 92, 120, 52, 49, 34] }, .int .i64 0] w fun e w' => e = .returned (.tuple #[.string { data := #[] }, .int .i64 0, .int .i64 24]) ∧ Below w.heap.size w w' := by
  have h := unquote_any { data := #[34, 92, 120, 52, 49, 34] } 0 w (by decide) (by decide) hT
  rw [show unqV { data := #[34, 92, 120, 52, 49, 34] } 0 = none by decide +kernel] at h
  exact h
set_option maxHeartbeats 1000000 in
set_option maxRecDepth 100000 in
theorem alive22_any (w : World) (hT : TabsA w) : Calls Tryd.prog 9 #[] w fun e w' => e = .returned (.bool true) ∧ Below w.heap.size w w' := by
  have HT := Lib.hid hT
  clear hT
  go_enter Tryd.func9, Tryd.ntmps9
  go_wp2_with (go_at_call 10; refine (au _ HT.out.1).mono ?_; rintro e w1 ⟨rfl, hb1⟩)
  have HT1 := Lib.hid (HT.out.below hb1)
  obtain ⟨q1, hq1, HC1⟩ := aq1 _ HT1.out.1
  have HC1 := Lib.hid HC1
  go_wp2_with (go_at_call 12; ((with_reducible refine HC1.out.mono ?_); rintro e w2 ⟨rfl, hb2⟩))
  have HT2 := Lib.hid (HT1.out.below hb2)
  obtain ⟨q2, hq2, HC2⟩ := aq2 _ HT2.out.1
  have HC2 := Lib.hid HC2
  go_wp2_with (go_at_call 12; ((with_reducible refine HC2.out.mono ?_); rintro e w3 ⟨rfl, hb3⟩))
  have HT3 := Lib.hid (HT2.out.below hb3)
  obtain ⟨q3, hq3, HC3⟩ := ah _ HT3.out.2
  have HC3 := Lib.hid HC3
  go_wp2_with (go_at_call 19; ((with_reducible refine HC3.out.mono ?_); rintro e w4 ⟨rfl, hb4⟩))
  go_ret
  refine ⟨by first | rfl | simp, ?_⟩
  have h12 := hb1.trans (hb2.mono hb1.size)
  have h13 := h12.trans (hb3.mono h12.size)
  exact h13.trans (hb4.mono h13.size)
end Go.Proofs.YtgleiicielmnmaaDoor
