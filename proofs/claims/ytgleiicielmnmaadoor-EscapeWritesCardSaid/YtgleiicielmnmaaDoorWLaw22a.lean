/-
  WALKS: EscapeUnquotes.
-/
import Derived.Test.YtgleiicielmnmaaDoorWEscH
import Derived.Test.YtgleiicielmnmaaDoorWAlive22
namespace Go.Proofs.YtgleiicielmnmaaDoor
open Go.RowKit

theorem TabsA.tabs {w : World} (h : TabsA w) : Tabs w := h.1
theorem TabsA.tabD {w : World} (h : TabsA w) : TabD w := h.2
theorem unq_same (t : ByteArray) (a : Int) (hs : t.size ≤ 3000) : ∃ (s : ByteArray) (n e : Int),
    (∀ w, Tabs w → Calls Tryd.prog 10 #[.string t, .int .i64 a] w fun r w' => r = .returned (.tuple #[.string s, .int .i64 n, .int .i64 e]) ∧ Below w.heap.size w w') ∧
    (∀ w, Tabs w → Calls Tryd.prog 11 #[.string t, .int .i64 a] w fun r w' => r = .returned (.tuple #[.string s, .int .i64 n, .int .i64 e]) ∧ Below w.heap.size w w') := by
  by_cases h : a < 0 ∨ (t.size : Int) < a
  · exact ⟨_, _, _, fun w _ => unquote_bad t a w h, fun w _ => refUnquote_bad t a w h⟩
  · obtain ⟨k, rfl⟩ : ∃ k : Nat, a = k := ⟨a.toNat, by omega⟩
    have h1 := fun w hT => unquote_any t k w (by omega) (by omega) hT
    have h2 := fun w hT => refUnquote_any t k w (by omega) (by omega) hT
    cases hS : unqV t k with
    | none => rw [hS] at h1 h2; exact ⟨_, _, _, h1, h2⟩
    | some p => rw [hS] at h1 h2; exact ⟨_, _, _, h1, h2⟩
set_option maxHeartbeats 1000000 in
set_option maxRecDepth 100000 in
theorem escapeUnquotes_any (t : ByteArray) (a : Int) (w : World) (hT : TabsA w) :
    Calls Tryd.prog 3 #[.string t, .int .i64 a] w fun e w' => e = .returned (.bool true) ∧ Below w.heap.size w w' := by
  have HT := Lib.hid hT
  clear hT
  by_cases hs : t.size ≤ 3000
  · obtain ⟨s, n, e, h1, h2⟩ := unq_same t a hs
    have H1 := Lib.hid h1; have H2 := Lib.hid h2
    clear h1 h2
    go_enter Tryd.func3, Tryd.ntmps3
    go_wp2_with (go_at_call 10; ((with_reducible refine (H1.out _ HT.out.tabs).mono ?_); rintro r w1 ⟨rfl, hb1⟩))
    have HT1 := Lib.hid (HT.out.below hb1)
    go_wp2_with (go_at_call 11; ((with_reducible refine (H2.out _ HT1.out.tabs).mono ?_); rintro r w2 ⟨rfl, hb2⟩))
    have HT2 := Lib.hid (HT1.out.below hb2)
    go_wp2_with (go_at_call 9; ((with_reducible refine (alive22_any _ HT2.out).mono ?_); rintro r w3 ⟨rfl, hb3⟩))
    go_ret
    have h12 := hb1.trans (hb2.mono hb1.size)
    exact ⟨by first | rfl | simp, h12.trans (hb3.mono h12.size)⟩
  · have hs' : 3000 < t.size := by omega
    clear hs
    go_enter Tryd.func3, Tryd.ntmps3
    go_wp2_with (go_at_call 9; ((with_reducible refine (alive22_any _ HT.out).mono ?_); rintro r w1 ⟨rfl, hb1⟩))
    go_ret
    exact ⟨rfl, hb1⟩
end Go.Proofs.YtgleiicielmnmaaDoor
