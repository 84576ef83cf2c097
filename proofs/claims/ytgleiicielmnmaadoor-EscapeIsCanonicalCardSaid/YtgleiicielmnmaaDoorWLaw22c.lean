/-
  WALKS: EscapeIsCanonical.
-/
import Derived.Test.YtgleiicielmnmaaDoorWLaw22a
namespace Go.Proofs.YtgleiicielmnmaaDoor
open Go.RowKit
attribute [local go_sem ↓] Go.wp_at_zero Go.wp_at_succ

theorem unqV_is (t : ByteArray) (p : List Nat × Nat) (h : unqV t 0 = some p) : strOf (quoteL (strOf p.1)) = t.extract 0 p.2 ∧ p.2 ≤ t.size ∧ p.1.length ≤ t.size := by
  unfold unqV at h
  split at h
  · cases hs : scan t (t.size + 1) (0 + 1) with
    | none => rw [hs] at h; cases h
    | some q =>
      rw [hs] at h
      obtain ⟨x, e⟩ := q
      have hb := scan_bd t _ _ x e hs
      simp only [Option.bind_some] at h
      split at h
      · rename_i heq
        simp only [Option.some.injEq] at h
        subst h
        exact ⟨heq, by omega, by simp only; omega⟩
      · cases h
  · cases h
set_option maxHeartbeats 1000000 in
set_option maxRecDepth 100000 in
theorem escapeIsCanonical_any (t : ByteArray) (w : World) (hT : TabsA w) :
    Calls Tryd.prog 5 #[.string t] w fun e w' => e = .returned (.bool true) ∧ Below w.heap.size w w' := by
  have HT := Lib.hid hT
  clear hT
  by_cases hs : t.size ≤ 3000
  · have h1 := fun w hT => unquote_any t 0 w (by omega) (by omega) hT
    have hV := unqV_is t
    cases hS : unqV t 0 with
    | none =>
      rw [hS] at h1
      have H1 : Hid (∀ w, Tabs w → Calls Tryd.prog 10 #[.string t, .int .i64 0] w fun r w' => r = .returned (.tuple #[.string { data := #[] }, .int .i64 0, .int .i64 24]) ∧ Below w.heap.size w w') := Lib.hid h1
      clear h1 hV hS
      go_enter Tryd.func5, Tryd.ntmps5
      go_wp2_with (go_at_call 10; ((with_reducible refine (H1.out _ HT.out.tabs).mono ?_); rintro r w1 ⟨rfl, hb1⟩))
      have HT1 := Lib.hid (HT.out.below hb1)
      go_wp2_with (go_at_call 9; ((with_reducible refine (alive22_any _ HT1.out).mono ?_); rintro r w2 ⟨rfl, hb2⟩))
      go_ret
      exact ⟨by first | rfl | simp, hb1.trans (hb2.mono hb1.size)⟩
    | some p =>
      obtain ⟨x, n⟩ := p
      rw [hS] at h1
      obtain ⟨e1, e2, e3⟩ := hV _ hS
      simp only at e1 e2 e3
      have H1 : Hid (∀ w, Tabs w → Calls Tryd.prog 10 #[.string t, .int .i64 0] w fun r w' => r = .returned (.tuple #[.string (strOf x), .int .i64 (n : Nat), .int .i64 0]) ∧ Below w.heap.size w w') := Lib.hid h1
      have hq : (strOf x).size ≤ 1099511627776 := by rw [strOf_size]; omega
      have H2 : Hid (∀ w, Tabs w → Calls Tryd.prog 12 #[.string (strOf x)] w fun r w' => r = .returned (.string (t.extract 0 n)) ∧ Below w.heap.size w w') := Lib.hid (fun w hT => by
        have h := quote_any (strOf x) w hq hT
        rw [e1] at h; exact h)
      have HQ : Hid (True) := Lib.hid trivial
      clear h1 hV hS e1 hq HQ
      go_enter Tryd.func5, Tryd.ntmps5
      go_wp2_with (go_at_call 10; ((with_reducible refine (H1.out _ HT.out.tabs).mono ?_); rintro r w1 ⟨rfl, hb1⟩))
      have hT1 : TabsA w1.drew := HT.out.below hb1.drew
      have i1 : (0 : Int) ≤ (n : Int) := by omega
      have i2 : (n : Int) ≤ (t.size : Int) := by omega
      have i3 : max (n : Int) 0 = (n : Int) := by omega
      have i4 : min (n : Int) (t.size : Int) = (n : Int) := by omega
      go_region_held3 (fun _ => True) (trivial) (first
        | (go_at_call 9; go_must (refine (alive22_any w1.drew hT1).mono ?_; rintro r w2 ⟨rfl, hb2⟩; have hT2 := hT1.below hb2))
        | (go_at_call 12; go_must (refine (H2.out w2 hT2.tabs).mono ?_; rintro r w3 ⟨rfl, hb3⟩)))
      all_goals
        go_wp2
        go_ret
        refine ⟨by first | rfl | simp, ?_⟩
        have h12 := hb1.drew.trans (hb2.mono (by have := hb1.size; exact this))
        exact h12.trans (hb3.mono h12.size)
  · have hs' : 3000 < t.size := by omega
    clear hs
    go_enter Tryd.func5, Tryd.ntmps5
    go_wp2_with (go_at_call 9; ((with_reducible refine (alive22_any _ HT.out).mono ?_); rintro r w1 ⟨rfl, hb1⟩))
    go_ret
    exact ⟨rfl, hb1⟩
end Go.Proofs.YtgleiicielmnmaaDoor
