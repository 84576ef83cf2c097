/-
  WALKS: EscapeQuotes, EscapeRoundTrip.
-/
import Derived.Test.YtgleiicielmnmaaDoorWLaw22a
import Derived.Test.YtgleiicielmnmaaDoorPEsc2
namespace Go.Proofs.YtgleiicielmnmaaDoor
open Go.RowKit

theorem contains_nl (s : ByteArray) (w : World) : Calls Tryd.prog 14 #[.string (strOf (quoteL s)), .string { data := #[10] }] w fun e w' => e = .returned (.bool false) ∧ w = w' := by
  refine (Any.strings_Contains_one (P := Tryd.prog) (ρ := Tryd.laysM144_ren) { Tryd.laysM144 with } (strOf (quoteL s)) 10 w).mono ?_
  rintro e w' ⟨rfl, rfl⟩
  refine ⟨?_, rfl⟩
  rw [strOf_list, indexByte_none _ _ (quote_noNl s)]
  rfl
set_option maxHeartbeats 1000000 in
set_option maxRecDepth 100000 in
theorem escapeQuotes_any (s : ByteArray) (w : World) (hT : TabsA w) :
    Calls Tryd.prog 6 #[.string s] w fun e w' => e = .returned (.bool true) ∧ Below w.heap.size w w' := by
  have HT := Lib.hid hT
  clear hT
  by_cases hs : s.size ≤ 3000
  · have h1 := fun w hT => quote_any s w (by omega) hT
    have h2 := fun w hT => refQuote_any s w (by omega) hT
    have h3 := fun w => contains_nl s w
    generalize strOf (quoteL s) = q at h1 h2 h3
    have H1 := Lib.hid h1; have H2 := Lib.hid h2; have H3 := Lib.hid h3
    clear h1 h2 h3
    go_enter Tryd.func6, Tryd.ntmps6
    go_wp2_with (go_at_call 12; ((with_reducible refine (H1.out _ HT.out.tabs).mono ?_); rintro r w1 ⟨rfl, hb1⟩))
    have HT1 := Lib.hid (HT.out.below hb1)
    go_wp2_with (go_at_call 9; ((with_reducible refine (alive22_any _ HT1.out).mono ?_); rintro r w2 ⟨rfl, hb2⟩))
    have HT2 := Lib.hid (HT1.out.below hb2)
    go_wp2_with (go_at_call 13; ((with_reducible refine (H2.out _ HT2.out.tabs).mono ?_); rintro r w3 ⟨rfl, hb3⟩))
    go_wp2_with (go_at_call 14; ((with_reducible refine (H3.out _).mono ?_); rintro r w4 ⟨rfl, rfl⟩))
    go_ret
    have h12 := hb1.trans (hb2.mono hb1.size)
    exact ⟨by first | rfl | simp, h12.trans (hb3.mono h12.size)⟩
  · have hs' : 3000 < s.size := by omega
    clear hs
    go_enter Tryd.func6, Tryd.ntmps6
    go_wp2_with (go_at_call 9; ((with_reducible refine (alive22_any _ HT.out).mono ?_); rintro r w1 ⟨rfl, hb1⟩))
    go_ret
    exact ⟨rfl, hb1⟩
set_option maxHeartbeats 1000000 in
set_option maxRecDepth 100000 in
theorem escapeRoundTrip_any (b s a : ByteArray) (w : World) (zb : b.size ≤ 140737488355328) (zs : s.size ≤ 140737488355328) (za : a.size ≤ 140737488355328) (hT : TabsA w) :
    Calls Tryd.prog 4 #[.string b, .string s, .string a] w fun e w' => e = .returned (.bool true) ∧ Below w.heap.size w w' := by
  have HT := Lib.hid hT
  clear hT
  by_cases hs : b.size + s.size + a.size ≤ 3000
  · have h1 := fun w hT => quote_any s w (by omega) hT
    have hql := quoteL_le s
    have hqs := strOf_size (quoteL s)
    have hts : (b ++ strOf (quoteL s) ++ a).size = b.size + (quoteL s).length + a.size := by rw [ByteArray.size_append, ByteArray.size_append, hqs]
    have h2 : ∀ w, Tabs w → Calls Tryd.prog 10 #[.string (b ++ strOf (quoteL s) ++ a), .int .i64 (b.size : Nat)] w fun r w' => r = .returned (.tuple #[.string s, .int .i64 ((b.size : Int) + ((strOf (quoteL s)).size : Nat)), .int .i64 0]) ∧ Below w.heap.size w w' := by
      intro w hT
      have h := unquote_any (b ++ strOf (quoteL s) ++ a) b.size w (by omega) (by omega) hT
      rw [unqV_quote] at h
      refine h.mono ?_
      rintro r w' ⟨rfl, hb⟩
      refine ⟨?_, hb⟩
      show Ending.returned (.tuple #[.string (strOf (cut s 0 s.size)), .int .i64 ((b.size + (quoteL s).length : Nat) : Int), .int .i64 0]) = _
      rw [strOf_all, hqs, Int.natCast_add]
    have hq1 : (strOf (quoteL s)).size ≤ 12002 := by omega
    generalize strOf (quoteL s) = q at h1 h2 hq1
    have H1 := Lib.hid h1; have H2 := Lib.hid h2
    have hb3 : b.size ≤ 3000 := by omega
    have ha3 : a.size ≤ 3000 := by omega
    clear h1 h2 hql hqs hts
    go_enter Tryd.func4, Tryd.ntmps4
    go_wp2_with (go_at_call 12; ((with_reducible refine (H1.out _ HT.out.tabs).mono ?_); rintro r w1 ⟨rfl, hb1⟩))
    have HT1 := Lib.hid (HT.out.below hb1)
    go_wp2_with (go_at_call 10; ((with_reducible refine (H2.out _ HT1.out.tabs).mono ?_); rintro r w2 ⟨rfl, hb2⟩))
    have HT2 := Lib.hid (HT1.out.below hb2)
    go_wp2_with (go_at_call 9; ((with_reducible refine (alive22_any _ HT2.out).mono ?_); rintro r w3 ⟨rfl, hb3⟩))
    go_ret
    have h12 := hb1.trans (hb2.mono hb1.size)
    exact ⟨by first | rfl | simp, h12.trans (hb3.mono h12.size)⟩
  · have hs' : (3000 : Int) < (b.size : Int) + (s.size : Int) + (a.size : Int) := by omega
    clear hs
    go_enter Tryd.func4, Tryd.ntmps4
    go_wp2_with (go_at_call 9; ((with_reducible refine (alive22_any _ HT.out).mono ?_); rintro r w1 ⟨rfl, hb1⟩))
    go_ret
    exact ⟨rfl, hb1⟩
end Go.Proofs.YtgleiicielmnmaaDoor
