/-
  WALKS: runval.Size, runval.Put.
-/
import Derived.Test.YtdniaingipoggaaWRunB
import Derived.Test.YtdniaingipoggaaWBits
namespace Go.Proofs.Ytdniaingipoggaa
open Go.RowKit Go.Shelf
attribute [local go_sem] Oper.semAt_some

set_option maxRecDepth 100000 in
set_option maxHeartbeats 1000000 in
theorem size_any (v : Value) (l : List Nat) (w : World) (hl : l.length ≤ 1099511627776) (h : Holds w v (u64s l)) :
    Calls Try.prog 57 #[v] w fun e w' => e = .returned (.int .i64 ((71 * (runsOf l).length : Nat) : Int)) ∧ Keeps (fun _ => False) w w' := by
  have HH := Lib.hid h
  obtain ⟨ad, cap, rfl, hcap, _⟩ := h
  rw [u64s_length] at hcap HH ⊢
  refine (callsIn_wide (n := 0)).1 ?_
  refine callsIn_of_wp_marks Try.func57 rfl trivial ?_ rfl
  simp only [Try.ntmps57, List.size_toArray, List.length_cons, List.length_nil, Nat.reduceAdd, Nat.reduceSub, Array.replicate_succ, Array.replicate_zero, List.push_toArray, List.append_toArray, List.nil_append, List.cons_append]
  gi_wp2
  refine ⟨trivial, rfl, (callsIn_wide.2 (runs_any ad l.length cap _)).mono ?_⟩
  rintro e w1 ⟨rfl, rfl⟩
  gi_wp2
  obtain ⟨WA, hWA⟩ : ∃ WA, WA = w.alloc (.cells #[.int .i64 0] 3) := ⟨_, rfl⟩
  have hsA : WA.heap.size = w.heap.size + 1 := by rw [hWA]; simp
  have hkA : ∀ S, Keeps S w WA := fun S => by rw [hWA]; exact (Keeps.refl S w).alloc _
  have hboxA : WA.heap[w.heap.size]? = some (.cells #[.int .i64 0] 3 (0, 0)) := by rw [hWA]; exact heap_alloc_new w _
  have hseq := runs_here ad cap l WA (by omega) (HH.out.keeps (hkA (fun _ => False)) (fun _ _ h => h))
  rw [← hWA]
  obtain ⟨W0, hW0⟩ : ∃ W0, W0 = WA.alloc (.cells #[.slice ad l.length cap] 76) := ⟨_, rfl⟩
  have hsz : W0.heap.size = w.heap.size + 2 := by rw [hW0]; simp [hsA]
  have hkW : ∀ S, Keeps S w W0 := fun S => by rw [hW0]; exact (hkA S).alloc _
  have hbox : W0.heap[w.heap.size]? = some (.cells #[.int .i64 0] 3 (0, 0)) := by rw [hW0]; exact (Below.heap_alloc _ _ _ (by omega)).trans hboxA
  rw [hsA, ← hW0] at hseq
  rw [← hW0]
  have HSeq := Lib.hid hseq
  clear hW0 hWA hseq hsA hkA hboxA
  refine wpIn_rangeFunc_r (gf := 73) (lb := #[.pointer (some ⟨w.heap.size + 1, 0, none⟩)]) (w := W0) rfl (enters_of Try.func73 (by kernel_rfl) rfl)
    HSeq.out (T := fun k => k = w.heap.size) (fun x => rfl) (fun _ h => h.elim)
    (fun k hk => ?hown) ?hT ?hT2
    (fun pre W => W.heap[w.heap.size]? = some (.cells #[.int .i64 ((71 * pre.length : Nat) : Int)] 3 (0, 0)) ∧ Keeps (fun _ => False) w W)
    (fun _ _ _ => False) ?hI (fun _ _ _ _ h _ => h) ?h0
    (fun x => { tmps := #[.slice ad l.length cap, undef, .int .i64 0, .pointer (some ⟨w.heap.size, 0, none⟩), .slice ad l.length cap, .func (.func 73) #[] #[.pointer (some ⟨w.heap.size + 1, 0, none⟩)], .agg #[.int .u64 ((x.1 : Nat) : Int), .int .i64 ((x.2 : Nat) : Int)], undef, undef, undef], defers := [] })
    ?assign ?body ?done ?stop
  case hown =>
    rcases hk with e | e
    · omega
    · have := ownH_lt HH.out e; omega
  case hT =>
    rintro k rfl (e | e)
    · omega
    · have := ownH_lt HH.out e; omega
  case hT2 => rintro k rfl; omega
  case hI =>
    rintro pre A B ⟨h1, h2⟩ hk
    refine ⟨hk.heap h1 ?_, h2.trans hk (fun k hk hs => ?_)⟩
    · rintro (e | e | e)
      · exact e
      · omega
      · omega
    · rcases hs with e | e | e
      · exact e
      · omega
      · omega
  case h0 => exact ⟨hbox, hkW _⟩
  case assign =>
    intro lp x W K hK
    simp only [encR]
    gi_wp2
    simpa using hK
  case body =>
    rintro lp pre ⟨x, c⟩ W ⟨h1, h2⟩ hsp hsz2
    have hc0 : W.cell? ⟨w.heap.size, 0, none⟩ = some (.int .i64 ((71 * pre.length : Nat) : Int)) := by rw [cell_of_row _ _ _ _ _ _ h1]; rfl
    have hf0 : W.frozen? ⟨w.heap.size, 0, none⟩ = false := frozen_of_row _ _ _ _ _ h1
    have hlp : pre.length ≤ 1099511627776 := by have := hsp.length_le; have := runsOf_length l; simp at *; omega
    obtain ⟨n, hn⟩ : ∃ n, n = 71 * pre.length := ⟨_, rfl⟩
    rw [← hn] at hc0
    have hw : IntKind.i64.wrap ((n : Int) + 71) = ((n + 71 : Nat) : Int) := by rw [IntWalk.i64_in _ (by omega)]; omega
    have kk : Keeps (fun k => k = w.heap.size) W (W.setCell ⟨w.heap.size, 0, none⟩ (.int .i64 ((n : Int) + 71))) := (Keeps.refl (fun k => k = w.heap.size) W).setCell (p := ⟨w.heap.size, 0, none⟩) (fun _ => rfl) _
    have fin : bodyC (fun k => k = w.heap.size)
        (fun pre W => W.heap[w.heap.size]? = some (.cells #[.int .i64 ((71 * pre.length : Nat) : Int)] 3 (0, 0)) ∧ Keeps (fun _ => False) w W) (fun _ _ _ => False) (pre ++ [(x, c)]) W .normal { tmps := #[], defers := [] } (W.setCell ⟨w.heap.size, 0, none⟩ (.int .i64 ((n : Int) + 71))) := by
      refine ⟨kk, ?_, h2.trans kk (fun k hk e => by omega)⟩
      have := heap_setCell_same W w.heap.size 0 _ _ (.int .i64 ((n : Int) + 71)) h1
      rw [this, List.length_append, List.length_singleton, show ((71 * (pre.length + 1) : Nat) : Int) = (n : Int) + 71 by rw [hn]; omega]
      rfl
    have HF := Lib.hid fin
    have HN := Lib.hid hn
    clear kk fin h1 h2 hsp hn
    gi_wp2
    exact HF.out
  case done =>
    rintro D xs W rfl ⟨h1, h2⟩ hD hK
    have hc0 : W.cell? ⟨w.heap.size, 0, none⟩ = some (.int .i64 ((71 * (runsOf l).length : Nat) : Int)) := by rw [cell_of_row _ _ _ _ _ _ h1]; rfl
    have H2 := Lib.hid h2
    clear h1 h2
    gi_wp2
    refine ⟨by simp, .inl ⟨_, _, rfl, run_takeDeferred hK, ?_⟩⟩
    refine ⟨_, results_tmp rfl _ _ _, ⟨rfl, ?_⟩⟩
    exact H2.out.trans (Keeps.putObj (S := fun k => k = D) _ _ _ rfl) (fun k hk e => by omega)
  case stop => rintro D c pre W _ h; exact h.elim

set_option maxHeartbeats 400000 in
theorem put_nil (v : Value) (w : World) : Calls Try.prog 56 #[.pointer none, v] w fun e w' => e = .returned (.int .i64 1) ∧ Keeps (fun _ => False) w w' := by
  go_enter Try.func56, Try.ntmps56
  go_wp2
  go_ret
  exact ⟨rfl, (Keeps.refl _ _).alloc _⟩

set_option maxRecDepth 100000 in
set_option maxHeartbeats 1000000 in
theorem put_any (base p : Nat) (v0 v : Value) (bits : List Bool) (l : List Nat) (w : World) (hW : IsW w base p v0 bits) (hb0 : base ≤ w.heap.size) (hbits : bits.length ≤ 1000000000) (hl : l.length ≤ 1000000000) (hX : ∀ x ∈ l, x ≤ 18446744073709551615)
    (h : Holds w v (u64s l)) (hap : ∀ k, ownH v l k → ¬ foot p v0 k) :
    Calls Try.prog 56 #[.pointer (some ⟨p, 0, none⟩), v] w fun e w' => e = .returned (.int .i64 0) ∧ Wrote base p v0 (bits ++ encRuns (runsOf l)) w w' := by
  have HH := Lib.hid h; have HAp := Lib.hid hap; have HW := Lib.hid hW; have HX := Lib.hid hX
  obtain ⟨ad, cap, rfl, hcap, _⟩ := h
  rw [u64s_length] at hcap HH HAp ⊢
  have hpl := hW.lt
  have hvl : ∀ k, v0.ownBlock = some k → k < w.heap.size := fun k hk => hW.own_lt hk
  have HVL := Lib.hid hvl
  clear hap hW hX hvl
  refine (callsIn_wide (n := 0)).1 ?_
  refine callsIn_of_wp_marks Try.func56 rfl trivial ?_ rfl
  simp only [Try.ntmps56, List.size_toArray, List.length_cons, List.length_nil, Nat.reduceAdd, Nat.reduceSub, Array.replicate_succ, Array.replicate_zero, List.push_toArray, List.append_toArray, List.nil_append, List.cons_append]
  gi_wp2
  refine ⟨trivial, rfl, (callsIn_wide.2 (runs_any ad l.length cap _)).mono ?_⟩
  rintro e w1 ⟨rfl, rfl⟩
  gi_wp2
  obtain ⟨WA, hWA⟩ : ∃ WA, WA = w.alloc (.cells #[.pointer (some ⟨p, 0, none⟩)] 24) := ⟨_, rfl⟩
  have hsA : WA.heap.size = w.heap.size + 1 := by rw [hWA]; simp
  have hkA : ∀ S, Keeps S w WA := fun S => by rw [hWA]; exact (Keeps.refl S w).alloc _
  have hboxA : WA.heap[w.heap.size]? = some (.cells #[.pointer (some ⟨p, 0, none⟩)] 24 (0, 0)) := by rw [hWA]; exact heap_alloc_new w _
  have hseq := runs_here ad cap l WA (by omega) (HH.out.keeps (hkA (fun _ => False)) (fun _ _ h => h))
  rw [← hWA]
  obtain ⟨W0, hW0⟩ : ∃ W0, W0 = WA.alloc (.cells #[.slice ad l.length cap] 76) := ⟨_, rfl⟩
  have hsz : W0.heap.size = w.heap.size + 2 := by rw [hW0]; simp [hsA]
  have hkW : ∀ S, Keeps S w W0 := fun S => by rw [hW0]; exact (hkA S).alloc _
  have hbox : W0.heap[w.heap.size]? = some (.cells #[.pointer (some ⟨p, 0, none⟩)] 24 (0, 0)) := by rw [hW0]; exact (Below.heap_alloc _ _ _ (by omega)).trans hboxA
  rw [hsA, ← hW0] at hseq
  rw [← hW0]
  have HSeq := Lib.hid hseq
  clear hW0 hWA hseq hsA hkA hboxA
  have hT1 : ∀ k, foot p v0 k → k < w.heap.size := fun k hk => by
    rcases hk with rfl | hk
    · exact hpl
    · exact HVL.out k hk
  have HT1 := Lib.hid hT1
  clear hT1
  refine wpIn_rangeFunc_d (gf := 73) (lb := #[.pointer (some ⟨w.heap.size + 1, 0, none⟩)]) (w := W0) rfl (enters_of Try.func73 (by kernel_rfl) rfl)
    HSeq.out (T := fun k => foot p v0 k ∨ w.heap.size + 4 ≤ k) (fun x => rfl) (fun _ h => h.elim)
    (fun k hk => ?hown) ?hT ?hT2
    (fun pre W => W.heap[w.heap.size]? = some (.cells #[.pointer (some ⟨p, 0, none⟩)] 24 (0, 0)) ∧ ∃ v', IsW W base p v' (bits ++ encRuns pre) ∧ Keeps (foot p v0) w W ∧ ∀ g, v'.ownBlock = some g → v0.ownBlock = some g ∨ w.heap.size + 4 ≤ g)
    (fun _ _ _ => False) ?hI (fun _ _ _ _ h _ => h) ?h0
    (fun x D => { tmps := #[.pointer (some ⟨p, 0, none⟩), .slice ad l.length cap, .pointer (some ⟨w.heap.size, 0, none⟩), undef, .int .i64 0, .pointer (some ⟨D, 0, none⟩), .pointer (some ⟨p, 0, none⟩), .bool false, .slice ad l.length cap, .func (.func 73) #[] #[.pointer (some ⟨w.heap.size + 1, 0, none⟩)], .agg #[.int .u64 ((x.1 : Nat) : Int), .int .i64 ((x.2 : Nat) : Int)], undef, undef, undef, undef, undef, undef, undef, undef, undef, undef], defers := [] })
    (fun x => #[.int .u64 ((x.1 : Nat) : Int), .int .i64 ((x.2 : Nat) : Int)]) 82 ?assign ?body ?done ?stop
  case hown =>
    rcases hk with e | e
    · omega
    · have := ownH_lt HH.out e; omega
  case hT =>
    rintro k (hk | hk) (e | e)
    · have := HT1.out k hk; omega
    · exact HAp.out k e hk
    · omega
    · have := ownH_lt HH.out e; omega
  case hT2 =>
    rintro k (hk | hk)
    · have := HT1.out k hk; omega
    · omega
  case hI =>
    rintro pre A B ⟨h1, v', h2, h3, h4⟩ hk
    refine ⟨hk.heap h1 ?_, v', h2.keeps hk ?_ (fun g hg => ?_), h3.trans hk (fun k hk hs => ?_), h4⟩
    · rintro (e | e | e)
      · exact e
      · omega
      · omega
    · rintro (e | e | e)
      · exact e
      · omega
      · omega
    · rintro (e | e | e)
      · exact e
      · rcases h4 g hg with h | h
        · have := HVL.out g h; omega
        · omega
      · rcases h4 g hg with h | h
        · have := HVL.out g h; omega
        · omega
    · rcases hs with e | e | e
      · exact e.elim
      · omega
      · omega
  case h0 =>
    refine ⟨hbox, v0, ?_, hkW _, fun g hg => .inl hg⟩
    have := HW.out.keeps (hkW (fun _ => False)) (fun h => h) (fun _ _ h => h)
    simpa [encRuns] using this
  case assign =>
    intro lp x W K hK
    simp only [encR]
    gi_wp2
    exact hK
  case body =>
    rintro lp D pre ⟨x, c⟩ W ⟨h1, v', h2, h3, h4⟩ hsp hsz2 hD hDb
    have hmem : (x, c) ∈ runsOf l := hsp.subset (by simp)
    obtain ⟨hxl, hc1, hc2⟩ := runsOf_mem hmem
    simp only at hxl hc1 hc2
    have hx := HX.out x hxl
    have hlp : pre.length ≤ 1000000000 := by have := hsp.length_le; have := runsOf_length l; simp at *; omega
    obtain ⟨m, hm⟩ : ∃ m, c = m + 1 := ⟨c - 1, by omega⟩
    have hc0 : W.cell? ⟨w.heap.size, 0, none⟩ = some (.pointer (some ⟨p, 0, none⟩)) := by rw [cell_of_row _ _ _ _ _ _ h1]; rfl
    have hd0 : W.cell? ⟨D, 0, none⟩ = some (.int .u64 (x : Nat)) := by rw [cell_of_row _ _ _ _ _ _ hD]; rfl
    have hd1 : W.cell? ⟨D, 1, none⟩ = some (.int .i64 (c : Nat)) := by rw [cell_of_row _ _ _ _ _ _ hD]; rfl
    have hb1 : base ≤ W.heap.size := by omega
    have hlen : (bits ++ encRuns pre).length ≤ 1099511627776 := by rw [List.length_append, encRuns_length]; omega
    have hlen2 : (bits ++ encRuns pre ++ fieldBits x 64).length ≤ 1099511627776 := by rw [List.length_append, List.length_append, encRuns_length, fieldBits_length]; omega
    have hend : bits ++ encRuns (pre ++ [(x, c)]) = bits ++ encRuns pre ++ fieldBits x 64 ++ fieldBits m 7 := by rw [encRuns_snoc, encRun, hm]; simp
    have hDp : ¬ D = p := by have := HT1.out p (.inl rfl); omega
    have hDv : ∀ (u : Value) (L : List Bool) (V : World), IsW V base p u L → V.heap[D]? = some (.cells #[.int .u64 ((x : Nat) : Int), .int .i64 ((c : Nat) : Int)] 82 (0, 0)) → ¬ foot p u D := fun u L V hV hVD e => by
      rcases e with e | e
      · exact hDp e
      · obtain ⟨c', hc'⟩ := row_type hV.row e
        exact ne_of_types hc' hVD (by decide) rfl
    have hbv : ∀ (u : Value), (∀ g, u.ownBlock = some g → v0.ownBlock = some g ∨ w.heap.size + 4 ≤ g) → ¬ foot p u w.heap.size := fun u hu e => by
      rcases e with e | e
      · omega
      · rcases hu _ e with h | h
        · have := HVL.out _ h; omega
        · omega
    have H1 := Lib.hid h1; have H2 := Lib.hid h2; have H3 := Lib.hid h3; have H4 := Lib.hid h4; have HD := Lib.hid hD; have HM := Lib.hid hm; have HE := Lib.hid hend; have HDV := Lib.hid hDv; have HBV := Lib.hid hbv
    have hwc : IntKind.i64.wrap ((c : Int) - 1) = m := by rw [IntWalk.i64_in _ (by omega)]; omega
    have hcm : (c : Int) - 1 = m := by omega
    have hwm : IntKind.u64.wrap (m : Int) = m := wrap_u64 m (by omega)
    have hm7 : m < 128 := by omega
    clear h1 h2 h3 h4 hsp hD hm hend hDv hbv hmem hxl
    gi_wp2
    refine ⟨trivial, rfl, ((callsIn_wide.2 (wbits_any base p v' _ x 64 W H2.out hx (by omega) hlen hb1)).inRound lp).mono ?_⟩
    rintro e W1 ⟨rfl, v1, i1, k1, n1⟩
    have hq1 := k1.cell hc0 (HBV.out v' H4.out)
    have hq2 := k1.cell hd1 (HDV.out v' _ W H2.out HD.out)
    have HD1 := Lib.hid (k1.heap HD.out (HDV.out v' _ W H2.out HD.out))
    have H11 := Lib.hid (k1.heap H1.out (HBV.out v' H4.out))
    have hn1 : ∀ g, v1.ownBlock = some g → v0.ownBlock = some g ∨ w.heap.size + 4 ≤ g := fun g hg => by
      rcases n1 g hg with h | h
      · exact H4.out g h
      · exact .inr (by omega)
    have K1 : Hid (Keeps (fun k => foot p v0 k ∨ w.heap.size + 4 ≤ k) W W1) := Lib.hid (k1.mono (fun k _ e => by
      rcases e with e | e
      · exact .inl (.inl e)
      · rcases H4.out k e with h | h
        · exact .inl (.inr h)
        · exact .inr h))
    have hb2 : base ≤ W1.heap.size := by have := k1.size; omega
    have hs1 : W.heap.size ≤ W1.heap.size := k1.size
    have I1 := Lib.hid i1; have HN1 := Lib.hid hn1
    clear i1 k1 n1 hn1 hc0 hd0 hd1
    gi_wp2
    refine ⟨trivial, rfl, ((callsIn_wide.2 (wbits_any base p v1 _ m 7 W1 I1.out (by omega) (by omega) hlen2 hb2)).inRound lp).mono ?_⟩
    rintro e W2 ⟨rfl, v2, i2, k2, n2⟩
    have K2 : Keeps (fun k => foot p v0 k ∨ w.heap.size + 4 ≤ k) W1 W2 := k2.mono (fun k _ e => by
      rcases e with e | e
      · exact .inl (.inl e)
      · rcases HN1.out k e with h | h
        · exact .inl (.inr h)
        · exact .inr h)
    have K12 := K1.out.trans K2 (fun _ _ h => h)
    have hh1 := k2.heap H11.out (HBV.out v1 HN1.out)
    have hn2 : ∀ g, v2.ownBlock = some g → v0.ownBlock = some g ∨ w.heap.size + 4 ≤ g := fun g hg => by
      rcases n2 g hg with h | h
      · exact HN1.out g h
      · exact .inr (by omega)
    rw [← HE.out] at i2
    have hk3 : Keeps (foot p v0) w W2 := H3.out.trans K12 (fun k hk e => e.elim id (fun h => by omega))
    have FI := Lib.hid i2; have F1 := Lib.hid K12; have F2 := Lib.hid hh1; have F3 := Lib.hid hn2; have F4 := Lib.hid hk3
    clear i2 k2 n2 K2 K12 hh1 hn2 hk3 hq1 hq2
    gi_wp2
    exact ⟨F1.out, F2.out, v2, FI.out, F4.out, F3.out⟩
  case done =>
    rintro D xs W rfl ⟨h1, v', h2, h3, h4⟩ hD hK
    have H2 := Lib.hid h2; have H3 := Lib.hid h3; have H4 := Lib.hid h4
    clear h1 h2 h3 h4
    gi_wp2
    refine ⟨by simp, .inl ⟨_, _, rfl, run_takeDeferred hK, ?_⟩⟩
    refine ⟨_, results_tmp rfl _ _ _, ⟨rfl, v', ?_, ?_, fun g hg => ?_⟩⟩
    · have hp : Keeps (fun k => k = D) W (W.putObj D (.deferred none)) := Keeps.putObj _ _ _ rfl
      refine H2.out.keeps hp (by omega) (fun g hg e => ?_)
      obtain ⟨c', hc'⟩ := row_type H2.out.row hg
      subst e
      rw [hK] at hc'
      cases hc'
    · exact H3.out.trans (Keeps.putObj (S := fun k => k = D) _ _ _ rfl) (fun k hk e => by omega)
    · rcases H4.out g hg with h | h
      · exact .inl h
      · exact .inr (by omega)
  case stop => rintro D c pre W _ h; exact h.elim
end Go.Proofs.Ytdniaingipoggaa
