/-
  WALKS: times.Size.
-/
import Derived.Test.YtdniaingipoggaaDoorWTimesB
namespace Go.Proofs.YtdniaingipoggaaDoor
open Go.RowKit Go.Shelf
attribute [local go_sem] Oper.semAt_some

theorem enc5_parts (l : List Int) : (enc5 l).length = 64 * min l.length 1 + (encChanges (changesOf l)).length := by
  cases l with
  | nil => rfl
  | cons t r => simp only [enc5, changesOf, List.length_append, fieldBits_length, List.length_cons]; omega
set_option maxRecDepth 100000 in
set_option maxHeartbeats 2000000 in
theorem tsize_any (v : Value) (l : List Int) (w : World) (hl : l.length ≤ 1000000000) (h : Holds w v (i64s l)) (hX : ∀ x ∈ l, inI x) (hT : TabF w) :
    Calls Tryd.prog 24 #[v] w fun e w' => e = .returned (.int .i64 (((enc5 l).length : Nat) : Int)) ∧ Keeps (fun _ => False) w w' := by
  have HH := Lib.hid h; have HX := Lib.hid hX; have HT := Lib.hid hT
  obtain ⟨ad, cap, rfl, hcap, _⟩ := h
  rw [i64s_length] at hcap HH ⊢
  have hel := enc5_parts l
  by_cases hl1 : l.length ≤ 1
  · have hl2 : (l.length : Int) ≤ 1 := by omega
    rw [Nat.min_eq_left hl1] at hel
    have HEL := Lib.hid hel
    clear hX hT hel
    refine (callsIn_wide (n := 0)).1 ?_
    refine callsIn_of_wp_marks Tryd.func24 rfl trivial ?_ rfl
    simp only [Tryd.ntmps24, List.size_toArray, List.length_cons, List.length_nil, Nat.reduceAdd, Nat.reduceSub, Array.replicate_succ, Array.replicate_zero, List.push_toArray, List.append_toArray, List.nil_append, List.cons_append]
    gi_wp2
    refine ⟨trivial, rfl, (callsIn_wide.2 (changes_any ad l.length cap _)).mono ?_⟩
    rintro e w1 ⟨rfl, rfl⟩
    gi_wp2
    obtain ⟨WA, hWA⟩ : ∃ WA, WA = w.alloc (.cells #[.int .i64 (64 * (l.length : Int))] 3) := ⟨_, rfl⟩
    have hsA : WA.heap.size = w.heap.size + 1 := by rw [hWA]; simp
    have hkA : ∀ S, Keeps S w WA := fun S => by rw [hWA]; exact (Keeps.refl S w).alloc _
    have hboxA : WA.heap[w.heap.size]? = some (.cells #[.int .i64 (64 * (l.length : Int))] 3 (0, 0)) := by rw [hWA]; exact heap_alloc_new w _
    have hseq := changes_here ad cap l WA (by omega) (HH.out.keeps (hkA (fun _ => False)) (fun _ _ h => h)) HX.out
    rw [← hWA]
    obtain ⟨W0, hW0⟩ : ∃ W0, W0 = WA.alloc (.cells #[.slice ad l.length cap] 26) := ⟨_, rfl⟩
    have hsz : W0.heap.size = w.heap.size + 2 := by rw [hW0]; simp [hsA]
    have hkW : ∀ S, Keeps S w W0 := fun S => by rw [hW0]; exact (hkA S).alloc _
    have hbox : W0.heap[w.heap.size]? = some (.cells #[.int .i64 (64 * (l.length : Int))] 3 (0, 0)) := by rw [hW0]; exact (Below.heap_alloc _ _ _ (by omega)).trans hboxA
    rw [hsA, ← hW0] at hseq
    rw [← hW0]
    have HSeq := Lib.hid hseq
    clear hW0 hWA hseq hsA hkA hboxA
    refine wpIn_rangeFunc_r (gf := 64) (lb := #[.pointer (some ⟨w.heap.size + 1, 0, none⟩)]) (w := W0) rfl (enters_of Tryd.func64 (by kernel_rfl) rfl)
      HSeq.out (T := fun k => k = w.heap.size) (fun x => rfl) (fun _ h => h.elim)
      (fun k hk => ?hown) ?hT ?hT2
      (fun pre W => W.heap[w.heap.size]? = some (.cells #[.int .i64 ((64 * l.length + (encChanges pre).length : Nat) : Int)] 3 (0, 0)) ∧ Keeps (fun _ => False) w W)
      (fun _ _ _ => False) ?hI (fun _ _ _ _ h _ => h) ?h0
      (fun x => { tmps := #[.slice ad l.length cap, undef, .int .i64 0, .pointer (some ⟨w.heap.size, 0, none⟩), .int .i64 x, undef, .slice ad l.length cap, .int .i64 l.length, .int .i64 l.length, .int .i64 (64 * (l.length : Int)), .slice ad l.length cap, .func (.func 64) #[] #[.pointer (some ⟨w.heap.size + 1, 0, none⟩)], .int .i64 x, undef, undef, undef, undef, undef, undef, undef, undef, undef, undef, undef, undef], defers := [] })
      ?assign ?body ?done ?stop
    case hown =>
      rcases hk with e | e
      · omega
      · have := ownI_lt HH.out e; omega
    case hT =>
      rintro k rfl (e | e)
      · omega
      · have := ownI_lt HH.out e; omega
    case hT2 => rintro k rfl; omega
    case hI =>
      rintro pre A B ⟨h1, h2⟩ hk
      refine ⟨hk.heap h1 ?_, h2.trans hk (fun k hk hs => ?_)⟩
      · rintro (e | e | e)
        · exact e
        · omega
        · omega
      · rcases hs with e | e | e
        · exact e
        · omega
        · omega
    case h0 => exact ⟨by simpa [encChanges] using hbox, hkW _⟩
    case assign =>
      intro lp x W K hK
      simp only [encI]
      gi_wp2
      exact hK
    case body =>
      rintro lp pre x W ⟨h1, h2⟩ hsp hsz2
      have hxI : inI x := changesOf_in l x (hsp.subset (by simp))
      have hc0 : W.cell? ⟨w.heap.size, 0, none⟩ = some (.int .i64 ((64 * l.length + (encChanges pre).length : Nat) : Int)) := by rw [cell_of_row _ _ _ _ _ _ h1]; rfl
      have hlp : (encChanges pre).length ≤ 68000000000 := by have := encChanges_le pre; have := hsp.length_le; have := changesOf_length l; simp at *; omega
      obtain ⟨n, hn⟩ : ∃ n, n = 64 * l.length + (encChanges pre).length := ⟨_, rfl⟩
      rw [← hn] at hc0 h1
      have hTW := HT.out.keeps h2 (fun h => h)
      obtain ⟨k, hk⟩ : ∃ k, k = formI x := ⟨_, rfl⟩
      have hk4 : k ≤ 4 := by rw [hk]; exact formI_le x
      have hend : 64 * l.length + (encChanges (pre ++ [x])).length = n + (fLen k + fWidth k) := by rw [encChanges_snoc, List.length_append, encChange_length, ← hk, hn]; omega
      have H1 := Lib.hid h1; have H2 := Lib.hid h2; have HTW := Lib.hid hTW; have HK := Lib.hid hk; have HEND := Lib.hid hend; have HXI := Lib.hid hxI; have HN := Lib.hid hn
      have hn2 : n ≤ 70000000000 := by omega
      clear h1 h2 hsp hTW hk hend hxI hn hlp hc0
      gi_wp2
      refine ⟨trivial, rfl, ((callsIn_wide.2 (formOf_any x W HXI.out HTW.out)).inRound lp).mono ?_⟩
      rw [← HK.out]
      rintro e W1 ⟨rfl, k1⟩
      have hT1 := HTW.out.keeps k1 (fun h => h)
      have hb1 := k1.heap H1.out (fun h => h)
      obtain ⟨t0, t1, t2⟩ := hT1.cell k hk4
      have hc0 : W1.cell? ⟨w.heap.size, 0, none⟩ = some (.int .i64 (n : Nat)) := by rw [cell_of_row _ _ _ _ _ _ hb1]; rfl
      have hf0 : W1.frozen? ⟨w.heap.size, 0, none⟩ = false := frozen_of_row _ _ _ _ _ hb1
      have hb0 : w.heap.size < W1.heap.size := (Array.getElem?_eq_some_iff.1 hb1).1
      have hL := fLen_le k hk4
      have hWd := fWidth_le k hk4
      obtain ⟨a, ha⟩ : ∃ a, a = fLen k := ⟨_, rfl⟩
      obtain ⟨b, hb⟩ : ∃ b, b = fWidth k := ⟨_, rfl⟩
      rw [← ha] at t1 hL
      rw [← hb] at t2 hWd
      have hkk : (k : Int) < 5 := by omega
      have hw1 : IntKind.i64.wrap ((a : Int) + b) = a + b := IntWalk.i64_in _ (by omega)
      have hw2 : IntKind.i64.wrap ((n : Int) + ((a : Int) + b)) = n + (a + b) := IntWalk.i64_in _ (by omega)
      have ca : ∀ o, (W1.alloc o).cell? ⟨w.heap.size, 0, none⟩ = some (.int .i64 (n : Nat)) := fun o => (cell_alloc_below W1 o _ hb0).trans hc0
      have fa : ∀ o, (W1.alloc o).frozen? ⟨w.heap.size, 0, none⟩ = false := fun o => (frozen_alloc_old W1 o _ hb0).trans hf0
      have kk := (k1.mono (S' := fun k => k = w.heap.size) (fun _ _ h => h.elim)).trans ((((Keeps.refl (fun k => k = w.heap.size) W1).setCell (p := ⟨w.heap.size, 0, none⟩) (fun _ => rfl) (.int .i64 ((n : Int) + ((a : Int) + b)))).alloc (.cells #[.int .u64 (fBits k : Nat), .int .i64 a, .int .i64 b] 93))) (S := fun k => k = w.heap.size) (fun _ _ h => h)
      have fin : bodyC (fun k => k = w.heap.size)
          (fun pre W => W.heap[w.heap.size]? = some (.cells #[.int .i64 ((64 * l.length + (encChanges pre).length : Nat) : Int)] 3 (0, 0)) ∧ Keeps (fun _ => False) w W) (fun _ _ _ => False) (pre ++ [x]) W .normal { tmps := #[], defers := [] } ((W1.setCell ⟨w.heap.size, 0, none⟩ (.int .i64 ((n : Int) + ((a : Int) + b)))).alloc (.cells #[.int .u64 (fBits k : Nat), .int .i64 a, .int .i64 b] 93)) := by
        refine ⟨kk, ?_, H2.out.trans kk (fun k hk e => by omega)⟩
        have h5 := heap_setCell_same W1 w.heap.size 0 _ _ (.int .i64 ((n : Int) + ((a : Int) + b))) hb1
        have h6 := (Below.heap_alloc (W1.setCell ⟨w.heap.size, 0, none⟩ (.int .i64 ((n : Int) + ((a : Int) + b)))) (.cells #[.int .u64 (fBits k : Nat), .int .i64 a, .int .i64 b] 93) w.heap.size (by simpa [World.setCell] using hb0)).trans h5
        rw [h6, HEND.out, show ((n + (fLen k + fWidth k) : Nat) : Int) = (n : Int) + ((a : Int) + b) by rw [ha, hb]; omega]
        rfl
      have HF := Lib.hid fin
      clear fin kk hb1 hT1 k1 ha hb
      gi_wp2
      exact HF.out
    case done =>
      rintro D xs W rfl ⟨h1, h2⟩ hD hK
      have hc0 : W.cell? ⟨w.heap.size, 0, none⟩ = some (.int .i64 (((enc5 l).length : Nat) : Int)) := by rw [cell_of_row _ _ _ _ _ _ h1, HEL.out]; rfl
      have H2 := Lib.hid h2
      clear h1 h2
      gi_wp2
      refine ⟨by simp, .inl ⟨_, _, rfl, run_takeDeferred hK, ?_⟩⟩
      refine ⟨_, results_tmp rfl _ _ _, ⟨rfl, ?_⟩⟩
      exact H2.out.trans (Keeps.putObj (S := fun k => k = D) _ _ _ rfl) (fun k hk e => by omega)
    case stop => rintro D c pre W _ h; exact h.elim
  · have hl2 : ¬ (l.length : Int) ≤ 1 := by omega
    rw [Nat.min_eq_right (by omega)] at hel
    have HEL := Lib.hid hel
    clear hX hT hel
    refine (callsIn_wide (n := 0)).1 ?_
    refine callsIn_of_wp_marks Tryd.func24 rfl trivial ?_ rfl
    simp only [Tryd.ntmps24, List.size_toArray, List.length_cons, List.length_nil, Nat.reduceAdd, Nat.reduceSub, Array.replicate_succ, Array.replicate_zero, List.push_toArray, List.append_toArray, List.nil_append, List.cons_append]
    gi_wp2
    refine ⟨trivial, rfl, (callsIn_wide.2 (changes_any ad l.length cap _)).mono ?_⟩
    rintro e w1 ⟨rfl, rfl⟩
    gi_wp2
    obtain ⟨WA, hWA⟩ : ∃ WA, WA = w.alloc (.cells #[.int .i64 64] 3) := ⟨_, rfl⟩
    have hsA : WA.heap.size = w.heap.size + 1 := by rw [hWA]; simp
    have hkA : ∀ S, Keeps S w WA := fun S => by rw [hWA]; exact (Keeps.refl S w).alloc _
    have hboxA : WA.heap[w.heap.size]? = some (.cells #[.int .i64 64] 3 (0, 0)) := by rw [hWA]; exact heap_alloc_new w _
    have hseq := changes_here ad cap l WA (by omega) (HH.out.keeps (hkA (fun _ => False)) (fun _ _ h => h)) HX.out
    rw [← hWA]
    obtain ⟨W0, hW0⟩ : ∃ W0, W0 = WA.alloc (.cells #[.slice ad l.length cap] 26) := ⟨_, rfl⟩
    have hsz : W0.heap.size = w.heap.size + 2 := by rw [hW0]; simp [hsA]
    have hkW : ∀ S, Keeps S w W0 := fun S => by rw [hW0]; exact (hkA S).alloc _
    have hbox : W0.heap[w.heap.size]? = some (.cells #[.int .i64 64] 3 (0, 0)) := by rw [hW0]; exact (Below.heap_alloc _ _ _ (by omega)).trans hboxA
    rw [hsA, ← hW0] at hseq
    rw [← hW0]
    have HSeq := Lib.hid hseq
    clear hW0 hWA hseq hsA hkA hboxA
    refine wpIn_rangeFunc_r (gf := 64) (lb := #[.pointer (some ⟨w.heap.size + 1, 0, none⟩)]) (w := W0) rfl (enters_of Tryd.func64 (by kernel_rfl) rfl)
      HSeq.out (T := fun k => k = w.heap.size) (fun x => rfl) (fun _ h => h.elim)
      (fun k hk => ?hown) ?hT ?hT2
      (fun pre W => W.heap[w.heap.size]? = some (.cells #[.int .i64 ((64 * 1 + (encChanges pre).length : Nat) : Int)] 3 (0, 0)) ∧ Keeps (fun _ => False) w W)
      (fun _ _ _ => False) ?hI (fun _ _ _ _ h _ => h) ?h0
      (fun x => { tmps := #[.slice ad l.length cap, undef, .int .i64 0, .pointer (some ⟨w.heap.size, 0, none⟩), .int .i64 x, undef, .slice ad l.length cap, .int .i64 l.length, .int .i64 1, .int .i64 64, .slice ad l.length cap, .func (.func 64) #[] #[.pointer (some ⟨w.heap.size + 1, 0, none⟩)], .int .i64 x, undef, undef, undef, undef, undef, undef, undef, undef, undef, undef, undef, undef], defers := [] })
      ?assign ?body ?done ?stop
    case hown =>
      rcases hk with e | e
      · omega
      · have := ownI_lt HH.out e; omega
    case hT =>
      rintro k rfl (e | e)
      · omega
      · have := ownI_lt HH.out e; omega
    case hT2 => rintro k rfl; omega
    case hI =>
      rintro pre A B ⟨h1, h2⟩ hk
      refine ⟨hk.heap h1 ?_, h2.trans hk (fun k hk hs => ?_)⟩
      · rintro (e | e | e)
        · exact e
        · omega
        · omega
      · rcases hs with e | e | e
        · exact e
        · omega
        · omega
    case h0 => exact ⟨by simpa [encChanges] using hbox, hkW _⟩
    case assign =>
      intro lp x W K hK
      simp only [encI]
      gi_wp2
      exact hK
    case body =>
      rintro lp pre x W ⟨h1, h2⟩ hsp hsz2
      have hxI : inI x := changesOf_in l x (hsp.subset (by simp))
      have hc0 : W.cell? ⟨w.heap.size, 0, none⟩ = some (.int .i64 ((64 * 1 + (encChanges pre).length : Nat) : Int)) := by rw [cell_of_row _ _ _ _ _ _ h1]; rfl
      have hlp : (encChanges pre).length ≤ 68000000000 := by have := encChanges_le pre; have := hsp.length_le; have := changesOf_length l; simp at *; omega
      obtain ⟨n, hn⟩ : ∃ n, n = 64 * 1 + (encChanges pre).length := ⟨_, rfl⟩
      rw [← hn] at hc0 h1
      have hTW := HT.out.keeps h2 (fun h => h)
      obtain ⟨k, hk⟩ : ∃ k, k = formI x := ⟨_, rfl⟩
      have hk4 : k ≤ 4 := by rw [hk]; exact formI_le x
      have hend : 64 * 1 + (encChanges (pre ++ [x])).length = n + (fLen k + fWidth k) := by rw [encChanges_snoc, List.length_append, encChange_length, ← hk, hn]; omega
      have H1 := Lib.hid h1; have H2 := Lib.hid h2; have HTW := Lib.hid hTW; have HK := Lib.hid hk; have HEND := Lib.hid hend; have HXI := Lib.hid hxI; have HN := Lib.hid hn
      have hn2 : n ≤ 70000000000 := by omega
      clear h1 h2 hsp hTW hk hend hxI hn hlp hc0
      gi_wp2
      refine ⟨trivial, rfl, ((callsIn_wide.2 (formOf_any x W HXI.out HTW.out)).inRound lp).mono ?_⟩
      rw [← HK.out]
      rintro e W1 ⟨rfl, k1⟩
      have hT1 := HTW.out.keeps k1 (fun h => h)
      have hb1 := k1.heap H1.out (fun h => h)
      obtain ⟨t0, t1, t2⟩ := hT1.cell k hk4
      have hc0 : W1.cell? ⟨w.heap.size, 0, none⟩ = some (.int .i64 (n : Nat)) := by rw [cell_of_row _ _ _ _ _ _ hb1]; rfl
      have hf0 : W1.frozen? ⟨w.heap.size, 0, none⟩ = false := frozen_of_row _ _ _ _ _ hb1
      have hb0 : w.heap.size < W1.heap.size := (Array.getElem?_eq_some_iff.1 hb1).1
      have hL := fLen_le k hk4
      have hWd := fWidth_le k hk4
      obtain ⟨a, ha⟩ : ∃ a, a = fLen k := ⟨_, rfl⟩
      obtain ⟨b, hb⟩ : ∃ b, b = fWidth k := ⟨_, rfl⟩
      rw [← ha] at t1 hL
      rw [← hb] at t2 hWd
      have hkk : (k : Int) < 5 := by omega
      have hw1 : IntKind.i64.wrap ((a : Int) + b) = a + b := IntWalk.i64_in _ (by omega)
      have hw2 : IntKind.i64.wrap ((n : Int) + ((a : Int) + b)) = n + (a + b) := IntWalk.i64_in _ (by omega)
      have ca : ∀ o, (W1.alloc o).cell? ⟨w.heap.size, 0, none⟩ = some (.int .i64 (n : Nat)) := fun o => (cell_alloc_below W1 o _ hb0).trans hc0
      have fa : ∀ o, (W1.alloc o).frozen? ⟨w.heap.size, 0, none⟩ = false := fun o => (frozen_alloc_old W1 o _ hb0).trans hf0
      have kk := (k1.mono (S' := fun k => k = w.heap.size) (fun _ _ h => h.elim)).trans ((((Keeps.refl (fun k => k = w.heap.size) W1).setCell (p := ⟨w.heap.size, 0, none⟩) (fun _ => rfl) (.int .i64 ((n : Int) + ((a : Int) + b)))).alloc (.cells #[.int .u64 (fBits k : Nat), .int .i64 a, .int .i64 b] 93))) (S := fun k => k = w.heap.size) (fun _ _ h => h)
      have fin : bodyC (fun k => k = w.heap.size)
          (fun pre W => W.heap[w.heap.size]? = some (.cells #[.int .i64 ((64 * 1 + (encChanges pre).length : Nat) : Int)] 3 (0, 0)) ∧ Keeps (fun _ => False) w W) (fun _ _ _ => False) (pre ++ [x]) W .normal { tmps := #[], defers := [] } ((W1.setCell ⟨w.heap.size, 0, none⟩ (.int .i64 ((n : Int) + ((a : Int) + b)))).alloc (.cells #[.int .u64 (fBits k : Nat), .int .i64 a, .int .i64 b] 93)) := by
        refine ⟨kk, ?_, H2.out.trans kk (fun k hk e => by omega)⟩
        have h5 := heap_setCell_same W1 w.heap.size 0 _ _ (.int .i64 ((n : Int) + ((a : Int) + b))) hb1
        have h6 := (Below.heap_alloc (W1.setCell ⟨w.heap.size, 0, none⟩ (.int .i64 ((n : Int) + ((a : Int) + b)))) (.cells #[.int .u64 (fBits k : Nat), .int .i64 a, .int .i64 b] 93) w.heap.size (by simpa [World.setCell] using hb0)).trans h5
        rw [h6, HEND.out, show ((n + (fLen k + fWidth k) : Nat) : Int) = (n : Int) + ((a : Int) + b) by rw [ha, hb]; omega]
        rfl
      have HF := Lib.hid fin
      clear fin kk hb1 hT1 k1 ha hb
      gi_wp2
      exact HF.out
    case done =>
      rintro D xs W rfl ⟨h1, h2⟩ hD hK
      have hc0 : W.cell? ⟨w.heap.size, 0, none⟩ = some (.int .i64 (((enc5 l).length : Nat) : Int)) := by rw [cell_of_row _ _ _ _ _ _ h1, HEL.out]; rfl
      have H2 := Lib.hid h2
      clear h1 h2
      gi_wp2
      refine ⟨by simp, .inl ⟨_, _, rfl, run_takeDeferred hK, ?_⟩⟩
      refine ⟨_, results_tmp rfl _ _ _, ⟨rfl, ?_⟩⟩
      exact H2.out.trans (Keeps.putObj (S := fun k => k = D) _ _ _ rfl) (fun k hk e => by omega)
    case stop => rintro D c pre W _ h; exact h.elim
end Go.Proofs.YtdniaingipoggaaDoor
