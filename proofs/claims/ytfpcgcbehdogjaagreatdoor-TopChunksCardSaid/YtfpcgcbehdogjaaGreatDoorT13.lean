/-
  Lemmas on which LTopChunks rests, packed out of the texts WRunC WRunD WRef07 WCrcC WWireA WRdA XTabs; each for all arguments under the hypotheses it names.
-/
import Derived.Test.YtfpcgcbehdogjaaGreatDoorT09
import Derived.Test.YtfpcgcbehdogjaaGreatDoorT08
import Derived.Lib.AppendStr
import Derived.Laws.BytesArg
import Derived.Laws.BytesString
import Derived.Test.YtfpcgcbehdogjaaGreatDoorT10
import Derived.Lib.LaidU8
namespace Go.Proofs.YtfpcgcbehdogjaaGreatDoor
section
set_option maxHeartbeats 1000000
set_option maxRecDepth 100000
open Go.RowKit Go.Shelf
attribute [local go_sem] Oper.semAt_some
theorem size_any (v : Value) (l : List Nat) (w : World) (hl : l.length ≤ 1099511627776) (h : Holds w v (u64s l)) :
 Calls Tryz.prog 46 #[v] w fun e w' => e = .returned (.int .i64 ((71 * (runsOf l).length : Nat) : Int)) ∧ Keeps (fun _ => False) w w' := by
 have HH := Hj h
 obtain ⟨ad, cap, rfl, hcap, _⟩ := h
 rw [qbz] at hcap HH ⊢
 refine (callsIn_wide (n := 0)).1 ?_
 refine callsIn_of_wp_marks Tryz.func46 rfl trivial ?_ rfl
 simp only [Tryz.ntmps46, List.size_toArray, List.length_cons, List.length_nil, Nat.reduceAdd, Nat.reduceSub, Array.replicate_succ, Array.replicate_zero, List.push_toArray, List.append_toArray, List.nil_append, List.cons_append]
 gi_wp2
 refine ⟨trivial, rfl, (callsIn_wide.2 (runs_any ad l.length cap _)).mono ?_⟩
 rintro e w1 ⟨rfl, rfl⟩
 gi_wp2
 obtain ⟨WA, hWA⟩ : ∃ WA, WA = w.alloc (.cells #[.int .i64 0] 3) := ⟨_, rfl⟩
 have hsA : WA.heap.size = w.heap.size + 1 := by rw [hWA]; simp
 have hkA : ∀ S, Keeps S w WA := fun S => by rw [hWA]; exact (Keeps.refl S w).alloc _
 have hboxA : WA.heap[w.heap.size]? = some (.cells #[.int .i64 0] 3 (0, 0)) := by rw [hWA]; exact heap_alloc_new w _
 have hseq := runs_here ad cap l WA (by omega) (HH.out.keeps (hkA (fun _ => False)) (fun _ _ h => h))
 rw [← hWA]
 obtain ⟨W0, hW0⟩ : ∃ W0, W0 = WA.alloc (.cells #[.slice ad l.length cap] 55) := ⟨_, rfl⟩
 have hsz : W0.heap.size = w.heap.size + 2 := by rw [hW0]; simp [hsA]
 have hkW : ∀ S, Keeps S w W0 := fun S => by rw [hW0]; exact (hkA S).alloc _
 have hbox : W0.heap[w.heap.size]? = some (.cells #[.int .i64 0] 3 (0, 0)) := by rw [hW0]; exact (Below.heap_alloc _ _ _ (by omega)).trans hboxA
 rw [hsA, ← hW0] at hseq
 rw [← hW0]
 have HSeq := Hj hseq
 clear hW0 hWA hseq hsA hkA hboxA
 refine qbl (gf := 155) (lb := #[.pointer (some ⟨w.heap.size + 1, 0, none⟩)]) (w := W0) rfl (enters_of Tryz.func155 (by kernel_rfl) rfl)
  HSeq.out (T := fun k => k = w.heap.size) (fun x => rfl) (fun _ h => h.elim)
  (fun k hk => ?hown) ?hT ?hT2
  (fun pre W => W.heap[w.heap.size]? = some (.cells #[.int .i64 ((71 * pre.length : Nat) : Int)] 3 (0, 0)) ∧ Keeps (fun _ => False) w W)
  (fun _ _ _ => False) ?hI (fun _ _ _ _ h _ => h) ?h0
  (fun x => { tmps := #[.slice ad l.length cap, undef, .int .i64 0, .pointer (some ⟨w.heap.size, 0, none⟩), .slice ad l.length cap, .func (.func 155) #[] #[.pointer (some ⟨w.heap.size + 1, 0, none⟩)], .agg #[.int .u64 ((x.1 : Nat) : Int), .int .i64 ((x.2 : Nat) : Int)], undef, undef, undef], defers := [] })
  ?assign ?body ?done ?stop
 case hown =>
  rcases hk with e | e
  · omega
  · have := ownH_lt HH.out e; omega
 case hT =>
  rintro k rfl (e | e)
  · omega
  · have := ownH_lt HH.out e; omega
 case hT2 => rintro k rfl; omega
 case hI =>
  rintro pre A B ⟨h1, h2⟩ hk
  refine ⟨hk.heap h1 ?_, h2.trans hk (fun k hk hs => ?_)⟩
  · rintro (e | e | e)
    · exact e
    · omega
    · omega
  · rcases hs with e | e | e
    · exact e
    · omega
    · omega
 case h0 => exact ⟨hbox, hkW _⟩
 case assign =>
  intro lp x W K hK
  simp only [encR]
  gi_wp2
  simpa using hK
 case body =>
  rintro lp pre ⟨x, c⟩ W ⟨h1, h2⟩ hsp hsz2
  have hc0 : W.cell? ⟨w.heap.size, 0, none⟩ = some (.int .i64 ((71 * pre.length : Nat) : Int)) := by rw [cell_of_row _ _ _ _ _ _ h1]; rfl
  have hf0 : W.frozen? ⟨w.heap.size, 0, none⟩ = false := frozen_of_row _ _ _ _ _ h1
  have hlp : pre.length ≤ 1099511627776 := by have := hsp.length_le; have := runsOf_length l; simp at *; omega
  obtain ⟨n, hn⟩ : ∃ n, n = 71 * pre.length := ⟨_, rfl⟩
  rw [← hn] at hc0
  have hw : IntKind.i64.wrap ((n : Int) + 71) = ((n + 71 : Nat) : Int) := by rw [IntWalk.i64_in _ (by omega)]; omega
  have kk : Keeps (fun k => k = w.heap.size) W (W.setCell ⟨w.heap.size, 0, none⟩ (.int .i64 ((n : Int) + 71))) := (Keeps.refl (fun k => k = w.heap.size) W).setCell (p := ⟨w.heap.size, 0, none⟩) (fun _ => rfl) _
  have fin : bodyC (fun k => k = w.heap.size)
   (fun pre W => W.heap[w.heap.size]? = some (.cells #[.int .i64 ((71 * pre.length : Nat) : Int)] 3 (0, 0)) ∧ Keeps (fun _ => False) w W) (fun _ _ _ => False) (pre ++ [(x, c)]) W .normal { tmps := #[], defers := [] } (W.setCell ⟨w.heap.size, 0, none⟩ (.int .i64 ((n : Int) + 71))) := by
   refine ⟨kk, ?_, h2.trans kk (fun k hk e => by omega)⟩
   have := heap_setCell_same W w.heap.size 0 _ _ (.int .i64 ((n : Int) + 71)) h1
   rw [this, List.length_append, List.length_singleton, show ((71 * (pre.length + 1) : Nat) : Int) = (n : Int) + 71 by rw [hn]; omega]
   rfl
  have HF := Hj fin
  have HN := Hj hn
  clear kk fin h1 h2 hsp hn
  gi_wp2
  exact HF.out
 case done =>
  rintro D xs W rfl ⟨h1, h2⟩ hD hK
  have hc0 : W.cell? ⟨w.heap.size, 0, none⟩ = some (.int .i64 ((71 * (runsOf l).length : Nat) : Int)) := by rw [cell_of_row _ _ _ _ _ _ h1]; rfl
  have H2 := Hj h2
  clear h1 h2
  gi_wp2
  refine ⟨by simp, .inl ⟨_, _, rfl, run_takeDeferred hK, ?_⟩⟩
  refine ⟨_, results_tmp rfl _ _ _, ⟨rfl, ?_⟩⟩
  exact H2.out.trans (Keeps.putObj (S := fun k => k = D) _ _ _ rfl) (fun k hk e => by omega)
 case stop => rintro D c pre W _ h; exact h.elim
theorem put_any (base p : Nat) (v0 v : Value) (bits : List Bool) (l : List Nat) (w : World) (hW : IsW w base p v0 bits) (hb0 : base ≤ w.heap.size) (hbits : bits.length ≤ 1000000000) (hl : l.length ≤ 1000000000) (hX : ∀ x ∈ l, x ≤ 18446744073709551615)
 (h : Holds w v (u64s l)) (hap : ∀ k, ownH v l k → ¬ foot p v0 k) :
 Calls Tryz.prog 47 #[.pointer (some ⟨p, 0, none⟩), v] w fun e w' => e = .returned (.int .i64 0) ∧ Wrote base p v0 (bits ++ qav (runsOf l)) w w' := by
 have HH := Hj h; have HAp := Hj hap; have HW := Hj hW; have HX := Hj hX
 obtain ⟨ad, cap, rfl, hcap, _⟩ := h
 rw [qbz] at hcap HH HAp ⊢
 have hpl := hW.lt
 have hvl : ∀ k, v0.ownBlock = some k → k < w.heap.size := fun k hk => hW.own_lt hk
 have HVL := Hj hvl
 clear hap hW hX hvl
 refine (callsIn_wide (n := 0)).1 ?_
 refine callsIn_of_wp_marks Tryz.func47 rfl trivial ?_ rfl
 simp only [Tryz.ntmps47, List.size_toArray, List.length_cons, List.length_nil, Nat.reduceAdd, Nat.reduceSub, Array.replicate_succ, Array.replicate_zero, List.push_toArray, List.append_toArray, List.nil_append, List.cons_append]
 gi_wp2
 refine ⟨trivial, rfl, (callsIn_wide.2 (runs_any ad l.length cap _)).mono ?_⟩
 rintro e w1 ⟨rfl, rfl⟩
 gi_wp2
 obtain ⟨WA, hWA⟩ : ∃ WA, WA = w.alloc (.cells #[.pointer (some ⟨p, 0, none⟩)] 57) := ⟨_, rfl⟩
 have hsA : WA.heap.size = w.heap.size + 1 := by rw [hWA]; simp
 have hkA : ∀ S, Keeps S w WA := fun S => by rw [hWA]; exact (Keeps.refl S w).alloc _
 have hboxA : WA.heap[w.heap.size]? = some (.cells #[.pointer (some ⟨p, 0, none⟩)] 57 (0, 0)) := by rw [hWA]; exact heap_alloc_new w _
 have hseq := runs_here ad cap l WA (by omega) (HH.out.keeps (hkA (fun _ => False)) (fun _ _ h => h))
 rw [← hWA]
 obtain ⟨W0, hW0⟩ : ∃ W0, W0 = WA.alloc (.cells #[.slice ad l.length cap] 55) := ⟨_, rfl⟩
 have hsz : W0.heap.size = w.heap.size + 2 := by rw [hW0]; simp [hsA]
 have hkW : ∀ S, Keeps S w W0 := fun S => by rw [hW0]; exact (hkA S).alloc _
 have hbox : W0.heap[w.heap.size]? = some (.cells #[.pointer (some ⟨p, 0, none⟩)] 57 (0, 0)) := by rw [hW0]; exact (Below.heap_alloc _ _ _ (by omega)).trans hboxA
 rw [hsA, ← hW0] at hseq
 rw [← hW0]
 have HSeq := Hj hseq
 clear hW0 hWA hseq hsA hkA hboxA
 have hT1 : ∀ k, foot p v0 k → k < w.heap.size := fun k hk => by
  rcases hk with rfl | hk
  · exact hpl
  · exact HVL.out k hk
 have HT1 := Hj hT1
 clear hT1
 refine wpIn_rangeFunc_d (gf := 155) (lb := #[.pointer (some ⟨w.heap.size + 1, 0, none⟩)]) (w := W0) rfl (enters_of Tryz.func155 (by kernel_rfl) rfl)
  HSeq.out (T := fun k => foot p v0 k ∨ w.heap.size + 4 ≤ k) (fun x => rfl) (fun _ h => h.elim)
  (fun k hk => ?hown) ?hT ?hT2
  (fun pre W => W.heap[w.heap.size]? = some (.cells #[.pointer (some ⟨p, 0, none⟩)] 57 (0, 0)) ∧ ∃ v', IsW W base p v' (bits ++ qav pre) ∧ Keeps (foot p v0) w W ∧ ∀ g, v'.ownBlock = some g → v0.ownBlock = some g ∨ w.heap.size + 4 ≤ g)
  (fun _ _ _ => False) ?hI (fun _ _ _ _ h _ => h) ?h0
  (fun x D => { tmps := #[.pointer (some ⟨p, 0, none⟩), .slice ad l.length cap, .pointer (some ⟨w.heap.size, 0, none⟩), undef, .int .i64 0, .pointer (some ⟨D, 0, none⟩), .pointer (some ⟨p, 0, none⟩), .bool false, .slice ad l.length cap, .func (.func 155) #[] #[.pointer (some ⟨w.heap.size + 1, 0, none⟩)], .agg #[.int .u64 ((x.1 : Nat) : Int), .int .i64 ((x.2 : Nat) : Int)], undef, undef, undef, undef, undef, undef, undef, undef, undef, undef], defers := [] })
  (fun x => #[.int .u64 ((x.1 : Nat) : Int), .int .i64 ((x.2 : Nat) : Int)]) 197 ?assign ?body ?done ?stop
 case hown =>
  rcases hk with e | e
  · omega
  · have := ownH_lt HH.out e; omega
 case hT =>
  rintro k (hk | hk) (e | e)
  · have := HT1.out k hk; omega
  · exact HAp.out k e hk
  · omega
  · have := ownH_lt HH.out e; omega
 case hT2 =>
  rintro k (hk | hk)
  · have := HT1.out k hk; omega
  · omega
 case hI =>
  rintro pre A B ⟨h1, v', h2, h3, h4⟩ hk
  refine ⟨hk.heap h1 ?_, v', h2.keeps hk ?_ (fun g hg => ?_), h3.trans hk (fun k hk hs => ?_), h4⟩
  · rintro (e | e | e)
    · exact e
    · omega
    · omega
  · rintro (e | e | e)
    · exact e
    · omega
    · omega
  · rintro (e | e | e)
    · exact e
    · rcases h4 g hg with h | h
      · have := HVL.out g h; omega
      · omega
    · rcases h4 g hg with h | h
      · have := HVL.out g h; omega
      · omega
  · rcases hs with e | e | e
    · exact e.elim
    · omega
    · omega
 case h0 =>
  refine ⟨hbox, v0, ?_, hkW _, fun g hg => .inl hg⟩
  have := HW.out.keeps (hkW (fun _ => False)) (fun h => h) (fun _ _ h => h)
  simpa [qav] using this
 case assign =>
  intro lp x W K hK
  simp only [encR]
  gi_wp2
  exact hK
 case body =>
  rintro lp D pre ⟨x, c⟩ W ⟨h1, v', h2, h3, h4⟩ hsp hsz2 hD hDb
  have hmem : (x, c) ∈ runsOf l := hsp.subset (by simp)
  obtain ⟨hxl, hc1, hc2⟩ := runsOf_mem hmem
  simp only at hxl hc1 hc2
  have hx := HX.out x hxl
  have hlp : pre.length ≤ 1000000000 := by have := hsp.length_le; have := runsOf_length l; simp at *; omega
  obtain ⟨m, hm⟩ : ∃ m, c = m + 1 := ⟨c - 1, by omega⟩
  have hc0 : W.cell? ⟨w.heap.size, 0, none⟩ = some (.pointer (some ⟨p, 0, none⟩)) := by rw [cell_of_row _ _ _ _ _ _ h1]; rfl
  have hd0 : W.cell? ⟨D, 0, none⟩ = some (.int .u64 (x : Nat)) := by rw [cell_of_row _ _ _ _ _ _ hD]; rfl
  have hd1 : W.cell? ⟨D, 1, none⟩ = some (.int .i64 (c : Nat)) := by rw [cell_of_row _ _ _ _ _ _ hD]; rfl
  have hb1 : base ≤ W.heap.size := by omega
  have hlen : (bits ++ qav pre).length ≤ 1099511627776 := by rw [List.length_append, qcj]; omega
  have hlen2 : (bits ++ qav pre ++ qaa x 64).length ≤ 1099511627776 := by rw [List.length_append, List.length_append, qcj, qab]; omega
  have hend : bits ++ qav (pre ++ [(x, c)]) = bits ++ qav pre ++ qaa x 64 ++ qaa m 7 := by rw [encRuns_snoc, encRun, hm]; simp
  have hDp : ¬ D = p := by have := HT1.out p (.inl rfl); omega
  have hDv : ∀ (u : Value) (L : List Bool) (V : World), IsW V base p u L → V.heap[D]? = some (.cells #[.int .u64 ((x : Nat) : Int), .int .i64 ((c : Nat) : Int)] 197 (0, 0)) → ¬ foot p u D := fun u L V hV hVD e => by
   rcases e with e | e
   · exact hDp e
   · obtain ⟨c', hc'⟩ := qaj hV.row e
     exact qag hc' hVD (by decide) rfl
  have hbv : ∀ (u : Value), (∀ g, u.ownBlock = some g → v0.ownBlock = some g ∨ w.heap.size + 4 ≤ g) → ¬ foot p u w.heap.size := fun u hu e => by
   rcases e with e | e
   · omega
   · rcases hu _ e with h | h
     · have := HVL.out _ h; omega
     · omega
  have H1 := Hj h1; have H2 := Hj h2; have H3 := Hj h3; have H4 := Hj h4; have HD := Hj hD; have HM := Hj hm; have HE := Hj hend; have HDV := Hj hDv; have HBV := Hj hbv
  have hwc : IntKind.i64.wrap ((c : Int) - 1) = m := by rw [IntWalk.i64_in _ (by omega)]; omega
  have hcm : (c : Int) - 1 = m := by omega
  have hwm : IntKind.u64.wrap (m : Int) = m := wrap_u64 m (by omega)
  have hm7 : m < 128 := by omega
  clear h1 h2 h3 h4 hsp hD hm hend hDv hbv hmem hxl
  gi_wp2
  refine ⟨trivial, rfl, ((callsIn_wide.2 (qbx base p v' _ x 64 W H2.out hx (by omega) hlen hb1)).inRound lp).mono ?_⟩
  rintro e W1 ⟨rfl, v1, i1, k1, n1⟩
  have hq1 := k1.cell hc0 (HBV.out v' H4.out)
  have hq2 := k1.cell hd1 (HDV.out v' _ W H2.out HD.out)
  have HD1 := Hj (k1.heap HD.out (HDV.out v' _ W H2.out HD.out))
  have H11 := Hj (k1.heap H1.out (HBV.out v' H4.out))
  have hn1 : ∀ g, v1.ownBlock = some g → v0.ownBlock = some g ∨ w.heap.size + 4 ≤ g := fun g hg => by
   rcases n1 g hg with h | h
   · exact H4.out g h
   · exact .inr (by omega)
  have K1 : Hid (Keeps (fun k => foot p v0 k ∨ w.heap.size + 4 ≤ k) W W1) := Hj (k1.mono (fun k _ e => by
   rcases e with e | e
   · exact .inl (.inl e)
   · rcases H4.out k e with h | h
     · exact .inl (.inr h)
     · exact .inr h))
  have hb2 : base ≤ W1.heap.size := by have := k1.size; omega
  have hs1 : W.heap.size ≤ W1.heap.size := k1.size
  have I1 := Hj i1; have HN1 := Hj hn1
  clear i1 k1 n1 hn1 hc0 hd0 hd1
  gi_wp2
  refine ⟨trivial, rfl, ((callsIn_wide.2 (qbx base p v1 _ m 7 W1 I1.out (by omega) (by omega) hlen2 hb2)).inRound lp).mono ?_⟩
  rintro e W2 ⟨rfl, v2, i2, k2, n2⟩
  have K2 : Keeps (fun k => foot p v0 k ∨ w.heap.size + 4 ≤ k) W1 W2 := k2.mono (fun k _ e => by
   rcases e with e | e
   · exact .inl (.inl e)
   · rcases HN1.out k e with h | h
     · exact .inl (.inr h)
     · exact .inr h)
  have K12 := K1.out.trans K2 (fun _ _ h => h)
  have hh1 := k2.heap H11.out (HBV.out v1 HN1.out)
  have hn2 : ∀ g, v2.ownBlock = some g → v0.ownBlock = some g ∨ w.heap.size + 4 ≤ g := fun g hg => by
   rcases n2 g hg with h | h
   · exact HN1.out g h
   · exact .inr (by omega)
  rw [← HE.out] at i2
  have hk3 : Keeps (foot p v0) w W2 := H3.out.trans K12 (fun k hk e => e.elim id (fun h => by omega))
  have FI := Hj i2; have F1 := Hj K12; have F2 := Hj hh1; have F3 := Hj hn2; have F4 := Hj hk3
  clear i2 k2 n2 K2 K12 hh1 hn2 hk3 hq1 hq2
  gi_wp2
  exact ⟨F1.out, F2.out, v2, FI.out, F4.out, F3.out⟩
 case done =>
  rintro D xs W rfl ⟨h1, v', h2, h3, h4⟩ hD hK
  have H2 := Hj h2; have H3 := Hj h3; have H4 := Hj h4
  clear h1 h2 h3 h4
  gi_wp2
  refine ⟨by simp, .inl ⟨_, _, rfl, run_takeDeferred hK, ?_⟩⟩
  refine ⟨_, results_tmp rfl _ _ _, ⟨rfl, v', ?_, ?_, fun g hg => ?_⟩⟩
  · have hp : Keeps (fun k => k = D) W (W.putObj D (.deferred none)) := Keeps.putObj _ _ _ rfl
    refine H2.out.keeps hp (by omega) (fun g hg e => ?_)
    obtain ⟨c', hc'⟩ := qaj H2.out.row hg
    subst e
    rw [hK] at hc'
    cases hc'
  · exact H3.out.trans (Keeps.putObj (S := fun k => k = D) _ _ _ rfl) (fun k hk e => by omega)
  · rcases H4.out g hg with h | h
    · exact .inl h
    · exact .inr (by omega)
 case stop => rintro D c pre W _ h; exact h.elim
end
section
set_option maxHeartbeats 1000000
set_option maxRecDepth 100000
open Go.RowKit
def HoldsP (w : World) (v : Value) (fs : List (Nat × Int)) : Prop :=
 ∃ a cap, v = .slice a fs.length cap ∧ (fs = [] ∨ ∃ b off, a = some ⟨b, off, none⟩ ∧
  ∀ i X N, fs[i]? = some (X, N) → w.cell? ⟨b, off + i * 2, none⟩ = some (.int .u64 (X : Nat)) ∧ w.cell? ⟨b, off + i * 2 + 1, none⟩ = some (.int .i64 N))
def intRuns (rs : List (Nat × Nat)) : List (Nat × Int) := rs.map fun p => (p.1, (p.2 : Int))
theorem intRuns_length (rs : List (Nat × Nat)) : (intRuns rs).length = rs.length := by simp [intRuns]
theorem runCells_get (rs : List (Nat × Nat)) (i : Nat) (p : Nat × Nat) (h : rs[i]? = some p) : (qcp rs)[i * 2]? = some (.int .u64 ((p.1 : Nat) : Int)) ∧ (qcp rs)[i * 2 + 1]? = some (.int .i64 ((p.2 : Nat) : Int)) := by
 induction rs generalizing i with
 | nil => simp at h
 | cons q rs ih =>
   cases i with
   | zero => simp only [List.getElem?_cons_zero, Option.some.injEq] at h; subst h; simp [qcp]
   | succ i =>
     simp only [List.getElem?_cons_succ] at h
     have := ih i h
     have e1 : (i + 1) * 2 = i * 2 + 2 := by omega
     simpa [qcp, e1] using this
theorem holdsP_row {w : World} {base : Nat} {v : Value} {rs : List (Nat × Nat)} (h : w.ownsRow base 197 2 v rs.length (qcp rs)) : HoldsP w v (intRuns rs) := by
 rcases h.2 with ⟨rfl, h0⟩ | ⟨g, cap, cur, rfl, hb, hgg, hcap, _, hcs, htk⟩
 · have : rs = [] := List.eq_nil_of_length_eq_zero h0
   subst this
   exact ⟨none, 0, rfl, .inl rfl⟩
 · refine ⟨some ⟨g, 0, none⟩, cap, by rw [intRuns_length], .inr ⟨g, 0, rfl, fun i X N hi => ?_⟩⟩
   simp only [intRuns, List.getElem?_map, Option.map_eq_some_iff] at hi
   obtain ⟨p, hp, hpe⟩ := hi
   simp only [Prod.mk.injEq] at hpe
   obtain ⟨rfl, rfl⟩ := hpe
   obtain ⟨c1, c2⟩ := runCells_get rs i p hp
   rw [Nat.zero_add]
   exact ⟨take_cell hgg htk c1, take_cell hgg htk c2⟩
def joinI (fs : List (Nat × Int)) : List Nat := fs.flatMap fun p => if p.2 ≤ 128 then List.replicate p.2.toNat p.1 else []
theorem joinI_snoc (fs : List (Nat × Int)) (p : Nat × Int) : joinI (fs ++ [p]) = joinI fs ++ (if p.2 ≤ 128 then List.replicate p.2.toNat p.1 else []) := by simp [joinI]
theorem joinI_length (fs : List (Nat × Int)) : (joinI fs).length ≤ 128 * fs.length := by
 induction fs with
 | nil => simp [joinI]
 | cons p fs ih =>
   simp only [joinI, List.flatMap_cons, List.length_append, List.length_cons] at ih ⊢
   split
   · simp only [List.length_replicate]; omega
   · simp only [List.length_nil]; omega
theorem joinI_intRuns (rs : List (Nat × Nat)) (h : ∀ p ∈ rs, p.2 ≤ 128) : joinI (intRuns rs) = joinOf rs := by
 induction rs with
 | nil => rfl
 | cons p rs ih =>
   have := h p (by simp)
   simp only [joinI, intRuns, joinOf, List.map_cons, List.flatMap_cons] at ih ⊢
   rw [if_pos (by omega), ih (fun q hq => h q (by simp [hq]))]
   simp
theorem take_snoc_pair {fs : List (Nat × Int)} {k : Nat} {f : Nat × Int} (h : fs[k]? = some f) : fs.take (k + 1) = fs.take k ++ [f] := by
 rw [List.take_add_one, h]; rfl
theorem join_any (v : Value) (fs : List (Nat × Int)) (w : World) (h : HoldsP w v fs) (hl : fs.length ≤ 1000000000) :
 Calls Tryz.prog 104 #[v] w fun e w' => ∃ v', e = .returned v' ∧ w'.ownsRow w.heap.size 23 1 v' (joinI fs).length (u64s (joinI fs)) ∧ Keeps (fun _ => False) w w' := by
 obtain ⟨i0, hi, hz0, hz1, hz2⟩ := info_parts infoU64
 have HH := Hj h
 obtain ⟨ad, cap, rfl, hcells⟩ := h
 have HC := Hj hcells
 clear hcells
 go_enter Tryz.func104, Tryz.ntmps104
 go_wp2
 go_loopw [3, 8] (fun o c wr => ∃ (k : Nat) (v1 : Value), k ≤ fs.length ∧ o = v1 ∧ c = .int .i64 k ∧ wr.ownsRow w.heap.size 23 1 v1 (joinI (fs.take k)).length (u64s (joinI (fs.take k))) ∧ Keeps (fun _ => False) w wr) (fun _ c wr => fs.length - (intOf c).toNat)
 case atStart => exact ⟨0, _, by omega, rfl, rfl, World.ownsRow_nil _ _ _ _, Keeps.refl _ _⟩
 case round =>
  obtain ⟨k, v1, hk, rfl, rfl, hrow, hkw⟩ := hrel
  by_cases hlt : k < fs.length
  · obtain ⟨⟨X, N⟩, hfk⟩ : ∃ f, fs[k]? = some f := ⟨fs[k], by simp [hlt]⟩
    obtain ⟨b, off, rfl, hc1, hc2⟩ : ∃ b off, ad = some ⟨b, off, none⟩ ∧ wr.cell? ⟨b, off + k * 2, none⟩ = some (.int .u64 (X : Nat)) ∧ wr.cell? ⟨b, off + k * 2 + 1, none⟩ = some (.int .i64 N) := by
     rcases HC.out with h0 | ⟨b, off, h1, h3⟩
     · simp [h0] at hlt
     · obtain ⟨c1, c2⟩ := h3 k X N hfk
       exact ⟨b, off, h1, hkw.cell c1 (fun h => h), hkw.cell c2 (fun h => h)⟩
    have hacc : joinI (fs.take (k + 1)) = joinI (fs.take k) ++ (if N ≤ 128 then List.replicate N.toNat X else []) := by rw [take_snoc_pair hfk, joinI_snoc]
    have hle := joinI_length (fs.take k)
    have htk : (fs.take k).length ≤ 1000000000 := Nat.le_trans (List.length_take_le _ _) (by omega)
    generalize joinI (fs.take k) = acc at *
    have Hacc := Hj hacc; have Hfk := Hj hfk; have Hrow := Hj hrow; have Hkw := Hj hkw
    clear hacc hfk hrow hkw
    by_cases hN : N ≤ 128
    · rw [if_pos hN] at Hacc
      obtain ⟨wd, hwd⟩ : ∃ wd, wd = wr.alloc (.cells #[.int .u64 (X : Nat), .int .i64 N] 197) := ⟨_, rfl⟩
      have hD : wd.heap[wr.heap.size]? = some (.cells #[.int .u64 (X : Nat), .int .i64 N] 197 (0, 0)) := by rw [hwd]; exact heap_alloc_new _ _
      have hkd : ∀ S, Keeps S wr wd := fun S => by rw [hwd]; exact (Keeps.refl S wr).alloc _
      have hkw2 : Keeps (fun _ => False) w wd := Hkw.out.trans (hkd (fun _ => False)) (fun _ _ h => h)
      have hrow2 := (hkd (fun _ => False)).row Hrow.out (fun _ _ h => h)
      have hN' : ¬ 128 < N := by omega
      have hws : w.heap.size ≤ wr.heap.size := Hkw.out.size
      have HD := Hj hD; have HWD := Hj hwd; have HKW2 := Hj hkw2; have HROW2 := Hj hrow2
      clear hD hwd hkw2 hrow2 hkd
      go_wp2
      rw [← HWD.out]
      obtain ⟨D, hDe⟩ : ∃ D, D = wr.heap.size := ⟨_, rfl⟩
      rw [← hDe] at HD ⊢
      have HDe := Hj hDe
      clear hDe hc1 hc2
      go_loopw [3, 17] (fun o c wq => ∃ (j : Nat) (v2 : Value), j ≤ N.toNat ∧ o = v2 ∧ c = .int .i64 j ∧ wq.ownsRow w.heap.size 23 1 v2 (acc ++ List.replicate j X).length (u64s (acc ++ List.replicate j X)) ∧ Keeps (fun _ => False) w wq ∧ wq.heap[D]? = some (.cells #[.int .u64 (X : Nat), .int .i64 N] 197 (0, 0))) (fun _ c wq => N.toNat - (intOf c).toNat)
      case atStart => exact ⟨0, _, by omega, rfl, rfl, by simpa using HROW2.out, HKW2.out, HD.out⟩
      case round =>
       obtain ⟨j, v2, hj, rfl, rfl, hrow, hkq, hDq⟩ := hrel
       by_cases hjn : j < N.toNat
       · have hjN : (j : Int) < N := by omega
         have hd0 : wr.cell? ⟨D, 0, none⟩ = some (.int .u64 (X : Nat)) := by rw [cell_of_row _ _ _ _ _ _ hDq]; rfl
         have hlen : (acc ++ List.replicate j X).length ≤ 128000000128 := by rw [List.length_append, List.length_replicate]; omega
         have hb1 : w.heap.size ≤ wr.heap.size := hkq.size
         have hrep : acc ++ List.replicate (j + 1) X = (acc ++ List.replicate j X) ++ [X] := by rw [List.replicate_succ', List.append_assoc]
         generalize acc ++ List.replicate j X = cur at *
         obtain ⟨ad2, cap2, rfl⟩ := qaf hrow
         have HR := Hj hrow; have HKQ := Hj hkq; have HDQ := Hj hDq; have HREP := Hj hrep
         clear hkq hDq hrep
         go_wp2_with (at_builtin; refine qbe _ rfl _ _ 55 rfl w.heap.size 23 i0 (.int .u64 0) 1 8 Tryz.underlying55 hi hz0 hz1 hz2 rfl (by decide) _ _ _ rfl (hrow.alloc _) ⟨wr.heap.size, 0, none⟩ 1 1 [.int .u64 (X : Nat)] rfl rfl ?c1 ?c2 ?c3 ?c4 ?c5 ?_)
         case c1 => exact cell_one_new _ _ _
         case c2 => simp [Value.oneCell']
         case c3 => unfold maxLen; omega
         case c4 => omega
         case c5 => simp; omega
         intro v' w1 hown' hgrow hnew
         have k1 : Keeps (own (.slice ad2 cur.length cap2)) wr w1 := ((Keeps.refl (own _) wr).alloc _).grown hgrow (fun k _ e => e)
         have hkw1 : Keeps (fun _ => False) w w1 := HKQ.out.trans k1 (fun k hk e => by have := (HR.out.lt k e).1; omega)
         have hD1 := k1.heap HDQ.out (fun e => by
          obtain ⟨c', hc'⟩ := qaj HR.out e
          exact qag hc' HDQ.out (by decide) rfl)
         have F1 := Hj hkw1; have F2 := Hj hD1; have F3 := Hj hown'
         clear hkw1 hD1 hown' hgrow hnew k1 hrow hd0
         go_wp2
         refine ⟨⟨j + 1, v', by omega, rfl, by go_num, ?_, F1.out, F2.out⟩, by simp [intOf]; omega⟩
         rw [HREP.out]
         have := F3.out
         simpa [u64s] using this
       · have hjN : ¬ (j : Int) < N := by omega
         have ej : j = N.toNat := by omega
         rw [ej] at hrow
         rw [← Hacc.out] at hrow
         have HR := Hj hrow; have HKQ := Hj hkq
         clear hrow hkq hDq
         go_wp2
         exact ⟨⟨k + 1, _, by omega, rfl, by go_num, HR.out, HKQ.out⟩, by simp [intOf]; omega⟩
    · rw [if_neg hN, List.append_nil] at Hacc
      have hN' : 128 < N := by omega
      go_wp2
      exact ⟨⟨k + 1, _, by omega, rfl, by go_num, by rw [Hacc.out]; exact Hrow.out.alloc _, Hkw.out.alloc _⟩, by simp [intOf]; omega⟩
  · obtain rfl : k = fs.length := by omega
    rw [List.take_length] at hrow
    go_wp2
    go_ret
    exact ⟨_, rfl, hrow, hkw⟩
end
section
open Go.RowKit
end
section
set_option maxHeartbeats 2000000
set_option maxRecDepth 100000
open Go.RowKit
def chkO (l : List Nat) : Bool := decide (4 ≤ l.length ∧ l.drop (l.length - 4) = le4 (crcO (l.take (l.length - 4))))
theorem four_eq {r : List Nat} (h : r.length = 4) {a b c d : Nat} (h0 : r[0]? = some a) (h1 : r[1]? = some b) (h2 : r[2]? = some c) (h3 : r[3]? = some d) : r = [a, b, c, d] := by
 match r, h with
 | [x, y, z, t], _ => simp at h0 h1 h2 h3; rw [h0, h1, h2, h3]
theorem crck_any (v : Value) (l : List Nat) (w : World) (h : Holds w v (u8s l)) (hb : ∀ c ∈ l, c < 256) (hl : l.length ≤ 140737488351232) (hT : TabC w) :
 Calls Tryz.prog 92 #[v] w fun e w' => e = .returned (.bool (chkO l)) ∧ w' = w := by
 obtain ⟨i0, hi, hz0, hz1, hz2⟩ := info_parts infoU8
 obtain ⟨ad, cp, hv, _, _⟩ := id h
 rw [qac] at hv
 subst hv
 by_cases h4 : l.length < 4
 · have hm : (l.length : Int) - 4 < 0 := by omega
   have HE : Hid (chkO l = false) := Hj (by unfold chkO; simp; omega)
   clear h hb hT
   go_enter Tryz.func92, Tryz.ntmps92
   go_wp2
   go_ret
   exact ⟨by rw [HE.out]; rfl, rfl⟩
 · obtain ⟨m, hm⟩ : ∃ m, l.length = m + 4 := ⟨l.length - 4, by omega⟩
   have em : (l.length : Int) - 4 = (m : Int) := by omega
   have hm0 : ¬ (m : Int) < 0 := by omega
   obtain ⟨a1, c1, hs1, hh1⟩ := run_to_all (P := Tryz.prog) w 29 5 Tryz.underlying29 hi hz1 h .i64 m (by rw [qac]; omega)
   obtain ⟨a2, c2, hs2, hh2, _⟩ := run_from (P := Tryz.prog) (w := w) 29 5 Tryz.underlying29 hi hz1 h .i64 m (by rw [qac]; omega)
   rw [show (u8s l).take m = u8s (l.take m) by simp [u8s]] at hh1
   rw [show (u8s l).drop m = u8s (l.drop m) by simp [u8s]] at hh2
   rw [qac, show l.length - m = 4 by omega] at hs2 hh2
   have hs1' := hs1 w
   have hbt : ∀ c ∈ l.take m, c < 256 := fun c hc => hb c (List.mem_of_mem_take hc)
   have HS := Hj (crcs_any (.slice a1 m c1) (l.take m) w hh1 hbt (by rw [List.length_take]; omega) hT)
   have HK : Hid (chkO l = decide (l.drop m = le4 (crcO (l.take m)))) := Hj (by
    unfold chkO
    rw [show l.length - 4 = m by omega]
    simp only [show 4 ≤ l.length by omega, true_and])
   have hdl : (l.drop m).length = 4 := by rw [List.length_drop]; omega
   generalize l.drop m = r at *
   generalize crcO (l.take m) = s at *
   have hx : ∀ k, k < 4 → ∃ c, r[k]? = some c := fun k hk => ⟨r[k]'(by omega), by simp⟩
   obtain ⟨x0, hx0⟩ := hx 0 (by omega)
   obtain ⟨x1, hx1⟩ := hx 1 (by omega)
   obtain ⟨x2, hx2⟩ := hx 2 (by omega)
   obtain ⟨x3, hx3⟩ := hx 3 (by omega)
   have hr := four_eq hdl hx0 hx1 hx2 hx3
   obtain ⟨b, off, rfl, g0⟩ := u8_cell hh2 hx0
   obtain ⟨b', off', e', g1⟩ := u8_cell hh2 hx1
   simp only [Option.some.injEq, Addr.mk.injEq, and_true] at e'
   obtain ⟨rfl, rfl⟩ := e'
   obtain ⟨b', off', e', g2⟩ := u8_cell hh2 hx2
   simp only [Option.some.injEq, Addr.mk.injEq, and_true] at e'
   obtain ⟨rfl, rfl⟩ := e'
   obtain ⟨b', off', e', g3⟩ := u8_cell hh2 hx3
   simp only [Option.some.injEq, Addr.mk.injEq, and_true] at e'
   obtain ⟨rfl, rfl⟩ := e'
   obtain ⟨b0, hb0⟩ : ∃ b, b = leB s 0 := ⟨_, rfl⟩
   obtain ⟨b1, hb1⟩ : ∃ b, b = leB s 1 := ⟨_, rfl⟩
   obtain ⟨b2, hb2⟩ : ∃ b, b = leB s 2 := ⟨_, rfl⟩
   obtain ⟨b3, hb3⟩ : ∃ b, b = leB s 3 := ⟨_, rfl⟩
   have HKK : Hid (chkO l = decide (x0 = b0 ∧ x1 = b1 ∧ x2 = b2 ∧ x3 = b3)) := Hj (by
    rw [HK.out, hr]; unfold le4; rw [← hb0, ← hb1, ← hb2, ← hb3]; simp)
   have e0 : IntKind.u8.wrap (s : Int) = (b0 : Int) := by rw [IntKind.wrap_u8, hb0]; unfold leB; simp
   have e1 : IntKind.u8.wrap ((s : Int) / 256) = (b1 : Int) := by rw [IntKind.wrap_u8, hb1]; unfold leB; simp
   have e2 : IntKind.u8.wrap ((s : Int) / 65536) = (b2 : Int) := by rw [IntKind.wrap_u8, hb2]; unfold leB; simp
   have e3 : IntKind.u8.wrap ((s : Int) / 16777216) = (b3 : Int) := by rw [IntKind.wrap_u8, hb3]; unfold leB; simp
   have hmb : (m : Int) ≤ 140737488351232 := by omega
   clear h hb hT hs1 hh1 hh2 hbt HK hdl hx hx0 hx1 hx2 hx3 hr hb0 hb1 hb2 hb3 h4 hm
   go_enter Tryz.func92, Tryz.ntmps92
   go_wp2_with (go_at_call 131; refine HS.out.mono ?_; rintro e w' ⟨rfl, rfl⟩)
   rw [Nat.add_zero] at g0
   have G0 := Hj g0; have G1 := Hj g1; have G2 := Hj g2; have G3 := Hj g3
   clear g0 g1 g2 g3
   go_loopw [20] (fun c wr => ∃ i : Nat, c = .int .i64 (i : Int) ∧ i ≤ 4 ∧ (0 < i → x0 = b0) ∧ (1 < i → x1 = b1) ∧ (2 < i → x2 = b2) ∧ (3 < i → x3 = b3) ∧ Hid (wr = w')) (fun c _ => 4 - (intOf c).toNat)
   case atStart => exact ⟨0, rfl, by omega, by omega, by omega, by omega, by omega, Hj rfl⟩
   case round =>
    obtain ⟨i, rfl, hi4, hk0, hk1, hk2, hk3, HW⟩ := hrel
    have g0 := G0.out; have g1 := G1.out; have g2 := G2.out; have g3 := G3.out
    rw [← HW.out] at g0 g1 g2 g3
    rcases (by omega : i = 0 ∨ i = 1 ∨ i = 2 ∨ i = 3 ∨ i = 4) with rfl | rfl | rfl | rfl | rfl
    · by_cases hx : x0 = b0
      · have hxi : (x0 : Int) = (b0 : Int) := by rw [hx]
        have HX := Hj hx
        clear hx
        go_wp2
        exact ⟨⟨1, rfl, by omega, fun _ => HX.out, by omega, by omega, by omega, HW⟩, by simp [intOf]⟩
      · have hxi : ¬ (x0 : Int) = (b0 : Int) := by omega
        have HE : Hid (chkO l = false) := Hj (by rw [HKK.out]; simp [hx])
        clear hx
        go_wp2
        go_ret
        exact ⟨by rw [HE.out]; rfl, HW.out⟩
    · by_cases hx : x1 = b1
      · have hxi : (x1 : Int) = (b1 : Int) := by rw [hx]
        have HX := Hj hx
        clear hx
        go_wp2
        exact ⟨⟨2, rfl, by omega, fun _ => hk0 (by omega), fun _ => HX.out, by omega, by omega, HW⟩, by simp [intOf]⟩
      · have hxi : ¬ (x1 : Int) = (b1 : Int) := by omega
        have HE : Hid (chkO l = false) := Hj (by rw [HKK.out]; simp [hx])
        clear hx
        go_wp2
        go_ret
        exact ⟨by rw [HE.out]; rfl, HW.out⟩
    · by_cases hx : x2 = b2
      · have hxi : (x2 : Int) = (b2 : Int) := by rw [hx]
        have HX := Hj hx
        clear hx
        go_wp2
        exact ⟨⟨3, rfl, by omega, fun _ => hk0 (by omega), fun _ => hk1 (by omega), fun _ => HX.out, by omega, HW⟩, by simp [intOf]⟩
      · have hxi : ¬ (x2 : Int) = (b2 : Int) := by omega
        have HE : Hid (chkO l = false) := Hj (by rw [HKK.out]; simp [hx])
        clear hx
        go_wp2
        go_ret
        exact ⟨by rw [HE.out]; rfl, HW.out⟩
    · by_cases hx : x3 = b3
      · have hxi : (x3 : Int) = (b3 : Int) := by rw [hx]
        have HX := Hj hx
        clear hx
        go_wp2
        exact ⟨⟨4, rfl, by omega, fun _ => hk0 (by omega), fun _ => hk1 (by omega), fun _ => hk2 (by omega), fun _ => HX.out, HW⟩, by simp [intOf]⟩
      · have hxi : ¬ (x3 : Int) = (b3 : Int) := by omega
        have HE : Hid (chkO l = false) := Hj (by rw [HKK.out]; simp [hx])
        clear hx
        go_wp2
        go_ret
        exact ⟨by rw [HE.out]; rfl, HW.out⟩
    · have HE : Hid (chkO l = true) := Hj (by rw [HKK.out]; simp [hk0 (by omega), hk1 (by omega), hk2 (by omega), hk3 (by omega)])
      clear hk0 hk1 hk2 hk3
      go_wp2
      go_ret
      exact ⟨by rw [HE.out]; rfl, HW.out⟩
end
section
set_option maxHeartbeats 2000000
set_option maxRecDepth 100000
open Go.RowKit
def strN (l : List Nat) : ByteArray := ⟨(l.map UInt8.ofNat).toArray⟩
def bytesN (s : ByteArray) : List Nat := s.data.toList.map (·.toNat)
theorem bytesN_length (s : ByteArray) : (bytesN s).length = s.size := by unfold bytesN; rw [List.length_map, Array.length_toList]; rfl
theorem strN_size (l : List Nat) : (strN l).size = l.length := by simp [strN, ByteArray.size]
theorem bytesN_strN (l : List Nat) (hb : ∀ c ∈ l, c < 256) : bytesN (strN l) = l := by
 unfold bytesN strN
 simp only [List.map_map]
 refine (List.map_congr_left (fun c hc => ?_)).trans (List.map_id l)
 have := hb c hc
 simp
 omega
theorem strCells_N (s : ByteArray) : Lib.strCells s = u8s (bytesN s) := by
 unfold u8s bytesN
 rw [List.map_map]
 rfl
theorem qdo {w : World} {v : Value} {l : List Nat} (h : Holds w v (u8s l)) : (convert 29 9 v).run Tryz.prog w = .ok (.string (strN l)) w := by
 obtain ⟨ad, cap, rfl, _, h⟩ := h
 rw [qac]
 by_cases hl : l = []
 · subst hl
   cases ad with
   | none => exact run_convert_bytes_nil w 29 5 Tryz.underlying29 Tryz.underlying5 _ _ 9 Tryz.underlying9
   | some a =>
     rw [run_convert_bytes_string w 29 9 5 _ _ _ Tryz.underlying29 Tryz.underlying5 Tryz.underlying9]
     have := run_bytesToString (P := Tryz.prog) w a 0 cap [] (by rfl)
     exact this
 · rcases h with h | ⟨b, off, rfl, hc⟩
   · exact absurd (by simpa [u8s] using h) hl
   · have := run_convert_bytes_arg (P := Tryz.prog) w 29 5 Tryz.underlying29 Tryz.underlying5 b off l.length cap (l.map fun c => ((c : Nat) : Int)) (by simp) (fun i hi => by
      rw [hc i (.int .u8 ((l[i] : Nat) : Int)) (by simp [u8s, hi])]
      simp [hi, List.getD_eq_getElem?_getD]) 9 Tryz.underlying9
     rw [this]
     simp [strOfNums, strN]
def lenB (l : List Nat) : List Nat := venc l.length ++ l
theorem appb_any (base : Nat) (v : Value) (l : List Nat) (s : ByteArray) (w : World) (h : w.ownsRow base 5 1 v (u8s l).length (u8s l)) (hl : l.length ≤ 1000000000) (hs : s.size ≤ 1000000000) (hb0 : base ≤ w.heap.size) :
 Calls Tryz.prog 126 #[v, .string s] w fun e w' => ∃ v', e = .returned v' ∧ w'.ownsRow base 5 1 v' (l ++ lenB (bytesN s)).length (u8s (l ++ lenB (bytesN s))) ∧ Keeps (fun k => base ≤ k) w w' := by
 obtain ⟨i0, hi, hz0, hz1, hz2⟩ := info_parts infoU8
 have HV := Hj (qcf base v l s.size w h (by omega) (by omega) hb0)
 have hvl : (venc s.size).length ≤ 10 := qdj 9 s.size
 have HS := Hj (strCells_N s)
 have HE : Hid (l ++ lenB (bytesN s) = l ++ venc s.size ++ bytesN s) := Hj (by unfold lenB; rw [bytesN_length, List.append_assoc])
 have HB0 := Hj hb0
 have HOWN := Hj h
 clear h hb0
 go_enter Tryz.func126, Tryz.ntmps126
 go_wp2_with (first
  | (go_at_call 125; refine HV.out.mono ?_; rintro e w1 ⟨v1, rfl, hr⟩; have HR := Hj hr; clear hr)
  | (at_builtin; refine Lib.wpList_append_own_string _ rfl _ _ 29 9 rfl base 5 i0 Tryz.underlying29 Tryz.underlying9 hi hz0 hz1 hz2 _ _ (u8s (l ++ venc s.size)) rfl HR.out.row s rfl (by rw [qac, List.length_append]; unfold maxLen; omega) (by rw [qac, List.length_append]; omega) (Nat.le_trans HB0.out HR.out.keeps.size) ?_; intro v2 w2 h2 hg2 hn2))
 go_ret
 refine ⟨v2, rfl, ?_, ?_⟩
 · rw [HE.out]
   rw [HS.out] at h2
   simpa [u8s, bytesN_length, Nat.add_assoc] using h2
 · exact (HR.out.keeps.mono (S' := fun k => base ≤ k) (fun k _ e => (HOWN.out.lt k e).1)).grown hg2 (fun k _ e => (HR.out.row.lt k e).1)
def frameO (id : Nat) (data : List Nat) : List Nat := id :: lenB data
def secO (id : Nat) (data : List Nat) : List Nat := crcApp (frameO id data)
theorem lenB_lt (l : List Nat) (hb : ∀ c ∈ l, c < 256) (hl : l.length ≤ 1000000000) : ∀ c ∈ lenB l, c < 256 := by
 intro c hc
 rcases List.mem_append.1 hc with h | h
 · exact venc_lt _ (by omega) c h
 · exact hb c h
theorem frameO_lt (id : Nat) (l : List Nat) (hid : id < 256) (hb : ∀ c ∈ l, c < 256) (hl : l.length ≤ 1000000000) : ∀ c ∈ frameO id l, c < 256 := by
 intro c hc
 rcases List.mem_cons.1 hc with h | h
 · omega
 · exact lenB_lt l hb hl c h
theorem lenB_length (l : List Nat) : (lenB l).length ≤ l.length + 10 := by
 unfold lenB; rw [List.length_append]
 have : (venc l.length).length ≤ 10 := qdj 9 _
 omega
theorem qcl (id : Nat) (l : List Nat) : (secO id l).length ≤ l.length + 15 := by
 unfold secO; rw [crcApp_length]; unfold frameO; rw [List.length_cons]; have := lenB_length l; omega
theorem crcApp_lt (l : List Nat) (hb : ∀ c ∈ l, c < 256) : ∀ c ∈ crcApp l, c < 256 := by
 intro c hc
 rcases List.mem_append.1 hc with h | h
 · exact hb c h
 · exact le4_lt _ c h
theorem secO_lt (id : Nat) (l : List Nat) (hid : id < 256) (hb : ∀ c ∈ l, c < 256) (hl : l.length ≤ 1000000000) : ∀ c ∈ secO id l, c < 256 := crcApp_lt _ (frameO_lt id l hid hb hl)
theorem appsec_any (base : Nat) (v vd : Value) (l data : List Nat) (id : Nat) (w : World) (h : w.ownsRow base 5 1 v (u8s l).length (u8s l)) (hl : l.length ≤ 1000000000) (hd : Holds w vd (u8s data)) (hdb : ∀ c ∈ data, c < 256) (hdl : data.length ≤ 1000000000) (hid : id < 256) (hb0 : base ≤ w.heap.size) (hT : TabC w) (hTb : 1 < base) :
 Calls Tryz.prog 69 #[v, .agg #[.int .u8 (id : Int), vd]] w fun e w' => ∃ v', e = .returned v' ∧ RowTo 5 base v w v' (u8s (l ++ secO id data)) w' := by
 obtain ⟨i0, hi, hz0, hz1, hz2⟩ := info_parts infoU8
 have hlt := frameO_lt id data hid hdb hdl
 have hln := lenB_length data
 have hbn := bytesN_strN data hdb
 have hss := strN_size data
 obtain ⟨W1, hW1⟩ : ∃ W1, W1 = (w.alloc (.cells #[.int .u8 (id : Int), vd] 142)).alloc (.cells #[.int .u8 (id : Int)] 5) := ⟨_, rfl⟩
 have hk1 : Keeps (fun _ => False) w W1 := by rw [hW1]; exact ((Keeps.refl _ w).alloc _).alloc _
 have hs1 : W1.heap.size = w.heap.size + 2 := by rw [hW1]; simp
 have hc1 : W1.heap[w.heap.size]? = some (.cells #[.int .u8 (id : Int), vd] 142 (0, 0)) := by
  rw [hW1]; exact (Below.heap_alloc _ _ _ (by simp)).trans (heap_alloc_new w _)
 have hv1 : W1.cell? ⟨w.heap.size, 1, none⟩ = some vd := by rw [cell_of_row _ _ _ _ _ _ hc1]; rfl
 have hrow1 : W1.ownsRow (w.heap.size + 1) 5 1 (.slice (some ⟨w.heap.size + 1, 0, none⟩) 1 1) (u8s [id]).length (u8s [id]) := by
  refine ⟨rfl, .inr ⟨w.heap.size + 1, 1, #[.int .u8 (id : Int)], rfl, Nat.le_refl _, ?_, Nat.le_refl _, by unfold maxLen; omega, rfl, rfl⟩⟩
  rw [hW1]
  have := heap_alloc_new (w.alloc (.cells #[.int .u8 (id : Int), vd] 142)) (.cells #[.int .u8 (id : Int)] 5)
  rwa [show (w.alloc (.cells #[.int .u8 (id : Int), vd] 142)).heap.size = w.heap.size + 1 by simp] at this
 have hconv := qdo (hd.keeps hk1 (fun _ _ e => e))
 have HAB := Hj (appb_any (w.heap.size + 1) _ [id] (strN data) W1 hrow1 (by simp) (by rw [hss]; exact hdl) (by omega))
 rw [hbn] at HAB
 have HF : Hid ([id] ++ lenB data = frameO id data) := Hj rfl
 rw [HF.out] at HAB
 have HCR : Hid (∀ (wq : World) (vq : Value), Keeps (fun k => w.heap.size + 1 ≤ k) W1 wq → wq.ownsRow (w.heap.size + 1) 5 1 vq (frameO id data).length (u8s (frameO id data)) → Calls Tryz.prog 71 #[vq] wq fun e w' => ∃ v', e = .returned v' ∧ w'.ownsRow wq.heap.size 5 1 v' (secO id data).length (u8s (secO id data)) ∧ Keeps (fun _ => False) wq w') := Hj (fun wq vq hk hr =>
  crca_any vq (frameO id data) wq (qaq (show wq.ownsRow (w.heap.size + 1) 5 1 vq (u8s (frameO id data)).length (u8s (frameO id data)) by rw [qac]; exact hr)) hlt (by unfold frameO; rw [List.length_cons]; omega) ((hT.keeps hk1 (fun e => e)).keeps hk (fun e => by omega)))
 have HH := Hj h; have HK1 := Hj hk1; have HS1 := Hj hs1; have HB0 := Hj hb0; have HW1 := Hj hW1
 have HSL := Hj (qcl id data)
 rw [hW1] at hconv
 clear h hd hT hk1 hc1 hrow1 hlt hbn hss hs1 hb0 hln hv1 hW1
 go_enter Tryz.func69, Tryz.ntmps69
 go_wp2_with (first
  | (go_at_call 126; rw [← HW1.out]; refine HAB.out.mono ?_; rintro e w2 ⟨v2, rfl, h2, hk2⟩; have H2 := Hj h2; have HK2 := Hj hk2; clear h2 hk2)
  | (go_at_call 71; refine (HCR.out _ _ HK2.out H2.out).mono ?_; rintro e w3 ⟨v3, rfl, h3, hk3⟩; have HH3 := Hj (qaq (show w3.ownsRow w2.heap.size 5 1 v3 (u8s (secO id data)).length (u8s (secO id data)) by rw [qac]; exact h3))
     have hkk : Keeps (fun k => w.heap.size + 1 ≤ k) W1 w3 := HK2.out.trans hk3 (fun _ _ e => e.elim)
     have HHV := Hj ((HK1.out.row HH.out (fun _ _ e => e)))
     have hkw : Keeps (fun _ => False) w w3 := HK1.out.trans hkk (fun k hk e => by omega)
     have HKW := Hj hkw
     have HHW := Hj (hkw.row HH.out (fun _ _ e => e))
     clear h3 hk3 hkk hkw)
  | (at_builtin; refine qax _ rfl _ _ 29 rfl base 5 i0 (.int .u8 0) 1 Tryz.underlying29 hi hz0 hz1 hz2 rfl _ _ (u8s l) (u8s (secO id data)) rfl rfl HHW.out HH3.out (u8s_one _) (by rw [qac, qac]; have := HSL.out; unfold maxLen; omega) (by rw [qac, qac]; have := HSL.out; omega) (Nat.le_trans HB0.out HKW.out.size) ?_; intro v4 w4 hr4))
 go_ret
 refine ⟨v4, rfl, ⟨by have := hr4.row; simpa [u8s] using this, ?_, fun g hg => (hr4.new g hg).imp (fun e => e) (fun e => Nat.le_trans HKW.out.size e)⟩⟩
 exact (HKW.out.mono (S' := own v) (fun _ _ e => e.elim)).trans hr4.keeps (fun k hk e => e)
end
section
set_option maxHeartbeats 1000000
set_option maxRecDepth 100000
open Go.RowKit
structure IsRd (w : World) (p : Nat) (v : Value) (l : List Nat) (i : Nat) (e : Nat) : Prop where
 blk : w.heap[p]? = some (.cells #[v, .int .i64 (i : Int), .int .i64 (e : Int)] 261 (0, 0))
 row : w.ownsRow 0 5 1 v l.length (u8s l)
 bytes : ∀ c ∈ l, c < 256
 len : l.length ≤ 1000000000000
 le : i ≤ l.length
theorem IsRd.keeps {S : Nat → Prop} {a b : World} {p : Nat} {v : Value} {l : List Nat} {i e : Nat} (h : IsRd a p v l i e) (k : Keeps S a b) (hp : ¬ S p) (hv : ∀ g, v.ownBlock = some g → ¬ S g) : IsRd b p v l i e :=
 ⟨k.heap h.blk hp, k.row h.row hv, h.bytes, h.len, h.le⟩
theorem IsRd.keep {a b : World} {p : Nat} {v : Value} {l : List Nat} {i e : Nat} (h : IsRd a p v l i e) (k : Keeps (fun _ => False) a b) : IsRd b p v l i e := h.keeps k (fun e => e) (fun _ _ e => e)
theorem IsRd.lt {a : World} {p : Nat} {v : Value} {l : List Nat} {i e : Nat} (h : IsRd a p v l i e) : p < a.heap.size := (Array.getElem?_eq_some_iff.1 h.blk).1
theorem IsRd.c0 {a : World} {p : Nat} {v : Value} {l : List Nat} {i e : Nat} (h : IsRd a p v l i e) : a.cell? ⟨p, 0, none⟩ = some v := by rw [cell_of_row a p 0 _ _ _ h.blk]; rfl
theorem IsRd.c1 {a : World} {p : Nat} {v : Value} {l : List Nat} {i e : Nat} (h : IsRd a p v l i e) : a.cell? ⟨p, 1, none⟩ = some (.int .i64 (i : Int)) := by rw [cell_of_row a p 1 _ _ _ h.blk]; rfl
theorem IsRd.c2 {a : World} {p : Nat} {v : Value} {l : List Nat} {i e : Nat} (h : IsRd a p v l i e) : a.cell? ⟨p, 2, none⟩ = some (.int .i64 (e : Int)) := by rw [cell_of_row a p 2 _ _ _ h.blk]; rfl
theorem IsRd.free {a : World} {p : Nat} {v : Value} {l : List Nat} {i e : Nat} (h : IsRd a p v l i e) (j : Nat) : a.frozen? ⟨p, j, none⟩ = false := frozen_of_row a p j _ _ h.blk
theorem IsRd.shape {a : World} {p : Nat} {v : Value} {l : List Nat} {i e : Nat} (h : IsRd a p v l i e) : ∃ ad cap, v = .slice ad l.length cap := qaf h.row
theorem IsRd.own {a : World} {p : Nat} {v : Value} {l : List Nat} {i e : Nat} (h : IsRd a p v l i e) : ∀ g, v.ownBlock = some g → g ≠ p := fun g hg => by
 obtain ⟨cur, hc⟩ := qaj h.row hg
 exact qag hc h.blk (by decide)
theorem IsRd.setAt {a : World} {p : Nat} {v : Value} {l : List Nat} {i e : Nat} (h : IsRd a p v l i e) (j : Nat) (hj : j ≤ l.length) : IsRd (a.setCell ⟨p, 1, none⟩ (.int .i64 (j : Int))) p v l j e :=
 ⟨heap_setCell_same _ _ 1 _ _ _ h.blk, ((Keeps.refl (fun k => k = p) a).setCell (p := ⟨p, 1, none⟩) (fun _ => rfl) _).row h.row (fun g hg => h.own g hg), h.bytes, h.len, hj⟩
theorem IsRd.setErr {a : World} {p : Nat} {v : Value} {l : List Nat} {i e : Nat} (h : IsRd a p v l i e) (j : Nat) : IsRd (a.setCell ⟨p, 2, none⟩ (.int .i64 (j : Int))) p v l i j :=
 ⟨heap_setCell_same _ _ 2 _ _ _ h.blk, ((Keeps.refl (fun k => k = p) a).setCell (p := ⟨p, 2, none⟩) (fun _ => rfl) _).row h.row (fun g hg => h.own g hg), h.bytes, h.len, h.le⟩
theorem wnew_any (v : Value) (l : List Nat) (w : World) (h : Holds w v (u8s l)) (hx : l.length ≤ 1000000000000) (hb : ∀ c ∈ l, c < 256) :
 Calls Tryz.prog 85 #[v] w fun e w' => ∃ p v', e = .returned (.pointer (some ⟨p, 0, none⟩)) ∧ w.heap.size ≤ p ∧ IsRd w' p v' l 0 0 ∧ (∀ g, v'.ownBlock = some g → w.heap.size ≤ g) ∧ Keeps (fun _ => False) w w' := by
 go_enter Tryz.func85, Tryz.ntmps85
 go_wp2_with (go_at_call 52; refine (qbp v l _ h (by omega)).mono ?_; rintro e w1 ⟨v', rfl, h1, h2⟩; obtain ⟨ad, cap, rfl⟩ := qaf h1)
 go_ret
 exact ⟨w1.heap.size, _, rfl, h2.size, ⟨heap_alloc_new _ _, qam (h1.alloc _) (fun g hg => Nat.zero_le _), hb, hx, Nat.zero_le _⟩, fun g hg => (h1.lt g hg).1, h2.alloc _⟩
theorem wat_any {p : Nat} {v : Value} {l : List Nat} {i x : Nat} {w : World} (h : IsRd w p v l i x) :
 Calls Tryz.prog 87 #[.pointer (some ⟨p, 0, none⟩)] w fun e w' => e = .returned (.int .i64 (i : Int)) ∧ w' = w := by
 have c1 := h.c1
 clear h
 go_enter Tryz.func87, Tryz.ntmps87
 go_wp2
 go_ret
 exact ⟨rfl, rfl⟩
theorem qch {p : Nat} {v : Value} {l : List Nat} {i x : Nat} {w : World} (h : IsRd w p v l i x) :
 Calls Tryz.prog 134 #[.pointer (some ⟨p, 0, none⟩)] w fun e w' => e = .returned (.int .i64 (x : Int)) ∧ w' = w := by
 have c2 := h.c2
 clear h
 go_enter Tryz.func134, Tryz.ntmps134
 go_wp2
 go_ret
 exact ⟨rfl, rfl⟩
theorem wleft_any {p : Nat} {v : Value} {l : List Nat} {i x : Nat} {w : World} (h : IsRd w p v l i x) (j : Nat) (hj : j ≤ l.length) :
 Calls Tryz.prog 147 #[.pointer (some ⟨p, 0, none⟩), .int .i64 (j : Int)] w fun e w' => e = .returned (.int .i64 ((l.length - j : Nat) : Int)) ∧ w' = w := by
 have c0 := h.c0
 obtain ⟨ad, cap, rfl⟩ := h.shape
 have hlen := h.len
 clear h
 go_enter Tryz.func147, Tryz.ntmps147
 go_wp2
 go_ret
 exact ⟨ret_int (by omega), rfl⟩
theorem wfail_any {p : Nat} {v : Value} {l : List Nat} {i x : Nat} {w : World} (h : IsRd w p v l i x) (y : Nat) :
 Calls Tryz.prog 90 #[.pointer (some ⟨p, 0, none⟩), .int .i64 (y : Int)] w fun e w' => e = .returned (.tuple #[]) ∧ IsRd w' p v l i (if x = 0 then y else x) ∧ Keeps (fun k => k = p) w w' := by
 have c2 := h.c2
 have f2 := h.free 2
 have HH := Hj h
 clear h
 by_cases hx : x = 0
 · subst hx
   rw [if_pos rfl]
   go_enter Tryz.func90, Tryz.ntmps90
   go_wp2
   go_end0
   exact ⟨rfl, HH.out.setErr y, (Keeps.refl (fun k => k = p) w).setCell (p := ⟨p, 2, none⟩) (fun _ => rfl) _⟩
 · rw [if_neg hx]
   have hx' : (((x : Nat) : Int) == 0) = false := by simp; omega
   go_enter Tryz.func90, Tryz.ntmps90
   go_wp2
   go_end0
   exact ⟨rfl, HH.out, Keeps.refl _ w⟩
theorem wend_any {p : Nat} {v : Value} {l : List Nat} {i x : Nat} {w : World} (h : IsRd w p v l i x) :
 Calls Tryz.prog 93 #[.pointer (some ⟨p, 0, none⟩)] w fun e w' => e = .returned (.int .i64 ((if x = 0 then if i < l.length then 4 else 0 else x : Nat) : Int)) ∧ w' = w := by
 have c1 := h.c1
 have HE := Hj (qch h)
 have HL := Hj (wleft_any h i h.le)
 have hle := h.le
 clear h
 by_cases hx : x = 0
 · subst hx
   rw [if_pos rfl]
   by_cases hi : i < l.length
   · rw [if_pos hi]
     have hg : (0 : Int) < ((l.length - i : Nat) : Int) := by omega
     obtain ⟨n, hn⟩ : ∃ n, n = l.length - i := ⟨_, rfl⟩
     rw [← hn] at HL hg
     clear hn
     go_enter Tryz.func93, Tryz.ntmps93
     go_wp2_with (first | (go_at_call 134; refine HE.out.mono ?_; rintro e w1 ⟨rfl, rfl⟩) | (go_at_call 147; refine HL.out.mono ?_; rintro e w1 ⟨rfl, rfl⟩))
     go_ret
     exact ⟨rfl, rfl⟩
   · rw [if_neg hi]
     have hn : l.length - i = 0 := by omega
     rw [hn] at HL
     clear hn
     go_enter Tryz.func93, Tryz.ntmps93
     go_wp2_with (first | (go_at_call 134; refine HE.out.mono ?_; rintro e w1 ⟨rfl, rfl⟩) | (go_at_call 147; refine HL.out.mono ?_; rintro e w1 ⟨rfl, rfl⟩))
     go_ret
     exact ⟨rfl, rfl⟩
 · rw [if_neg hx]
   have hx' : (((x : Nat) : Int) == 0) = false := by simp; omega
   go_enter Tryz.func93, Tryz.ntmps93
   go_wp2_with (first | (go_at_call 134; refine HE.out.mono ?_; rintro e w1 ⟨rfl, rfl⟩) | (go_at_call 147; refine HL.out.mono ?_; rintro e w1 ⟨rfl, rfl⟩))
   go_ret
   exact ⟨rfl, rfl⟩
theorem wreadb_any (fn : FuncId) (hE : ∀ (args : Array Value) (w : World), (callFunc fn args).run Tryz.prog w = .ok (.enter fn args) w) (cs : Array Value) (Φ : Value → Nat → Nat → World → Prop) {p : Nat} {v : Value} {l : List Nat} {i x : Nat} {w : World} (h : IsRd w p v l i x)
 (hf : x = 0 → Calls Tryz.prog fn (#[.int .i64 (i : Int)] ++ cs) w fun e w' => ∃ u ut er, e = .returned (.tuple #[u, .int .i64 (ut : Nat), .int .i64 (er : Nat)]) ∧ (er = 0 → ut ≤ l.length) ∧ Φ u ut er w' ∧ Keeps (fun _ => False) w w') :
 Calls Tryz.prog 145 #[.pointer (some ⟨p, 0, none⟩), .func (.func fn) #[] cs] w fun e w' =>
  (x ≠ 0 ∧ e = .returned (.slice none 0 0) ∧ w' = w) ∨
  (x = 0 ∧ ∃ u ut er w2, Φ u ut er w2 ∧ Keeps (fun _ => False) w w2 ∧ Keeps (fun k => k = p) w2 w' ∧ (if er = 0 then e = .returned u ∧ IsRd w' p v l ut 0 else e = .returned (.slice none 0 0) ∧ IsRd w' p v l i er)) := by
 have c1 := h.c1
 have HE := Hj (qch h)
 have HH := Hj h
 clear h
 by_cases hx : x = 0
 · subst hx
   have HF := Hj (hf rfl)
   clear hf
   go_enter Tryz.func145, Tryz.ntmps145
   go_wp2_with (first
    | (go_at_call 134; refine HE.out.mono ?_; rintro e w1 ⟨rfl, rfl⟩)
    | (refine HF.out.mono ?_
       rintro e w2 ⟨u, ut, er, rfl, hto, hu, hk⟩
       have hH2 := HH.out.keep hk
       have f1 := hH2.free 1
       have f2 := hH2.free 2
       have cc1 := hH2.c1
       have cc2 := hH2.c2
       have HH2 := Hj hH2; have HU := Hj hu; have HK := Hj hk; have HT := Hj hto
       clear hH2 hu hk hto c1
       by_cases her : er = 0
       all_goals (first | subst her | have hne : (((er : Nat) : Int) == 0) = false := by simp; omega)))
   · go_ret
     exact .inr ⟨by simp, u, ut, 0, w2, HU.out, HK.out, (Keeps.refl (fun k => k = p) w2).setCell (p := ⟨p, 1, none⟩) (fun _ => rfl) _, by rw [if_pos rfl]; exact ⟨rfl, HH2.out.setAt ut (HT.out (by simp))⟩⟩
   · go_ret
     exact .inr ⟨by simp, u, ut, er, w2, HU.out, HK.out, (Keeps.refl (fun k => k = p) w2).setCell (p := ⟨p, 2, none⟩) (fun _ => rfl) _, by rw [if_neg her]; exact ⟨rfl, HH2.out.setErr er⟩⟩
 · have hx' : (((x : Nat) : Int) == 0) = false := by simp; omega
   clear hf
   go_enter Tryz.func145, Tryz.ntmps145
   go_wp2_with (first | (go_at_call 134; refine HE.out.mono ?_; rintro e w1 ⟨rfl, rfl⟩))
   go_ret
   exact .inl ⟨hx, rfl, rfl⟩
end
section
open Go.RowKit
theorem tabF_r {W : World} (h : Lib.VarReads Tryz.prog W "tsblock/times.forms" Rows.laid_tsblock_times_forms) : TabF W := by
 obtain ⟨g', t', cs, fuel, p, hg', ht', hvar, hd⟩ := h
 obtain rfl := Option.some.inj (gForms.symm.trans hg')
 obtain rfl := Option.some.inj (gFormsType.symm.trans ht')
 have hc := forms_cells hd
 unfold World.var? at hvar
 rw [gForms] at hvar
 simp only [Option.bind_some] at hvar
 split at hvar
 · rename_i cs' t fr hh
   simp only [Option.some.injEq] at hvar
   subst hvar
   exact ⟨t, fr, by rw [hh, show cs' = formCells from Array.toList_inj.1 hc]⟩
 · cases hvar
theorem tabZ_r {W : World} (h : Lib.VarReads Tryz.prog W "math/bits.deBruijn64tab" Rows.laid_math_bits_deBruijn64tab) : TabZ W := by
 obtain ⟨g', t', cs, fuel, p, hg', ht', hvar, hd⟩ := h
 obtain rfl := Option.some.inj (gDeb.symm.trans hg')
 obtain rfl := Option.some.inj (gDebType.symm.trans ht')
 have hd2 : DataW.trod (fun _ => ()) Tryz.prog W 0 (fun _ => true) false fuel 330 cs.toList = some (Lib.tabData .u8 (Lib.deBruijn64tab.map fun z : Nat => (z : Int)), p) := hd
 have hcs := Lib.cells_of_tab Tryz.underlying330 Tryz.underlying5 cells_u8z cells_deb hd2
 intro j hj
 rw [World.var?_cell gDeb hvar j, ← Array.getElem?_toList, hcs]
 have hl : Lib.deBruijn64tab.length = 64 := by decide
 simp [List.getD, hl, hj]
theorem tabC_r {W : World} (h : Lib.VarReads Tryz.prog W "tsblock/crc.table" Rows.laid_tsblock_crc_table) : TabC W := by
 obtain ⟨g', t', cs, fuel, p, hg', ht', hvar, hd⟩ := h
 obtain rfl := Option.some.inj (gCrc.symm.trans hg')
 obtain rfl := Option.some.inj (gCrcType.symm.trans ht')
 have hd2 : DataW.trod (fun _ => ()) Tryz.prog W 0 (fun _ => true) false fuel 325 cs.toList = some (Lib.tabData .u32 (crcList.map fun z : Nat => (z : Int)), p) := hd
 have hcs := Lib.cells_of_tab Tryz.underlying325 Tryz.underlying236 cells_u32z cells_crc hd2
 intro j hj
 rw [World.var?_cell gCrc hvar j, ← Array.getElem?_toList, hcs]
 simp [crcList, hj]
theorem tab3_of {W : World} {l : List (String × DataW Unit)} (h : laidMet Tryz.prog l W) (m1 : ("math/bits.deBruijn64tab", Rows.laid_math_bits_deBruijn64tab) ∈ l) (m2 : ("tsblock/crc.table", Rows.laid_tsblock_crc_table) ∈ l) (m3 : ("tsblock/times.forms", Rows.laid_tsblock_times_forms) ∈ l) : TabZ W ∧ TabF W ∧ TabC W :=
 ⟨tabZ_r (Lib.laidMet.reads h m1), tabF_r (Lib.laidMet.reads h m3), tabC_r (Lib.laidMet.reads h m2)⟩
def putCells (w : World) (g : Nat) (cs : Array Value) : World :=
 { w with heap := w.heap.modify g fun
   | .cells _ t frozen => .cells cs t frozen
   | o => o }
def laidWorldT (w : World) : World :=
 putCells (putCells (putCells w 2 ((Lib.deBruijn64tab.map fun z : Nat => Value.int .u8 (z : Int)).toArray)) 0 formCells) 1 ((crcList.map fun z : Nat => Value.int .u32 (z : Int)).toArray)
end
end Go.Proofs.YtfpcgcbehdogjaaGreatDoor
