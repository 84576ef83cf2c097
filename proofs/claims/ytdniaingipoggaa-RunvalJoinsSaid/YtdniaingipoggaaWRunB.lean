/-
  WALKS: slices.AppendSeq, slices.Collect over the runs; runval.Split, Size.
-/
import Derived.Test.YtdniaingipoggaaPRange2
import Derived.Test.YtdniaingipoggaaWRunA
namespace Go.Proofs.Ytdniaingipoggaa
open Go.RowKit Go.Shelf
attribute [local go_sem] Oper.semAt_some

theorem infoRun : (Try.prog.info? 82).map (fun i => (i.zero, i.size, i.bytes)) = some (some (.agg #[.int .u64 0, .int .i64 0]), 2, 16) := by kernel_rfl
/-- the cells of runs -/
def runCells (rs : List (Nat × Nat)) : List Value := rs.flatMap fun p => [.int .u64 ((p.1 : Nat) : Int), .int .i64 ((p.2 : Nat) : Int)]
theorem runCells_snoc (rs : List (Nat × Nat)) (p : Nat × Nat) : runCells (rs ++ [p]) = runCells rs ++ [.int .u64 ((p.1 : Nat) : Int), .int .i64 ((p.2 : Nat) : Int)] := by simp [runCells]
theorem runCells_length (rs : List (Nat × Nat)) : (runCells rs).length = 2 * rs.length := by
  induction rs with
  | nil => rfl
  | cons p rs ih => simp only [runCells, List.flatMap_cons, List.length_append, List.length_cons, List.length_nil] at ih ⊢; omega

set_option maxRecDepth 100000 in
set_option maxHeartbeats 1000000 in
theorem appseq_any (lb : Array Value) (ow : Nat → Prop) (S Sp : List (Nat × Nat) → Prop) (w : World) (hseq : SeqR Try.prog 73 lb encR ow (fun _ => False) S Sp w) (how : ∀ k, ow k → k < w.heap.size) (hlen : ∀ pre, Sp pre → pre.length ≤ 1099511627776) :
    Calls Try.prog 72 #[.slice none 0 0, .func (.func 73) #[] lb] w fun e w' => ∃ v rs, e = .returned v ∧ S rs ∧ w'.ownsRow w.heap.size 82 2 v rs.length (runCells rs) ∧ Keeps (fun _ => False) w w' := by
  obtain ⟨i0, hi, hz0, hz1, hz2⟩ := info_parts infoRun
  have HSeq := Lib.hid hseq; have HOw := Lib.hid how; have HLen := Lib.hid hlen
  clear hseq how hlen
  refine (callsIn_wide (n := 0)).1 ?_
  refine callsIn_of_wp_marks Try.func72 rfl trivial ?_ rfl
  simp only [Try.ntmps72, List.size_toArray, List.length_cons, List.length_nil, Nat.reduceAdd, Nat.reduceSub, Array.replicate_succ, Array.replicate_zero, List.push_toArray, List.append_toArray, List.nil_append, List.cons_append]
  gi_wp2
  obtain ⟨W0, hW0⟩ : ∃ W0, W0 = (w.alloc (.cells #[.slice none 0 0] 79)) := ⟨_, rfl⟩
  have hsz : W0.heap.size = w.heap.size + 1 := by rw [hW0]; simp
  have hkW : ∀ S, Keeps S w W0 := fun S => by rw [hW0]; exact (Keeps.refl S w).alloc _
  have hbox : W0.heap[w.heap.size]? = some (.cells #[.slice none 0 0] 79 (0, 0)) := by rw [hW0]; exact heap_alloc_new w _
  rw [← hW0]
  clear hW0
  refine wpIn_rangeFunc_d (gf := 73) (lb := lb) (w := W0) rfl (enters_of Try.func73 (by kernel_rfl) rfl)
    (HSeq.out.later (hkW _)) (T := fun k => k = w.heap.size ∨ w.heap.size + 3 ≤ k) (fun x => rfl) (fun _ h => h.elim)
    (fun k hk => by have := HOw.out k hk; omega) ?hT ?hT2
    (fun pre W => ∃ v', W.heap[w.heap.size]? = some (.cells #[v'] 79 (0, 0)) ∧ W.ownsRow (w.heap.size + 3) 82 2 v' pre.length (runCells pre) ∧ Keeps (fun _ => False) w W)
    (fun _ _ _ => False) ?hI (fun _ _ _ _ h _ => h) ?h0
    (fun x D => { tmps := #[.slice none 0 0, .func (.func 73) #[] lb, .pointer (some ⟨w.heap.size, 0, none⟩), undef, .slice none 0 0, .pointer (some ⟨D, 0, none⟩), .func (.func 73) #[] lb, .agg #[.int .u64 ((x.1 : Nat) : Int), .int .i64 ((x.2 : Nat) : Int)], undef, undef, undef, undef, undef], defers := [] })
    (fun x => #[.int .u64 ((x.1 : Nat) : Int), .int .i64 ((x.2 : Nat) : Int)]) 82 ?assign ?body ?done ?stop
  case hT =>
    rintro k (rfl | hk) e
    · have := HOw.out _ e; omega
    · have := HOw.out _ e; omega
  case hT2 => rintro k (rfl | hk) <;> omega
  case hI =>
    rintro pre A B ⟨v', h1, h2, h3⟩ hk
    refine ⟨v', hk.heap h1 ?_, hk.row h2 (fun g hg hs => ?_), h3.trans hk (fun k hk hs => ?_)⟩
    · rintro (e | e | e)
      · exact e
      · omega
      · omega
    · have := (h2.lt g hg).1
      rcases hs with e | e | e
      · exact e
      · omega
      · omega
    · rcases hs with e | e | e
      · exact e
      · omega
      · omega
  case h0 => exact ⟨_, hbox, World.ownsRow_nil _ _ _ _, hkW _⟩
  case assign =>
    intro lp x W K hK
    simp only [encR]
    gi_wp2
    exact hK
  case body =>
    rintro lp D pre ⟨x, c⟩ W ⟨v', h1, h2, h3⟩ hsp hsz2 hD hDb
    have hb1 : w.heap.size + 3 ≤ W.heap.size := by omega
    have hc0 : W.cell? ⟨w.heap.size, 0, none⟩ = some v' := by rw [cell_of_row _ _ _ _ _ _ h1]; rfl
    have hf0 : W.frozen? ⟨w.heap.size, 0, none⟩ = false := frozen_of_row _ _ _ _ _ h1
    have hd0 : W.cell? ⟨D, 0, none⟩ = some (.int .u64 (x : Nat)) := by rw [cell_of_row _ _ _ _ _ _ hD]; rfl
    have hd1 : W.cell? ⟨D, 1, none⟩ = some (.int .i64 (c : Nat)) := by rw [cell_of_row _ _ _ _ _ _ hD]; rfl
    have hlp : pre.length ≤ 1099511627776 := by have := HLen.out _ hsp; simp at this; omega
    have hrow := h2
    have H1 := Lib.hid h1; have H2 := Lib.hid h2; have H3 := Lib.hid h3
    obtain ⟨ad', cap', rfl⟩ := row_slice h2
    clear h1 h2 h3 hsp hD
    gi_wp2_with (gi_at_builtin; refine wpListIn_append_new _ rfl _ _ 79 rfl (w.heap.size + 3) 82 i0 (.agg #[.int .u64 0, .int .i64 0]) 2 16 Try.underlying79 hi hz0 hz1 hz2 rfl (by decide) _ _ _ rfl (hrow.alloc _) ⟨W.heap.size, 0, none⟩ 1 1 [.int .u64 (x : Nat), .int .i64 (c : Nat)] rfl rfl ?c1 ?c2 ?c3 ?c4 ?c5 ?_)
    case c1 =>
      intro j u hj
      rw [addr_add, Nat.zero_add, cell_of_row _ _ _ _ _ _ (heap_alloc_new W _)]
      simpa using hj
    case c2 => simp [Value.oneCell']
    case c3 => unfold maxLen; omega
    case c4 => omega
    case c5 => simp; omega
    intro v2 w2 hown' hgrow hnew
    obtain ⟨ad2, cap2, rfl⟩ := row_slice hown'
    have hk2 : Keeps (own (.slice ad' pre.length cap')) W w2 := ((Keeps.refl (own _) W).alloc _).grown hgrow (fun k _ e => e)
    have hvb : ¬ own (.slice ad' pre.length cap') w.heap.size := fun e => by have := (H2.out.lt _ e).1; omega
    have d0 : w2.cell? ⟨w.heap.size, 0, none⟩ = some (.slice ad' pre.length cap') := hk2.cell hc0 hvb
    have e0 : w2.frozen? ⟨w.heap.size, 0, none⟩ = false := (frozen_kept2 hk2 hc0 hvb).trans hf0
    have hlo : ∀ g, (Value.slice ad2 (pre.length + 1) cap2).ownBlock = some g → w.heap.size + 3 ≤ g := fun g hg => (hown'.lt g hg).1
    have hset : Keeps (fun k => k = w.heap.size) w2 (w2.setCell ⟨w.heap.size, 0, none⟩ (.slice ad2 (pre.length + 1) cap2)) := (Keeps.refl (fun k => k = w.heap.size) w2).setCell (p := ⟨w.heap.size, 0, none⟩) (fun _ => rfl) _
    have fin : bodyC (fun k => k = w.heap.size ∨ w.heap.size + 3 ≤ k)
        (fun pre W => ∃ v', W.heap[w.heap.size]? = some (.cells #[v'] 79 (0, 0)) ∧ W.ownsRow (w.heap.size + 3) 82 2 v' pre.length (runCells pre) ∧ Keeps (fun _ => False) w W) (fun _ _ _ => False) (pre ++ [(x, c)]) W .normal { tmps := #[], defers := [] } (w2.setCell ⟨w.heap.size, 0, none⟩ (.slice ad2 (pre.length + 1) cap2)) := by
      have kk : Keeps (fun k => k = w.heap.size ∨ w.heap.size + 3 ≤ k) W (w2.setCell ⟨w.heap.size, 0, none⟩ (.slice ad2 (pre.length + 1) cap2)) :=
        (hk2.mono (S' := fun k => k = w.heap.size ∨ w.heap.size + 3 ≤ k) (fun k _ e => .inr (H2.out.lt _ e).1)).trans hset (fun k _ e => .inl e)
      refine ⟨kk, .slice ad2 (pre.length + 1) cap2, ?_, ?_, H3.out.trans kk (fun k hk e => by omega)⟩
      · have := heap_setCell_same w2 w.heap.size 0 _ _ (.slice ad2 (pre.length + 1) cap2) (hk2.heap H1.out hvb)
        simpa using this
      · rw [runCells_snoc, List.length_append, List.length_singleton]
        exact hset.row hown' (fun g hg e => by have := hlo g hg; omega)
    have HF := Lib.hid fin
    clear hown' hgrow hnew hk2 hvb hc0 hf0 hrow hset fin hlo hd0 hd1
    gi_wp2
    exact HF.out
  case done =>
    rintro D xs W hS ⟨v', h1, h2, h3⟩ hD hK
    have hc0 : W.cell? ⟨w.heap.size, 0, none⟩ = some v' := by rw [cell_of_row _ _ _ _ _ _ h1]; rfl
    have H2 := Lib.hid h2; have H3 := Lib.hid h3; have HS := Lib.hid hS
    clear h1 h2 h3 hS
    gi_wp2
    refine ⟨by simp, .inl ⟨_, _, rfl, run_takeDeferred hK, ?_⟩⟩
    refine ⟨_, results_tmp rfl _ _ _, ⟨_, _, rfl, HS.out, ?_⟩⟩
    have hp : Keeps (fun k => k = D) W (W.putObj D (.deferred none)) := Keeps.putObj _ _ _ rfl
    refine ⟨row_base (hp.row H2.out (fun g hg e => ?_)) (fun g hg => by have := (H2.out.lt g hg).1; omega), H3.out.trans hp (fun k hk e => by omega)⟩
    obtain ⟨c', hc'⟩ := row_type H2.out hg
    subst e
    rw [hK] at hc'
    cases hc'
  case stop => rintro D c pre W _ h; exact h.elim

set_option maxHeartbeats 400000 in
theorem collect_any (lb : Array Value) (ow : Nat → Prop) (S Sp : List (Nat × Nat) → Prop) (w : World) (hseq : SeqR Try.prog 73 lb encR ow (fun _ => False) S Sp w) (how : ∀ k, ow k → k < w.heap.size) (hlen : ∀ pre, Sp pre → pre.length ≤ 1099511627776) :
    Calls Try.prog 67 #[.func (.func 73) #[] lb] w fun e w' => ∃ v rs, e = .returned v ∧ S rs ∧ w'.ownsRow w.heap.size 82 2 v rs.length (runCells rs) ∧ Keeps (fun _ => False) w w' := by
  have HSeq := Lib.hid hseq; have HOw := Lib.hid how; have HLen := Lib.hid hlen
  clear hseq how hlen
  go_enter Try.func67, Try.ntmps67
  go_wp2_with (go_at_call 72; refine (appseq_any lb ow S Sp w HSeq.out HOw.out HLen.out).mono ?_; rintro e w1 ⟨v, rs, rfl, hS, hr, hk⟩; obtain ⟨ad, cap, rfl⟩ := row_slice hr)
  go_ret
  exact ⟨_, _, rfl, hS, hr, hk⟩

/-- what Split returns -/
theorem runs_here (ad : Option Addr) (cap : Nat) (l : List Nat) (w : World) (hl : l.length ≤ 140737488351232) (h : Holds w (.slice ad l.length cap) (u64s l)) :
    SeqR Try.prog 73 #[.pointer (some ⟨w.heap.size, 0, none⟩)] encR (fun k => k = w.heap.size ∨ ownH (.slice ad l.length cap) l k) (fun _ => False) (fun xs => xs = runsOf l) (fun pre => pre <+: runsOf l) (w.alloc (.cells #[.slice ad l.length cap] 76)) :=
  runs_seq w.heap.size _ l _ hl (by rw [cell_of_row _ _ _ _ _ _ (heap_alloc_new w _)]; rfl) (h.keeps ((Keeps.refl (fun _ => False) w).alloc _) (fun _ _ h => h))
set_option maxHeartbeats 400000 in
theorem split_any (v : Value) (l : List Nat) (w : World) (hl : l.length ≤ 1099511627776) (h : Holds w v (u64s l)) :
    Calls Try.prog 49 #[v] w fun e w' => ∃ v', e = .returned v' ∧ w'.ownsRow w.heap.size 82 2 v' (runsOf l).length (runCells (runsOf l)) ∧ Keeps (fun _ => False) w w' := by
  have HH := Lib.hid h
  obtain ⟨ad, cap, rfl, hc, _⟩ := h
  rw [u64s_length] at hc HH ⊢
  have hs := runs_here ad cap l w (by omega) HH.out
  have HS := Lib.hid hs
  clear hs
  go_enter Try.func49, Try.ntmps49
  go_wp2_with (go_at_call 68; refine (runs_any _ _ _ _).mono ?_; rintro e w1 ⟨rfl, rfl⟩)
  go_wp2_with (go_at_call 67; refine (collect_any _ _ _ _ _ HS.out (fun k hk => hk.elim (fun e => by rw [e]; simp) (fun e => by have := ownH_lt HH.out e; simp; omega)) (fun pre hp => by have := hp.length_le; have := runsOf_length l; omega)).mono ?_; rintro e w1 ⟨v, rs, rfl, rfl, hr, hk⟩; obtain ⟨ad2, cap2, rfl⟩ := row_slice hr)
  go_ret
  exact ⟨_, rfl, row_base hr (fun g hg => by have := (hr.lt g hg).1; simp at this; omega), ((Keeps.refl (fun _ => False) w).alloc _).trans hk (fun _ _ h => h)⟩
end Go.Proofs.Ytdniaingipoggaa
