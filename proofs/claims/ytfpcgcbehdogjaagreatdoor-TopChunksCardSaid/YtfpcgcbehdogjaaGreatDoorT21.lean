/-
  Lemmas on which LTopChunks rests, packed out of the texts XSrt XSrt2 XBld XSpl XSpl2 XAdd XChs PChunk2; each for all arguments under the hypotheses it names.
-/
import Derived.Test.YtfpcgcbehdogjaaGreatDoorT19
import Derived.Test.YtfpcgcbehdogjaaGreatDoorT20
namespace Go.Proofs.YtfpcgcbehdogjaaGreatDoor
section
set_option maxHeartbeats 1000000
set_option maxRecDepth 100000
open Go.RowKit Go.Shelf
attribute [local go_sem] Oper.semAt_some
theorem labC_append' (a b : List Lab) : labC (a ++ b) = labC a ++ labC b := by simp [labC, cells2]
theorem appseqL_any (gf : Nat) (eg : ∀ args w, (callFunc gf args).run Tryz.prog w = .ok (.enter gf args) w) (lb : Array Value) (ow tr : Nat → Prop) (S Sp : List Lab → Prop) (w : World) (hseq : ∀ W, W.heap.size = w.heap.size + 3 → Keeps (fun _ => False) w W → SeqAt Tryz.prog gf lb encL ow tr S Sp W) (how : ∀ k, ow k → k < w.heap.size ∨ k = w.heap.size + 3) (htr : ∀ k, tr k → k = w.heap.size + 3) (htro : ∀ k, tr k → ow k) (hlen : ∀ pre, Sp pre → pre.length ≤ 1099511627776) :
 Calls Tryz.prog 210 #[.slice none 0 0, .func (.func gf) #[] lb] w fun e w' => ∃ v rs, e = .returned v ∧ S rs ∧ w'.ownsRow w.heap.size 94 2 v rs.length (labC rs) ∧ Keeps (fun _ => False) w w' := by
 have HSeq := Hj hseq; have HOw := Hj how; have HLen := Hj hlen; have HTr := Hj htr; have HTro := Hj htro
 clear hseq how hlen htr htro
 refine (callsIn_wide (n := 0)).1 ?_
 refine callsIn_of_wp_marks Tryz.func210 rfl trivial ?_ rfl
 simp only [Tryz.ntmps210, List.size_toArray, List.length_cons, List.length_nil, Nat.reduceAdd, Nat.reduceSub, Array.replicate_succ, Array.replicate_zero, List.push_toArray, List.append_toArray, List.nil_append, List.cons_append]
 gi_wp2
 obtain ⟨W0, hW0⟩ : ∃ W0, W0 = (w.alloc (.cells #[.slice none 0 0] 95)) := ⟨_, rfl⟩
 have hsz : W0.heap.size = w.heap.size + 1 := by rw [hW0]; simp
 have hkW : ∀ S, Keeps S w W0 := fun S => by rw [hW0]; exact (Keeps.refl S w).alloc _
 have hbox : W0.heap[w.heap.size]? = some (.cells #[.slice none 0 0] 95 (0, 0)) := by rw [hW0]; exact heap_alloc_new w _
 rw [← hW0]
 clear hW0
 refine wpIn_rangeFunc_m (gf := gf) (lb := lb) (w := W0) rfl eg
  (fun W hs hk => HSeq.out W (by omega) ((hkW _).trans hk (fun _ _ e => e))) (T := fun k => k = w.heap.size ∨ w.heap.size + 4 ≤ k) (fun x => rfl) HTro.out
  (fun k hk => by rcases HOw.out k hk with h | h <;> omega) ?hT ?hT2
  (fun pre W => ∃ v', W.heap[w.heap.size]? = some (.cells #[v'] 95 (0, 0)) ∧ W.ownsRow (w.heap.size + 4) 94 2 v' pre.length (labC pre) ∧ Keeps (fun _ => False) w W)
  (fun _ _ _ => False) ?hI (fun _ _ _ _ h _ => h) ?h0
  (fun x D => { tmps := #[.slice none 0 0, .func (.func gf) #[] lb, .pointer (some ⟨w.heap.size, 0, none⟩), undef, .slice none 0 0, .pointer (some ⟨D, 0, none⟩), .func (.func gf) #[] lb, .agg #[.string x.1, .string x.2], undef, undef, undef, undef, undef], defers := [] })
  (fun x => #[.string x.1, .string x.2]) 94 ?assign ?body ?done ?stop
 case hT =>
  rintro k (rfl | hk) e
  · rcases HOw.out _ e with h | h <;> omega
  · rcases HOw.out _ e with h | h <;> omega
 case hT2 => rintro k (rfl | hk) <;> omega
 case hI =>
  rintro pre A B ⟨v', h1, h2, h3⟩ hk
  refine ⟨v', hk.heap h1 ?_, hk.row h2 (fun g hg hs => ?_), h3.trans hk (fun k hk hs => ?_)⟩
  · rintro (e | e | e)
    · have := HTr.out _ e; omega
    · omega
    · omega
  · have := (h2.lt g hg).1
    rcases hs with e | e | e
    · have := HTr.out _ e; omega
    · omega
    · omega
  · rcases hs with e | e | e
    · have := HTr.out _ e; omega
    · omega
    · omega
 case h0 => exact ⟨_, hbox, World.ownsRow_nil _ _ _ _, hkW _⟩
 case assign =>
  intro lp x W K hK
  simp only [encL]
  gi_wp2
  exact hK
 case body =>
  rintro lp D pre x W ⟨v', h1, h2, h3⟩ hsp hsz2 hD hDb
  have hb1 : w.heap.size + 4 ≤ W.heap.size := by have := qap hD; omega
  have hd0 : W.cell? ⟨D, 0, none⟩ = some (.string x.1) := by rw [cell_of_row _ _ _ _ _ _ hD]; rfl
  have hd1 : W.cell? ⟨D, 1, none⟩ = some (.string x.2) := by rw [cell_of_row _ _ _ _ _ _ hD]; rfl
  have hc0 : W.cell? ⟨w.heap.size, 0, none⟩ = some v' := by rw [cell_of_row _ _ _ _ _ _ h1]; rfl
  have hf0 : W.frozen? ⟨w.heap.size, 0, none⟩ = false := frozen_of_row _ _ _ _ _ h1
  have hlp : pre.length ≤ 1099511627776 := by have := HLen.out _ hsp; simp at this; omega
  have H1 := Hj h1; have H2 := Hj h2; have H3 := Hj h3
  obtain ⟨ad', cap', rfl⟩ := qaf h2
  clear h1 h2 h3 hsp hD
  gi_wp2_with (gi_at_builtin; refine appEIn elL rfl _ _ rfl (w.heap.size + 4) _ _ pre.length 1 _ [.string x.1, .string x.2] rfl rfl (H2.out.alloc _) (rd_new _ 2 1 [.string x.1, .string x.2] 94 1 rfl (Nat.le_refl _)) (by simp [Value.oneCell']) (by omega) (by simp; omega) ?_)
  intro v2 w2 hown' hgrow hnew
  obtain ⟨ad2, cap2, rfl⟩ := qaf hown'
  have hk2 : Keeps (own (.slice ad' pre.length cap')) W w2 := ((Keeps.refl (own _) W).alloc _).grown hgrow (fun k _ e => e)
  have hvb : ¬ own (.slice ad' pre.length cap') w.heap.size := fun e => by have := (H2.out.lt _ e).1; omega
  have d0 : w2.cell? ⟨w.heap.size, 0, none⟩ = some (.slice ad' pre.length cap') := hk2.cell hc0 hvb
  have e0 : w2.frozen? ⟨w.heap.size, 0, none⟩ = false := (qca hk2 hc0 hvb).trans hf0
  have hlo : ∀ g, (Value.slice ad2 (pre.length + 1) cap2).ownBlock = some g → w.heap.size + 4 ≤ g := fun g hg => (hown'.lt g hg).1
  have hset : Keeps (fun k => k = w.heap.size) w2 (w2.setCell ⟨w.heap.size, 0, none⟩ (.slice ad2 (pre.length + 1) cap2)) := (Keeps.refl (fun k => k = w.heap.size) w2).setCell (p := ⟨w.heap.size, 0, none⟩) (fun _ => rfl) _
  have fin : bodyC (fun k => k = w.heap.size ∨ w.heap.size + 4 ≤ k)
   (fun pre W => ∃ v', W.heap[w.heap.size]? = some (.cells #[v'] 95 (0, 0)) ∧ W.ownsRow (w.heap.size + 4) 94 2 v' pre.length (labC pre) ∧ Keeps (fun _ => False) w W) (fun _ _ _ => False) (pre ++ [x]) W .normal { tmps := #[], defers := [] } (w2.setCell ⟨w.heap.size, 0, none⟩ (.slice ad2 (pre.length + 1) cap2)) := by
   have kk : Keeps (fun k => k = w.heap.size ∨ w.heap.size + 4 ≤ k) W (w2.setCell ⟨w.heap.size, 0, none⟩ (.slice ad2 (pre.length + 1) cap2)) :=
    (hk2.mono (S' := fun k => k = w.heap.size ∨ w.heap.size + 4 ≤ k) (fun k _ e => .inr (H2.out.lt _ e).1)).trans hset (fun k _ e => .inl e)
   refine ⟨kk, .slice ad2 (pre.length + 1) cap2, ?_, ?_, H3.out.trans kk (fun k hk e => by omega)⟩
   · have := heap_setCell_same w2 w.heap.size 0 _ _ (.slice ad2 (pre.length + 1) cap2) (hk2.heap H1.out hvb)
     simpa using this
   · rw [labC_append', List.length_append, List.length_singleton]
     exact hset.row hown' (fun g hg e => by have := hlo g hg; omega)
  have HF := Hj fin
  clear hown' hgrow hnew hk2 hvb hc0 hf0 hset fin hlo hd0 hd1
  gi_wp2
  exact HF.out
 case done =>
  rintro D xs W hS ⟨v', h1, h2, h3⟩ hD hK
  have hc0 : W.cell? ⟨w.heap.size, 0, none⟩ = some v' := by rw [cell_of_row _ _ _ _ _ _ h1]; rfl
  have H2 := Hj h2; have H3 := Hj h3; have HS := Hj hS
  clear h1 h2 h3 hS
  gi_wp2
  refine ⟨by simp, .inl ⟨_, _, rfl, run_takeDeferred hK, ?_⟩⟩
  refine ⟨_, results_tmp rfl _ _ _, ⟨_, _, rfl, HS.out, ?_⟩⟩
  have hp : Keeps (fun k => k = D) W (W.putObj D (.deferred none)) := Keeps.putObj _ _ _ rfl
  refine ⟨qam (hp.row H2.out (fun g hg e => ?_)) (fun g hg => by have := (H2.out.lt g hg).1; omega), H3.out.trans hp (fun k hk e => by omega)⟩
  obtain ⟨c', hc'⟩ := qaj H2.out hg
  subst e
  rw [hK] at hc'
  cases hc'
 case stop => rintro D c pre W _ h; exact h.elim
theorem collectL_any (gf : Nat) (eg : ∀ args w, (callFunc gf args).run Tryz.prog w = .ok (.enter gf args) w) (lb : Array Value) (ow tr : Nat → Prop) (S Sp : List Lab → Prop) (w : World) (hseq : ∀ W, W.heap.size = w.heap.size + 3 → Keeps (fun _ => False) w W → SeqAt Tryz.prog gf lb encL ow tr S Sp W) (how : ∀ k, ow k → k < w.heap.size ∨ k = w.heap.size + 3) (htr : ∀ k, tr k → k = w.heap.size + 3) (htro : ∀ k, tr k → ow k) (hlen : ∀ pre, Sp pre → pre.length ≤ 1099511627776) :
 Calls Tryz.prog 174 #[.func (.func gf) #[] lb] w fun e w' => ∃ v rs, e = .returned v ∧ S rs ∧ w'.ownsRow w.heap.size 94 2 v rs.length (labC rs) ∧ Keeps (fun _ => False) w w' := by
 have HSeq := Hj hseq; have HOw := Hj how; have HLen := Hj hlen; have HEg := Hj eg; have HTr := Hj htr; have HTro := Hj htro
 clear hseq how hlen eg htr htro
 go_enter Tryz.func174, Tryz.ntmps174
 go_wp2_with (go_at_call 210; refine (appseqL_any gf HEg.out lb ow tr S Sp w HSeq.out HOw.out HTr.out HTro.out HLen.out).mono ?_; rintro e w1 ⟨v, rs, rfl, hS, hr, hk⟩; obtain ⟨ad, cap, rfl⟩ := qaf hr)
 go_ret
 exact ⟨_, _, rfl, hS, hr, hk⟩
end
section
set_option maxHeartbeats 1000000
set_option maxRecDepth 100000
open Go.RowKit
theorem insL_one (ad : Option Addr) (cap : Nat) (f : Value) (w : World) : Calls Tryz.prog 229 #[.slice ad 1 cap, .int .i64 0, .int .i64 1, f] w fun e w' => e = .returned (.tuple #[]) ∧ w' = w := by
 go_enter Tryz.func229, Tryz.ntmps229
 go_wp2
 go_loopw [8] (fun i wr => i = .int .i64 1 ∧ wr = w) (fun _ _ => 0)
 case atStart => exact ⟨rfl, rfl⟩
 case round =>
  obtain ⟨rfl, rfl⟩ := hrel
  go_wp2
  go_end0
  exact ⟨rfl, rfl⟩
theorem pdqL_one (ad : Option Addr) (cap : Nat) (lim : Int) (f : Value) (w : World) : Calls Tryz.prog 211 #[.slice ad 1 cap, .int .i64 0, .int .i64 1, .int .i64 lim, f] w fun e w' => e = .returned (.tuple #[]) ∧ w' = w := by
 go_enter Tryz.func211, Tryz.ntmps211
 go_wp2
 go_loopw [1, 2, 3, 10, 11] (fun s1 s2 s3 s10 s11 wr => s1 = .int .i64 0 ∧ s2 = .int .i64 1 ∧ s3 = .int .i64 lim ∧ s10 = .bool true ∧ s11 = .bool true ∧ wr = w) (fun _ _ _ _ _ _ => 0)
 case atStart => exact ⟨rfl, rfl, rfl, rfl, rfl, rfl⟩
 case round =>
  obtain ⟨rfl, rfl, rfl, rfl, rfl, rfl⟩ := hrel
  go_wp2_with (go_at_call 229; refine (insL_one ad cap f _).mono ?_; rintro e w1 ⟨rfl, hw⟩; obtain rfl := hw.symm)
  (try simp only [Exit.inBlock, Exit.then]); refine bodyPost_ret (results_none rfl _ _ _) rfl ?_
  exact ⟨rfl, rfl⟩
theorem sortL_one (ad : Option Addr) (cap : Nat) (f : Value) (w : World) : Calls Tryz.prog 175 #[.slice ad 1 cap, f] w fun e w' => e = .returned (.tuple #[]) ∧ w' = w := by
 have HL : Hid (∀ w, Calls Tryz.prog 157 #[.int .u64 1] w fun e w' => e = .returned (.int .i64 (Lib.bitLen 1)) ∧ w' = w) := Hj (fun w => len_any 1 w (by omega) (by omega))
 generalize ((Lib.bitLen 1 : Nat) : Int) = m at HL
 go_enter Tryz.func175, Tryz.ntmps175
 go_wp2_with (first
  | (go_at_call 157; refine (HL.out _).mono ?_; rintro e w1 ⟨rfl, hw⟩; obtain rfl := hw.symm)
  | (go_at_call 211; refine (pdqL_one ad cap m f _).mono ?_; rintro e w1 ⟨rfl, hw⟩; obtain rfl := hw.symm))
 go_end0
 exact ⟨rfl, rfl⟩
theorem sortedL_one (gf : Nat) (eg : ∀ args w, (callFunc gf args).run Tryz.prog w = .ok (.enter gf args) w) (lb : Array Value) (f : Value) (ow tr : Nat → Prop) (x : Lab) (w : World) (hseq : ∀ W, W.heap.size = w.heap.size + 3 → Keeps (fun _ => False) w W → SeqAt Tryz.prog gf lb encL ow tr (fun xs => xs = [x]) (fun pre => pre <+: [x]) W) (how : ∀ k, ow k → k < w.heap.size ∨ k = w.heap.size + 3) (htr : ∀ k, tr k → k = w.heap.size + 3) (htro : ∀ k, tr k → ow k) :
 Calls Tryz.prog 128 #[.func (.func gf) #[] lb, f] w fun e w' => ∃ v, e = .returned v ∧ w'.ownsRow w.heap.size 94 2 v 1 (labC [x]) ∧ Keeps (fun _ => False) w w' := by
 have HC := Hj (collectL_any gf eg lb ow tr _ _ w hseq how htr htro (fun pre hp => by have := hp.length_le; simp at this; omega))
 clear hseq how htr htro eg
 go_enter Tryz.func128, Tryz.ntmps128
 go_wp2_with (first
  | (go_at_call 174; refine HC.out.mono ?_; rintro e w1 ⟨v, rs, rfl, hrs, hr, hk⟩; subst hrs; obtain ⟨ad, cap, rfl⟩ := qaf hr; have HR := Hj hr; have HK := Hj hk; clear hr hk)
  | (go_at_call 175; refine (sortL_one ad cap f _).mono ?_; rintro e w1 ⟨rfl, hw⟩; obtain rfl := hw.symm))
 go_ret
 exact ⟨_, rfl, HR.out, HK.out⟩
end
section
set_option maxHeartbeats 4000000
set_option maxRecDepth 100000
open Go.RowKit
abbrev oneL (x : Lab) : Value := .agg #[.string x.1, .string x.2]
theorem build_one (ad la : Option Addr) (cap lc : Nat) (x : Lab) (kl : Lit) (w : World) (hk : keyOf Tryz.prog 94 (oneL x) = some kl) (h : Rd 1 w (.slice ad 1 cap) 1 [.slice la 1 lc]) (hL : RdL w (.slice la 1 lc) [x]) :
 Calls Tryz.prog 68 #[.slice ad 1 cap] w fun e w' => ∃ v' hd, e = .returned v' ∧ RdE w' v' [hd] [(x, [0])] ∧ Keeps (fun _ => False) w w' := by
 obtain ⟨b0, o0, rfl, hc0⟩ := Rd.at h (i := 0) (by omega)
 have c0 : w.cell? ⟨b0, o0, none⟩ = some (.slice la 1 lc) := by simpa using hc0 0 _ rfl
 obtain ⟨b1, o1, rfl, c1, c2⟩ := RdL.at (cap := lc) (l := [x]) hL (i := 0) rfl
 simp only [Nat.zero_mul, Nat.add_zero] at c1 c2
 obtain ⟨x1, x2⟩ := x
 simp only at c1 c2
 have hmk : (Instr.makeMap 230 none).run Tryz.prog w = .ok (.map (some w.heap.size)) (w.alloc (.map #[] 0)) := run_makeMap 230 w
 obtain ⟨W0, hW0⟩ : ∃ W0, W0 = w.alloc (.map #[] 0) := ⟨_, rfl⟩
 have HM0 : Hid (W0.heap[w.heap.size]? = some (.map #[] 0)) := Hj (by rw [hW0]; exact heap_alloc_new w _)
 have HK0 : Hid (Keeps (fun _ => False) w W0) := Hj (by rw [hW0]; exact (Keeps.refl _ w).alloc _)
 rw [← hW0] at hmk
 have HC0 := Hj c0; have HC1 := Hj c1; have HC2 := Hj c2; have HKY := Hj hk
 clear h hL hc0 c0 c1 c2 hW0 hk
 go_enter Tryz.func68, Tryz.ntmps68
 go_wp2
 clear hmk
 go_loopw [14] (fun i wr => (i = .int .i64 0 ∧ wr = W0) ∨ (i = .int .i64 1 ∧ ∃ g cp, Hid (wr.heap[w.heap.size]? = some (.map #[⟨oneL (x1, x2), .slice (some ⟨g, 0, none⟩) 1 cp, 0⟩] 1)) ∧ Hid (wr.ownsRow (w.heap.size + 1) 3 1 (.slice (some ⟨g, 0, none⟩) 1 cp) 1 [.int .i64 0]) ∧ Hid (Keeps (fun _ => False) w wr))) (fun i _ => 1 - (intOf i).toNat)
 case atStart => exact .inl ⟨rfl, rfl⟩
 case round =>
  rcases hrel with ⟨rfl, hwr⟩ | ⟨rfl, g, cp, HM, HR, HK⟩
  · obtain rfl := hwr.symm
    have c0 := HK0.out.cell HC0.out (fun e => e)
    go_wp2_with fail
    clear c0
    go_loopw [21] (fun i wr => (i = .int .i64 0 ∧ wr = W0) ∨ (i = .int .i64 1 ∧ ∃ g cp, Hid (wr.heap[w.heap.size]? = some (.map #[⟨oneL (x1, x2), .slice (some ⟨g, 0, none⟩) 1 cp, 0⟩] 1)) ∧ Hid (wr.ownsRow (w.heap.size + 1) 3 1 (.slice (some ⟨g, 0, none⟩) 1 cp) 1 [.int .i64 0]) ∧ Hid (Keeps (fun _ => False) w wr))) (fun i _ => 1 - (intOf i).toNat)
    case atStart => exact .inl ⟨rfl, rfl⟩
    case round =>
     rcases hrel with ⟨rfl, hwr⟩ | ⟨rfl, g, cp, HM, HR, HK⟩
     · obtain rfl := hwr.symm
       have c1 := HK0.out.cell HC1.out (fun e => e)
       have c2 := HK0.out.cell HC2.out (fun e => e)
       obtain ⟨W2, hW2⟩ : ∃ W2, W2 = (W0.alloc (.cells #[.string x1, .string x2] 94)).alloc (.cells #[.int .i64 0] 3) := ⟨_, rfl⟩
       have hM2 : W2.heap[w.heap.size]? = some (.map #[] 0) := by rw [hW2]; exact heap_alloc _ (heap_alloc _ HM0.out)
       have hB2 : W2.heap[W0.heap.size + 1]? = some (.cells #[.int .i64 0] 3 (0, 0)) := by rw [hW2]; have := heap_alloc_new (W0.alloc (.cells #[.string x1, .string x2] 94)) (.cells #[.int .i64 0] 3); rwa [World.size_alloc] at this
       have hk2 : Keeps (fun _ => False) w W2 := by rw [hW2]; exact (HK0.out.alloc _).alloc _
       have hme := run_mapEntry0 HKY.out hM2
       obtain ⟨W3, hW3⟩ : ∃ W3, W3 = W2.putObj w.heap.size (.map #[⟨oneL (x1, x2), .slice none 0 0, 0⟩] 1) := ⟨_, rfl⟩
       have hlt := qap hM2
       have hM3 : W3.heap[w.heap.size]? = some (.map #[⟨oneL (x1, x2), .slice none 0 0, 0⟩] 1) := by rw [hW3]; exact World.putObj_heap_same hlt
       have hB3 : W3.heap[W0.heap.size + 1]? = some (.cells #[.int .i64 0] 3 (0, 0)) := by rw [hW3]; exact (World.putObj_heap_other (by have := HK0.out.size; omega)).trans hB2
       have hk3 : Keeps (fun k => k = w.heap.size) W2 W3 := by rw [hW3]; exact Keeps.putObj _ _ _ rfl
       rw [← hW3, hW2] at hme
       have HM3 := Hj hM3; have HB3 := Hj hB3; have HK3 := Hj (hk2.trans hk3 (fun k hk e => by omega))
       clear hW2 hM2 hB2 hk2 hlt hM3 hB3 hk3 hW3
       have HRd : Hid (Rd 1 W3 (.slice (some ⟨W0.heap.size + 1, 0, none⟩) 1 1) 1 [.int .i64 0]) := Hj ⟨rfl, _, 1, rfl, Nat.le_refl _, .inr ⟨W0.heap.size + 1, 0, rfl, fun j u hj => by rw [Nat.zero_add, cell_of_row _ _ _ _ _ _ HB3.out]; simpa using hj⟩⟩
       have HS3 : Hid (w.heap.size + 1 ≤ W3.heap.size) := Hj (by have := qap HB3.out; have := HK0.out.size; omega)
       go_wp2_with (at_builtin; refine appE elI rfl _ _ rfl (w.heap.size + 1) _ _ 0 1 [] [.int .i64 0] rfl rfl (World.ownsRow_nil _ _ _ _) HRd.out (by simp [Value.oneCell']) (by omega) HS3.out ?_; intro v6 w6 hown6 hg6' hn6; have hg6 : W3.grownBy w6 none := hg6'; have hM6 := (hg6.block w.heap.size (qap HM3.out) (by simp)).trans HM3.out; have hst := fun v => run_entryStore0 (P := Tryz.prog) (val := v) hM6 230; have HM6 := Hj hM6; have HO6 := Hj hown6; have HG6 := Hj hg6; clear hM6 hown6 hg6 hg6' hn6)
       obtain ⟨g6, c6, rfl⟩ := ownsRow_succ (k := 0) HO6.out
       have hlt := qap HM6.out
       have hp6 : Keeps (fun k => k = w.heap.size) w6 (w6.putObj w.heap.size (.map #[⟨oneL (x1, x2), .slice (some ⟨g6, 0, none⟩) 1 c6, 0⟩] 1)) := Keeps.putObj _ _ _ rfl
       exact ⟨.inr ⟨rfl, g6, c6, Hj (World.putObj_heap_same hlt), Hj (hp6.row HO6.out (fun g hg e => by have := (HO6.out.lt g hg).1; omega)), Hj ((HK3.out.grown HG6.out (fun k hk e => by cases e)).trans hp6 (fun k hk e => by omega))⟩, by simp [intOf]⟩
     · go_wp2_with fail
       exact ⟨.inr ⟨rfl, g, cp, HM, HR, HK⟩, by simp [intOf]⟩
  · obtain ⟨W1, hW1⟩ : ∃ W1, W1 = wr.alloc (.cells #[.map (some w.heap.size)] 230) := ⟨_, rfl⟩
    have hk1 : Keeps (fun _ => False) wr W1 := by rw [hW1]; exact (Keeps.refl _ _).alloc _
    have hM1 := hk1.heap HM.out (fun e => e)
    have hs1 : W1.heap.size = wr.heap.size + 1 := by rw [hW1]; simp
    have hb1 : W1.heap[wr.heap.size]? = some (.cells #[.map (some w.heap.size)] 230 (0, 0)) := by rw [hW1]; exact heap_alloc_new wr _
    have hMw := qap HM.out
    have hso := sortedL_one 176 (enters_of Tryz.func176 (by kernel_rfl) rfl) #[.pointer (some ⟨wr.heap.size, 0, none⟩)] (.func (.func 130) #[] #[]) (fun k => k = w.heap.size ∨ k = W1.heap.size + 3) (fun k => k = W1.heap.size + 3) (x1, x2) W1
     (fun W hs hk => by
       have := keys_at wr.heap.size w.heap.size (W1.heap.size + 3) (x1, x2) (.slice (some ⟨g, 0, none⟩) 1 cp) W hs.symm (by rw [cell_of_row _ _ _ _ _ _ (hk.heap hb1 (fun e => e))]; rfl) (hk.heap hM1 (fun e => e))
       exact this) (fun k hk => hk.elim (fun e => .inl (by omega)) .inr) (fun k hk => hk) (fun k hk => .inr hk)
    have HSO := Hj hso; have HW1 := Hj hW1; have HM1 := Hj hM1; have HK1 := Hj (HK.out.trans hk1 (fun _ _ e => e)); have HR1 := Hj (hk1.row HR.out (fun _ _ e => e)); have HS1 := Hj hs1
    clear hk1 hM1 hs1 hb1 hso hW1 hMw HM HR
    go_wp2_with (first
     | (go_at_call 129; refine (keys_any w.heap.size _).mono ?_; rintro e w1 ⟨rfl, rfl⟩)
     | (go_at_call 128; rw [← HW1.out]; refine HSO.out.mono ?_; rintro e w5 ⟨v5, rfl, hr5, hk5⟩; obtain ⟨g5, c5, rfl⟩ := ownsRow_succ (k := 0) hr5; have HR5 := Hj hr5; have HM5 := Hj (hk5.heap HM1.out (fun e => e)); have HK5 := Hj (HK1.out.trans hk5 (fun _ _ e => e)); have HRw5 := Hj (hk5.row HR1.out (fun _ _ e => e)); have HW5 := Hj hk5.size; clear hr5 hk5))
    clear HSO HM1 HK1 HR1
    go_loopw [8, 39] (fun c8 i wr => (c8 = .slice none 0 0 ∧ i = .int .i64 0 ∧ wr = w5) ∨ (i = .int .i64 1 ∧ Hid (wr.ownsRow (w.heap.size + 1) 229 3 c8 1 [.string x1, .string x2, .slice (some ⟨g, 0, none⟩) 1 cp]) ∧ Hid (wr.ownsRow (w.heap.size + 1) 3 1 (.slice (some ⟨g, 0, none⟩) 1 cp) 1 [.int .i64 0]) ∧ Hid (Keeps (fun _ => False) w wr))) (fun _ i _ => 1 - (intOf i).toNat)
    case atStart => exact .inl ⟨rfl, rfl, rfl⟩
    case round =>
     rcases hrel with ⟨rfl, rfl, hwr⟩ | ⟨rfl, HE, HRw, HKw⟩
     · obtain rfl := hwr.symm
       have c1 : w5.cell? ⟨g5, 0, none⟩ = some (.string x1) := by have := (HR5.out.cells (g := g5) rfl 0 (.string x1) rfl); rw [qbo] at this; exact this
       have c2 : w5.cell? ⟨g5, 1, none⟩ = some (.string x2) := by have := (HR5.out.cells (g := g5) rfl 1 (.string x2) rfl); rw [qbo] at this; exact this
       go_upto_region 15 with fail
       obtain ⟨W6, hW6⟩ : ∃ W6, W6 = w5.alloc (.cells #[.string x1, .string x2] 94) := ⟨_, rfl⟩
       have hr6 : W6.heap[w5.heap.size]? = some (.cells #[.string x1, .string x2] 94 (0, 0)) := by rw [hW6]; exact heap_alloc_new w5 _
       have hM6 : W6.heap[w.heap.size]? = some (.map #[⟨oneL (x1, x2), .slice (some ⟨g, 0, none⟩) 1 cp, 0⟩] 1) := by rw [hW6]; exact heap_alloc _ HM5.out
       have e1 : W6.cell? ⟨w5.heap.size, 0, none⟩ = some (.string x1) := by rw [cell_of_row _ _ _ _ _ _ hr6]; rfl
       have e2 : W6.cell? ⟨w5.heap.size, 1, none⟩ = some (.string x2) := by rw [cell_of_row _ _ _ _ _ _ hr6]; rfl
       have HK6 : Hid (Keeps (fun _ => False) w W6) := Hj (by rw [hW6]; exact HK5.out.alloc _)
       have HRw6 : Hid (W6.ownsRow (w.heap.size + 1) 3 1 (.slice (some ⟨g, 0, none⟩) 1 cp) 1 [.int .i64 0]) := Hj (by rw [hW6]; exact HRw5.out.alloc _)
       have hlk := run_lookup1 (w := W6.drew) HKY.out hM6
       have HS6 : Hid (w.heap.size + 1 ≤ W6.heap.size) := Hj (by have := qap hM6; omega)
       have CC : Hid (∀ q, Keeps (fun _ => False) W6 q → q.cell? ⟨w5.heap.size, 0, none⟩ = some (.string x1) ∧ q.cell? ⟨w5.heap.size, 1, none⟩ = some (.string x2)) := Hj (fun q hq => ⟨hq.cell e1 (fun e => e), hq.cell e2 (fun e => e)⟩)
       have K0 : Hid (Keeps (fun _ => False) W6 W6.drew) := Hj (Keeps.refl _ _).drew
       have K1 : Hid (Keeps (fun _ => False) W6 (W6.drew.alloc (.cells #[.string x1, .string x2, .slice (some ⟨g, 0, none⟩) 1 cp] 229))) := Hj ((Keeps.refl _ _).drew.alloc _)
       rw [← hW6]
       clear hW6 c1 c2 hM6 hr6
       go_region_held3 (fun q => q.cell? ⟨w5.heap.size, 0, none⟩ = some (.string x1) ∧ q.cell? ⟨w5.heap.size, 1, none⟩ = some (.string x2)) (first | exact CC.out _ K0.out | exact CC.out _ K1.out | exact CC.out _ K8.out) (first | (refine sappE elEn rfl _ _ rfl (w.heap.size + 1) _ _ 0 1 [] [.string x1, .string x2, .slice (some ⟨g, 0, none⟩) 1 cp] rfl rfl (World.ownsRow_nil _ _ _ _) (rd_new _ 3 1 [.string x1, .string x2, .slice (some ⟨g, 0, none⟩) 1 cp] 229 1 rfl (Nat.le_refl _)) (by simp [Value.oneCell']) (by omega) (by have := HS6.out; simp; omega) ?_; intro v8 w8 hown8 hg8' hn8; have hg8 : (W6.drew.alloc (.cells #[.string x1, .string x2, .slice (some ⟨g, 0, none⟩) 1 cp] 229)).grownBy w8 none := hg8'; have K8 := Hj (K1.out.grown hg8 (fun k hk e => by cases e)); have HO8 := Hj hown8; clear hg8' hown8 hg8 hn8))
       clear hlk
       obtain ⟨a8, c8, rfl⟩ := qaf HO8.out
       go_wp2_with fail
       exact ⟨.inr ⟨rfl, Hj HO8.out, Hj (K8.out.row HRw6.out (fun _ _ e => e)), Hj (HK6.out.trans K8.out (fun _ _ e => e))⟩, by simp [intOf]⟩
     · obtain ⟨a9, c9, rfl⟩ := qaf HE.out
       go_wp2_with fail
       go_ret
       refine ⟨_, ⟨(x1, x2), some ⟨g, 0, none⟩, 1, cp⟩, rfl, ⟨rfl, rd_row HE.out, fun i h e hi he => ?_⟩, HKw.out⟩
       cases i with
       | zero =>
         simp only [List.getElem?_cons_zero, Option.some.injEq] at hi he
         subst hi he
         exact ⟨rfl, rd_row HRw.out⟩
       | succ i => simp at hi
end
section
set_option maxHeartbeats 1000000
set_option maxRecDepth 100000
open Go.RowKit Go.Shelf
attribute [local go_sem] Oper.semAt_some
theorem smpC_one (l : List Smp) : ∀ u ∈ smpC l, u.oneCell' = true := by
 intro u hu
 simp only [smpC, cells2, List.mem_flatMap] at hu
 obtain ⟨x, _, hx⟩ := hu
 simp only [List.mem_cons, List.not_mem_nil, or_false] at hx
 rcases hx with rfl | rfl <;> rfl
theorem smpC_length (l : List Smp) : (smpC l).length = l.length * 2 := qbv _ _ l
theorem cloneSmp_any (ad : Option Addr) (cap : Nat) (l : List Smp) (w : World) (h : RdS w (.slice ad l.length cap) l) (hn : l ≠ []) (hl : l.length ≤ 1099511627776) :
 Calls Tryz.prog 6 #[.slice ad l.length cap] w fun e w' => ∃ v', e = .returned v' ∧ w'.ownsRow w.heap.size 28 2 v' l.length (smpC l) ∧ Keeps (fun _ => False) w w' := by
 obtain ⟨b, off, rfl, _⟩ := Rd.at h (i := 0) (by cases l with | nil => exact absurd rfl hn | cons => simp)
 have hq := fun (w : World) n c => Lib.run_eql_slice_nil (P := Tryz.prog) w 22 28 (some ⟨b, off, none⟩) n c 0 0 Tryz.underlying22
 have HH := Hj (Rd.keeps h ((Keeps.refl (fun _ => False) w).alloc (.cells #[] 28)) (fun _ _ e => e))
 have hown : (w.alloc (.cells #[] 28)).ownsRow w.heap.size 28 2 (.slice (some ⟨w.heap.size, 0, none⟩) 0 0) 0 [] :=
  ⟨rfl, .inr ⟨w.heap.size, 0, #[], rfl, Nat.le_refl _, heap_alloc_new w _, Nat.le_refl _, Nat.zero_le _, rfl, rfl⟩⟩
 have HOW := Hj hown
 clear h hn hown
 go_enter Tryz.func6, Tryz.ntmps6
 go_wp2_with (at_builtin; refine appE elM rfl _ _ rfl w.heap.size _ _ 0 l.length [] (smpC l) rfl rfl HOW.out HH.out (smpC_one l) (by omega) (by simp) ?_; intro v6 w6 hown6 hg6' hn6; have hg6 : (w.alloc (.cells #[] 28)).grownBy w6 (some w.heap.size) := hg6'; have HO6 := Hj hown6; have HG6 : Hid (Keeps (fun _ => False) w w6) := Hj (((Keeps.refl (fun _ => False) w).alloc _).grown hg6 (fun k hk e => by simp at e; omega)); clear hown6 hg6 hg6' hn6)
 obtain ⟨a9, c9, rfl⟩ := qaf HO6.out
 go_wp2_with fail
 go_ret
 exact ⟨.slice a9 (0 + l.length) c9, rfl, by have := HO6.out; simpa using this, HG6.out⟩
theorem chunkseq_any (ad : Option Addr) (n cap : Nat) (w : World) : Calls Tryz.prog 165 #[.slice ad n cap, .int .i64 120] w fun e w' => e = .returned (.func (.func 201) #[] #[.pointer (some ⟨w.heap.size, 0, none⟩), .pointer (some ⟨w.heap.size + 1, 0, none⟩)]) ∧ w' = (w.alloc (.cells #[.slice ad n cap] 22)).alloc (.cells #[.int .i64 120] 3) := by
 go_enter Tryz.func165, Tryz.ntmps165
 go_wp2
 exact bodyPost_ret (results_tmp rfl _ _ _) rfl ⟨rfl, rfl⟩
def nCh (n : Nat) : Nat := (n + 119) / 120
def cLen (n j : Nat) : Nat := min 120 (n - j * 120)
abbrev cVal (b n j : Nat) : Value := .slice (some ⟨b, j * 120 * 2, none⟩) (cLen n j) (cLen n j)
def encC (b n : Nat) (j : Nat) : Array Value := #[cVal b n j]
theorem chunk_seq (Bx By b n cap : Nat) (w : World) (hn : n ≤ 1000000000) (hcap : n ≤ cap) (hc : w.cell? ⟨Bx, 0, none⟩ = some (.slice (some ⟨b, 0, none⟩) n cap)) (hd : w.cell? ⟨By, 0, none⟩ = some (.int .i64 120)) :
 SeqR Tryz.prog 201 #[.pointer (some ⟨Bx, 0, none⟩), .pointer (some ⟨By, 0, none⟩)] (encC b n) (fun k => k = Bx ∨ k = By) (fun _ => False) (fun xs => xs = List.range (nCh n)) (fun pre => pre <+: List.range (nCh n)) w := by
 intro L J Jx W hW hJ hJx hY h0
 have hc1 : W.cell? ⟨Bx, 0, none⟩ = some (.slice (some ⟨b, 0, none⟩) n cap) := hW.cell hc (fun h => h (.inl rfl))
 have hd1 : W.cell? ⟨By, 0, none⟩ = some (.int .i64 120) := hW.cell hd (fun h => h (.inr rfl))
 have HY := Hj hY; have HJd := Hj hJ
 clear hY hJ hJx hc hd hW
 refine callsIn_of_wp Tryz.func201 rfl trivial ?_ rfl
 simp only [Tryz.ntmps201, List.size_toArray, List.length_cons, List.length_nil, Nat.reduceAdd, Nat.reduceSub, Array.replicate_succ, Array.replicate_zero, List.push_toArray, List.append_toArray, List.nil_append, List.cons_append]
 gi_wp2
 gi_loopw [4] (fun t4 wr => ∃ j : Nat, j ≤ nCh n ∧ t4 = .int .i64 ((j : Int) * 120) ∧ wr.cell? ⟨Bx, 0, none⟩ = some (.slice (some ⟨b, 0, none⟩) n cap) ∧ wr.cell? ⟨By, 0, none⟩ = some (.int .i64 120) ∧ Hid (J (List.range j) wr)) (fun t4 wr => (nCh n) * 120 - (intOf t4).toNat)
 case atStart => exact ⟨0, by omega, by simp, hc1, hd1, Hj h0⟩
 case round =>
  obtain ⟨j, hj, rfl, hcb, hdb, HJ⟩ := hrel
  clear hc1 hd1 h0
  by_cases hlt : j * 120 < n
  · have hlt' : ((j : Int) * 120) < n := by omega
    have hj0 : (0 : Int) ≤ (j : Int) * 120 := by omega
    have hc2 : (0 : Int) < (n : Int) - (j : Int) * 120 := by omega
    gi_wp2
    gi_big_region
    obtain ⟨m, hm⟩ : ∃ m, m = cLen n j := ⟨_, rfl⟩
    have hm1 : min (120 : Int) ((n - j * 120 : Nat) : Int) = (m : Int) := by rw [hm]; unfold cLen; omega
    have hm2 : m ≤ 120 := by rw [hm]; unfold cLen; omega
    have hm3 : 0 < m := by rw [hm]; unfold cLen; omega
    have hm4 : j * 120 + m ≤ n := by rw [hm]; unfold cLen; omega
    have hm5 : (j : Int) * 120 + m ≤ cap := by omega
    have hm6 : (0 : Int) ≤ (j : Int) * 120 + m := by omega
    have hm7 : (j : Int) * 120 ≤ (j : Int) * 120 + m := by omega
    have hm8 : (j : Int) * 120 + m ≤ 2000000000 := by omega
    have hm9 : (j : Int) * 120 ≤ 2000000000 := by omega
    rw [hm1]
    have HM := Hj hm
    clear hm hm1
    obtain ⟨wq, hwq⟩ : ∃ wq, wq = wr.drew := ⟨_, rfl⟩
    have hcq : wq.cell? ⟨Bx, 0, none⟩ = some (.slice (some ⟨b, 0, none⟩) n cap) := by rw [hwq]; exact hcb
    have hdq : wq.cell? ⟨By, 0, none⟩ = some (.int .i64 120) := by rw [hwq]; exact hdb
    rw [← hwq]
    have hJq : J (List.range j) wq := HJd.out _ _ _ HJ.out (by rw [hwq]; exact (Keeps.refl _ _).drew)
    have hjn : j < nCh n := by unfold nCh; omega
    have hpre : List.range (j + 1) <+: List.range (nCh n) := ⟨(List.range (nCh n)).drop (j + 1), by
     have : List.range (j + 1) = (List.range (nCh n)).take (j + 1) := by rw [List.take_range, Nat.min_eq_left (by omega)]
     rw [this, List.take_append_drop]⟩
    obtain ⟨fn, tmps, assign, body, hyy, hR⟩ := HY.out (List.range j) j wq hJq (by rw [← List.range_succ]; exact hpre)
    rw [← List.range_succ] at hR
    simp only [encC, cVal] at hyy
    rw [← HM.out] at hyy
    have hmz : (j * 120 + m) - j * 120 = m := by omega
    have HPX := Hj hpre
    have HJN := Hj hjn
    clear hwq hcb hdb hJq hpre HJ hjn
    gi_wp2
    refine ⟨rfl, hR.mono ?_⟩
    rintro e W3 (⟨rfl, hJ3, hk3⟩ | ⟨rfl, hJx3, hk3⟩)
    · have hc3 := hk3.cell hcq (fun h => h (.inl rfl))
      have hd3 := hk3.cell hdq (fun h => h (.inr rfl))
      have HJ3 := Hj hJ3
      clear hJ3 hk3 hyy hcq hdq
      gi_wp2
      exact ⟨⟨j + 1, by have := HJN.out; omega, by rw [show ((j + 1 : Nat) : Int) * 120 = (j : Int) * 120 + 120 by omega], hc3, hd3, HJ3⟩, by have := HJN.out; simp [intOf]; omega⟩
    · have HJx3 := Hj hJx3
      clear hJx3 hk3 hyy hcq hdq
      gi_wp2
      refine bodyPost_ret (results_none rfl _ _ _) rfl ?_
      exact ⟨⟨_, rfl⟩, .inr ⟨_, HPX.out, HJx3.out⟩⟩
  · have hlt' : ¬ ((j : Int) * 120) < n := by omega
    have hjn : j = nCh n := by unfold nCh at hj ⊢; omega
    subst hjn
    gi_wp2
    go_end0
    first | exact ⟨⟨_, rfl⟩, .inl ⟨_, rfl, HJ.out⟩⟩ | exact ⟨⟨_, rfl⟩, .inl HJ.out⟩ | exact .inl HJ.out
end
section
set_option maxHeartbeats 1000000
set_option maxRecDepth 100000
open Go.RowKit Go.Shelf
attribute [local go_sem] Oper.semAt_some
def valC (b n : Nat) (xs : List Nat) : List Value := xs.map (cVal b n)
theorem valC_append (b n : Nat) (x y : List Nat) : valC b n (x ++ y) = valC b n x ++ valC b n y := by simp [valC]
theorem appseqC_any (b n : Nat) (gf : Nat) (eg : ∀ args w, (callFunc gf args).run Tryz.prog w = .ok (.enter gf args) w) (lb : Array Value) (ow : Nat → Prop) (S Sp : List Nat → Prop) (w : World) (hseq : SeqR Tryz.prog gf lb (encC b n) ow (fun _ => False) S Sp w) (how : ∀ k, ow k → k < w.heap.size) (hlen : ∀ pre, Sp pre → pre.length ≤ 1099511627776) :
 Calls Tryz.prog 200 #[.slice none 0 0, .func (.func gf) #[] lb] w fun e w' => ∃ v rs, e = .returned v ∧ S rs ∧ w'.ownsRow w.heap.size 22 1 v rs.length (valC b n rs) ∧ Keeps (fun _ => False) w w' := by
 have HSeq := Hj hseq; have HOw := Hj how; have HLen := Hj hlen
 clear hseq how hlen
 refine (callsIn_wide (n := 0)).1 ?_
 refine callsIn_of_wp_marks Tryz.func200 rfl trivial ?_ rfl
 simp only [Tryz.ntmps200, List.size_toArray, List.length_cons, List.length_nil, Nat.reduceAdd, Nat.reduceSub, Array.replicate_succ, Array.replicate_zero, List.push_toArray, List.append_toArray, List.nil_append, List.cons_append]
 gi_wp2
 obtain ⟨W0, hW0⟩ : ∃ W0, W0 = (w.alloc (.cells #[.slice none 0 0] 165)) := ⟨_, rfl⟩
 have hsz : W0.heap.size = w.heap.size + 1 := by rw [hW0]; simp
 have hkW : ∀ S, Keeps S w W0 := fun S => by rw [hW0]; exact (Keeps.refl S w).alloc _
 have hbox : W0.heap[w.heap.size]? = some (.cells #[.slice none 0 0] 165 (0, 0)) := by rw [hW0]; exact heap_alloc_new w _
 rw [← hW0]
 clear hW0
 refine qbl (gf := gf) (lb := lb) (w := W0) rfl eg
  (HSeq.out.later (hkW _)) (T := fun k => k = w.heap.size ∨ w.heap.size + 3 ≤ k) (fun x => rfl) (fun _ h => h.elim)
  (fun k hk => by have := HOw.out k hk; omega) ?hT ?hT2
  (fun pre W => ∃ v', W.heap[w.heap.size]? = some (.cells #[v'] 165 (0, 0)) ∧ W.ownsRow (w.heap.size + 3) 22 1 v' pre.length (valC b n pre) ∧ Keeps (fun _ => False) w W)
  (fun _ _ _ => False) ?hI (fun _ _ _ _ h _ => h) ?h0
  (fun x => { tmps := #[.slice none 0 0, .func (.func gf) #[] lb, .pointer (some ⟨w.heap.size, 0, none⟩), undef, .slice none 0 0, .slice (some ⟨b, x * 120 * 2, none⟩) (cLen n x) (cLen n x), .func (.func gf) #[] lb, .slice (some ⟨b, x * 120 * 2, none⟩) (cLen n x) (cLen n x), undef, undef, undef, undef, undef], defers := [] })
  ?assign ?body ?done ?stop
 case hT =>
  rintro k (rfl | hk) e
  · have := HOw.out _ e; omega
  · have := HOw.out _ e; omega
 case hT2 => rintro k (rfl | hk) <;> omega
 case hI =>
  rintro pre A B ⟨v', h1, h2, h3⟩ hk
  refine ⟨v', hk.heap h1 ?_, hk.row h2 (fun g hg hs => ?_), h3.trans hk (fun k hk hs => ?_)⟩
  · rintro (e | e | e)
    · exact e
    · omega
    · omega
  · have := (h2.lt g hg).1
    rcases hs with e | e | e
    · exact e
    · omega
    · omega
  · rcases hs with e | e | e
    · exact e
    · omega
    · omega
 case h0 => exact ⟨_, hbox, World.ownsRow_nil _ _ _ _, hkW _⟩
 case assign =>
  intro lp x W K hK
  simp only [encC]
  gi_wp2
  exact hK
 case body =>
  rintro lp pre x W ⟨v', h1, h2, h3⟩ hsp hsz2
  have hb1 : w.heap.size + 3 ≤ W.heap.size := by omega
  have hc0 : W.cell? ⟨w.heap.size, 0, none⟩ = some v' := by rw [cell_of_row _ _ _ _ _ _ h1]; rfl
  have hf0 : W.frozen? ⟨w.heap.size, 0, none⟩ = false := frozen_of_row _ _ _ _ _ h1
  have hlp : pre.length ≤ 1099511627776 := by have := HLen.out _ hsp; simp at this; omega
  have H1 := Hj h1; have H2 := Hj h2; have H3 := Hj h3
  obtain ⟨ad', cap', rfl⟩ := qaf h2
  clear h1 h2 h3 hsp
  gi_wp2_with (gi_at_builtin; refine appEIn elMs rfl _ _ rfl (w.heap.size + 3) _ _ pre.length 1 _ [.slice (some ⟨b, x * 120 * 2, none⟩) (cLen n x) (cLen n x)] rfl rfl (H2.out.alloc _) (rd_new _ 1 1 [.slice (some ⟨b, x * 120 * 2, none⟩) (cLen n x) (cLen n x)] 22 1 rfl (Nat.le_refl _)) (by simp [Value.oneCell']) (by omega) (by simp; omega) ?_)
  intro v2 w2 hown' hgrow hnew
  obtain ⟨ad2, cap2, rfl⟩ := qaf hown'
  have hk2 : Keeps (own (.slice ad' pre.length cap')) W w2 := ((Keeps.refl (own _) W).alloc _).grown hgrow (fun k _ e => e)
  have hvb : ¬ own (.slice ad' pre.length cap') w.heap.size := fun e => by have := (H2.out.lt _ e).1; omega
  have d0 : w2.cell? ⟨w.heap.size, 0, none⟩ = some (.slice ad' pre.length cap') := hk2.cell hc0 hvb
  have e0 : w2.frozen? ⟨w.heap.size, 0, none⟩ = false := (qca hk2 hc0 hvb).trans hf0
  have hlo : ∀ g, (Value.slice ad2 (pre.length + 1) cap2).ownBlock = some g → w.heap.size + 3 ≤ g := fun g hg => (hown'.lt g hg).1
  have hset : Keeps (fun k => k = w.heap.size) w2 (w2.setCell ⟨w.heap.size, 0, none⟩ (.slice ad2 (pre.length + 1) cap2)) := (Keeps.refl (fun k => k = w.heap.size) w2).setCell (p := ⟨w.heap.size, 0, none⟩) (fun _ => rfl) _
  have fin : bodyC (fun k => k = w.heap.size ∨ w.heap.size + 3 ≤ k)
   (fun pre W => ∃ v', W.heap[w.heap.size]? = some (.cells #[v'] 165 (0, 0)) ∧ W.ownsRow (w.heap.size + 3) 22 1 v' pre.length (valC b n pre) ∧ Keeps (fun _ => False) w W) (fun _ _ _ => False) (pre ++ [x]) W .normal { tmps := #[], defers := [] } (w2.setCell ⟨w.heap.size, 0, none⟩ (.slice ad2 (pre.length + 1) cap2)) := by
   have kk : Keeps (fun k => k = w.heap.size ∨ w.heap.size + 3 ≤ k) W (w2.setCell ⟨w.heap.size, 0, none⟩ (.slice ad2 (pre.length + 1) cap2)) :=
    (hk2.mono (S' := fun k => k = w.heap.size ∨ w.heap.size + 3 ≤ k) (fun k _ e => .inr (H2.out.lt _ e).1)).trans hset (fun k _ e => .inl e)
   refine ⟨kk, .slice ad2 (pre.length + 1) cap2, ?_, ?_, H3.out.trans kk (fun k hk e => by omega)⟩
   · have := heap_setCell_same w2 w.heap.size 0 _ _ (.slice ad2 (pre.length + 1) cap2) (hk2.heap H1.out hvb)
     simpa using this
   · rw [valC_append, List.length_append, List.length_singleton]
     exact hset.row hown' (fun g hg e => by have := hlo g hg; omega)
  have HF := Hj fin
  clear hown' hgrow hnew hk2 hvb hc0 hf0 hset fin hlo
  gi_wp2
  exact HF.out
 case done =>
  rintro D xs W hS ⟨v', h1, h2, h3⟩ hD hK
  have hc0 : W.cell? ⟨w.heap.size, 0, none⟩ = some v' := by rw [cell_of_row _ _ _ _ _ _ h1]; rfl
  have H2 := Hj h2; have H3 := Hj h3; have HS := Hj hS
  clear h1 h2 h3 hS
  gi_wp2
  refine ⟨by simp, .inl ⟨_, _, rfl, run_takeDeferred hK, ?_⟩⟩
  refine ⟨_, results_tmp rfl _ _ _, ⟨_, _, rfl, HS.out, ?_⟩⟩
  have hp : Keeps (fun k => k = D) W (W.putObj D (.deferred none)) := Keeps.putObj _ _ _ rfl
  refine ⟨qam (hp.row H2.out (fun g hg e => ?_)) (fun g hg => by have := (H2.out.lt g hg).1; omega), H3.out.trans hp (fun k hk e => by omega)⟩
  obtain ⟨c', hc'⟩ := qaj H2.out hg
  subst e
  rw [hK] at hc'
  cases hc'
 case stop => rintro D c pre W _ h; exact h.elim
theorem collectC_any (b n : Nat) (gf : Nat) (eg : ∀ args w, (callFunc gf args).run Tryz.prog w = .ok (.enter gf args) w) (lb : Array Value) (ow : Nat → Prop) (S Sp : List Nat → Prop) (w : World) (hseq : SeqR Tryz.prog gf lb (encC b n) ow (fun _ => False) S Sp w) (how : ∀ k, ow k → k < w.heap.size) (hlen : ∀ pre, Sp pre → pre.length ≤ 1099511627776) :
 Calls Tryz.prog 164 #[.func (.func gf) #[] lb] w fun e w' => ∃ v rs, e = .returned v ∧ S rs ∧ w'.ownsRow w.heap.size 22 1 v rs.length (valC b n rs) ∧ Keeps (fun _ => False) w w' := by
 have HSeq := Hj hseq; have HOw := Hj how; have HLen := Hj hlen; have HEg := Hj eg
 clear hseq how hlen eg
 go_enter Tryz.func164, Tryz.ntmps164
 go_wp2_with (go_at_call 200; refine (appseqC_any b n gf HEg.out lb ow S Sp w HSeq.out HOw.out HLen.out).mono ?_; rintro e w1 ⟨v, rs, rfl, hS, hr, hk⟩; obtain ⟨ad, cap, rfl⟩ := qaf hr)
 go_ret
 exact ⟨_, _, rfl, hS, hr, hk⟩
def partS (l : List Smp) (j : Nat) : List Smp := (l.drop (j * 120)).take 120
theorem partS_length (l : List Smp) (j : Nat) : (partS l j).length = cLen l.length j := by unfold partS cLen; rw [List.length_take, List.length_drop]
theorem part_rd {w : World} {b cap : Nat} {l : List Smp} (h : RdS w (.slice (some ⟨b, 0, none⟩) l.length cap) l) {j : Nat} (hj : j < nCh l.length) : RdS w (cVal b l.length j) (partS l j) := by
 obtain ⟨hl, a', c', hv, hc, h0 | ⟨b', off', hb, hcell⟩⟩ := h
 · unfold nCh at hj; omega
 · cases hv; cases hb
   refine ⟨by rw [smpC_length], _, cLen l.length j, by rw [partS_length], Nat.le_of_eq (partS_length l j), .inr ⟨b, j * 120 * 2, rfl, fun i u hu => ?_⟩⟩
   have e : smpC (partS l j) = ((smpC l).drop (j * 120 * 2)).take (120 * 2) := by unfold smpC partS; rw [cells2_drop, cells2_take]
   rw [e, List.getElem?_take] at hu
   split at hu
   · rw [List.getElem?_drop] at hu
     have := hcell _ _ hu
     rw [Nat.zero_add] at this
     exact this
   · cases hu
theorem split_any (ad : Option Addr) (cap : Nat) (l : List Smp) (w : World) (h : RdS w (.slice ad l.length cap) l) (hn : l ≠ []) (hl : l.length ≤ 1000000000) :
 Calls Tryz.prog 119 #[.slice ad l.length cap] w fun e w' => ∃ v' b, e = .returned v' ∧ w'.ownsRow w.heap.size 22 1 v' (nCh l.length) (valC b l.length (List.range (nCh l.length))) ∧ Hid (∀ j, j < nCh l.length → RdS w' (cVal b l.length j) (partS l j)) ∧ Keeps (fun _ => False) w w' := by
 have HCL := Hj (cloneSmp_any ad cap l w h hn (by omega))
 clear h
 have hpos : l.length ≠ 0 := fun e => hn (List.eq_nil_of_length_eq_zero e)
 have HPOS := Hj hpos
 clear hn hpos
 go_enter Tryz.func119, Tryz.ntmps119
 go_wp2_with (first
  | (go_at_call 6
     refine HCL.out.mono ?_
     rintro e w1 ⟨v1, rfl, hr1, hk1⟩
     obtain ⟨b, c1, cur, hv, hbase, hb, h1, h2, h3, h4⟩ := qbw hr1 HPOS.out
     subst hv
     have HR1 := Hj hr1; have HK1 := Hj hk1; have HBS := Hj hbase; have HB := Hj hb; have HC1 := Hj h1
     clear hr1 hk1 hbase hb h1 h2 h3 h4)
  | (go_at_call 165
     refine (chunkseq_any (some ⟨b, 0, none⟩) l.length c1 w1).mono ?_
     rintro e w2 ⟨rfl, hw2⟩
     have hk2 : Keeps (fun _ => False) w1 w2 := by rw [hw2]; exact ((Keeps.refl _ w1).alloc _).alloc _
     have hs2 : w2.heap.size = w1.heap.size + 2 := by rw [hw2]; simp
     have hx : w2.cell? ⟨w1.heap.size, 0, none⟩ = some (.slice (some ⟨b, 0, none⟩) l.length c1) := by rw [hw2, cell_of_row _ _ _ _ _ _ (heap_alloc _ (heap_alloc_new w1 _))]; rfl
     have hy : w2.cell? ⟨w1.heap.size + 1, 0, none⟩ = some (.int .i64 120) := by
      rw [hw2]
      have := heap_alloc_new (w1.alloc (.cells #[.slice (some ⟨b, 0, none⟩) l.length c1] 22)) (.cells #[.int .i64 120] 3)
      rw [World.size_alloc] at this
      rw [cell_of_row _ _ _ _ _ _ this]; rfl
     have HSEQ := Hj (collectC_any b l.length 201 (enters_of Tryz.func201 (by kernel_rfl) rfl) _ _ _ _ w2 (chunk_seq w1.heap.size (w1.heap.size + 1) b l.length c1 w2 hl HC1.out hx hy) (fun k hk => hk.elim (fun e => by omega) (fun e => by omega)) (fun pre hp => by have := hp.length_le; rw [List.length_range] at this; unfold nCh at this; omega))
     have HK2 := Hj hk2
     clear hw2 hk2 hs2 hx hy)
  | (go_at_call 164; refine HSEQ.out.mono ?_; rintro e w3 ⟨v3, rs, rfl, hrs, hr3, hk3⟩; subst hrs; obtain ⟨a3, c3, rfl⟩ := qaf hr3; have HR3 := Hj hr3; have HK3 := Hj hk3; clear hr3 hk3))
 go_ret
 have hkk := HK2.out.trans HK3.out (fun _ _ e => e)
 refine ⟨_, b, rfl, ?_, Hj (fun j hj => ?_), HK1.out.trans hkk (fun _ _ e => e)⟩
 · have := HR3.out
   rw [List.length_range] at this
   exact qam this (fun g hg => by have := (this.lt g hg).1; have := HK1.out.size; have := HK2.out.size; omega)
 · exact Rd.keeps (part_rd (rd_row HR1.out) hj) hkk (fun _ _ e => e)
end
section
set_option maxHeartbeats 2000000
set_option maxRecDepth 100000
open Go.RowKit
theorem elU : ElT Tryz.prog 29 5 1 140737488355328 := ⟨Tryz.underlying29, by obtain ⟨i, h1, h2, h3, h4⟩ := info_parts infoU8; exact ⟨i, _, h1, h2, h3, by rw [h4]; decide, rfl⟩, by decide, by decide⟩
theorem add_one (D Lb R : Nat) (lv : Value) (ca : Option Addr) (cc : Nat) (bs : List Nat) (w : World) (hD : w.heap[D]? = some (.cells #[.slice none 0 0] 29 (0, 0))) (hL : w.heap[Lb]? = some (.cells #[.slice (some ⟨R, 0, none⟩) 1 1] 123 (0, 0)))
 (hR : w.heap[R]? = some (.cells #[lv, .slice none 0 0] 127 (0, 0))) (hc : Rd 1 w (.slice ca bs.length cc) bs.length (u8s bs)) (hb : bs.length ≤ 1000000000) :
 Calls Tryz.prog 62 #[.int .i64 0, .slice ca bs.length cc, .pointer (some ⟨D, 0, none⟩), .pointer (some ⟨Lb, 0, none⟩)] w fun e w' => ∃ dv cv, e = .returned (.tuple #[]) ∧ w'.heap[D]? = some (.cells #[dv] 29 (0, 0)) ∧ w'.ownsRow w.heap.size 5 1 dv bs.length (u8s bs) ∧
  w'.heap[Lb]? = some (.cells #[.slice (some ⟨R, 0, none⟩) 1 1] 123 (0, 0)) ∧ w'.heap[R]? = some (.cells #[lv, cv] 127 (0, 0)) ∧ w'.ownsRow w.heap.size 3 1 cv 1 [.int .i64 (bs.length : Int)] ∧ Keeps (fun k => k = D ∨ k = R) w w' := by
 have hDR : D ≠ R := qag hD hR (by decide)
 have hDL : D ≠ Lb := qag hD hL (by decide)
 have hLR : Lb ≠ R := qag hL hR (by decide)
 have hDl := qap hD; have hRl := qap hR; have hLl := qap hL
 have c0 : w.cell? ⟨D, 0, none⟩ = some (.slice none 0 0) := by rw [cell_of_row _ _ _ _ _ _ hD]; rfl
 have HD := Hj hD; have HL := Hj hL; have HR := Hj hR; have HC := Hj hc
 have HDR := Hj hDR; have HDL := Hj hDL; have HLR := Hj hLR
 clear hD hL hR hc hDR hDL hLR
 go_enter Tryz.func62, Tryz.ntmps62
 go_upto_region 1 with (first
  | (at_builtin
     refine appE elU rfl _ _ rfl w.heap.size _ _ 0 bs.length [] (u8s bs) rfl rfl (World.ownsRow_nil _ _ _ _) HC.out (u8s_one bs) (by omega) (Nat.le_refl _) ?_
     intro v6 w6 hown6 hg6' hn6
     have hg6 : w.grownBy w6 none := hg6'
     have hD6 := (hg6.block D hDl (by simp)).trans HD.out
     have d0 : w6.cell? ⟨D, 0, none⟩ = some (.slice none 0 0) := by rw [cell_of_row _ _ _ _ _ _ hD6]; rfl
     have f0 : w6.frozen? ⟨D, 0, none⟩ = false := frozen_of_row _ _ _ _ _ hD6
     obtain ⟨a6, c6, rfl⟩ := qaf hown6
     have HO6 := Hj hown6; have HG6 := Hj hg6; have HD6 := Hj hD6
     clear hown6 hg6 hg6' hn6 hD6))
 simp only [Nat.zero_add, List.nil_append] at HO6 ⊢
 obtain ⟨W7, hW7⟩ : ∃ W7, W7 = w6.setCell ⟨D, 0, none⟩ (.slice a6 bs.length c6) := ⟨_, rfl⟩
 have hlo : ∀ g, (Value.slice a6 bs.length c6).ownBlock = some g → w.heap.size ≤ g := fun g hg => (HO6.out.lt g hg).1
 have hk7 : Keeps (fun k => k = D) w6 W7 := by rw [hW7]; exact (Keeps.refl (fun k => k = D) w6).setCell (p := ⟨D, 0, none⟩) (fun _ => rfl) _
 have hk67 : Keeps (fun _ => False) w w6 := (Keeps.refl (fun _ => False) w).grown HG6.out (fun k hk e => by cases e)
 have hL7 := hk7.heap (hk67.heap HL.out (fun e => e)) (fun e => HDL.out e.symm)
 have hR7 := hk7.heap (hk67.heap HR.out (fun e => e)) (fun e => HDR.out e.symm)
 have hD7 : W7.heap[D]? = some (.cells #[.slice a6 bs.length c6] 29 (0, 0)) := by rw [hW7]; have := heap_setCell_same w6 D 0 _ _ (.slice a6 bs.length c6) HD6.out; simpa using this
 have hO7 : W7.ownsRow w.heap.size 5 1 (.slice a6 bs.length c6) bs.length (u8s bs) := hk7.row HO6.out (fun g hg e => by have := hlo g hg; omega)
 have hs7 : w.heap.size ≤ W7.heap.size := Nat.le_trans hk67.size hk7.size
 have l1 : W7.cell? ⟨Lb, 0, none⟩ = some (.slice (some ⟨R, 0, none⟩) 1 1) := by rw [cell_of_row _ _ _ _ _ _ hL7]; rfl
 have r1 : W7.cell? ⟨R, 1, none⟩ = some (.slice none 0 0) := by rw [cell_of_row _ _ _ _ _ _ hR7]; rfl
 have HL7 := Hj hL7; have HR7 := Hj hR7; have HD7 := Hj hD7; have HO7 := Hj hO7; have HS7 := Hj hs7; have HLO := Hj hlo
 have HK7 : Hid (Keeps (fun k => k = D ∨ k = R) w W7) := Hj ((hk67.mono (S' := fun k => k = D ∨ k = R) (fun _ _ e => e.elim)).trans hk7 (fun k hk e => .inl e))
 have CC : Hid (∀ q, Keeps (fun _ => False) W7 q → q.cell? ⟨Lb, 0, none⟩ = some (.slice (some ⟨R, 0, none⟩) 1 1) ∧ q.cell? ⟨R, 1, none⟩ = some (.slice none 0 0)) := Hj (fun q hq => ⟨hq.cell l1 (fun e => e), hq.cell r1 (fun e => e)⟩)
 rw [← hW7]
 have K0 : Hid (Keeps (fun _ => False) W7 W7.drew) := Hj (Keeps.refl _ _).drew
 have K1 : Hid (Keeps (fun _ => False) W7 (W7.drew.alloc (.cells #[.int .i64 (bs.length : Int)] 3))) := Hj ((Keeps.refl _ _).drew.alloc _)
 clear hW7 hlo hk7 hk67 hL7 hR7 hD7 hO7 hs7 HC HG6 HD6 HO6
 have l2 : W7.drew.cell? ⟨Lb, 0, none⟩ = some (.slice (some ⟨R, 0, none⟩) 1 1) := l1
 have r2 : W7.drew.cell? ⟨R, 1, none⟩ = some (.slice none 0 0) := r1
 have l3 : (W7.alloc (.cells #[.int .i64 (bs.length : Int)] 3)).cell? ⟨Lb, 0, none⟩ = some (.slice (some ⟨R, 0, none⟩) 1 1) := (CC.out _ K1.out).1
 have r3 : (W7.alloc (.cells #[.int .i64 (bs.length : Int)] 3)).cell? ⟨R, 1, none⟩ = some (.slice none 0 0) := (CC.out _ K1.out).2
 go_region_law (first
  | (refine sappE elI rfl _ _ rfl w.heap.size _ _ 0 1 [] [.int .i64 (bs.length : Int)] rfl rfl (World.ownsRow_nil _ _ _ _) (rd_new _ 1 1 [.int .i64 (bs.length : Int)] 3 1 rfl (Nat.le_refl _)) (by simp [Value.oneCell']) (by omega) (by have := HS7.out; simp; omega) ?_
     intro v8 w8 hown8 hg8' hn8
     have hg8 : (W7.drew.alloc (.cells #[.int .i64 (bs.length : Int)] 3)).grownBy w8 none := hg8'
     have K8 := Hj (K1.out.grown hg8 (fun k hk e => by cases e))
     have hR8 := K8.out.heap HR7.out (fun e => e)
     have q0 : w8.cell? ⟨Lb, 0, none⟩ = some (.slice (some ⟨R, 0, none⟩) 1 1) := (CC.out _ K8.out).1
     have q1 : w8.cell? ⟨R, 1, none⟩ = some (.slice none 0 0) := by rw [cell_of_row _ _ _ _ _ _ hR8]; rfl
     have q2 : w8.frozen? ⟨R, 1, none⟩ = false := frozen_of_row _ _ _ _ _ hR8
     obtain ⟨a8, c8, rfl⟩ := qaf hown8
     have HO8 := Hj hown8; have HR8 := Hj hR8
     clear hg8' hown8 hg8 hn8 hR8))
 all_goals
  go_end0
  have ks : Keeps (fun k => k = R) w8 (w8.setCell ⟨R, 1, none⟩ (.slice a8 1 c8)) := (Keeps.refl (fun k => k = R) w8).setCell (p := ⟨R, 1, none⟩) (fun _ => rfl) _
  refine ⟨.slice a6 bs.length c6, .slice a8 1 c8, rfl, ks.heap (K8.out.heap HD7.out (fun e => e)) (fun e => HDR.out e), ks.row (K8.out.row HO7.out (fun _ _ e => e)) (fun g hg e => by have := HLO.out g hg; omega), ks.heap (K8.out.heap HL7.out (fun e => e)) (fun e => HLR.out e), ?_, ks.row HO8.out (fun g hg e => by have := (HO8.out.lt g hg).1; omega), (HK7.out.trans K8.out (fun k hk e => e.elim)).trans ks (fun k hk e => .inr e)⟩
  have := heap_setCell_same w8 R 1 _ _ (.slice a8 1 c8) HR8.out
  simpa using this
end
section
set_option maxHeartbeats 2000000
open Go.RowKit Go.Shelf
attribute [local go_sem] Oper.semAt_some
theorem chunks_any (ad : Option Addr) (n cap : Nat) (w : World) : Calls Tryz.prog 63 #[.slice ad n cap] w fun e w' => e = .returned (.func (.func 118) #[] #[.pointer (some ⟨w.heap.size, 0, none⟩)]) ∧ w' = w.alloc (.cells #[.slice ad n cap] 37) := by
 go_enter Tryz.func63, Tryz.ntmps63
 go_wp2
 exact bodyPost_ret (results_tmp rfl _ _ _) rfl ⟨rfl, rfl⟩
abbrev encK (N : Nat) (x : Option Addr × Nat) : Array Value := #[.int .i64 0, .slice x.1 N x.2]
theorem chs_at (Bx : Nat) (ba : Option Addr) (bc : Nat) (hd : Hdr) (labs : List Lab) (smps : List Smp) (W : World) (hc : W.cell? ⟨Bx, 0, none⟩ = some (.slice ba 1 bc)) (h : RdB W (.slice ba 1 bc) [hd] [(labs, smps)]) (h1 : smps ≠ []) (h2 : smps.length ≤ 120) (hf : FitS smps) (hT : TabZ W) (hF : TabF W) :
 SeqQ Tryz.prog 118 #[.pointer (some ⟨Bx, 0, none⟩)] (encK (chunkC smps).length) (fun _ => False) (fun _ => False) (fun xs => ∃ x, xs = [x]) (fun pre => pre.length ≤ 1)
  (fun x W1 => W1.ownsRow W.heap.size 5 1 (.slice x.1 (chunkC smps).length x.2) (chunkC smps).length (u8s (chunkC smps)) ∧ Keeps (fun _ => False) W W1) W := by
 intro L J Jx hJ hJx hY h0
 have s1 := h.2.2 0 hd _ rfl rfl
 obtain ⟨b0, o0, rfl, c1, c2⟩ := RdH.at (cap := bc) (l := [hd]) h.2.1 (i := 0) rfl
 simp only [Nat.zero_mul, Nat.add_zero] at c1 c2
 obtain ⟨la, ln, lc, sa, sn, sc⟩ := hd
 have e2 : sn = smps.length := by obtain ⟨_, _, _, hv, _⟩ := s1.2; simp only [Hdr.sv, Value.slice.injEq] at hv; exact hv.2.1
 subst e2
 have hrd : RdS W (.slice sa smps.length sc) smps := s1.2
 have c1' : W.cell? ⟨b0, o0, none⟩ = some (.slice la ln lc) := c1
 have c2' : W.cell? ⟨b0, o0 + 1, none⟩ = some (.slice sa smps.length sc) := c2
 have HY := Hj hY; have HJ := Hj hJ; have HJx := Hj hJx; have H0 := Hj h0; have HRD := Hj hrd; have HF := Hj hf; have HTZ := Hj hT; have HTF := Hj hF; have HNE := Hj h1
 have HC1 := Hj c1'; have HC2 := Hj c2'
 clear hY hJ hJx h0 s1 h c1 c2 c1' c2' hrd hf hT hF h1
 refine callsIn_of_wp Tryz.func118 rfl trivial ?_ rfl
 simp only [Tryz.ntmps118, List.size_toArray, List.length_cons, List.length_nil, Nat.reduceAdd, Nat.reduceSub, Array.replicate_succ, Array.replicate_zero, List.push_toArray, List.append_toArray, List.nil_append, List.cons_append]
 gi_wp2
 gi_loopw [11] (fun i wr => (i = .int .i64 0 ∧ wr = W) ∨ (i = .int .i64 1 ∧ Hid (∃ x, J [x] wr))) (fun i _ => 1 - (intOf i).toNat)
 case atStart => exact .inl ⟨rfl, rfl⟩
 case round =>
  clear hc
  rcases hrel with ⟨rfl, hwr⟩ | ⟨rfl, HJ1⟩
  · obtain rfl := hwr.symm
    have c1 := HC1.out
    have c2 := HC2.out
    obtain ⟨W1, hW1⟩ : ∃ W1, W1 = W.alloc (.cells #[.slice la ln lc, .slice sa smps.length sc] 97) := ⟨_, rfl⟩
    have hr1 : W1.heap[W.heap.size]? = some (.cells #[.slice la ln lc, .slice sa smps.length sc] 97 (0, 0)) := by rw [hW1]; exact heap_alloc_new W _
    have hk1 : Keeps (fun _ => False) W W1 := by rw [hW1]; exact (Keeps.refl _ _).alloc _
    have d2 : W1.cell? ⟨W.heap.size, 1, none⟩ = some (.slice sa smps.length sc) := by rw [cell_of_row _ _ _ _ _ _ hr1]; rfl
    have HSP := Hj (split_any sa sc smps W1 (Rd.keeps HRD.out hk1 (fun _ _ e => e)) HNE.out (by omega))
    have HW1 := Hj hW1; have HK1 := Hj hk1
    clear hW1 hk1 hr1
    gi_upto_region 3 with fail
    rw [← HW1.out]
    clear c1 c2
    gi_wp2
    refine ⟨trivial, rfl, (callsIn_wide.2 HSP.out).mono ?_⟩
    rintro e w2 ⟨v2, b2, rfl, hr2, HP2, hk2⟩
    have hpos : 0 < smps.length := List.length_pos_iff.2 HNE.out
    have hn1 : nCh smps.length = 1 := by clear HP2 hr2; unfold nCh; omega
    have hcl : cLen smps.length 0 = smps.length := by clear HP2 hr2; unfold cLen; omega
    rw [hn1] at hr2
    have hpv := HP2.out 0 (by rw [hn1]; omega)
    have hp0 : partS smps 0 = smps := by unfold partS; rw [Nat.zero_mul, List.drop_zero]; exact List.take_of_length_le h2
    rw [hp0] at hpv
    have hvc : valC b2 smps.length (List.range 1) = [.slice (some ⟨b2, 0, none⟩) smps.length smps.length] := by simp [valC, cVal, hcl]
    rw [hvc] at hr2
    have hpv' : RdS w2 (.slice (some ⟨b2, 0, none⟩) smps.length smps.length) smps := by
     have := hpv
     simp only [cVal, hcl, Nat.zero_mul] at this
     exact this
    obtain ⟨g2, c2, rfl⟩ := ownsRow_succ (k := 0) hr2
    have x2 : w2.cell? ⟨g2, 0, none⟩ = some (.slice (some ⟨b2, 0, none⟩) smps.length smps.length) := by have := (hr2.cells (g := g2) rfl 0 _ rfl); rw [qbo] at this; exact this
    have HK2 := Hj (HK1.out.trans hk2 (fun _ _ e => e)); have HPV := Hj hpv'; have HX2 := Hj x2
    clear hr2 hpv hpv' hvc hp0 hk2 HP2 d2 hcl hn1 hpos x2
    gi_wp2
    gi_loopw [20] (fun i wr => (i = .int .i64 0 ∧ wr = w2) ∨ (i = .int .i64 1 ∧ Hid (∃ x, J [x] wr))) (fun i _ => 1 - (intOf i).toNat)
    case atStart => exact .inl ⟨rfl, rfl⟩
    case round =>
     rcases hrel with ⟨rfl, hwr⟩ | ⟨rfl, HJ1⟩
     · obtain rfl := hwr.symm
       have x2 := HX2.out
       have HEN := Hj (cencode_any (.slice (some ⟨b2, 0, none⟩) smps.length smps.length) smps w2 HPV.out (List.length_pos_iff.2 HNE.out) h2 HF.out (HTZ.out.keeps HK2.out (fun e => e)) (HTF.out.keeps HK2.out (fun e => e)))
       gi_wp2
       refine ⟨trivial, rfl, (callsIn_wide.2 HEN.out).mono ?_⟩
       rintro e w3 ⟨v3, rfl, hr3, hk3⟩
       obtain ⟨a3, c3, rfl⟩ := qaf hr3
       have hkk := HK2.out.trans hk3 (fun _ _ e => e)
       obtain ⟨fn, tmps, assign, body, hyy, hR⟩ := HY.out [] (a3, c3) w3 (HJ.out _ _ _ H0.out hkk) (by simp) ⟨qam hr3 (fun g hg => by have := (hr3.lt g hg).1; have := HK2.out.size; omega), hkk⟩
       simp only [encK, List.nil_append] at hyy hR
       clear hr3 hk3 hkk x2
       gi_wp2
       refine ⟨rfl, hR.mono ?_⟩
       rintro e W3 (⟨rfl, hJ3, hk3⟩ | ⟨rfl, hJx3, hk3⟩)
       · have HJ3 := Hj hJ3
         clear hJ3 hk3 hyy
         gi_wp2
         exact ⟨.inr ⟨rfl, Hj ⟨_, HJ3.out⟩⟩, by simp [intOf]⟩
       · have HJx3 := Hj hJx3
         clear hJx3 hk3 hyy
         gi_wp2
         refine bodyPost_ret (results_none rfl _ _ _) rfl ?_
         exact ⟨⟨_, rfl⟩, .inr ⟨_, by simp, HJx3.out⟩⟩
     · gi_wp2
       exact ⟨.inr ⟨rfl, HJ1⟩, by simp [intOf]⟩
  · gi_wp2
    go_end0
    obtain ⟨x, hx⟩ := HJ1.out
    exact ⟨⟨_, rfl⟩, .inl ⟨_, ⟨x, rfl⟩, hx⟩⟩
end
section
open Go.RowKit
theorem bitAt_left (f L : List Bool) (k : Nat) (h : k < f.length) : bitAt (f ++ L) k = bitAt f k := by
 unfold bitAt; simp [List.getD, List.getElem?_append_left h]
theorem byteAt_field : ∀ X : Fin 256, byteAt (qaa X.val 8) 0 = X.val := by decide +kernel
theorem packed_byte (X : Nat) (hX : X < 256) (L : List Bool) : packed (qaa X 8 ++ L) = X :: packed L := by
 have hf : (qaa X 8).length = 8 := qab X 8
 unfold packed
 rw [List.length_append, hf, show (8 + L.length + 7) / 8 = (L.length + 7) / 8 + 1 by omega, List.range_succ_eq_map, List.map_cons, List.map_map]
 congr 1
 · have h0 : ∀ k, k < 8 → bitAt (qaa X 8 ++ L) k = bitAt (qaa X 8) k := fun k hk => bitAt_left _ _ k (by omega)
   refine Eq.trans ?_ (byteAt_field ⟨X, hX⟩)
   unfold byteAt
   simp only [Nat.mul_zero, Nat.zero_add]
   rw [h0 0 (by omega), h0 1 (by omega), h0 2 (by omega), h0 3 (by omega), h0 4 (by omega), h0 5 (by omega), h0 6 (by omega), h0 7 (by omega)]
def restC (l : List Smp) : List Nat := packed (enc5 (timesS l) ++ encV (tagO (valsS l)) (valsS l))
theorem chunkC_eq (l : List Smp) (h1 : 1 ≤ l.length) (h2 : l.length ≤ 120) : chunkC l = tagO (valsS l) :: (l.length - 1) :: restC l := by
 have ht := tagO_range (valsS l)
 unfold chunkC bitsC restC
 rw [List.append_assoc, List.append_assoc, packed_byte _ (by omega), packed_byte _ (by omega)]
theorem endOf_pad (L : List Bool) (r : List Bool) (h : qad (packed L) = L ++ r) : endOf r = 0 := by
 have := endOf_packed L
 rwa [h, List.drop_left] at this
end
end Go.Proofs.YtfpcgcbehdogjaaGreatDoor
