/-
  Lemmas on which LTopTruncates rests, packed out of the texts XTab XTab2 XTab3 XSym XSymE XIdx; each for all arguments under the hypotheses it names.
-/
import Derived.Test.YtfpcgcbehdogjaaGreatDoorT15
import Derived.Lib.SlBuf
import Derived.Stop.RegionWithIn
import Derived.BigRegionIn
namespace Go.Proofs.YtfpcgcbehdogjaaGreatDoor
section
set_option maxHeartbeats 1000000
set_option maxRecDepth 100000
open Go.RowKit Go.Shelf
attribute [local go_sem] Oper.semAt_some
def encT (x : ByteArray) : Array Value := #[.string x]
def ownN (v : Value) (n : Nat) (k : Nat) : Prop := n ≠ 0 ∧ v.ownBlock = some k
theorem Rd.keepsN {k : Nat} {S : Nat → Prop} {a b : World} {v : Value} {n : Nat} {xs : List Value} (h : Rd k a v n xs) (kk : Keeps S a b) (hS : ∀ g, ownN v n g → ¬ S g) : Rd k b v n xs := by
 by_cases hn : n = 0
 · obtain ⟨hl, ad, cap, rfl, hc, _⟩ := h
   exact ⟨hl, ad, cap, rfl, hc, .inl hn⟩
 · exact h.keeps kk (fun g hg => hS g ⟨hn, hg⟩)
theorem Rd.lt {k : Nat} {w : World} {v : Value} {n : Nat} {xs : List Value} (h : Rd k w v n xs) (hk : 0 < k) {g : Nat} (hg : ownN v n g) : g < w.heap.size := by
 obtain ⟨hl, ad, cap, rfl, hc, h | ⟨bl, off, rfl, hcell⟩⟩ := h
 · exact absurd h hg.1
 · have hp : 0 < xs.length := by rw [hl]; exact Nat.mul_pos (Nat.pos_of_ne_zero hg.1) hk
   have := World.block_lt_of_cell? w _ (hcell 0 xs[0] (List.getElem?_eq_getElem hp))
   have e : bl = g := by simpa [ownN, Value.ownBlock] using hg.2
   simp only at this
   omega
theorem vals_any (ad : Option Addr) (n cap : Nat) (w : World) : Calls Tryz.prog 169 #[.slice ad n cap] w fun e w' => e = .returned (.func (.func 206) #[] #[.pointer (some ⟨w.heap.size, 0, none⟩)]) ∧ w' = w.alloc (.cells #[.slice ad n cap] 132) := by
 go_enter Tryz.func169, Tryz.ntmps169
 go_wp2
 exact bodyPost_ret (results_tmp rfl _ _ _) rfl ⟨rfl, rfl⟩
theorem vals_seq (Bx : Nat) (v : Value) (l : List ByteArray) (w : World) (hl : l.length ≤ 140737488351232) (hc : w.cell? ⟨Bx, 0, none⟩ = some v) (h : RdT w v l) :
 SeqR Tryz.prog 206 #[.pointer (some ⟨Bx, 0, none⟩)] encT (fun k => k = Bx ∨ ownN v l.length k) (fun _ => False) (fun xs => xs = l) (fun pre => pre <+: l) w := by
 intro L J Jx W hW hJ hJx hY h0
 have hc1 : W.cell? ⟨Bx, 0, none⟩ = some v := hW.cell hc (fun h => h (.inl rfl))
 have h1 : RdT W v l := Rd.keepsN h hW (fun g hg hn => hn (.inr hg))
 have HH := Hj h1
 obtain ⟨ad, cap, rfl, hcap⟩ := Rd.slice h1
 clear h hc hW h1
 have HY := Hj hY
 clear hY hJ hJx
 refine callsIn_of_wp Tryz.func206 rfl trivial ?_ rfl
 simp only [Tryz.ntmps206, List.size_toArray, List.length_cons, List.length_nil, Nat.reduceAdd, Nat.reduceSub, Array.replicate_succ, Array.replicate_zero, List.push_toArray, List.append_toArray, List.nil_append, List.cons_append]
 gi_wp2
 gi_loopw [7] (fun t7 wr => ∃ j : Nat, j ≤ l.length ∧ t7 = .int .i64 (j : Nat) ∧ Hid (RdT wr (.slice ad l.length cap) l) ∧ Hid (J (l.take j) wr)) (fun t7 wr => l.length - (intOf t7).toNat)
 case atStart => exact ⟨0, by omega, rfl, HH, Hj h0⟩
 case round =>
  obtain ⟨j, hj, rfl, HR, HJ⟩ := hrel
  clear hc1 h0
  by_cases hlt : j < l.length
  · obtain ⟨x, hx⟩ := qaj hlt
    obtain ⟨b, off, rfl, hcx⟩ := RdT.at HR.out hx
    have hlt' : (j : Int) < l.length := by omega
    have hj0 : (0 : Int) ≤ (j : Int) := by omega
    have htk : l.take (j + 1) = l.take j ++ [x] := by rw [List.take_add_one, hx]; rfl
    obtain ⟨fn, tmps, assign, body, hyy, hR⟩ := HY.out (l.take j) x wr HJ.out (by rw [← htk]; exact List.take_prefix _ _)
    rw [← htk] at hR
    simp only [encT] at hyy
    have HPX : Hid (l.take (j + 1) <+: l) := Hj (List.take_prefix _ _)
    clear hx htk hlt HH HJ
    gi_wp2
    refine ⟨rfl, hR.mono ?_⟩
    rintro e W3 (⟨rfl, hJ3, hk3⟩ | ⟨rfl, hJx3, hk3⟩)
    · have hh3 : RdT W3 (.slice (some ⟨b, off, none⟩) l.length cap) l := Rd.keepsN HR.out hk3 (fun g hg hs => hs (.inr hg))
      have HJ3 := Hj hJ3; have HH3 := Hj hh3
      clear hJ3 hk3 hh3 hcx hyy
      gi_wp2
      exact ⟨⟨j + 1, by omega, rfl, HH3, HJ3⟩, by simp [intOf]; omega⟩
    · have HJx3 := Hj hJx3
      clear hJx3 hk3 hcx hyy
      gi_wp2
      refine bodyPost_ret (results_none rfl _ _ _) rfl ?_
      exact ⟨⟨_, rfl⟩, .inr ⟨_, HPX.out, HJx3.out⟩⟩
  · obtain rfl : j = l.length := by omega
    rw [List.take_length] at HJ
    gi_wp2
    go_end0
    exact ⟨⟨_, rfl⟩, .inl ⟨_, rfl, HJ.out⟩⟩
theorem appseqT_any (gf : Nat) (eg : ∀ args w, (callFunc gf args).run Tryz.prog w = .ok (.enter gf args) w) (lb : Array Value) (ow : Nat → Prop) (S Sp : List ByteArray → Prop) (w : World) (hseq : SeqR Tryz.prog gf lb encT ow (fun _ => False) S Sp w) (how : ∀ k, ow k → k < w.heap.size) (hlen : ∀ pre, Sp pre → pre.length ≤ 1099511627776) :
 Calls Tryz.prog 227 #[.slice none 0 0, .func (.func gf) #[] lb] w fun e w' => ∃ v rs, e = .returned v ∧ S rs ∧ w'.ownsRow w.heap.size 9 1 v rs.length (strC rs) ∧ Keeps (fun _ => False) w w' := by
 have HSeq := Hj hseq; have HOw := Hj how; have HLen := Hj hlen
 clear hseq how hlen
 refine (callsIn_wide (n := 0)).1 ?_
 refine callsIn_of_wp_marks Tryz.func227 rfl trivial ?_ rfl
 simp only [Tryz.ntmps227, List.size_toArray, List.length_cons, List.length_nil, Nat.reduceAdd, Nat.reduceSub, Array.replicate_succ, Array.replicate_zero, List.push_toArray, List.append_toArray, List.nil_append, List.cons_append]
 gi_wp2
 obtain ⟨W0, hW0⟩ : ∃ W0, W0 = (w.alloc (.cells #[.slice none 0 0] 132)) := ⟨_, rfl⟩
 have hsz : W0.heap.size = w.heap.size + 1 := by rw [hW0]; simp
 have hkW : ∀ S, Keeps S w W0 := fun S => by rw [hW0]; exact (Keeps.refl S w).alloc _
 have hbox : W0.heap[w.heap.size]? = some (.cells #[.slice none 0 0] 132 (0, 0)) := by rw [hW0]; exact heap_alloc_new w _
 rw [← hW0]
 clear hW0
 refine qbj (gf := gf) (lb := lb) (w := W0) rfl eg
  (HSeq.out.later (hkW _)) (T := fun k => k = w.heap.size ∨ w.heap.size + 3 ≤ k) (fun x => rfl) (fun _ h => h.elim)
  (fun k hk => by have := HOw.out k hk; omega) ?hT ?hT2
  (fun pre W => ∃ v', W.heap[w.heap.size]? = some (.cells #[v'] 132 (0, 0)) ∧ W.ownsRow (w.heap.size + 3) 9 1 v' pre.length (strC pre) ∧ Keeps (fun _ => False) w W)
  (fun _ _ _ => False) ?hI (fun _ _ _ _ h _ => h) ?h0
  (fun x => { tmps := #[.slice none 0 0, .func (.func gf) #[] lb, .pointer (some ⟨w.heap.size, 0, none⟩), undef, .slice none 0 0, .string x, .func (.func gf) #[] lb, .string x, undef, undef, undef, undef, undef], defers := [] })
  ?assign ?body ?done ?stop
 case hT =>
  rintro k (rfl | hk) e
  · have := HOw.out _ e; omega
  · have := HOw.out _ e; omega
 case hT2 => rintro k (rfl | hk) <;> omega
 case hI =>
  rintro pre A B ⟨v', h1, h2, h3⟩ hk
  refine ⟨v', hk.heap h1 ?_, hk.row h2 (fun g hg hs => ?_), h3.trans hk (fun k hk hs => ?_)⟩
  · rintro (e | e | e)
    · exact e
    · omega
    · omega
  · have := (h2.lt g hg).1
    rcases hs with e | e | e
    · exact e
    · omega
    · omega
  · rcases hs with e | e | e
    · exact e
    · omega
    · omega
 case h0 => exact ⟨_, hbox, World.ownsRow_nil _ _ _ _, hkW _⟩
 case assign =>
  intro lp x W K hK
  simp only [encT]
  gi_wp2
  exact hK
 case body =>
  rintro lp pre x W ⟨v', h1, h2, h3⟩ hsp hsz2
  have hb1 : w.heap.size + 3 ≤ W.heap.size := by omega
  have hc0 : W.cell? ⟨w.heap.size, 0, none⟩ = some v' := by rw [cell_of_row _ _ _ _ _ _ h1]; rfl
  have hf0 : W.frozen? ⟨w.heap.size, 0, none⟩ = false := frozen_of_row _ _ _ _ _ h1
  have hlp : pre.length ≤ 1099511627776 := by have := HLen.out _ hsp; simp at this; omega
  have H1 := Hj h1; have H2 := Hj h2; have H3 := Hj h3
  obtain ⟨ad', cap', rfl⟩ := qac h2
  clear h1 h2 h3 hsp
  gi_wp2_with (gi_at_builtin; refine appEIn elS rfl _ _ rfl (w.heap.size + 3) _ _ pre.length 1 _ [.string x] rfl rfl (H2.out.alloc _) (rd_new _ 1 1 [.string x] 9 1 rfl (Nat.le_refl _)) (by simp [Value.oneCell']) (by omega) (by simp; omega) ?_)
  intro v2 w2 hown' hgrow hnew
  obtain ⟨ad2, cap2, rfl⟩ := qac hown'
  have hk2 : Keeps (own (.slice ad' pre.length cap')) W w2 := ((Keeps.refl (own _) W).alloc _).grown hgrow (fun k _ e => e)
  have hvb : ¬ own (.slice ad' pre.length cap') w.heap.size := fun e => by have := (H2.out.lt _ e).1; omega
  have d0 : w2.cell? ⟨w.heap.size, 0, none⟩ = some (.slice ad' pre.length cap') := hk2.cell hc0 hvb
  have e0 : w2.frozen? ⟨w.heap.size, 0, none⟩ = false := (qbq hk2 hc0 hvb).trans hf0
  have hlo : ∀ g, (Value.slice ad2 (pre.length + 1) cap2).ownBlock = some g → w.heap.size + 3 ≤ g := fun g hg => (hown'.lt g hg).1
  have hset : Keeps (fun k => k = w.heap.size) w2 (w2.setCell ⟨w.heap.size, 0, none⟩ (.slice ad2 (pre.length + 1) cap2)) := (Keeps.refl (fun k => k = w.heap.size) w2).setCell (p := ⟨w.heap.size, 0, none⟩) (fun _ => rfl) _
  have fin : bodyC (fun k => k = w.heap.size ∨ w.heap.size + 3 ≤ k)
   (fun pre W => ∃ v', W.heap[w.heap.size]? = some (.cells #[v'] 132 (0, 0)) ∧ W.ownsRow (w.heap.size + 3) 9 1 v' pre.length (strC pre) ∧ Keeps (fun _ => False) w W) (fun _ _ _ => False) (pre ++ [x]) W .normal { tmps := #[], defers := [] } (w2.setCell ⟨w.heap.size, 0, none⟩ (.slice ad2 (pre.length + 1) cap2)) := by
   have kk : Keeps (fun k => k = w.heap.size ∨ w.heap.size + 3 ≤ k) W (w2.setCell ⟨w.heap.size, 0, none⟩ (.slice ad2 (pre.length + 1) cap2)) :=
    (hk2.mono (S' := fun k => k = w.heap.size ∨ w.heap.size + 3 ≤ k) (fun k _ e => .inr (H2.out.lt _ e).1)).trans hset (fun k _ e => .inl e)
   refine ⟨kk, .slice ad2 (pre.length + 1) cap2, ?_, ?_, H3.out.trans kk (fun k hk e => by omega)⟩
   · have := heap_setCell_same w2 w.heap.size 0 _ _ (.slice ad2 (pre.length + 1) cap2) (hk2.heap H1.out hvb)
     simpa using this
   · rw [qdd, List.length_append, List.length_singleton]
     exact hset.row hown' (fun g hg e => by have := hlo g hg; omega)
  have HF := Hj fin
  clear hown' hgrow hnew hk2 hvb hc0 hf0 hset fin hlo
  gi_wp2
  exact HF.out
 case done =>
  rintro D xs W hS ⟨v', h1, h2, h3⟩ hD hK
  have hc0 : W.cell? ⟨w.heap.size, 0, none⟩ = some v' := by rw [cell_of_row _ _ _ _ _ _ h1]; rfl
  have H2 := Hj h2; have H3 := Hj h3; have HS := Hj hS
  clear h1 h2 h3 hS
  gi_wp2
  refine ⟨by simp, .inl ⟨_, _, rfl, run_takeDeferred hK, ?_⟩⟩
  refine ⟨_, results_tmp rfl _ _ _, ⟨_, _, rfl, HS.out, ?_⟩⟩
  have hp : Keeps (fun k => k = D) W (W.putObj D (.deferred none)) := Keeps.putObj _ _ _ rfl
  refine ⟨qao (hp.row H2.out (fun g hg e => ?_)) (fun g hg => by have := (H2.out.lt g hg).1; omega), H3.out.trans hp (fun k hk e => by omega)⟩
  obtain ⟨c', hc'⟩ := qak H2.out hg
  subst e
  rw [hK] at hc'
  cases hc'
 case stop => rintro D c pre W _ h; exact h.elim
theorem collectT_any (gf : Nat) (eg : ∀ args w, (callFunc gf args).run Tryz.prog w = .ok (.enter gf args) w) (lb : Array Value) (ow : Nat → Prop) (S Sp : List ByteArray → Prop) (w : World) (hseq : SeqR Tryz.prog gf lb encT ow (fun _ => False) S Sp w) (how : ∀ k, ow k → k < w.heap.size) (hlen : ∀ pre, Sp pre → pre.length ≤ 1099511627776) :
 Calls Tryz.prog 204 #[.func (.func gf) #[] lb] w fun e w' => ∃ v rs, e = .returned v ∧ S rs ∧ w'.ownsRow w.heap.size 9 1 v rs.length (strC rs) ∧ Keeps (fun _ => False) w w' := by
 have HSeq := Hj hseq; have HOw := Hj how; have HLen := Hj hlen; have HEg := Hj eg
 clear hseq how hlen eg
 go_enter Tryz.func204, Tryz.ntmps204
 go_wp2_with (go_at_call 227; refine (appseqT_any gf HEg.out lb ow S Sp w HSeq.out HOw.out HLen.out).mono ?_; rintro e w1 ⟨v, rs, rfl, hS, hr, hk⟩; obtain ⟨ad, cap, rfl⟩ := qac hr)
 go_ret
 exact ⟨_, _, rfl, hS, hr, hk⟩
end
section
set_option maxHeartbeats 1000000
open Go.RowKit Go.Shelf
def strB (ss : List ByteArray) : List (List UInt8) := ss.map (·.data.toList)
def encB (ls : List (List UInt8)) : List Value := ls.map encStr
theorem encB_strB (ss : List ByteArray) : encB (strB ss) = strC ss := by
 unfold encB strB strC
 rw [List.map_map]
 exact List.map_congr_left fun x _ => rfl
def sortO (ss : List ByteArray) : List (List UInt8) := (strB ss).mergeSort fun x y => decide (x ≤ y)
def tabO (ss : List ByteArray) : List (List UInt8) := Lib.compact (sortO ss)
theorem qbs (ss : List ByteArray) : (sortO ss).length = ss.length := by simp [sortO, strB]
theorem qiv : sortO [] = [] := List.eq_nil_of_length_eq_zero (qbs [])
theorem tabO_nil : tabO [] = [] := by unfold tabO; rw [qiv]; rfl
theorem qfn (g : Nat) : ∀ (vs : List Value) (o : Nat) (w : World), Keeps (fun k => k = g) w (w.setCells g o vs)
 | [], _, w => Keeps.refl _ w
 | v :: vs, o, w => ((Keeps.refl (fun k => k = g) w).setCell (p := ⟨g, o, none⟩) (fun _ => rfl) v).trans (qfn g vs (o + 1) _) (fun _ _ e => e)
theorem strsOf_list (L : List (List UInt8)) : Lib.strsOf (fun i => ⟨(L.getD i []).toArray⟩) L.length = L := by
 unfold Lib.strsOf
 apply List.ext_getElem (by simp)
 intro i h1 h2
 simp [List.getD_eq_getElem?_getD, List.getElem?_eq_getElem h2]
theorem sortedT_any (gf : Nat) (eg : ∀ args w, (callFunc gf args).run Tryz.prog w = .ok (.enter gf args) w) (lb : Array Value) (ow : Nat → Prop) (S Sp : List ByteArray → Prop) (w : World) (hseq : SeqR Tryz.prog gf lb encT ow (fun _ => False) S Sp w) (how : ∀ k, ow k → k < w.heap.size) (hlen : ∀ pre, Sp pre → pre.length ≤ 1099511627776) (hS : ∀ rs, S rs → rs.length ≤ 1099511627776) :
 Calls Tryz.prog 168 #[.func (.func gf) #[] lb] w fun e w' => ∃ v rs, e = .returned v ∧ S rs ∧ w'.ownsRow w.heap.size 9 1 v rs.length (encB (sortO rs)) ∧ Keeps (fun _ => False) w w' := by
 have HSeq := Hj hseq; have HOw := Hj how; have HLen := Hj hlen; have HEg := Hj eg; have HSL := Hj hS
 clear hseq how hlen eg hS
 go_enter Tryz.func168, Tryz.ntmps168
 go_upto_region 2 with (go_at_call 204; refine (collectT_any gf HEg.out lb ow S Sp w HSeq.out HOw.out HLen.out).mono ?_; rintro e w1 ⟨v, rs, rfl, hS, hr, hk⟩; obtain ⟨ad, cap, rfl⟩ := qac hr; have HS := Hj hS; have HR := Hj hr; have HK := Hj hk; clear hS hr hk)
 by_cases h0 : rs.length = 0
 · have hrs : rs = [] := List.eq_nil_of_length_eq_zero h0
   subst hrs
   simp only [List.length_nil] at HR ⊢
   clear h0
   go_wp2_with (go_at_call 205; refine (Tryz.slices_Sort_string_none ad cap w1).mono ?_; rintro e w2 ⟨rfl, rfl⟩)
   go_ret
   exact ⟨.slice ad 0 cap, [], rfl, HS.out, by rw [qiv]; exact HR.out, HK.out⟩
 · obtain ⟨g, cap', cur, hv, hbase, hb, h1, h2, h3, h4⟩ := qdp HR.out h0
   cases hv
   have hl : (sortO rs).length = (strB rs).length := by rw [qbs]; simp [strB]
   have hlb : (strB rs).length = rs.length := by simp [strB]
   have HQ := Hj (Tryz.slices_Sort_string g 0 cap (strB rs) w1 (holds_of_block hb (by rw [hlb]; rw [Nat.mul_one] at h4; rw [h4, ← encB_strB]; rfl)) (Array.getElem?_eq_some_iff.1 hb).1 (by have := HSL.out _ HS.out; omega))
   rw [hlb] at HQ
   have HB := Hj hb; have HBS := Hj hbase; have HL := Hj hl; have HLB := Hj hlb; have H1 := Hj h1; have H2 := Hj h2; have H3 := Hj h3
   clear h0 hb hbase hl hlb h1 h2 h3 h4
   go_wp2_with (go_at_call 205; refine HQ.out.mono ?_; rintro e w2 ⟨rfl, n, os, rfl⟩)
   go_ret
   refine ⟨.slice (some ⟨g, 0, none⟩) rs.length cap, rs, rfl, HS.out, ?_, HK.out.grown (grownBy_sorted _) (fun k hk e => ?_)⟩
   · have := ownsRow_sorted (n := n) (os := os) HL.out HBS.out HB.out (by rw [HLB.out]; exact H1.out) H2.out (by rw [H3.out])
     rw [HLB.out] at this
     exact this
   · have := HBS.out; simp only [Option.some.injEq] at e; omega
theorem table_any (v : Value) (ss : List ByteArray) (w : World) (h : RdT w v ss) (hl : ss.length ≤ 1099511627776) :
 Calls Tryz.prog 121 #[v] w fun e w' => ∃ ad cap, e = .returned (.slice ad (tabO ss).length cap) ∧ Rd 1 w' (.slice ad (tabO ss).length cap) (tabO ss).length (encB (tabO ss)) ∧ Keeps (fun _ => False) w w' := by
 obtain ⟨ad, cap, rfl, hcap⟩ := Rd.slice h
 obtain ⟨W1, hW1⟩ : ∃ W1, W1 = w.alloc (.cells #[.slice ad ss.length cap] 132) := ⟨_, rfl⟩
 have hk1 : Keeps (fun _ => False) w W1 := by rw [hW1]; exact (Keeps.refl _ w).alloc _
 have hs1 : W1.heap.size = w.heap.size + 1 := by rw [hW1]; simp
 have hseq := vals_seq w.heap.size (.slice ad ss.length cap) ss W1 (by omega) (by rw [hW1, cell_of_row _ _ _ _ _ _ (heap_alloc_new w _)]; rfl) (Rd.keeps h hk1 (fun _ _ e => e))
 have hc := sortedT_any 206 (enters_of Tryz.func206 (by kernel_rfl) rfl) _ _ _ _ W1 hseq (fun k hk => hk.elim (fun e => by omega) (fun e => by have := Rd.lt h (by omega) e; omega)) (fun pre hp => by have := hp.length_le; omega) (fun rs e => by rw [e]; exact hl)
 have HC := Hj hc; have HW1 := Hj hW1; have HK1 := Hj hk1; have HS1 := Hj hs1
 clear h hseq hc hW1 hk1 hs1
 go_enter Tryz.func121, Tryz.ntmps121
 go_wp2_with (first
  | (go_at_call 169; refine (vals_any ad ss.length cap w).mono ?_; rintro e w1 ⟨rfl, rfl⟩)
  | (go_at_call 168; rw [← HW1.out]; refine HC.out.mono ?_; rintro e w2 ⟨v2, rs, rfl, hrs, hr, hk⟩; subst hrs; obtain ⟨a2, c2, rfl⟩ := qac hr; have HR := Hj hr; have HK := Hj (HK1.out.trans hk (fun _ _ e => e)); clear hr hk))
 have hl2 : rs.length ≤ 1099511627776 := hl
 have HTL : Hid (tabO rs = Lib.compact (sortO rs)) := Hj rfl
 by_cases h0 : rs.length = 0
 · have hrs : rs = [] := List.eq_nil_of_length_eq_zero h0
   subst hrs
   simp only [List.length_nil] at HR
   go_wp2_with (go_at_call 167; refine (Tryz.slices_Compact_string_empty a2 c2 w2).mono ?_; rintro e w3 ⟨rfl, rfl⟩)
   go_ret
   rw [qiv] at HR
   rw [tabO_nil]
   exact ⟨a2, c2, rfl, rd_row HR.out, HK.out⟩
 · obtain ⟨g, cap', cur, hv, hbase, hb, h1, h2, h3, h4⟩ := qdp HR.out h0
   cases hv
   have hcell : ∀ i, i < rs.length → w2.cell? ⟨g, 0 + i, none⟩ = some (.string ((fun i => (⟨((sortO rs).getD i []).toArray⟩ : ByteArray)) i)) := fun i hi => by
    have := (HR.out.cells (g := g) rfl i (.string ⟨((sortO rs).getD i []).toArray⟩) (by
     have hi' : i < (sortO rs).length := by rw [qbs]; exact hi
     simp [encB, List.getD_eq_getElem?_getD, List.getElem?_eq_getElem hi']))
    rw [qbn] at this
    exact this
   have hcp := Tryz.slices_Compact_string_cells g 0 rs.length c2 _ w2 (by omega) h1 hcell (fun j hj => frozen_of_row _ _ _ _ _ hb)
   rw [show Lib.strsOf (fun i => (⟨((sortO rs).getD i []).toArray⟩ : ByteArray)) rs.length = sortO rs by have := strsOf_list (sortO rs); rw [qbs] at this; exact this, ← HTL.out] at hcp
   have HCP := Hj hcp; have HBS := Hj hbase; have H1 := Hj h1
   have HIS : Hid (∀ j, j < rs.length → (w2.cell? ⟨g, 0 + j, none⟩).isSome = true) := Hj (fun j hj => by rw [hcell j hj]; rfl)
   clear h0 hb hbase h1 h2 h3 h4 hcell hcp HC
   have hle : (tabO rs).length ≤ rs.length := by
    have := HTL.out; rw [this]; have := List.length_filter_le (Lib.keeps (sortO rs).toArray) (List.range (sortO rs).length)
    simp only [Lib.compact, Lib.compactUpTo, List.length_map, List.length_range] at this ⊢
    rw [qbs] at this
    rw [qbs]
    exact this
   have HLE := Hj hle
   go_wp2_with (go_at_call 167; refine HCP.out.mono ?_; rintro e w3 ⟨rfl, q, rfl⟩)
   go_ret
   refine ⟨some ⟨g, 0, none⟩, c2, rfl, ⟨by simp [encB], _, c2, rfl, by have := H1.out; have := HLE.out; omega, .inr ⟨g, 0, rfl, fun j u hj => ?_⟩⟩, ?_⟩
   · have hj' : j < (tabO rs).length := by have := (List.getElem?_eq_some_iff.1 hj).1; simpa [encB] using this
     rw [World.cell?_setCells_in g _ 0 (w2.drewN q) (fun k hk => HIS.out k (by simp at hk; have := HLE.out; omega)) j (by simp; have := HLE.out; omega), ← hj]
     rw [List.getElem?_eq_getElem (by simpa [encB] using hj')]
     simp [encB, hj']
   · exact HK.out.trans (((Keeps.refl (fun k => k = g) w2).drewN q).trans (qfn g _ 0 _) (fun _ _ e => e)) (fun k hk e => by have := HBS.out; have := HS1.out; omega)
end
section
set_option maxHeartbeats 1000000
set_option maxRecDepth 100000
open Go.RowKit
def symsL (b : List Ser) : List ByteArray := b.flatMap fun s => strsL s.1
theorem symsL_take (b : List Ser) {k : Nat} {x : Ser} (h : b[k]? = some x) : symsL (b.take (k + 1)) = symsL (b.take k) ++ strsL x.1 := by
 rw [List.take_add_one, h]; simp [symsL]
theorem symsL_le (b : List Ser) (k : Nat) : (symsL (b.take k)).length ≤ (symsL b).length := by
 have : symsL b = symsL (b.take k) ++ symsL (b.drop k) := by rw [symsL, symsL, symsL, ← List.flatMap_append, List.take_append_drop]
 rw [this, List.length_append]; omega
theorem symbols_any (v : Value) (hs : List Hdr) (b : List Ser) (w : World) (h : RdB w v hs b) (hl : hs.length ≤ 1099511627776) (hf : ∀ x ∈ b, x.1.length ≤ 1099511627776) (hN : (symsL b).length ≤ 1099511627776) :
 Calls Tryz.prog 64 #[v] w fun e w' => ∃ ad cap, e = .returned (.slice ad (tabO (symsL b)).length cap) ∧ Rd 1 w' (.slice ad (tabO (symsL b)).length cap) (tabO (symsL b)).length (encB (tabO (symsL b))) ∧ Below w.heap.size w w' := by
 have HH := Hj h; have HF := Hj hf
 have HLN := Hj h.1
 obtain ⟨ad, cap, rfl, hcap⟩ := Rd.slice h.2.1
 clear h hf
 go_enter Tryz.func64, Tryz.ntmps64
 go_wp2
 go_loopw [3, 8] (fun o i wr => ∃ k : Nat, k ≤ hs.length ∧ i = .int .i64 (k : Nat) ∧ Hid (wr.ownsRow w.heap.size 9 1 o (symsL (b.take k)).length (strC (symsL (b.take k)))) ∧ Hid (Below w.heap.size w wr)) (fun _ i _ => hs.length - (intOf i).toNat)
 case atStart => exact ⟨0, by omega, rfl, Hj (World.ownsRow_nil _ _ _ _), Hj (Below.refl _ _)⟩
 case round =>
  obtain ⟨k, hk, rfl, HO, HB⟩ := hrel
  by_cases hlt : k < hs.length
  · obtain ⟨x, hx⟩ := qaj hlt
    obtain ⟨p, hp⟩ := qaj (l := b) (k := k) (by have := HLN.out; omega)
    have hrd := HH.out.below HB.out
    have s1 := hrd.2.2 _ _ _ hx hp
    obtain ⟨bb, off, rfl, c1, c2⟩ := RdH.at hrd.2.1 hx
    have hklt : (k : Int) < hs.length := by omega
    have hk0 : (0 : Int) ≤ (k : Int) := by omega
    have hlp := HF.out _ (List.mem_of_getElem? hp)
    have hle := symsL_le b k
    have hle2 := symsL_le b (k + 1)
    have htk := symsL_take b hp
    have hlen : (symsL (b.take (k + 1))).length = (symsL (b.take k)).length + 2 * p.1.length := by rw [htk, List.length_append, qci]
    obtain ⟨n, hn⟩ : ∃ n, n = (symsL (b.take k)).length := ⟨_, rfl⟩
    have HTK := Hj htk; have HLT := Hj hlt; have HLEN := Hj hlen
    rw [← hn] at HO hle HLEN
    have hn2 : n + 2 * p.1.length ≤ 1099511627776 := by have := HLEN.out; omega
    obtain ⟨xa, xn, xc, xsa, xsn, xsc⟩ := x
    obtain ⟨W1, hW1⟩ : ∃ W1, W1 = wr.alloc (.cells #[.slice xa xn xc, .slice xsa xsn xsc] 97) := ⟨_, rfl⟩
    have hbw : Below wr.heap.size wr W1 := by rw [hW1]; exact (Below.refl _ _).alloc (Nat.le_refl _) _
    have hst := lstr_any (.slice xa xn xc) p.1 W1 (s1.1.below hbw) hlp
    have hr1 : W1.heap[wr.heap.size]? = some (.cells #[.slice xa xn xc, .slice xsa xsn xsc] 97 (0, 0)) := by rw [hW1]; exact heap_alloc_new wr _
    have e1 : W1.cell? ⟨wr.heap.size, 0, none⟩ = some (.slice xa xn xc) := by rw [cell_of_row _ _ _ _ _ _ hr1]; rfl
    have HW1 := Hj hW1; have HBW := Hj hbw; have HST := Hj hst; have HB1 := Hj (HB.out.trans (hbw.mono HB.out.size)); have HO1 := Hj (qbr HO.out hbw)
    have HNN := Hj hn
    obtain ⟨m, hm⟩ : ∃ m, m = p.1.length := ⟨_, rfl⟩
    rw [← hm] at HST HLEN hn2 hlp
    have hml : 2 * m = (strsL p.1).length := by rw [qci, hm]
    have HML := Hj hml
    have HSZ := Hj HB.out.size
    clear hx hp hlt hrd s1 hle hle2 htk hlen hW1 hbw hst hr1 hn hm hml HO HB
    go_upto_region 5 with fail
    rw [← HW1.out]
    go_wp2_with (first
     | (go_at_call 120; refine HST.out.mono ?_; rintro e w2 ⟨v2, rfl, hr2, hb2⟩; have HR2 := Hj hr2; have HB2 := Hj hb2; clear hr2 hb2 e1)
     | (at_builtin; refine appE elS rfl _ _ rfl w.heap.size _ _ n (2 * m) _ (strC (strsL p.1)) rfl rfl (qbr HO1.out HB2.out) (rd_row HR2.out) (strC_one _) (by omega) (by have := HB2.out.size; have := HB1.out.size; omega) ?_; intro v' w6 hown6 hg6 hn6))
    exact ⟨⟨k + 1, by have := HLT.out; omega, rfl, Hj (by rw [HLEN.out, HTK.out, qdd]; exact hown6), Hj ((HB1.out.trans (HB2.out.mono HB1.out.size)).trans (qcx (qbr HO1.out HB2.out) hg6 (by have := HB2.out.size; have := HB1.out.size; omega)))⟩, by have := HLT.out; simp [intOf]; omega⟩
  · obtain rfl : k = hs.length := by omega
    have hr := HO.out
    rw [HLN.out, List.take_length] at hr
    have HR := Hj hr
    obtain ⟨ao, co, rfl⟩ := qac hr
    have HT := Hj (table_any (.slice ao (symsL b).length co) (symsL b) wr (rd_row hr) hN)
    clear hr HO
    go_wp2_with (go_at_call 121; refine HT.out.mono ?_; rintro e w2 ⟨a2, c2, rfl, hr2, hk2⟩)
    go_ret
    exact ⟨_, _, rfl, hr2, HB.out.trans (hk2.toBelow.mono HB.out.size)⟩
end
section
set_option maxHeartbeats 1000000
open Go.RowKit Go.Shelf
theorem toolong_any (s : ByteArray) (w : World) (hs : s.size ≤ 65535) : Calls Tryz.prog 123 #[.string s] w fun e w' => e = .returned (.bool false) ∧ w' = w := by
 have h1 : ¬ (65535 : Int) < (s.size : Int) := by omega
 go_enter Tryz.func123, Tryz.ntmps123
 go_wp2
 go_ret
 exact ⟨rfl, rfl⟩
theorem idxfun_any (v : Value) (t : List ByteArray) (w : World) (h : RdT w v t) (ht : ∀ s ∈ t, s.size ≤ 65535) (hl : t.length ≤ 1099511627776) :
 Calls Tryz.prog 170 #[v, .func (.func 123) #[] #[]] w fun e w' => e = .returned (.int .i64 (-1)) ∧ w' = w := by
 obtain ⟨ad, cap, rfl, hcap⟩ := Rd.slice h
 have HH := Hj h; have HT := Hj ht
 clear h ht
 go_enter Tryz.func170, Tryz.ntmps170
 go_wp2
 go_loopw [8] (fun i wr => ∃ k : Nat, k ≤ t.length ∧ i = .int .i64 (k : Nat) ∧ wr = w) (fun i _ => t.length - (intOf i).toNat)
 case atStart => exact ⟨0, by omega, rfl, rfl⟩
 case round =>
  obtain ⟨k, hk, rfl, rfl⟩ := hrel
  by_cases hlt : k < t.length
  · obtain ⟨s, hs⟩ := qaj hlt
    obtain ⟨b1, o1, rfl, c1⟩ := RdT.at HH.out hs
    have hklt : (k : Int) < t.length := by omega
    have hk0 : (0 : Int) ≤ (k : Int) := by omega
    have HS := Hj (toolong_any s wr (HT.out s (List.mem_of_getElem? hs)))
    clear hs
    go_wp2_with (go_at_call 123; refine HS.out.mono ?_; rintro e w2 ⟨rfl, hw⟩; obtain rfl := hw.symm)
    exact ⟨⟨k + 1, by omega, rfl, trivial⟩, by simp [intOf]; omega⟩
  · obtain rfl : k = t.length := by omega
    go_wp2
    go_ret
    exact ⟨rfl, rfl⟩
theorem confun_any (v : Value) (t : List ByteArray) (w : World) (h : RdT w v t) (ht : ∀ s ∈ t, s.size ≤ 65535) (hl : t.length ≤ 1099511627776) :
 Calls Tryz.prog 122 #[v, .func (.func 123) #[] #[]] w fun e w' => e = .returned (.bool false) ∧ w' = w := by
 have HI := Hj (idxfun_any v t w h ht hl)
 obtain ⟨ad, cap, rfl, hcap⟩ := Rd.slice h
 clear h ht
 go_enter Tryz.func122, Tryz.ntmps122
 go_wp2_with (go_at_call 170; refine HI.out.mono ?_; rintro e w2 ⟨rfl, hw⟩; obtain rfl := hw.symm)
 go_ret
 exact ⟨rfl, rfl⟩
theorem neigh_any (ad : Option Addr) (n cap : Nat) (w : World) : Calls Tryz.prog 124 #[.slice ad n cap] w fun e w' => e = .returned (.func (.func 171) #[] #[.pointer (some ⟨w.heap.size, 0, none⟩)]) ∧ w' = w.alloc (.cells #[.slice ad n cap] 132) := by
 go_enter Tryz.func124, Tryz.ntmps124
 go_wp2
 exact bodyPost_ret (results_tmp rfl _ _ _) rfl ⟨rfl, rfl⟩
def encP (p : ByteArray × ByteArray) : Array Value := #[.string p.1, .string p.2]
def pairsO (l : List ByteArray) : List (ByteArray × ByteArray) := l.zip l.tail
theorem pairsO_length (l : List ByteArray) : (pairsO l).length = l.length - 1 := by simp [pairsO]
theorem pairsO_take (l : List ByteArray) {j : Nat} {x y : ByteArray} (hx : l[j]? = some x) (hy : l[j + 1]? = some y) : (pairsO l).take (j + 1) = (pairsO l).take j ++ [(x, y)] := by
 rw [List.take_add_one]
 congr 1
 have : (pairsO l)[j]? = some (x, y) := by
  unfold pairsO
  rw [List.getElem?_zip_eq_some]
  exact ⟨hx, by simpa using hy⟩
 rw [this]; rfl
theorem neigh_seq (Bx : Nat) (v : Value) (l : List ByteArray) (w : World) (hl : l.length ≤ 1099511627776) (hc : w.cell? ⟨Bx, 0, none⟩ = some v) (h : RdT w v l) :
 SeqR Tryz.prog 171 #[.pointer (some ⟨Bx, 0, none⟩)] encP (fun k => k = Bx ∨ ownN v l.length k) (fun _ => False) (fun xs => xs = pairsO l) (fun pre => pre <+: pairsO l) w := by
 intro L J Jx W hW hJ hJx hY h0
 have hc1 : W.cell? ⟨Bx, 0, none⟩ = some v := hW.cell hc (fun h => h (.inl rfl))
 have h1 : RdT W v l := Rd.keepsN h hW (fun g hg hn => hn (.inr hg))
 have HH := Hj h1
 obtain ⟨ad, cap, rfl, hcap⟩ := Rd.slice h1
 clear h hW h1
 have HY := Hj hY; have HJd := Hj hJ
 clear hY hJ hJx
 refine callsIn_of_wp Tryz.func171 rfl trivial ?_ rfl
 simp only [Tryz.ntmps171, List.size_toArray, List.length_cons, List.length_nil, Nat.reduceAdd, Nat.reduceSub, Array.replicate_succ, Array.replicate_zero, List.push_toArray, List.append_toArray, List.nil_append, List.cons_append]
 gi_wp2
 gi_loopw [3] (fun t3 wr => ∃ j : Nat, (j + 1 ≤ l.length ∨ j = 0) ∧ t3 = .int .i64 ((j : Int) + 1) ∧ Hid (RdT wr (.slice ad l.length cap) l) ∧ wr.cell? ⟨Bx, 0, none⟩ = some (.slice ad l.length cap) ∧ Hid (J ((pairsO l).take j) wr)) (fun t3 wr => l.length - (intOf t3).toNat)
 case atStart => exact ⟨0, .inr rfl, rfl, HH, hc1, Hj h0⟩
 case round =>
  obtain ⟨j, hj, rfl, HR, hcb, HJ⟩ := hrel
  clear hc1 h0
  by_cases hlt : j + 1 < l.length
  · obtain ⟨x, hx⟩ := qaj (l := l) (k := j) (by omega)
    obtain ⟨y, hy⟩ := qaj hlt
    obtain ⟨b, off, rfl, hcx⟩ := RdT.at HR.out hx
    obtain ⟨b', off', hbb, hcy⟩ := RdT.at HR.out hy
    simp only [Option.some.injEq, Addr.mk.injEq, and_true] at hbb
    obtain ⟨rfl, rfl⟩ := hbb
    have hlt' : ((j : Int) + 1) < l.length := by omega
    have hlt2 : (j : Int) < l.length := by omega
    have hj0 : (0 : Int) ≤ (j : Int) := by omega
    have hw1 : IntKind.i64.wrap ((j : Int) + 1 - 1) = j := by rw [show (j : Int) + 1 - 1 = j by omega]; exact qcj _ (by omega)
    have hw2 : IntKind.i64.wrap (j : Int) = j := qcj _ (by omega)
    have hj1 : (0 : Int) ≤ (j : Int) + 1 := by omega
    have hj2 : ((j : Int) + 1).toNat = j + 1 := by omega
    have htk := pairsO_take l hx hy
    have hcy' : wr.cell? ⟨b, off + (j + 1), none⟩ = some (.string y) := hcy
    obtain ⟨fn, tmps, assign, body, hyy, hR⟩ := HY.out ((pairsO l).take j) (x, y) wr.drew (HJd.out _ _ _ HJ.out (Keeps.refl _ _).drew) (by rw [← htk]; exact List.take_prefix _ _)
    rw [← htk] at hR
    simp only [encP] at hyy
    have HPX : Hid ((pairsO l).take (j + 1) <+: pairsO l) := Hj (List.take_prefix _ _)
    have HR1 : Hid (RdT wr.drew (.slice (some ⟨b, off, none⟩) l.length cap) l) := Hj (Rd.keeps HR.out ((Keeps.refl (fun _ => False) wr).drew) (fun _ _ e => e))
    have hcb1 : wr.drew.cell? ⟨Bx, 0, none⟩ = some (.slice (some ⟨b, off, none⟩) l.length cap) := hcb
    have hR2 := hR.mono (R' := fun e W' => ∃ bt : Bool, e = .returned (.bool bt) ∧ Hid ((bt = true ∧ J ((pairsO l).take (j + 1)) W' ∨ bt = false ∧ Jx ((pairsO l).take (j + 1)) W') ∧ Keeps (fun k => ¬ (k = Bx ∨ ownN (.slice (some ⟨b, off, none⟩) l.length cap) l.length k)) wr.drew W')) (fun e W3 h => by
     rcases h with ⟨rfl, hJ3, hk3⟩ | ⟨rfl, hJx3, hk3⟩
     · exact ⟨true, rfl, Hj ⟨.inl ⟨rfl, hJ3⟩, hk3⟩⟩
     · exact ⟨false, rfl, Hj ⟨.inr ⟨rfl, hJx3⟩, hk3⟩⟩)
    have HRR := Hj hR2
    clear htk hx hy HJ hR hR2
    gi_wp2
    gi_region_with (refine ⟨rfl, HRR.out.mono ?_⟩; rintro e W3 ⟨bt, rfl, HBT⟩)
    all_goals
     rcases HBT.out with ⟨hbt | hbt, hk3⟩
     · obtain ⟨rfl, hJ3⟩ := hbt
       have hh3 : RdT W3 (.slice (some ⟨b, off, none⟩) l.length cap) l := Rd.keepsN HR1.out hk3 (fun g hg hs => hs (.inr hg))
       have hc3 := hk3.cell hcb1 (fun h => h (.inl rfl))
       have HJ3 := Hj hJ3; have HH3 := Hj hh3
       clear hJ3 hk3 hh3 hcx hcy hcy' hyy HBT hcb hcb1
       gi_wp2
       exact ⟨⟨j + 1, .inl (by omega), by go_num, HH3, hc3, HJ3⟩, by simp [intOf]; omega⟩
     · obtain ⟨rfl, hJx3⟩ := hbt
       have HJx3 := Hj hJx3
       clear hJx3 hk3 hcx hcy hcy' hyy HBT hcb hcb1
       gi_wp2
       refine bodyPost_ret (results_none rfl _ _ _) rfl ?_
       exact ⟨⟨_, rfl⟩, .inr ⟨_, HPX.out, HJx3.out⟩⟩
  · have hlt' : ¬ ((j : Int) + 1) < l.length := by omega
    have HJ2 : Hid (J (pairsO l) wr) := Hj (by
     have h2 : (pairsO l).take j = pairsO l := List.take_of_length_le (by rw [pairsO_length]; omega)
     rw [h2] at HJ
     exact HJ.out)
    clear HJ
    gi_wp2
    go_end0
    first | exact ⟨⟨_, rfl⟩, .inl ⟨_, rfl, HJ2.out⟩⟩ | exact .inl HJ2.out | exact ⟨⟨_, rfl⟩, .inl HJ2.out⟩
end
section
set_option maxHeartbeats 2000000
set_option maxRecDepth 100000
open Go.RowKit Go.Shelf
attribute [local go_sem] Oper.semAt_some
def symO (t : List ByteArray) : List Nat := venc t.length ++ t.flatMap fun s => lenB (bytesN s)
def symPre (t : List ByteArray) (k : Nat) : List Nat := venc t.length ++ (t.take k).flatMap fun s => lenB (bytesN s)
theorem symPre_succ (t : List ByteArray) {k : Nat} {s : ByteArray} (h : t[k]? = some s) : symPre t (k + 1) = symPre t k ++ lenB (bytesN s) := by
 unfold symPre
 rw [List.take_add_one, h]; simp
theorem symPre_all (t : List ByteArray) : symPre t t.length = symO t := by unfold symPre symO; rw [List.take_length]
theorem symPre_le (t : List ByteArray) (k : Nat) : (symPre t k).length ≤ (symO t).length := by
 unfold symPre symO
 have : t.flatMap (fun s => lenB (bytesN s)) = (t.take k).flatMap (fun s => lenB (bytesN s)) ++ (t.drop k).flatMap (fun s => lenB (bytesN s)) := by rw [← List.flatMap_append, List.take_append_drop]
 rw [this]; simp only [List.length_append]; omega
def Asc (t : List ByteArray) : Prop := ∀ p ∈ pairsO t, Op.bytesLess p.1.toList p.2.toList = true
theorem symenc_any (v : Value) (t : List ByteArray) (w : World) (h : RdT w v t) (ht : ∀ s ∈ t, s.size ≤ 65535) (hl : t.length ≤ 1000000) (hA : Asc t) (hN : (symO t).length ≤ 1000000000) :
 Calls Tryz.prog 65 #[v] w fun e w' => ∃ v', e = .returned (.tuple #[v', .int .i64 0]) ∧ w'.ownsRow w.heap.size 5 1 v' (symO t).length (u8s (symO t)) ∧ Keeps (fun _ => False) w w' := by
 obtain ⟨ad, cap, rfl, hcap⟩ := Rd.slice h
 have HH := Hj h; have HT := Hj ht; have HA := Hj hA
 obtain ⟨Wa, hWa⟩ : ∃ Wa, Wa = (w.alloc (.cells #[.slice none 0 0] 29)).alloc (.cells #[.int .i64 0] 30) := ⟨_, rfl⟩
 have hka : Keeps (fun _ => False) w Wa := by rw [hWa]; exact ((Keeps.refl _ w).alloc _).alloc _
 have hsa : Wa.heap.size = w.heap.size + 2 := by rw [hWa]; simp
 have h0a : Wa.heap[w.heap.size]? = some (.cells #[.slice none 0 0] 29 (0, 0)) := by rw [hWa]; exact (Below.heap_alloc _ _ _ (by simp)).trans (heap_alloc_new w _)
 have h1a : Wa.heap[w.heap.size + 1]? = some (.cells #[.int .i64 0] 30 (0, 0)) := by rw [hWa]; have := heap_alloc_new (w.alloc (.cells #[.slice none 0 0] 29)) (.cells #[.int .i64 0] 30); rwa [World.size_alloc] at this
 have hCF := confun_any (.slice ad t.length cap) t Wa (Rd.keeps h hka (fun _ _ e => e)) ht (by omega)
 obtain ⟨W0, hW0⟩ : ∃ W0, W0 = Wa.alloc (.cells #[.slice ad t.length cap] 132) := ⟨_, rfl⟩
 have hk0 : Keeps (fun _ => False) w W0 := by rw [hW0]; exact hka.alloc _
 have hs0 : W0.heap.size = w.heap.size + 3 := by rw [hW0]; simp [hsa]
 have h00 : W0.heap[w.heap.size]? = some (.cells #[.slice none 0 0] 29 (0, 0)) := by rw [hW0]; exact heap_alloc _ h0a
 have h10 : W0.heap[w.heap.size + 1]? = some (.cells #[.int .i64 0] 30 (0, 0)) := by rw [hW0]; exact heap_alloc _ h1a
 have hseq := neigh_seq (w.heap.size + 2) (.slice ad t.length cap) t W0 (by omega) (by rw [hW0, ← hsa, cell_of_row _ _ _ _ _ _ (heap_alloc_new Wa _)]; rfl) (Rd.keeps h hk0 (fun _ _ e => e))
 have HCF := Hj hCF; have HSeq := Hj hseq; have HW0 := Hj hW0; have HWA := Hj hWa; have HK0 := Hj hk0; have H00 := Hj h00; have H10 := Hj h10
 have HSA := Hj hsa
 clear h ht hA hCF hseq hW0 hWa hk0 hka h00 h10 h0a h1a hsa
 refine (callsIn_wide (n := 0)).1 ?_
 refine callsIn_of_wp_marks Tryz.func65 rfl trivial ?_ rfl
 simp only [Tryz.ntmps65, List.size_toArray, List.length_cons, List.length_nil, Nat.reduceAdd, Nat.reduceSub, Array.replicate_succ, Array.replicate_zero, List.push_toArray, List.append_toArray, List.nil_append, List.cons_append]
 gi_wp2
 rw [← HWA.out]
 refine ⟨trivial, rfl, (callsIn_wide.2 HCF.out).mono ?_⟩
 rintro e w1 ⟨rfl, hw1⟩
 obtain rfl := hw1.symm
 gi_wp2
 refine ⟨trivial, rfl, (callsIn_wide.2 (neigh_any ad t.length cap _)).mono ?_⟩
 rintro e w1 ⟨rfl, rfl⟩
 rw [← HW0.out, HSA.out]
 gi_wp2
 refine qbj (gf := 171) (lb := #[.pointer (some ⟨w.heap.size + 2, 0, none⟩)]) (w := W0) rfl (enters_of Tryz.func171 (by kernel_rfl) rfl)
  HSeq.out (T := fun _ => False) (fun x => rfl) (fun _ h => h.elim)
  (fun k hk => ?hown) (fun _ h => h.elim) (fun _ h => h.elim)
  (fun pre W => W.heap[w.heap.size]? = some (.cells #[.slice none 0 0] 29 (0, 0)) ∧ W.heap[w.heap.size + 1]? = some (.cells #[.int .i64 0] 30 (0, 0)) ∧ Keeps (fun _ => False) w W)
  (fun _ _ _ => False) ?hI (fun _ _ _ _ h _ => h) ?h0
  (fun x => { tmps := #[.slice ad t.length cap, undef, .pointer (some ⟨w.heap.size, 0, none⟩), .pointer (some ⟨w.heap.size + 1, 0, none⟩), .string x.1, .string x.2, undef, undef, undef, .slice ad t.length cap, .bool false, .slice ad t.length cap, .func (.func 171) #[] #[.pointer (some ⟨w.heap.size + 2, 0, none⟩)], .string x.1, .string x.2, undef, undef, undef, undef, undef, undef, undef, undef, undef, undef, undef, undef, undef, undef, undef, undef, undef, undef], defers := [] })
  ?assign ?body ?done ?stop
 case hown =>
  rcases hk with e | e
  · omega
  · have := Rd.lt HH.out (by omega) e; omega
 case hI =>
  rintro pre A B ⟨h1, h2, h3⟩ hk
  refine ⟨hk.heap h1 ?_, hk.heap h2 ?_, h3.trans hk (fun k hk hs => ?_)⟩
  · rintro (e | e | e) <;> first | exact e | omega
  · rintro (e | e | e) <;> first | exact e | omega
  · rcases hs with e | e | e <;> first | exact e | omega
 case h0 => exact ⟨H00.out, H10.out, HK0.out⟩
 case assign =>
  intro lp x W K hK
  simp only [encP]
  gi_wp2
  exact hK
 case body =>
  rintro lp pre ⟨x, y⟩ W ⟨h1, h2, h3⟩ hsp _
  have hlt : Op.bytesLess x.toList y.toList = true := HA.out (x, y) (hsp.subset (by simp))
  have H1 := Hj h1; have H2 := Hj h2; have H3 := Hj h3
  clear h1 h2 h3 hsp
  gi_wp2
  exact ⟨Keeps.refl _ _, H1.out, H2.out, H3.out⟩
 case done =>
  rintro D xs W rfl ⟨h1, h2, h3⟩ hD hK
  have H1 := Hj h1; have H2 := Hj h2; have H3 := Hj h3; have HK := Hj hK
  have hc0 : (t.length : Int) ≤ 1000000 := by omega
  have hc1 : (0 : Int) ≤ (t.length : Int) := by omega
  have HV := Hj (qby W.heap.size (.slice none 0 0) [] t.length W (World.ownsRow_nil _ _ _ _) (by omega) (by simp) (Nat.le_refl _))
  clear h1 h2 h3 hK
  gi_wp2
  refine ⟨trivial, rfl, (callsIn_wide.2 HV.out).mono ?_⟩
  rintro e w4 ⟨v4, rfl, hrow4⟩
  have HR4 : Hid (w4.ownsRow W.heap.size 5 1 v4 (u8s (symPre t 0)).length (u8s (symPre t 0))) := Hj (by have := hrow4.row; simpa [symPre] using this)
  have HK4 : Hid (Keeps (fun _ => False) W w4) := Hj (hrow4.keeps.mono (fun k hk e => by simp [own, Value.ownBlock] at e))
  clear hrow4 HV
  gi_wp2
  gi_loopw [6, 24] (fun c6 c wr => ∃ k : Nat, k ≤ t.length ∧ c = .int .i64 (k : Nat) ∧ Hid (wr.ownsRow W.heap.size 5 1 c6 (u8s (symPre t k)).length (u8s (symPre t k))) ∧ Hid (Keeps (fun _ => False) W wr)) (fun _ c _ => t.length - (intOf c).toNat)
  case atStart => exact ⟨0, by omega, rfl, HR4, HK4⟩
  case round =>
   clear HR4 HK4
   obtain ⟨k, hk, rfl, HR, HKr⟩ := hrel
   by_cases hlt : k < t.length
   · obtain ⟨s, hs⟩ := qaj hlt
     obtain ⟨b1, o1, rfl, c1⟩ := RdT.at (Rd.keeps HH.out (H3.out.trans HKr.out (fun _ _ e => e)) (fun _ _ e => e)) hs
     have hklt : (k : Int) < t.length := by omega
     have hk0 : (0 : Int) ≤ (k : Int) := by omega
     have hss := HT.out s (List.mem_of_getElem? hs)
     have hle := symPre_le t k
     have HS := Hj (symPre_succ t hs)
     have HA2 := Hj (appb_any W.heap.size _ (symPre t k) s wr HR.out (by omega) (by omega) HKr.out.size)
     clear hs hle
     gi_wp2
     refine ⟨trivial, rfl, (callsIn_wide.2 HA2.out).mono ?_⟩
     rintro e w5 ⟨v5, rfl, hr5, hk5⟩
     have HR5 := Hj hr5; have HK5 := Hj hk5
     clear hr5 hk5 HA2 c1
     gi_wp2
     exact ⟨⟨k + 1, by omega, rfl, Hj (by rw [HS.out, qaa]; exact HR5.out), Hj (HKr.out.trans HK5.out (fun k hk e => by omega))⟩, by simp [intOf]; omega⟩
   · obtain rfl : k = t.length := by omega
     have hr := HR.out
     rw [symPre_all, qaa] at hr
     obtain ⟨a6, c6, rfl⟩ := qac hr
     have h1 := HKr.out.heap H1.out (fun e => e)
     have h2 := HKr.out.heap H2.out (fun e => e)
     have d0 : wr.cell? ⟨w.heap.size, 0, none⟩ = some (.slice none 0 0) := by rw [cell_of_row _ _ _ _ _ _ h1]; rfl
     have d1 : wr.cell? ⟨w.heap.size + 1, 0, none⟩ = some (.int .i64 0) := by rw [cell_of_row _ _ _ _ _ _ h2]; rfl
     have f0 : wr.frozen? ⟨w.heap.size, 0, none⟩ = false := frozen_of_row _ _ _ _ _ h1
     have f1 : wr.frozen? ⟨w.heap.size + 1, 0, none⟩ = false := frozen_of_row _ _ _ _ _ h2
     have HR6 := Hj hr; have HA1 := Hj h1; have HA2 := Hj h2
     clear hr h1 h2
     have hKD := HKr.out.heap HK.out (fun e => e)
     have hDn : w.heap.size + 3 ≤ D := by omega
     have HKD := Hj hKD
     clear hKD
     gi_wp2
     obtain ⟨W9, hW9⟩ : ∃ W9, W9 = (wr.setCell ⟨w.heap.size, 0, none⟩ (.slice a6 (symO t).length c6)).setCell ⟨w.heap.size + 1, 0, none⟩ (.int .i64 0) := ⟨_, rfl⟩
     rw [← hW9]
     have hk9 : Keeps (fun k => k = w.heap.size ∨ k = w.heap.size + 1) wr W9 := by rw [hW9]; exact ((Keeps.refl _ wr).setCell (p := ⟨w.heap.size, 0, none⟩) (fun _ => .inl rfl) _).setCell (p := ⟨w.heap.size + 1, 0, none⟩) (fun _ => .inr rfl) _
     have hc9 : W9.heap[w.heap.size]? = some (.cells #[.slice a6 (symO t).length c6] 29 (0, 0)) := by
      rw [hW9, heap_setCell_other _ _ _ _ (by simp)]
      have := heap_setCell_same wr w.heap.size 0 _ _ (.slice a6 (symO t).length c6) HA1.out
      simpa using this
     have hd9 : W9.heap[w.heap.size + 1]? = some (.cells #[.int .i64 0] 30 (0, 0)) := by
      rw [hW9]
      have := heap_setCell_same (wr.setCell ⟨w.heap.size, 0, none⟩ (.slice a6 (symO t).length c6)) (w.heap.size + 1) 0 _ _ (.int .i64 0) ((heap_setCell_other wr _ _ _ (by simp)).trans HA2.out)
      simpa using this
     have hK9 := hk9.heap HKD.out (by omega)
     refine ⟨by simp, .inl ⟨_, _, rfl, run_takeDeferred hK9, ?_⟩⟩
     have hp : Keeps (fun k => k = D) W9 (W9.putObj D (.deferred none)) := Keeps.putObj _ _ _ rfl
     have e0 : (W9.putObj D (.deferred none)).cell? ⟨w.heap.size, 0, none⟩ = some (.slice a6 (symO t).length c6) := by rw [cell_of_row _ _ _ _ _ _ (hp.heap hc9 (by omega))]; rfl
     have e1 : (W9.putObj D (.deferred none)).cell? ⟨w.heap.size + 1, 0, none⟩ = some (.int .i64 0) := by rw [cell_of_row _ _ _ _ _ _ (hp.heap hd9 (by omega))]; rfl
     refine ⟨.tuple #[.slice a6 (symO t).length c6, .int .i64 0], by simp [results, Tryz.results65, go_sem, e0, e1], .slice a6 (symO t).length c6, rfl, ?_, ?_⟩
     · have hDW := qan HK.out
       have hlo : ∀ g, (Value.slice a6 (symO t).length c6).ownBlock = some g → D < g := fun g hg => by have := (HR6.out.lt g hg).1; omega
       exact qao (hp.row (hk9.row HR6.out (fun g hg e => by have := hlo g hg; omega)) (fun g hg e => by have := hlo g hg; omega)) (fun g hg => by have := hlo g hg; omega)
     · exact (((H3.out.trans HKr.out (fun _ _ e => e)).trans hk9 (fun k hk e => by omega))).trans hp (fun k hk e => by omega)
 case stop => rintro D c pre W _ h; exact h.elim
end
section
set_option maxHeartbeats 1000000
set_option maxRecDepth 100000
open Go.RowKit
theorem cnan_any (s : ByteArray) (w : World) : Calls Tryz.prog 212 #[.string s] w fun e w' => e = .returned (.bool false) ∧ w' = w := by
 have h : (s.toList == s.toList) = true := beq_self_eq_true _
 go_enter Tryz.func212, Tryz.ntmps212
 go_wp2
 go_ret
 exact ⟨rfl, rfl⟩
theorem sless_any (x y : ByteArray) (w : World) : Calls Tryz.prog 208 #[.string x, .string y] w fun e w' => e = .returned (.bool (Op.bytesLess x.toList y.toList)) ∧ w' = w := by
 go_enter Tryz.func208, Tryz.ntmps208
 go_wp2_with (go_at_call 212; refine (cnan_any _ _).mono ?_; rintro e w1 ⟨rfl, hw⟩; obtain rfl := hw.symm)
 go_ret
 exact ⟨rfl, rfl⟩
def Pos (t : List ByteArray) (s : ByteArray) (k : Nat) : Prop := t[k]? = some s ∧ ∀ (h : Nat) (x : ByteArray), t[h]? = some x → Op.bytesLess x.toList s.toList = decide (h < k)
theorem sbs_any (ad : Option Addr) (cap : Nat) (t : List ByteArray) (x : ByteArray) (k : Nat) (w : World) (h : RdT w (.slice ad t.length cap) t) (hp : Pos t x k) (hl : t.length ≤ 1099511627776) :
 Calls Tryz.prog 173 #[.slice ad t.length cap, .string x] w fun e w' => e = .returned (.tuple #[.int .i64 (k : Int), .bool true]) ∧ w' = w := by
 have HH := Hj h; have HP := Hj hp
 have hkl : k < t.length := (List.getElem?_eq_some_iff.1 hp.1).1
 clear h hp
 go_enter Tryz.func173, Tryz.ntmps173
 go_wp2
 go_loopw [7, 8] (fun ci cj wr => ∃ (i j : Nat), ci = .int .i64 (i : Int) ∧ cj = .int .i64 (j : Int) ∧ i ≤ k ∧ k ≤ j ∧ j ≤ t.length ∧ Hid (wr = w)) (fun ci cj _ => (intOf cj - intOf ci).toNat)
 case atStart => exact ⟨0, t.length, rfl, rfl, Nat.zero_le _, by omega, Nat.le_refl _, Hj rfl⟩
 case round =>
  obtain ⟨i, j, rfl, rfl, hik, hkj, hjl, HW⟩ := hrel
  obtain rfl := HW.out.symm
  clear HW
  by_cases hlt : i < j
  · have hlti : (i : Int) < (j : Int) := by omega
    obtain ⟨m, hm⟩ : ∃ m, m = (i + j) / 2 := ⟨_, rfl⟩
    have e1 : ((i : Int) + (j : Int)) / 2 = (m : Int) := by omega
    have hsum : (i : Int) + (j : Int) ≤ 9999999999999 := by omega
    have hmj : m < j := by omega
    have him : i ≤ m := by omega
    have hml : (m : Int) < (t.length : Int) := by omega
    have hm0 : (0 : Int) ≤ (m : Int) := by omega
    obtain ⟨y, hy⟩ := qaj (l := t) (k := m) (by omega)
    obtain ⟨b, off, rfl, hcell⟩ := RdT.at HH.out hy
    have HO := Hj (HP.out.2 m y hy)
    clear hm hy
    obtain ⟨bl, hbl⟩ : ∃ bl, bl = decide (m < k) := ⟨_, rfl⟩
    rw [← hbl] at HO
    have HBL := Hj hbl
    clear hbl
    cases bl with
    | true =>
      have hmk : m < k := by have := HBL.out; simpa using this.symm
      go_wp2_with (go_at_call 208; refine (sless_any _ _ _).mono ?_; rintro e w' ⟨rfl, hw⟩; obtain rfl := hw.symm; rw [HO.out])
      exact ⟨⟨m + 1, j, by simp, rfl, by omega, hkj, hjl, Hj (by trivial)⟩, by simp [intOf]; omega⟩
    | false =>
      have hmk : k ≤ m := by have := HBL.out; simpa using this.symm
      go_wp2_with (go_at_call 208; refine (sless_any _ _ _).mono ?_; rintro e w' ⟨rfl, hw⟩; obtain rfl := hw.symm; rw [HO.out])
      exact ⟨⟨i, m, rfl, rfl, hik, hmk, by omega, Hj (by trivial)⟩, by simp [intOf]; omega⟩
  · have hge : ¬ (i : Int) < (j : Int) := by omega
    obtain rfl : i = k := by omega
    obtain rfl : j = i := by omega
    have hjs : (j : Int) < (t.length : Int) := by omega
    have hj0 : (0 : Int) ≤ (j : Int) := by omega
    obtain ⟨b, off, rfl, hcell⟩ := RdT.at HH.out HP.out.1
    have he : (x.toList == x.toList) = true := beq_self_eq_true _
    go_wp2_with fail
    go_ret2
    exact ⟨rfl, rfl⟩
theorem qjd (ad : Option Addr) (cap : Nat) (t : List ByteArray) (x : ByteArray) (k : Nat) (w : World) (h : RdT w (.slice ad t.length cap) t) (hp : Pos t x k) (hl : t.length ≤ 1099511627776) :
 Calls Tryz.prog 127 #[.slice ad t.length cap, .string x] w fun e w' => e = .returned (.tuple #[.int .i64 (k : Int), .bool true]) ∧ w' = w := by
 have HB := Hj (sbs_any ad cap t x k w h hp hl)
 clear h hp
 go_enter Tryz.func127, Tryz.ntmps127
 go_wp2_with (go_at_call 173; refine HB.out.mono ?_; rintro e w' ⟨rfl, hw⟩; obtain rfl := hw.symm)
 go_ret2
 exact ⟨rfl, rfl⟩
end
end Go.Proofs.YtfpcgcbehdogjaaGreatDoor
