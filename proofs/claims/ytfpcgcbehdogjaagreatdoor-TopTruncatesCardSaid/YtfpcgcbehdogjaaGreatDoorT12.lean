/-
  Lemmas on which LTopTruncates rests, packed out of the texts WXorC WTimesD SortL WTimesE DStep WXorD WTimesF WRef05c WCodec05 WRunE WXorE WRunF WRef07b WXorF WRef07c WLaw07a WRef06b WXorG WRef06c; each for all arguments under the hypotheses it names.
-/
import Derived.Test.YtfpcgcbehdogjaaGreatDoorT09
import Derived.Laws.OwnMore
import Derived.Deep.DeepCutAuto
import Derived.Deep.CutBlock
import Derived.Test.YtfpcgcbehdogjaaGreatDoorT10
import Derived.Deep.Cut
namespace Go.Proofs.YtfpcgcbehdogjaaGreatDoor
section
set_option maxHeartbeats 4000000
set_option maxRecDepth 100000
open Go.RowKit
def restX (i : Nat) (s : Nat × Nat) (p : Nat) (l : List Nat) : List Bool := if i = 0 then enc6 l else encX s p (l.drop i)
theorem restX_first {t : Nat} {l : List Nat} (h : l[0]? = some t) : restX 0 win0 0 l = qab t 64 ++ restX 1 win0 t l := by
 cases l with
 | nil => simp at h
 | cons s r => simp only [List.getElem?_cons_zero, Option.some.injEq] at h; subst h; simp [restX, enc6]
theorem restX_step {s : Nat × Nat} {p v i : Nat} {l : List Nat} (hi : i ≠ 0) (h : l[i]? = some v) : restX i s p l = bitsX s (v ^^^ p) ++ restX (i + 1) (newX s (v ^^^ p)) v l := by
 have hlt : i < l.length := (List.getElem?_eq_some_iff.1 h).1
 have e : l[i] = v := by rw [List.getElem?_eq_getElem hlt] at h; simpa using h
 unfold restX
 rw [if_neg hi, if_neg (by omega), List.drop_eq_getElem_cons hlt, e, encX]
theorem restX_end {s : Nat × Nat} {p i : Nat} {l : List Nat} (h : l.length ≤ i) : restX i s p l = [] := by
 unfold restX
 split
 · rename_i h0
   have : l = [] := List.eq_nil_of_length_eq_zero (by omega)
   rw [this]; rfl
 · rw [List.drop_eq_nil_of_le h]; rfl
theorem qdb {w : World} {ad : Option Addr} {cap : Nat} {l : List Nat} (h : Holds w (.slice ad l.length cap) (u64s l)) {j y : Nat} (hj : l[j]? = some y) :
 ∃ b off, ad = some ⟨b, off, none⟩ ∧ w.cell? ⟨b, off + j, none⟩ = some (.int .u64 (y : Nat)) := qgc h hj
section
variable (F : Nat) (cap : Value) (S : Nat → Prop) (n0 : Nat) (R : List Bool → World → Prop) (hO : OutC F cap S n0 R)
include hO
theorem eput_any (E v last : Nat) (s : Nat × Nat) (cur : List Bool) (w : World) (hE : IsE w E last s (.func (.func F) #[] #[cap])) (hv : v < 18446744073709551616) (hl : last < 18446744073709551616) (hs : okWin s) (hR : R cur w) (hn0 : n0 ≤ E) (hcl : cur.length ≤ 1000000000000) (hT : TabZ w) :
 Calls Tryz.prog 149 #[.pointer (some ⟨E, 0, none⟩), .int .u64 (v : Nat)] w (PutX S n0 R E v s (v ^^^ last) cur (.func (.func F) #[] #[cap]) w) := by
 by_cases h0 : v ^^^ last = 0
 · have : last = v := by
    have := congrArg (last ^^^ ·) h0
    simp only [xor_forth, Nat.xor_zero] at this
    exact this.symm
   subst this
   rw [h0]
   exact eput_zero F cap S n0 R hO E _ s cur w hE hv hR hn0 hcl
 · by_cases hf : fitsX s (v ^^^ last) = true
   · have hs' : s.1 + s.2 ≤ 63 := hs.resolve_left (fun e => by rw [e, qkn (qht hv hl) h0] at hf; cases hf)
     exact eput_fits F cap S n0 R hO E v last s cur w _ hE hv hl rfl h0 hf hs' hR hn0 hcl hT
   · exact eput_new F cap S n0 R hO E v last s cur w _ hE hv hl rfl h0 (by simpa using hf) hs hR hn0 hcl hT
theorem qko (v : Value) (l : List Nat) (cur : List Bool) (w : World) (hl : l.length ≤ 1000000000) (hcl : cur.length ≤ 100000000000) (hX : ∀ x ∈ l, x ≤ 18446744073709551615) (h : Holds w v (u64s l)) (hap : ∀ g, ownH v l g → g < n0 ∧ ¬ S g) (hR : R cur w) (hn : n0 ≤ w.heap.size)
 (hkeep : ∀ a o, R cur a → R cur (a.alloc o)) (hT : TabZ w) :
 Calls Tryz.prog 97 #[v, .func (.func F) #[] #[cap]] w fun e w' => e = .returned (.tuple #[]) ∧ R (cur ++ enc6 l) w' ∧ Keeps (fun k => S k ∨ n0 ≤ k) w w' := by
 have HH := Hj h; have HX := Hj hX; have HAP := Hj hap
 obtain ⟨ad, cp, rfl, hc, _⟩ := h
 rw [qcg] at hc HH HAP ⊢
 have hel := qik l
 have he := fun args w => hO.enter args w
 obtain ⟨E, hEE⟩ : ∃ E, E = w.heap.size := ⟨_, rfl⟩
 obtain ⟨w1, hw1⟩ : ∃ w1, w1 = w.alloc (.cells (qfh 0 win0 (.func (.func F) #[] #[cap])) 266) := ⟨_, rfl⟩
 have i1 : IsE w1 E 0 win0 (.func (.func F) #[] #[cap]) := by rw [hw1, hEE]; exact heap_alloc_new w _
 have k1 : ∀ S, Keeps S w w1 := fun S => by rw [hw1]; exact (Keeps.refl S w).alloc _
 have r1 : R cur w1 := by rw [hw1]; exact hkeep _ _ hR
 have t1 := hT.keeps (k1 (fun _ => False)) (fun h => h)
 have hh1 := HH.out.keeps (k1 (fun _ => False)) (fun _ _ h => h)
 have HW1 := Hj hw1; have I1 := Hj i1; have K1 := Hj k1; have R1 := Hj r1; have T1 := Hj t1; have H1 := Hj hh1; have HEE := Hj hEE
 have hnE : n0 ≤ E := by omega
 have hbE : 2 < E := Nat.lt_of_lt_of_le hO.tab.1 hnE
 clear hX hap hR hkeep hT hw1 i1 k1 r1 t1 hh1 hEE
 go_enter Tryz.func97, Tryz.ntmps97
 go_wp2
 rw [show w.alloc (.cells #[.int .u64 0, .int .i64 0, .int .i64 0, .func (.func F) #[] #[cap]] 266) = w1 from HW1.out.symm, ← HEE.out]
 go_loopw [12] (fun i wr => ∃ (k last : Nat) (s : Nat × Nat) (cu : List Bool), k ≤ l.length ∧ i = .int .i64 k ∧ IsE wr E last s (.func (.func F) #[] #[cap]) ∧ okWin s ∧ last < 18446744073709551616 ∧ R cu wr ∧ Holds wr (.slice ad l.length cp) (u64s l) ∧ TabZ wr ∧ Keeps (fun k => S k ∨ n0 ≤ k) w wr ∧
  (k = 0 → last = 0 ∧ s = win0) ∧ cu ++ restX k s last l = cur ++ enc6 l) (fun i _ => l.length - (intOf i).toNat)
 case atStart => exact ⟨0, 0, win0, cur, by omega, rfl, I1.out, .inl rfl, by decide, R1.out, H1.out, T1.out, K1.out _, fun _ => ⟨rfl, rfl⟩, rfl⟩
 case round =>
  obtain ⟨k, last, s, cu, hk, rfl, hE, hs, hla, hR, hh, hT, hkw, hk0, hcu⟩ := hrel
  clear I1 R1 T1 H1
  by_cases hlt : k < l.length
  · have hkl : (k : Int) < l.length := by omega
    have hcl3 : cu.length ≤ 1000000000000 := by
     have := congrArg List.length hcu
     simp only [List.length_append] at this
     omega
    obtain ⟨x, hx⟩ : ∃ x, l[k]? = some x := ⟨l[k], by simp [hlt]⟩
    have hx64 := HX.out x (List.mem_of_getElem? hx)
    obtain ⟨b, off, rfl, hcell⟩ := qdb hh hx
    have hs0 : n0 ≤ wr.heap.size := Nat.le_trans hn hkw.size
    by_cases hk1 : k = 0
    · subst hk1
      obtain ⟨rfl, rfl⟩ := hk0 rfl
      have hcell' : wr.cell? ⟨b, off, none⟩ = some (.int .u64 (x : Nat)) := hcell
      have hst := restX_first hx
      rw [hst, ← List.append_assoc] at hcu
      have HE := Hj hE; have HR := Hj hR; have Hh := Hj hh; have HT := Hj hT; have HKW := Hj hkw; have HCU := Hj hcu
      clear hE hR hh hT hkw hcu hst hx hcell hk0 hs hla
      go_wp2
      refine (hO.call cu x 64 wr HR.out hs0 (by omega) (by decide) (by omega)).mono ?_
      rintro e w2 ⟨rfl, r2, k2, e2⟩
      have i2 := e2 E _ HE.out
      obtain ⟨c0, _, _, _, cf⟩ := IsE.cells i2
      have cf0 := cf 0
      have F1 := Hj (HKW.out.trans k2 (fun _ _ h => h))
      have F2 := Hj (HT.out.keeps k2 (fun e => e.elim hO.tab.2 (fun e => by have := hO.tab.1; omega)))
      have F3 := Hj (Hh.out.keepsH k2 qdz (fun g hg e => e.elim (HAP.out g hg).2 (fun e => by have := (HAP.out g hg).1; omega)))
      have F4 := Hj r2
      have F5 := Hj i2
      clear cf r2 k2 e2 i2 hcell'
      go_wp2
      have kE : Keeps (fun k => k = E) w2 (w2.setCell ⟨E, 0, none⟩ (.int .u64 (x : Nat))) := (Keeps.refl (fun k => k = E) w2).setCell (p := ⟨E, 0, none⟩) (fun _ => rfl) _
      refine ⟨⟨1, x, win0, _, by omega, rfl, IsE.set0 F5.out, .inl rfl, by omega, hO.keep _ _ _ E _ F4.out F5.out kE hnE, F3.out.keepsH kE qdz (fun g hg e => by have := (HAP.out g hg).1; omega), F2.out.keeps kE (by omega), F1.out.trans kE (fun k _ e => .inr (by rw [e]; exact hnE)), fun h => by omega, HCU.out⟩, by simp [intOf]; omega⟩
    · have hk1' : (0 : Int) < k := by omega
      rw [restX_step hk1 hx, ← List.append_assoc] at hcu
      have hx2 : x < 18446744073709551616 := by omega
      have HE := Hj hE; have HR := Hj hR; have Hh := Hj hh; have HT := Hj hT; have HKW := Hj hkw; have HCU := Hj hcu; have HS := Hj hs
      clear hE hR hh hT hkw hcu hx hk0 hs hk1
      go_wp2_with fail
      refine (eput_any F cap S n0 R hO E x last s cu wr HE.out hx2 hla HS.out HR.out hnE hcl3 HT.out).mono ?_
      rintro e w2 ⟨rfl, r2, i2, k2⟩
      have F1 := Hj (HKW.out.trans k2 (fun _ _ h => h))
      have F2 := Hj (HT.out.keeps k2 (fun e => e.elim hO.tab.2 (fun e => by have := hO.tab.1; omega)))
      have F3 := Hj (Hh.out.keepsH k2 qdz (fun g hg e => e.elim (HAP.out g hg).2 (fun e => by have := (HAP.out g hg).1; omega)))
      have F4 := Hj r2
      have F5 := Hj i2
      clear r2 k2 i2 hcell
      go_wp2
      exact ⟨⟨k + 1, x, _, _, by omega, by go_num, F5.out, newX_ok HS.out (qht hx2 hla), hx2, F4.out, F3.out, F2.out, F1.out, fun h => by omega, HCU.out⟩, by simp [intOf]; omega⟩
  · rw [restX_end (by omega), List.append_nil] at hcu
    subst hcu
    have HR := Hj hR; have HKW := Hj hkw
    have hkl : ¬ (k : Int) < l.length := by omega
    clear hE hR hh hT hkw hk0 hs
    go_wp2
    go_end0
    exact ⟨rfl, HR.out, HKW.out⟩
end
def RPut (base p : Nat) (v0 : Value) (bits : List Bool) (w : World) (cur : List Bool) (wq : World) : Prop :=
 Wrote base p v0 (bits ++ cur) w wq ∧ wq.heap[w.heap.size]? = some (.cells #[.pointer (some ⟨p, 0, none⟩)] 57 (0, 0)) ∧ p < w.heap.size
theorem foot_ne {w : World} {base p : Nat} {v : Value} {l : List Bool} (h : IsW w base p v l) {E : Nat} {cs : Array Value} {t : TypeId} {fr : Nat × Nat} (hE : w.heap[E]? = some (.cells cs t fr)) (h1 : t ≠ 104) (h2 : t ≠ 5) : ¬ foot p v E := by
 rintro (e | e)
 · exact qaf hE h.blk h1 e
 · obtain ⟨c', hc'⟩ := qak h.row e
   exact qaf hE hc' h2 rfl
theorem xput1_call (base p : Nat) (v0 : Value) (bits : List Bool) (w : World) (hbits : bits.length ≤ 1000000000) (hb0 : base ≤ w.heap.size) (cur : List Bool) (x n : Nat) (wq : World) (h : RPut base p v0 bits w cur wq) (hx : x < 18446744073709551616) (hn : n ≤ 64) (hcl : cur.length ≤ 1000000000100) :
 Calls Tryz.prog 99 #[.int .u64 (x : Nat), .int .i64 (n : Nat), .pointer (some ⟨w.heap.size, 0, none⟩)] wq fun e w' => e = .returned (.tuple #[]) ∧ RPut base p v0 bits w (cur ++ qab x n) w' ∧ Keeps (fun k => foot p v0 k ∨ w.heap.size ≤ k) wq w' ∧ ∀ (E : Nat) cs, wq.heap[E]? = some (Obj.cells cs 266 (0, 0)) → w'.heap[E]? = some (Obj.cells cs 266 (0, 0)) := by
 obtain ⟨⟨v', i1, k1, n1⟩, hB, hp⟩ := h
 have hc : wq.cell? ⟨w.heap.size, 0, none⟩ = some (.pointer (some ⟨p, 0, none⟩)) := by rw [cell_of_row _ _ _ _ _ _ hB]; rfl
 have I1 := Hj i1; have K1 := Hj k1; have N1 := Hj n1; have HB := Hj hB
 have hbw : base ≤ wq.heap.size := Nat.le_trans hb0 k1.size
 clear i1 k1 n1 hB
 go_enter Tryz.func99, Tryz.ntmps99
 go_wp2_with fail
 refine (qbp base p v' (bits ++ cur) x n wq I1.out (by omega) hn (by rw [List.length_append]; omega) hbw).mono ?_
 rintro e w2 ⟨rfl, hw⟩
 have HWR := Hj hw
 clear hw hc
 go_wp2
 go_end0
 obtain ⟨v2, i2, k2, n2⟩ := HWR.out
 refine ⟨rfl, ⟨?_, ?_, hp⟩, ?_, ?_⟩
 · rw [← List.append_assoc]
   exact Wrote.trans K1.out N1.out ⟨v2, i2, k2, n2⟩
 · exact k2.heap HB.out (foot_ne I1.out HB.out (by decide) (by decide))
 · refine k2.mono (fun k _ e => ?_)
   rcases e with e | e
   · exact .inl (.inl e)
   · exact (N1.out k e).imp .inr id
 · intro E cs hE
   exact k2.heap hE (foot_ne I1.out hE (by decide) (by decide))
theorem xput1_enter : ∀ args w, (callFunc 99 args).run Tryz.prog w = .ok (.enter 99 args) w := fun _ _ => rfl
theorem outPut (base p : Nat) (v0 : Value) (bits : List Bool) (w : World) (hbits : bits.length ≤ 1000000000) (hb0 : base ≤ w.heap.size) (hbase : 2 < base) (hW : IsW w base p v0 bits) :
 OutC 99 (.pointer (some ⟨w.heap.size, 0, none⟩)) (foot p v0) w.heap.size (RPut base p v0 bits w) where
 enter := xput1_enter
 call cur x n wq hR _ hx hn hcl := xput1_call base p v0 bits w hbits hb0 cur x n wq hR hx hn hcl
 keep cur a b E cs hR hE k hn := by
  obtain ⟨⟨v', i1, k1, n1⟩, hB, hp⟩ := hR
  have hf := foot_ne i1 hE (by decide) (by decide)
  refine ⟨⟨v', i1.keeps k (fun e => hf (.inl e.symm)) (fun g hg e => hf (.inr (by rw [← e]; exact hg))), k1.trans k (fun k hk e => by omega), n1⟩, ?_, hp⟩
  exact k.heap hB (qaf hB hE (by decide))
 tab := ⟨by omega, fun e => by
  rcases e with e | e
  · have := hW.base; omega
  · have := (hW.row.lt _ e).1; omega⟩
theorem xput_any (base p : Nat) (v0 v : Value) (bits : List Bool) (l : List Nat) (w : World) (hW : IsW w base p v0 bits) (hb0 : base ≤ w.heap.size) (hbits : bits.length ≤ 1000000000) (hl : l.length ≤ 1000000000) (hX : ∀ x ∈ l, x ≤ 18446744073709551615)
 (h : Holds w v (u64s l)) (hap : ∀ k, ownH v l k → ¬ foot p v0 k) (hT : TabZ w) (hbase : 2 < base) :
 Calls Tryz.prog 44 #[.pointer (some ⟨p, 0, none⟩), v] w fun e w' => e = .returned (.int .i64 0) ∧ Wrote base p v0 (bits ++ enc6 l) w w' := by
 have hO := outPut base p v0 bits w hbits hb0 hbase hW
 obtain ⟨w1, hw1⟩ : ∃ w1, w1 = w.alloc (.cells #[.pointer (some ⟨p, 0, none⟩)] 57) := ⟨_, rfl⟩
 have k1 : Keeps (fun _ => False) w w1 := by rw [hw1]; exact (Keeps.refl _ w).alloc _
 have hB : w1.heap[w.heap.size]? = some (.cells #[.pointer (some ⟨p, 0, none⟩)] 57 (0, 0)) := by rw [hw1]; exact heap_alloc_new w _
 have i1 := hW.keeps k1 (fun h => h) (fun _ _ h => h)
 have hR : RPut base p v0 bits w [] w1 := ⟨by rw [List.append_nil]; exact ⟨v0, i1, k1.mono (fun _ _ h => h.elim), fun g hg => .inl hg⟩, hB, hW.lt⟩
 have hap2 : ∀ g, ownH v l g → g < w.heap.size ∧ ¬ foot p v0 g := fun g hg => ⟨qgv h hg, hap g hg⟩
 have hkeep : ∀ a o, RPut base p v0 bits w [] a → RPut base p v0 bits w [] (a.alloc o) := fun a o hR => by
  obtain ⟨⟨v', j1, j2, j3⟩, hB, hp⟩ := hR
  have ka : Keeps (fun _ => False) a (a.alloc o) := (Keeps.refl _ a).alloc o
  exact ⟨⟨v', j1.keeps ka (fun h => h) (fun _ _ h => h), j2.trans ka (fun _ _ h => h.elim), j3⟩, ka.heap hB (fun h => h), hp⟩
 have he := qko 99 (.pointer (some ⟨w.heap.size, 0, none⟩)) (foot p v0) w.heap.size (RPut base p v0 bits w) hO v l [] w1 hl (by simp) hX (h.keeps k1 (fun _ _ h => h)) hap2 hR k1.size hkeep (hT.keeps k1 (fun h => h))
 have hc : w1.cell? ⟨w.heap.size, 0, none⟩ = some (.pointer (some ⟨p, 0, none⟩)) := by rw [cell_of_row _ _ _ _ _ _ hB]; rfl
 have HE := Hj he; have HW1 := Hj hw1
 clear hO k1 hB i1 hR hap2 hkeep he hw1 hap hX h hT hW
 go_enter Tryz.func44, Tryz.ntmps44
 go_wp2_with fail
 rw [← HW1.out]
 refine HE.out.mono ?_
 rintro e w2 ⟨rfl, ⟨hw, _⟩, _⟩
 have HWR := Hj hw
 clear hw hc
 go_wp2
 go_ret
 exact ⟨rfl, by simpa using HWR.out⟩
def RSize (w : World) (cur : List Bool) (wq : World) : Prop := Keeps (fun _ => False) w wq ∧ wq.heap[w.heap.size]? = some (.cells #[.int .i64 (cur.length : Nat)] 3 (0, 0))
theorem xsize1_enter : ∀ args w, (callFunc 98 args).run Tryz.prog w = .ok (.enter 98 args) w := fun _ _ => rfl
theorem xsize1_call (w : World) (cur : List Bool) (x n : Nat) (wq : World) (h : RSize w cur wq) (hn : n ≤ 64) (hcl : cur.length ≤ 1000000000100) :
 Calls Tryz.prog 98 #[.int .u64 (x : Nat), .int .i64 (n : Nat), .pointer (some ⟨w.heap.size, 0, none⟩)] wq fun e w' => e = .returned (.tuple #[]) ∧ RSize w (cur ++ qab x n) w' ∧ Keeps (fun k => False ∨ w.heap.size ≤ k) wq w' ∧ ∀ (E : Nat) cs, wq.heap[E]? = some (Obj.cells cs 266 (0, 0)) → w'.heap[E]? = some (Obj.cells cs 266 (0, 0)) := by
 obtain ⟨k1, hB⟩ := h
 have hc : wq.cell? ⟨w.heap.size, 0, none⟩ = some (.int .i64 (cur.length : Nat)) := by rw [cell_of_row _ _ _ _ _ _ hB]; rfl
 have hfr : wq.frozen? ⟨w.heap.size, 0, none⟩ = false := frozen_of_row _ _ _ _ _ hB
 obtain ⟨m, hm⟩ : ∃ m, m = cur.length + n := ⟨_, rfl⟩
 have e1 : (cur.length : Int) + n = m := by omega
 have e2 : IntKind.i64.wrap (m : Int) = m := qcj m (by omega)
 have e3 : IntKind.i64.wrap ((cur.length : Int) + n) = m := by rw [e1, e2]
 obtain ⟨w2, hw2⟩ : ∃ w2, w2 = wq.setCell ⟨w.heap.size, 0, none⟩ (.int .i64 (m : Nat)) := ⟨_, rfl⟩
 have k2 : Keeps (fun k => k = w.heap.size) wq w2 := by rw [hw2]; exact (Keeps.refl (fun k => k = w.heap.size) wq).setCell (p := ⟨w.heap.size, 0, none⟩) (fun _ => rfl) _
 have hB2 : w2.heap[w.heap.size]? = some (.cells #[.int .i64 (m : Nat)] 3 (0, 0)) := by
  rw [hw2]
  have := heap_setCell_same wq w.heap.size 0 _ _ (.int .i64 (m : Nat)) hB
  simpa using this
 have K1 := Hj k1; have HB := Hj hB; have K2 := Hj k2; have HB2 := Hj hB2; have HM := Hj hm; have HW2 := Hj hw2
 clear k1 hB k2 hB2 hm hw2
 go_enter Tryz.func98, Tryz.ntmps98
 go_wp2
 rw [← HW2.out]
 go_end0
 refine ⟨rfl, ⟨K1.out.trans K2.out (fun k hk e => by omega), ?_⟩, K2.out.mono (fun k _ e => .inr (by omega)), fun E cs hE => K2.out.heap hE (qaf hE HB.out (by decide))⟩
 rw [List.length_append, qad, ← HM.out]
 exact HB2.out
theorem outSize (w : World) (hTz : 2 < w.heap.size) : OutC 98 (.pointer (some ⟨w.heap.size, 0, none⟩)) (fun _ => False) w.heap.size (RSize w) where
 enter := xsize1_enter
 call cur x n wq hR _ _ hn hcl := xsize1_call w cur x n wq hR hn hcl
 keep cur a b E cs hR hE k hn := ⟨hR.1.trans k (fun k hk e => by omega), k.heap hR.2 (qaf hR.2 hE (by decide))⟩
 tab := ⟨hTz, fun h => h⟩
theorem xsize_any (v : Value) (l : List Nat) (w : World) (hl : l.length ≤ 1000000000) (h : Holds w v (u64s l)) (hX : ∀ x ∈ l, x ≤ 18446744073709551615) (hT : TabZ w) :
 Calls Tryz.prog 43 #[v] w fun e w' => e = .returned (.int .i64 (((enc6 l).length : Nat) : Int)) ∧ Keeps (fun _ => False) w w' := by
 have hO := outSize w hT.pos
 obtain ⟨w1, hw1⟩ : ∃ w1, w1 = w.alloc (.cells #[.int .i64 0] 3) := ⟨_, rfl⟩
 have k1 : Keeps (fun _ => False) w w1 := by rw [hw1]; exact (Keeps.refl _ w).alloc _
 have hB : w1.heap[w.heap.size]? = some (.cells #[.int .i64 0] 3 (0, 0)) := by rw [hw1]; exact heap_alloc_new w _
 have hR : RSize w [] w1 := ⟨k1, hB⟩
 have hkeep : ∀ a o, RSize w [] a → RSize w [] (a.alloc o) := fun a o hR => by
  have ka : Keeps (fun _ => False) a (a.alloc o) := (Keeps.refl _ a).alloc o
  exact ⟨hR.1.trans ka (fun _ _ h => h), ka.heap hR.2 (fun h => h)⟩
 have he := qko 98 (.pointer (some ⟨w.heap.size, 0, none⟩)) (fun _ => False) w.heap.size (RSize w) hO v l [] w1 hl (by simp) hX (h.keeps k1 (fun _ _ h => h)) (fun g hg => ⟨qgv h hg, fun h => h⟩) hR k1.size hkeep (hT.keeps k1 (fun h => h))
 have HE := Hj he; have HW1 := Hj hw1
 clear hO k1 hB hR hkeep he hw1 hX h hT
 go_enter Tryz.func43, Tryz.ntmps43
 go_wp2_with fail
 rw [← HW1.out]
 refine HE.out.mono ?_
 rintro e w2 ⟨rfl, ⟨hk, hb⟩, _⟩
 rw [List.nil_append] at hb
 have hc : w2.cell? ⟨w.heap.size, 0, none⟩ = some (.int .i64 ((enc6 l).length : Nat)) := by rw [cell_of_row _ _ _ _ _ _ hb]; rfl
 have HK := Hj hk
 clear hk hb
 go_wp2
 go_ret
 exact ⟨rfl, HK.out⟩
end
section
set_option maxHeartbeats 4000000
set_option maxRecDepth 100000
open Go.RowKit Go.Shelf
attribute [local go_sem] Oper.semAt_some
attribute [local go_sem ↓] Go.wp_at_zero Go.wp_at_succ
theorem IsW.drew' {a : World} {base p : Nat} {v : Value} {l : List Bool} (h : IsW a base p v l) : IsW a.drew base p v l := ⟨h.blk, h.row, h.base⟩
def qit : List Int → List Bool
 | [] => []
 | t :: _ => qab (U t) 64
theorem enc5_split (l : List Int) : enc5 l = qit l ++ qam (qbh l) := by cases l <;> rfl
theorem tput_any (base p : Nat) (v0 v : Value) (bits : List Bool) (l : List Int) (w : World) (hW : IsW w base p v0 bits) (hb0 : base ≤ w.heap.size) (hbits : bits.length ≤ 1000000000) (hl : l.length ≤ 1000000000) (hX : ∀ x ∈ l, inI x)
 (h : Holds w v (i64s l)) (hap : ∀ k, ownH v l k → ¬ foot p v0 k) (hT : TabF w) (hbase : 0 < base) :
 Calls Tryz.prog 23 #[.pointer (some ⟨p, 0, none⟩), v] w fun e w' => e = .returned (.int .i64 0) ∧ Wrote base p v0 (bits ++ enc5 l) w w' := by
 have HH := Hj h; have HAp := Hj hap; have HW := Hj hW; have HX := Hj hX; have HT := Hj hT
 obtain ⟨ad, cap, rfl, hcap, _⟩ := h
 rw [qil] at hcap HH HAp ⊢
 have hpl := hW.lt
 have hvl : ∀ k, v0.ownBlock = some k → k < w.heap.size := fun k hk => hW.own_lt hk
 have HVL := Hj hvl
 have hvb : ∀ k, v0.ownBlock = some k → base ≤ k := fun k hk => (hW.row.lt k hk).1
 have HVB := Hj hvb
 have hpb : base ≤ p := hW.base
 clear hap hW hX hvl hvb hT
 refine (callsIn_wide (n := 0)).1 ?_
 refine callsIn_of_wp_marks Tryz.func23 rfl trivial ?_ rfl
 simp only [Tryz.ntmps23, List.size_toArray, List.length_cons, List.length_nil, Nat.reduceAdd, Nat.reduceSub, Array.replicate_succ, Array.replicate_zero, List.push_toArray, List.append_toArray, List.nil_append, List.cons_append]
 obtain ⟨WA, hWA⟩ : ∃ WA, WA = w.alloc (.cells #[.pointer (some ⟨p, 0, none⟩)] 57) := ⟨_, rfl⟩
 have hsA : WA.heap.size = w.heap.size + 1 := by rw [hWA]; simp
 have hkA : ∀ S, Keeps S w WA := fun S => by rw [hWA]; exact (Keeps.refl S w).alloc _
 have hboxA : WA.heap[w.heap.size]? = some (.cells #[.pointer (some ⟨p, 0, none⟩)] 57 (0, 0)) := by rw [hWA]; exact heap_alloc_new w _
 have hIA := HW.out.keeps (hkA (fun _ => False)) (fun h => h) (fun _ _ h => h)
 have hHA := HH.out.keeps (hkA (fun _ => False)) (fun _ _ h => h)
 obtain ⟨hd, hhd⟩ : ∃ hd : List Bool, hd = qit l := ⟨_, rfl⟩
 have hsplit := enc5_split l
 rw [← hhd] at hsplit
 have hhl : hd.length ≤ 64 := by rw [hhd]; cases l <;> simp [qit, qad]
 have HS := Hj hsplit
 have HWA := Hj hWA; have HKA := Hj hkA; have HBA := Hj hboxA; have HIA := Hj hIA; have HHA := Hj hHA
 clear hsplit hWA hkA hboxA hIA hHA
 by_cases hne : 0 < l.length
 · obtain ⟨t, r, hlr⟩ : ∃ t r, l = t :: r := by cases l with | nil => simp at hne | cons t r => exact ⟨t, r, rfl⟩
   obtain ⟨bl, off, hadr, hct⟩ := qir HHA.out (j := 0) (y := t) (by rw [hlr]; rfl)
   have hhd2 : hd = qab (U t) 64 := by rw [hhd, hlr]; rfl
   have HHD := Hj hhd2; have HLR := Hj hlr
   have hct0 : WA.cell? ⟨bl, off, none⟩ = some (.int .i64 t) := hct
   have hcb : WA.cell? ⟨w.heap.size, 0, none⟩ = some (.pointer (some ⟨p, 0, none⟩)) := by rw [cell_of_row _ _ _ _ _ _ HBA.out]; rfl
   have hUt : IntKind.u64.wrap t = ((U t : Nat) : Int) := U_wrap t
   have hUl := U_lt t
   have hl0 : (0 : Int) < l.length := by omega
   have hfbx : ¬ foot p v0 w.heap.size := fun e => by
    rcases e with e | e
    · omega
    · have := HVL.out _ e; omega
   have hfbl : ¬ foot p v0 bl := HAp.out bl ⟨by rw [hlr]; simp, by rw [hadr]; rfl⟩
   subst hadr
   clear hhd hhd2 hlr hct hne
   gi_wp2
   rw [← HWA.out]
   refine wpIn_wide.2 ?_
   go_region_held3 (fun w' => w'.cell? ⟨w.heap.size, 0, none⟩ = some (.pointer (some ⟨p, 0, none⟩)) ∧ w'.cell? ⟨bl, off, none⟩ = some (.int .i64 t)) (go_keep) ((go_at_call 22; go_must (refine (qbp base p v0 bits (U t) 64 WA.drew HIA.out.drew' (by omega) (by decide) (by omega) (by simp; omega)).mono ?_; rintro e WB ⟨rfl, vB, iB, kB, nB⟩; have sB1 := kB.cell (p := ⟨w.heap.size, 0, none⟩) hcb hfbx; have sB2 := kB.cell (p := ⟨bl, off, none⟩) hct0 hfbl)))
   have hhd1 := HHD.out
   have HSB : Hid (w.heap.size + 1 ≤ WB.heap.size) := Hj (by have := kB.size; simp at this; omega)
   have HHB : Hid (Holds WB (.slice (some ⟨bl, off, none⟩) l.length cap) (i64s l)) := Hj ((HHA.out.keeps (S := fun _ => False) (Keeps.refl _ WA).drew (fun _ _ h => h)).keepsH kB i64s_nil (fun g hg => HAp.out g hg))
   have HBB : Hid (WB.heap[w.heap.size]? = some (.cells #[.pointer (some ⟨p, 0, none⟩)] 57 (0, 0))) := Hj (kB.heap HBA.out hfbx)
   have HIB : Hid (IsW WB base p vB (bits ++ hd)) := Hj (by rw [hhd1]; exact iB)
   have HKB : Hid (Keeps (foot p v0) w WB) := Hj (((HKA.out (foot p v0)).drew).trans kB (fun _ _ h => h))
   have HNB : Hid (∀ g, vB.ownBlock = some g → v0.ownBlock = some g ∨ w.heap.size + 1 ≤ g) := Hj (fun g hg => (nB g hg).imp id (fun h => by simp at h; omega))
   have HTW : Hid (TabF WB) := Hj (HT.out.keeps HKB.out (fun h => by
    rcases h with h | h
    · omega
    · have := HVB.out 0 h; omega))
   clear iB kB nB sB1 sB2 hhd1 hct0 hcb hfbx hfbl
   obtain ⟨n1, hn1⟩ : ∃ n1, n1 = WB.heap.size := ⟨_, rfl⟩
   have hn1w : w.heap.size + 1 ≤ n1 := by rw [hn1]; exact HSB.out
   gi_wp2
   refine ⟨trivial, rfl, (callsIn_wide.2 (qis (some ⟨bl, off, none⟩) l.length cap WB)).mono ?_⟩
   rintro e w1 ⟨rfl, rfl⟩
   have hseq := qhj (some ⟨bl, off, none⟩) cap l WB (by omega) HHB.out HX.out
   rw [← hn1] at hseq ⊢
   obtain ⟨W0, hW0⟩ : ∃ W0, W0 = WB.alloc (.cells #[.slice (some ⟨bl, off, none⟩) l.length cap] 54) := ⟨_, rfl⟩
   have hsz : W0.heap.size = n1 + 1 := by rw [hW0, hn1]; simp
   have hkW : ∀ S, Keeps S WB W0 := fun S => by rw [hW0]; exact (Keeps.refl S WB).alloc _
   have hbox : W0.heap[w.heap.size]? = some (.cells #[.pointer (some ⟨p, 0, none⟩)] 57 (0, 0)) := (hkW (fun _ => False)).heap HBB.out (fun h => h)
   have hIB0 := HIB.out.keeps (hkW (fun _ => False)) (fun h => h) (fun _ _ h => h)
   rw [← hW0] at hseq ⊢
   have HSeq := Hj hseq; have HI0 := Hj hIB0; have HBOX := Hj hbox; have HKW := Hj hkW; have HN1 := Hj hn1
   clear hW0 hseq hIB0 hbox hkW hn1
   have hfB : ∀ k, foot p vB k → k < n1 ∧ k ≠ w.heap.size ∧ base ≤ k := fun k hk => by
    rcases hk with rfl | hk
    · exact ⟨by omega, by omega, hpb⟩
    · have h1 := HIB.out.own_lt hk
      refine ⟨by rw [HN1.out]; exact h1, ?_, (HIB.out.row.lt k hk).1⟩
      rcases HNB.out k hk with h | h
      · have := HVL.out k h; omega
      · omega
   have HFB := Hj hfB
   have hoB : ∀ k, ownH (.slice (some ⟨bl, off, none⟩) l.length cap) l k → k < w.heap.size := fun k hk => ownI_lt HH.out hk
   have HOB := Hj hoB
   have hfO : ∀ k, foot p vB k → ¬ ownH (.slice (some ⟨bl, off, none⟩) l.length cap) l k := fun k hk ho => by
    rcases hk with rfl | hk
    · exact HAp.out _ ho (.inl rfl)
    · rcases HNB.out k hk with h | h
      · exact HAp.out _ ho (.inr h)
      · have := HOB.out k ho; omega
   have HFO := Hj hfO
   have h0B : ¬ foot p vB 0 := fun h => by have := (HFB.out 0 h).2.2; omega
   have HTB := Hj (HTW.out.keeps (HKW.out (fun _ => False)) (fun h => h))
   clear hfB hoB hfO
   gi_wp2
   refine qbj (gf := 95) (lb := #[.pointer (some ⟨n1, 0, none⟩)]) (w := W0) rfl (enters_of Tryz.func95 (by kernel_rfl) rfl)
    HSeq.out (T := fun k => foot p vB k ∨ n1 + 3 ≤ k) (fun x => rfl) (fun _ h => h.elim)
    (fun k hk => ?hown1) ?hT1 ?hT21
    (fun pre W => W.heap[w.heap.size]? = some (.cells #[.pointer (some ⟨p, 0, none⟩)] 57 (0, 0)) ∧ ∃ v', IsW W base p v' (bits ++ hd ++ qam pre) ∧ Keeps (foot p vB) WB W ∧ ∀ g, v'.ownBlock = some g → vB.ownBlock = some g ∨ n1 + 3 ≤ g)
    (fun _ _ _ => False) ?hI1 (fun _ _ _ _ h _ => h) ?h01
    (fun x => { tmps := #[.pointer (some ⟨p, 0, none⟩), .slice (some ⟨bl, off, none⟩) l.length cap, .pointer (some ⟨w.heap.size, 0, none⟩), undef, .int .i64 0, .int .i64 x, undef, .pointer (some ⟨p, 0, none⟩), .bool false, .slice (some ⟨bl, off, none⟩) l.length cap, .int .i64 l.length, .bool true, .pointer (some ⟨p, 0, none⟩), .slice (some ⟨bl, off, none⟩) l.length cap, .pointer (some ⟨bl, off, none⟩), .int .i64 t, .int .u64 ((U t : Nat) : Int), .int .i64 0, .slice (some ⟨bl, off, none⟩) l.length cap, .func (.func 95) #[] #[.pointer (some ⟨n1, 0, none⟩)], .int .i64 x, undef, undef, undef, undef, undef, undef, undef, undef, undef, undef, undef, undef, undef, undef, undef, undef], defers := [] })
    ?assign1 ?body1 ?done1 ?stop1
   case hown1 =>
    rcases hk with e | e
    · omega
    · have := HOB.out k e; omega
   case hT1 =>
    rintro k (hk | hk) (e | e)
    · have := (HFB.out k hk).1; omega
    · exact HFO.out k hk e
    · omega
    · have := HOB.out k e; omega
   case hT21 =>
    rintro k (hk | hk)
    · have := (HFB.out k hk).1; omega
    · omega
   case hI1 =>
    rintro pre A B ⟨h1, v', h2, h3, h4⟩ hk
    refine ⟨hk.heap h1 ?_, v', h2.keeps hk ?_ (fun g hg => ?_), h3.trans hk (fun k hk hs => ?_), h4⟩
    · rintro (e | e | e)
      · exact e
      · omega
      · omega
    · rintro (e | e | e)
      · exact e
      · omega
      · omega
    · rintro (e | e | e)
      · exact e
      · rcases h4 g hg with h | h
        · have := (HFB.out g (.inr h)).1; omega
        · omega
      · rcases h4 g hg with h | h
        · have := (HFB.out g (.inr h)).1; omega
        · omega
    · have := HN1.out
      rcases hs with e | e | e
      · exact e.elim
      · omega
      · omega
   case h01 => exact ⟨HBOX.out, vB, by simpa [qam] using HI0.out, HKW.out _, fun g hg => .inl hg⟩
   case assign1 =>
    intro lp x W K hK
    simp only [encI]
    gi_wp2
    exact hK
   case body1 =>
    rintro lp pre x W ⟨h1, v', h2, h3, h4⟩ hsp hsz2
    have hxI : inI x := qhi l x (hsp.subset (by simp))
    have hlp : (qam pre).length ≤ 68000000000 := by have := qeb pre; have := hsp.length_le; have := qeq l; simp at *; omega
    have hTW := HTW.out.keeps h3 h0B
    obtain ⟨k, hk⟩ : ∃ k, k = formI x := ⟨_, rfl⟩
    have hk4 : k ≤ 4 := by rw [hk]; exact qhu x
    have hend : bits ++ hd ++ qam (pre ++ [x]) = bits ++ hd ++ qam pre ++ qab (fBits k) (fLen k) ++ qab (U x) (fWidth k) := by rw [qew, qdc, ← hk]; simp
    have hL := fLen_le k hk4
    have hWd := qiq k hk4
    have hFb : fBits k ≤ 15 := by
     have hc : k = 0 ∨ k = 1 ∨ k = 2 ∨ k = 3 ∨ k = 4 := by omega
     rcases hc with rfl | rfl | rfl | rfl | rfl <;> simp [fBits]
    have hUx : U x ≤ 18446744073709551615 := by have := U_lt x; omega
    have hUw : IntKind.u64.wrap x = ((U x : Nat) : Int) := U_wrap x
    have hlen : (bits ++ hd ++ qam pre).length ≤ 70000000000 := by rw [List.length_append, List.length_append]; omega
    obtain ⟨cur, hcur⟩ : ∃ cur, cur = bits ++ hd ++ qam pre := ⟨_, rfl⟩
    rw [← hcur] at h2 hend hlen
    have H1 := Hj h1; have H2 := Hj h2; have H3 := Hj h3; have H4 := Hj h4; have HTQ := Hj hTW; have HK := Hj hk; have HEND := Hj hend; have HXI := Hj hxI; have HUW := Hj hUw
    have hb1 : base ≤ W.heap.size := by omega
    clear h1 h2 h3 h4 hsp hTW hk hend hxI hlp hcur hUw
    gi_wp2
    refine ⟨trivial, rfl, ((callsIn_wide.2 (qkp x W HXI.out HTQ.out)).inRound lp).mono ?_⟩
    rw [← HK.out]
    rintro e W1 ⟨rfl, k1⟩
    have hT1 := HTQ.out.keeps k1 (fun h => h)
    have hbx := k1.heap H1.out (fun h => h)
    obtain ⟨t0, t1, t2⟩ := hT1.cell k hk4
    have hbs : w.heap.size < W1.heap.size := (Array.getElem?_eq_some_iff.1 hbx).1
    have hkk : (k : Int) < 5 := by omega
    obtain ⟨a, ha⟩ : ∃ a, a = fLen k := ⟨_, rfl⟩
    obtain ⟨b, hb⟩ : ∃ b, b = fWidth k := ⟨_, rfl⟩
    obtain ⟨f, hf⟩ : ∃ f, f = fBits k := ⟨_, rfl⟩
    rw [← ha] at t1 hL
    rw [← hb] at t2 hWd
    rw [← hf] at t0 hFb
    obtain ⟨WF, hWF⟩ : ∃ WF, WF = W1.alloc (.cells #[.int .u64 (f : Nat), .int .i64 (a : Nat), .int .i64 (b : Nat)] 109) := ⟨_, rfl⟩
    have kF : Keeps (fun _ => False) W WF := by rw [hWF]; exact k1.alloc _
    have hXF : WF.heap[W1.heap.size]? = some (.cells #[.int .u64 (f : Nat), .int .i64 (a : Nat), .int .i64 (b : Nat)] 109 (0, 0)) := by rw [hWF]; exact heap_alloc_new W1 _
    obtain ⟨D, hD⟩ : ∃ D, D = W1.heap.size := ⟨_, rfl⟩
    rw [← hD] at hXF
    have iF := H2.out.keeps kF (fun h => h) (fun _ _ h => h)
    have bF := kF.heap H1.out (fun h => h)
    have ca : ∀ o, (W1.alloc o).cell? ⟨w.heap.size, 0, none⟩ = some (.pointer (some ⟨p, 0, none⟩)) := fun o => (qep W1 o _ hbs).trans (by rw [cell_of_row _ _ _ _ _ _ hbx]; rfl)
    have hDp : ∀ (u : Value) (L : List Bool) (V : World), IsW V base p u L → V.heap[D]? = some (.cells #[.int .u64 (f : Nat), .int .i64 (a : Nat), .int .i64 (b : Nat)] 109 (0, 0)) → ¬ foot p u D := fun u L V hV hVD e => by
     rcases e with e | e
     · have := H2.out.lt; have := k1.size; omega
     · obtain ⟨c', hc'⟩ := qak hV.row e
       exact qaf hc' hVD (by decide) rfl
    have hbv : ∀ (u : Value), (∀ g, u.ownBlock = some g → vB.ownBlock = some g ∨ n1 + 3 ≤ g) → ¬ foot p u w.heap.size := fun u hu e => by
     rcases e with e | e
     · omega
     · rcases hu _ e with h | h
       · exact (HFB.out _ (.inr h)).2.1 rfl
       · omega
    have HWF := Hj hWF; have KF := Hj kF; have HXF := Hj hXF; have IF := Hj iF; have BF := Hj bF; have HDP := Hj hDp; have HBV := Hj hbv; have HA := Hj ha; have HB := Hj hb; have HF := Hj hf; have HD := Hj hD
    have hbF : base ≤ WF.heap.size := by have := kF.size; omega
    have hsF : W.heap.size ≤ WF.heap.size := kF.size
    clear hWF kF hXF iF bF hDp hbv ha hb hf hT1 hbx k1 hD
    gi_wp2
    rw [← HD.out, ← HWF.out]
    refine ⟨trivial, rfl, ((callsIn_wide.2 (qbp base p v' cur f a WF IF.out (by omega) (by omega) (by omega) hbF)).inRound lp).mono ?_⟩
    rintro e W2 ⟨rfl, v2, i2, k2, n2⟩
    have hq1 : W2.cell? ⟨w.heap.size, 0, none⟩ = some (.pointer (some ⟨p, 0, none⟩)) := k2.cell (by rw [cell_of_row _ _ _ _ _ _ BF.out]; rfl) (HBV.out v' H4.out)
    have hXF2 := k2.heap HXF.out (HDP.out v' _ WF IF.out HXF.out)
    have hq2 : W2.cell? ⟨D, 2, none⟩ = some (.int .i64 (b : Nat)) := by rw [cell_of_row _ _ _ _ _ _ hXF2]; rfl
    have hb2 := k2.heap BF.out (HBV.out v' H4.out)
    have hn2 : ∀ g, v2.ownBlock = some g → vB.ownBlock = some g ∨ n1 + 3 ≤ g := fun g hg => by
     rcases n2 g hg with h | h
     · exact H4.out g h
     · exact .inr (by omega)
    have K2 : Keeps (fun k => foot p vB k ∨ n1 + 3 ≤ k) W W2 := (KF.out.mono (fun _ _ h => h.elim)).trans (k2.mono (S' := fun k => foot p vB k ∨ n1 + 3 ≤ k) (fun k _ e => by
     rcases e with e | e
     · exact .inl (.inl e)
     · rcases H4.out k e with h | h
       · exact .inl (.inr h)
       · exact .inr h)) (fun _ _ h => h)
    have hUw2 := HUW.out
    have hbb2 : base ≤ W2.heap.size := by have := k2.size; omega
    have hss2 : WF.heap.size ≤ W2.heap.size := k2.size
    have hlen2 : (cur ++ qab f a).length ≤ 80000000000 := by rw [List.length_append, qad]; omega
    have I2 := Hj i2; have HK2 := Hj K2; have HN2 := Hj hn2; have HB2 := Hj hb2
    clear i2 k2 n2 K2 hn2 hb2 hXF2 t0 t1 t2 ca
    gi_wp2
    refine ⟨trivial, rfl, ((callsIn_wide.2 (qbp base p v2 _ (U x) b W2 I2.out hUx hWd (by omega) hbb2)).inRound lp).mono ?_⟩
    rintro e W3 ⟨rfl, v3, i3, k3, n3⟩
    have K3 : Keeps (fun k => foot p vB k ∨ n1 + 3 ≤ k) W2 W3 := k3.mono (fun k _ e => by
     rcases e with e | e
     · exact .inl (.inl e)
     · rcases HN2.out k e with h | h
       · exact .inl (.inr h)
       · exact .inr h)
    have K23 := HK2.out.trans K3 (fun _ _ h => h)
    have hb3 := k3.heap HB2.out (HBV.out v2 HN2.out)
    have hn3 : ∀ g, v3.ownBlock = some g → vB.ownBlock = some g ∨ n1 + 3 ≤ g := fun g hg => by
     rcases n3 g hg with h | h
     · exact HN2.out g h
     · exact .inr (by omega)
    rw [HA.out, HB.out, HF.out, ← HEND.out] at i3
    have hk3 : Keeps (foot p vB) WB W3 := H3.out.trans K23 (fun k hk e => e.elim id (fun h => by have := HN1.out; omega))
    have F1 := Hj K23; have F2 := Hj hb3; have F3 := Hj hn3; have F4 := Hj hk3; have F5 := Hj i3
    clear i3 k3 n3 K3 K23 hb3 hn3 hk3 hq1 hq2 hUw2
    gi_wp2
    exact ⟨F1.out, F2.out, v3, F5.out, F4.out, F3.out⟩
   case done1 =>
    rintro D xs W rfl ⟨h1, v', h2, h3, h4⟩ hD hK
    have H2 := Hj h2; have H3 := Hj h3; have H4 := Hj h4
    clear h1 h2 h3 h4
    gi_wp2
    refine ⟨by simp, .inl ⟨_, _, rfl, run_takeDeferred hK, ?_⟩⟩
    have hfin : Wrote base p vB (bits ++ hd ++ qam (qbh l)) WB (W.putObj D (.deferred none)) := by
     refine ⟨v', ?_, ?_, fun g hg => ?_⟩
     · have hp : Keeps (fun k => k = D) W (W.putObj D (.deferred none)) := Keeps.putObj _ _ _ rfl
       refine H2.out.keeps hp (by omega) (fun g hg e => ?_)
       obtain ⟨c', hc'⟩ := qak H2.out.row hg
       subst e
       rw [hK] at hc'
       cases hc'
     · exact H3.out.trans (Keeps.putObj (S := fun k => k = D) _ _ _ rfl) (fun k hk e => by have := HN1.out; omega)
     · have := HN1.out
       rcases H4.out g hg with h | h
       · exact .inl h
       · exact .inr (by omega)
    have hall := Wrote.trans HKB.out (fun g hg => (HNB.out g hg).imp id (fun h => by omega)) hfin
    rw [List.append_assoc, ← HS.out] at hall
    exact ⟨_, results_tmp rfl _ _ _, ⟨rfl, hall⟩⟩
   case stop1 => rintro D c pre W _ h; exact h.elim
 · have hl0 : l = [] := List.eq_nil_of_length_eq_zero (by omega)
   have hhd0 : hd = [] := by rw [hhd, hl0]; rfl
   obtain ⟨WB, hWB⟩ : ∃ WB, WB = WA := ⟨_, rfl⟩
   obtain ⟨vB, hvB⟩ : ∃ vB, vB = v0 := ⟨_, rfl⟩
   have HSB : Hid (w.heap.size + 1 ≤ WB.heap.size) := Hj (by rw [hWB]; omega)
   have HHB : Hid (Holds WB (.slice ad l.length cap) (i64s l)) := Hj (by rw [hWB]; exact HHA.out)
   have HBB : Hid (WB.heap[w.heap.size]? = some (.cells #[.pointer (some ⟨p, 0, none⟩)] 57 (0, 0))) := Hj (by rw [hWB]; exact HBA.out)
   have HIB : Hid (IsW WB base p vB (bits ++ hd)) := Hj (by rw [hWB, hvB, hhd0, List.append_nil]; exact HIA.out)
   have HKB : Hid (Keeps (foot p v0) w WB) := Hj (by rw [hWB]; exact HKA.out _)
   have HNB : Hid (∀ g, vB.ownBlock = some g → v0.ownBlock = some g ∨ w.heap.size + 1 ≤ g) := Hj (fun g hg => .inl (by rw [← hvB]; exact hg))
   have HTW : Hid (TabF WB) := Hj (by rw [hWB]; exact HT.out.keeps (HKA.out (fun _ => False)) (fun h => h))
   have hne' : ¬ (0 : Int) < l.length := by omega
   have HWB := Hj hWB
   clear hWB hvB hhd0 hhd hl0 hne
   gi_wp2
   rw [← HWA.out, ← HWB.out]
   obtain ⟨n1, hn1⟩ : ∃ n1, n1 = WB.heap.size := ⟨_, rfl⟩
   have hn1w : w.heap.size + 1 ≤ n1 := by rw [hn1]; exact HSB.out
   gi_wp2
   refine ⟨trivial, rfl, (callsIn_wide.2 (qis ad l.length cap WB)).mono ?_⟩
   rintro e w1 ⟨rfl, rfl⟩
   have hseq := qhj ad cap l WB (by omega) HHB.out HX.out
   rw [← hn1] at hseq ⊢
   obtain ⟨W0, hW0⟩ : ∃ W0, W0 = WB.alloc (.cells #[.slice ad l.length cap] 54) := ⟨_, rfl⟩
   have hsz : W0.heap.size = n1 + 1 := by rw [hW0, hn1]; simp
   have hkW : ∀ S, Keeps S WB W0 := fun S => by rw [hW0]; exact (Keeps.refl S WB).alloc _
   have hbox : W0.heap[w.heap.size]? = some (.cells #[.pointer (some ⟨p, 0, none⟩)] 57 (0, 0)) := (hkW (fun _ => False)).heap HBB.out (fun h => h)
   have hIB0 := HIB.out.keeps (hkW (fun _ => False)) (fun h => h) (fun _ _ h => h)
   rw [← hW0] at hseq ⊢
   have HSeq := Hj hseq; have HI0 := Hj hIB0; have HBOX := Hj hbox; have HKW := Hj hkW; have HN1 := Hj hn1
   clear hW0 hseq hIB0 hbox hkW hn1
   have hfB : ∀ k, foot p vB k → k < n1 ∧ k ≠ w.heap.size ∧ base ≤ k := fun k hk => by
    rcases hk with rfl | hk
    · exact ⟨by omega, by omega, hpb⟩
    · have h1 := HIB.out.own_lt hk
      refine ⟨by rw [HN1.out]; exact h1, ?_, (HIB.out.row.lt k hk).1⟩
      rcases HNB.out k hk with h | h
      · have := HVL.out k h; omega
      · omega
   have HFB := Hj hfB
   have hoB : ∀ k, ownH (.slice ad l.length cap) l k → k < w.heap.size := fun k hk => ownI_lt HH.out hk
   have HOB := Hj hoB
   have hfO : ∀ k, foot p vB k → ¬ ownH (.slice ad l.length cap) l k := fun k hk ho => by
    rcases hk with rfl | hk
    · exact HAp.out _ ho (.inl rfl)
    · rcases HNB.out k hk with h | h
      · exact HAp.out _ ho (.inr h)
      · have := HOB.out k ho; omega
   have HFO := Hj hfO
   have h0B : ¬ foot p vB 0 := fun h => by have := (HFB.out 0 h).2.2; omega
   have HTB := Hj (HTW.out.keeps (HKW.out (fun _ => False)) (fun h => h))
   clear hfB hoB hfO
   gi_wp2
   refine qbj (gf := 95) (lb := #[.pointer (some ⟨n1, 0, none⟩)]) (w := W0) rfl (enters_of Tryz.func95 (by kernel_rfl) rfl)
    HSeq.out (T := fun k => foot p vB k ∨ n1 + 3 ≤ k) (fun x => rfl) (fun _ h => h.elim)
    (fun k hk => ?hown2) ?hT2 ?hT22
    (fun pre W => W.heap[w.heap.size]? = some (.cells #[.pointer (some ⟨p, 0, none⟩)] 57 (0, 0)) ∧ ∃ v', IsW W base p v' (bits ++ hd ++ qam pre) ∧ Keeps (foot p vB) WB W ∧ ∀ g, v'.ownBlock = some g → vB.ownBlock = some g ∨ n1 + 3 ≤ g)
    (fun _ _ _ => False) ?hI2 (fun _ _ _ _ h _ => h) ?h02
    (fun x => { tmps := #[.pointer (some ⟨p, 0, none⟩), .slice ad l.length cap, .pointer (some ⟨w.heap.size, 0, none⟩), undef, .int .i64 0, .int .i64 x, undef, .pointer (some ⟨p, 0, none⟩), .bool false, .slice ad l.length cap, .int .i64 l.length, .bool false, undef, undef, undef, undef, undef, undef, .slice ad l.length cap, .func (.func 95) #[] #[.pointer (some ⟨n1, 0, none⟩)], .int .i64 x, undef, undef, undef, undef, undef, undef, undef, undef, undef, undef, undef, undef, undef, undef, undef, undef], defers := [] })
    ?assign2 ?body2 ?done2 ?stop2
   case hown2 =>
    rcases hk with e | e
    · omega
    · have := HOB.out k e; omega
   case hT2 =>
    rintro k (hk | hk) (e | e)
    · have := (HFB.out k hk).1; omega
    · exact HFO.out k hk e
    · omega
    · have := HOB.out k e; omega
   case hT22 =>
    rintro k (hk | hk)
    · have := (HFB.out k hk).1; omega
    · omega
   case hI2 =>
    rintro pre A B ⟨h1, v', h2, h3, h4⟩ hk
    refine ⟨hk.heap h1 ?_, v', h2.keeps hk ?_ (fun g hg => ?_), h3.trans hk (fun k hk hs => ?_), h4⟩
    · rintro (e | e | e)
      · exact e
      · omega
      · omega
    · rintro (e | e | e)
      · exact e
      · omega
      · omega
    · rintro (e | e | e)
      · exact e
      · rcases h4 g hg with h | h
        · have := (HFB.out g (.inr h)).1; omega
        · omega
      · rcases h4 g hg with h | h
        · have := (HFB.out g (.inr h)).1; omega
        · omega
    · have := HN1.out
      rcases hs with e | e | e
      · exact e.elim
      · omega
      · omega
   case h02 => exact ⟨HBOX.out, vB, by simpa [qam] using HI0.out, HKW.out _, fun g hg => .inl hg⟩
   case assign2 =>
    intro lp x W K hK
    simp only [encI]
    gi_wp2
    exact hK
   case body2 =>
    rintro lp pre x W ⟨h1, v', h2, h3, h4⟩ hsp hsz2
    have hxI : inI x := qhi l x (hsp.subset (by simp))
    have hlp : (qam pre).length ≤ 68000000000 := by have := qeb pre; have := hsp.length_le; have := qeq l; simp at *; omega
    have hTW := HTW.out.keeps h3 h0B
    obtain ⟨k, hk⟩ : ∃ k, k = formI x := ⟨_, rfl⟩
    have hk4 : k ≤ 4 := by rw [hk]; exact qhu x
    have hend : bits ++ hd ++ qam (pre ++ [x]) = bits ++ hd ++ qam pre ++ qab (fBits k) (fLen k) ++ qab (U x) (fWidth k) := by rw [qew, qdc, ← hk]; simp
    have hL := fLen_le k hk4
    have hWd := qiq k hk4
    have hFb : fBits k ≤ 15 := by
     have hc : k = 0 ∨ k = 1 ∨ k = 2 ∨ k = 3 ∨ k = 4 := by omega
     rcases hc with rfl | rfl | rfl | rfl | rfl <;> simp [fBits]
    have hUx : U x ≤ 18446744073709551615 := by have := U_lt x; omega
    have hUw : IntKind.u64.wrap x = ((U x : Nat) : Int) := U_wrap x
    have hlen : (bits ++ hd ++ qam pre).length ≤ 70000000000 := by rw [List.length_append, List.length_append]; omega
    obtain ⟨cur, hcur⟩ : ∃ cur, cur = bits ++ hd ++ qam pre := ⟨_, rfl⟩
    rw [← hcur] at h2 hend hlen
    have H1 := Hj h1; have H2 := Hj h2; have H3 := Hj h3; have H4 := Hj h4; have HTQ := Hj hTW; have HK := Hj hk; have HEND := Hj hend; have HXI := Hj hxI; have HUW := Hj hUw
    have hb1 : base ≤ W.heap.size := by omega
    clear h1 h2 h3 h4 hsp hTW hk hend hxI hlp hcur hUw
    gi_wp2
    refine ⟨trivial, rfl, ((callsIn_wide.2 (qkp x W HXI.out HTQ.out)).inRound lp).mono ?_⟩
    rw [← HK.out]
    rintro e W1 ⟨rfl, k1⟩
    have hT1 := HTQ.out.keeps k1 (fun h => h)
    have hbx := k1.heap H1.out (fun h => h)
    obtain ⟨t0, t1, t2⟩ := hT1.cell k hk4
    have hbs : w.heap.size < W1.heap.size := (Array.getElem?_eq_some_iff.1 hbx).1
    have hkk : (k : Int) < 5 := by omega
    obtain ⟨a, ha⟩ : ∃ a, a = fLen k := ⟨_, rfl⟩
    obtain ⟨b, hb⟩ : ∃ b, b = fWidth k := ⟨_, rfl⟩
    obtain ⟨f, hf⟩ : ∃ f, f = fBits k := ⟨_, rfl⟩
    rw [← ha] at t1 hL
    rw [← hb] at t2 hWd
    rw [← hf] at t0 hFb
    obtain ⟨WF, hWF⟩ : ∃ WF, WF = W1.alloc (.cells #[.int .u64 (f : Nat), .int .i64 (a : Nat), .int .i64 (b : Nat)] 109) := ⟨_, rfl⟩
    have kF : Keeps (fun _ => False) W WF := by rw [hWF]; exact k1.alloc _
    have hXF : WF.heap[W1.heap.size]? = some (.cells #[.int .u64 (f : Nat), .int .i64 (a : Nat), .int .i64 (b : Nat)] 109 (0, 0)) := by rw [hWF]; exact heap_alloc_new W1 _
    obtain ⟨D, hD⟩ : ∃ D, D = W1.heap.size := ⟨_, rfl⟩
    rw [← hD] at hXF
    have iF := H2.out.keeps kF (fun h => h) (fun _ _ h => h)
    have bF := kF.heap H1.out (fun h => h)
    have ca : ∀ o, (W1.alloc o).cell? ⟨w.heap.size, 0, none⟩ = some (.pointer (some ⟨p, 0, none⟩)) := fun o => (qep W1 o _ hbs).trans (by rw [cell_of_row _ _ _ _ _ _ hbx]; rfl)
    have hDp : ∀ (u : Value) (L : List Bool) (V : World), IsW V base p u L → V.heap[D]? = some (.cells #[.int .u64 (f : Nat), .int .i64 (a : Nat), .int .i64 (b : Nat)] 109 (0, 0)) → ¬ foot p u D := fun u L V hV hVD e => by
     rcases e with e | e
     · have := H2.out.lt; have := k1.size; omega
     · obtain ⟨c', hc'⟩ := qak hV.row e
       exact qaf hc' hVD (by decide) rfl
    have hbv : ∀ (u : Value), (∀ g, u.ownBlock = some g → vB.ownBlock = some g ∨ n1 + 3 ≤ g) → ¬ foot p u w.heap.size := fun u hu e => by
     rcases e with e | e
     · omega
     · rcases hu _ e with h | h
       · exact (HFB.out _ (.inr h)).2.1 rfl
       · omega
    have HWF := Hj hWF; have KF := Hj kF; have HXF := Hj hXF; have IF := Hj iF; have BF := Hj bF; have HDP := Hj hDp; have HBV := Hj hbv; have HA := Hj ha; have HB := Hj hb; have HF := Hj hf; have HD := Hj hD
    have hbF : base ≤ WF.heap.size := by have := kF.size; omega
    have hsF : W.heap.size ≤ WF.heap.size := kF.size
    clear hWF kF hXF iF bF hDp hbv ha hb hf hT1 hbx k1 hD
    gi_wp2
    rw [← HD.out, ← HWF.out]
    refine ⟨trivial, rfl, ((callsIn_wide.2 (qbp base p v' cur f a WF IF.out (by omega) (by omega) (by omega) hbF)).inRound lp).mono ?_⟩
    rintro e W2 ⟨rfl, v2, i2, k2, n2⟩
    have hq1 : W2.cell? ⟨w.heap.size, 0, none⟩ = some (.pointer (some ⟨p, 0, none⟩)) := k2.cell (by rw [cell_of_row _ _ _ _ _ _ BF.out]; rfl) (HBV.out v' H4.out)
    have hXF2 := k2.heap HXF.out (HDP.out v' _ WF IF.out HXF.out)
    have hq2 : W2.cell? ⟨D, 2, none⟩ = some (.int .i64 (b : Nat)) := by rw [cell_of_row _ _ _ _ _ _ hXF2]; rfl
    have hb2 := k2.heap BF.out (HBV.out v' H4.out)
    have hn2 : ∀ g, v2.ownBlock = some g → vB.ownBlock = some g ∨ n1 + 3 ≤ g := fun g hg => by
     rcases n2 g hg with h | h
     · exact H4.out g h
     · exact .inr (by omega)
    have K2 : Keeps (fun k => foot p vB k ∨ n1 + 3 ≤ k) W W2 := (KF.out.mono (fun _ _ h => h.elim)).trans (k2.mono (S' := fun k => foot p vB k ∨ n1 + 3 ≤ k) (fun k _ e => by
     rcases e with e | e
     · exact .inl (.inl e)
     · rcases H4.out k e with h | h
       · exact .inl (.inr h)
       · exact .inr h)) (fun _ _ h => h)
    have hUw2 := HUW.out
    have hbb2 : base ≤ W2.heap.size := by have := k2.size; omega
    have hss2 : WF.heap.size ≤ W2.heap.size := k2.size
    have hlen2 : (cur ++ qab f a).length ≤ 80000000000 := by rw [List.length_append, qad]; omega
    have I2 := Hj i2; have HK2 := Hj K2; have HN2 := Hj hn2; have HB2 := Hj hb2
    clear i2 k2 n2 K2 hn2 hb2 hXF2 t0 t1 t2 ca
    gi_wp2
    refine ⟨trivial, rfl, ((callsIn_wide.2 (qbp base p v2 _ (U x) b W2 I2.out hUx hWd (by omega) hbb2)).inRound lp).mono ?_⟩
    rintro e W3 ⟨rfl, v3, i3, k3, n3⟩
    have K3 : Keeps (fun k => foot p vB k ∨ n1 + 3 ≤ k) W2 W3 := k3.mono (fun k _ e => by
     rcases e with e | e
     · exact .inl (.inl e)
     · rcases HN2.out k e with h | h
       · exact .inl (.inr h)
       · exact .inr h)
    have K23 := HK2.out.trans K3 (fun _ _ h => h)
    have hb3 := k3.heap HB2.out (HBV.out v2 HN2.out)
    have hn3 : ∀ g, v3.ownBlock = some g → vB.ownBlock = some g ∨ n1 + 3 ≤ g := fun g hg => by
     rcases n3 g hg with h | h
     · exact HN2.out g h
     · exact .inr (by omega)
    rw [HA.out, HB.out, HF.out, ← HEND.out] at i3
    have hk3 : Keeps (foot p vB) WB W3 := H3.out.trans K23 (fun k hk e => e.elim id (fun h => by have := HN1.out; omega))
    have F1 := Hj K23; have F2 := Hj hb3; have F3 := Hj hn3; have F4 := Hj hk3; have F5 := Hj i3
    clear i3 k3 n3 K3 K23 hb3 hn3 hk3 hq1 hq2 hUw2
    gi_wp2
    exact ⟨F1.out, F2.out, v3, F5.out, F4.out, F3.out⟩
   case done2 =>
    rintro D xs W rfl ⟨h1, v', h2, h3, h4⟩ hD hK
    have H2 := Hj h2; have H3 := Hj h3; have H4 := Hj h4
    clear h1 h2 h3 h4
    gi_wp2
    refine ⟨by simp, .inl ⟨_, _, rfl, run_takeDeferred hK, ?_⟩⟩
    have hfin : Wrote base p vB (bits ++ hd ++ qam (qbh l)) WB (W.putObj D (.deferred none)) := by
     refine ⟨v', ?_, ?_, fun g hg => ?_⟩
     · have hp : Keeps (fun k => k = D) W (W.putObj D (.deferred none)) := Keeps.putObj _ _ _ rfl
       refine H2.out.keeps hp (by omega) (fun g hg e => ?_)
       obtain ⟨c', hc'⟩ := qak H2.out.row hg
       subst e
       rw [hK] at hc'
       cases hc'
     · exact H3.out.trans (Keeps.putObj (S := fun k => k = D) _ _ _ rfl) (fun k hk e => by have := HN1.out; omega)
     · have := HN1.out
       rcases H4.out g hg with h | h
       · exact .inl h
       · exact .inr (by omega)
    have hall := Wrote.trans HKB.out (fun g hg => (HNB.out g hg).imp id (fun h => by omega)) hfin
    rw [List.append_assoc, ← HS.out] at hall
    exact ⟨_, results_tmp rfl _ _ _, ⟨rfl, hall⟩⟩
   case stop2 => rintro D c pre W _ h; exact h.elim
end
section
set_option maxHeartbeats 1000000
set_option maxRecDepth 100000
open Go.RowKit
theorem uSort_any (w0 w : World) (blk off cap sz : Nat) (d : Array Nat) (h : Arr w0 w blk off d) (hs : d.size = sz) (hsz : sz ≤ 1099511627776) :
 Calls Tryz.prog 156 #[.slice (some ⟨blk, off, none⟩) sz cap] w fun e w' => e = .returned (.tuple #[]) ∧ ∃ d', Go.Sort.PermIn 0 sz d d' ∧ Go.Sort.SortedIn ltN 0 sz d' ∧ Arr w0 w' blk off d' := by
 have hk : Lib.bitLen sz ≤ 62 := Lib.bitLen_le sz 62 (by omega) (by omega)
 have HL : Hid (∀ w, Calls Tryz.prog 157 #[.int .u64 (sz : Int)] w fun e w' => e = .returned (.int .i64 (Lib.bitLen sz)) ∧ w' = w) := Hj (fun w => by
  have h := len_any (sz : Int) w (by omega) (by omega)
  rwa [Int.toNat_natCast] at h)
 have HP : Hid (∀ wq, Arr w0 wq blk off d → Calls Tryz.prog 191 #[.slice (some ⟨blk, off, none⟩) sz cap, .int .i64 0, .int .i64 (sz : Int), .int .i64 ((Lib.bitLen sz : Nat) : Int)] wq fun e w' => e = .returned (.tuple #[]) ∧ ∃ d', Go.Sort.PermIn 0 sz d d' ∧ Go.Sort.SortedIn ltN 0 sz d' ∧ Arr w0 w' blk off d') := Hj (fun wq hq =>
  uPdq_n (sz + 1) w0 wq blk off cap sz 0 sz (Lib.bitLen sz) d (by omega) hq hs (by omega) (Nat.le_refl _) hsz (by omega) (.inl rfl))
 have HH := Hj h
 clear h hs
 generalize Lib.bitLen sz = k at *
 go_enter Tryz.func156, Tryz.ntmps156
 go_wp2_with (first
  | (go_at_call 157; refine (HL.out _).mono ?_; rintro e w' ⟨rfl, rfl⟩)
  | (go_at_call 191; refine (HP.out _ HH.out).mono ?_; rintro e w' ⟨rfl, d', h1, h2, h3⟩))
 go_end0
 exact ⟨rfl, d', h1, h2, h3⟩
end
section
open Go.RowKit
theorem stepB_in (n : Nat) (b : List Bool) (hn : n ≤ 64) (h : n ≤ b.length) : stepB (n : Int) b = (qar (b.take n), 0, n) := by
 unfold stepB
 rw [if_neg (by omega), if_neg (by simpa using h)]
 rfl
theorem rest_length' (bs : List Nat) (i : Nat) : ((qap bs).drop i).length = 8 * bs.length - i := by rw [List.length_drop, qcd]
end
section
open Go.RowKit
end
section
set_option maxHeartbeats 2000000
open Go.RowKit
def qgf (last : Nat) (s : Nat × Nat) (p : Nat) (err : Nat) : Array Value := #[.int .u64 (last : Nat), .int .i64 (s.1 : Nat), .int .i64 ((64 - s.1 - s.2 : Nat) : Int), .pointer (some ⟨p, 0, none⟩), .int .i64 (err : Nat)]
structure DS (w : World) (base p : Nat) (v : Value) (bs : List Nat) (i D last : Nat) (s : Nat × Nat) (err : Nat) : Prop where
 rd : IsR w base p v bs i
 dec : w.heap[D]? = some (.cells (qgf last s p err) 191 (0, 0))
theorem DS.ne {w : World} {base p : Nat} {v : Value} {bs : List Nat} {i D last : Nat} {s : Nat × Nat} {err : Nat} (h : DS w base p v bs i D last s err) : p ≠ D ∧ ∀ g, v.ownBlock = some g → g ≠ D := by
 refine ⟨qaf h.rd.blk h.dec (by decide), fun g hg => ?_⟩
 obtain ⟨c', hc'⟩ := qak h.rd.row hg
 exact qaf hc' h.dec (by decide)
theorem DS.keeps {w w' : World} {base p : Nat} {v : Value} {bs : List Nat} {i D last : Nat} {s : Nat × Nat} {err : Nat} (h : DS w base p v bs i D last s err) (k : Keeps (fun _ => False) w w') : DS w' base p v bs i D last s err :=
 ⟨h.rd.keeps k (fun h => h) (fun _ _ h => h), k.heap h.dec (fun h => h)⟩
theorem DS.cells {w : World} {base p : Nat} {v : Value} {bs : List Nat} {i D last : Nat} {s : Nat × Nat} {err : Nat} (h : DS w base p v bs i D last s err) :
 w.cell? ⟨D, 0, none⟩ = some (.int .u64 (last : Nat)) ∧ w.cell? ⟨D, 1, none⟩ = some (.int .i64 (s.1 : Nat)) ∧ w.cell? ⟨D, 2, none⟩ = some (.int .i64 ((64 - s.1 - s.2 : Nat) : Int)) ∧ w.cell? ⟨D, 3, none⟩ = some (.pointer (some ⟨p, 0, none⟩)) ∧ w.cell? ⟨D, 4, none⟩ = some (.int .i64 (err : Nat)) ∧ ∀ j, w.frozen? ⟨D, j, none⟩ = false := by
 have hd := h.dec
 refine ⟨?_, ?_, ?_, ?_, ?_, fun j => frozen_of_row _ _ _ _ _ hd⟩ <;> (rw [cell_of_row _ _ _ _ _ _ hd]; rfl)
theorem DS.set {w w' : World} {base p : Nat} {v : Value} {bs : List Nat} {i D last last' : Nat} {s s' : Nat × Nat} {err err' : Nat} (h : DS w base p v bs i D last s err) (k : Keeps (fun k => k = D) w w')
 (hd : w'.heap[D]? = some (.cells (qgf last' s' p err') 191 (0, 0))) : DS w' base p v bs i D last' s' err' :=
 ⟨h.rd.keeps k h.ne.1 h.ne.2, hd⟩
theorem DS.setErr {w : World} {base p : Nat} {v : Value} {bs : List Nat} {i D last : Nat} {s : Nat × Nat} {err e : Nat} (h : DS w base p v bs i D last s err) :
 DS (w.setCell ⟨D, 4, none⟩ (.int .i64 (e : Nat))) base p v bs i D last s e ∧ Keeps (fun k => k = D) w (w.setCell ⟨D, 4, none⟩ (.int .i64 (e : Nat))) := by
 have k : Keeps (fun k => k = D) w (w.setCell ⟨D, 4, none⟩ (.int .i64 (e : Nat))) := (Keeps.refl (fun k => k = D) w).setCell (p := ⟨D, 4, none⟩) (fun _ => rfl) _
 refine ⟨h.set k ?_, k⟩
 have := heap_setCell_same w D 4 _ _ (.int .i64 (e : Nat)) h.dec
 simpa [qgf] using this
theorem DS.setLast {w : World} {base p : Nat} {v : Value} {bs : List Nat} {i D last : Nat} {s : Nat × Nat} {err e : Nat} (h : DS w base p v bs i D last s err) :
 DS (w.setCell ⟨D, 0, none⟩ (.int .u64 (e : Nat))) base p v bs i D e s err ∧ Keeps (fun k => k = D) w (w.setCell ⟨D, 0, none⟩ (.int .u64 (e : Nat))) := by
 have k : Keeps (fun k => k = D) w (w.setCell ⟨D, 0, none⟩ (.int .u64 (e : Nat))) := (Keeps.refl (fun k => k = D) w).setCell (p := ⟨D, 0, none⟩) (fun _ => rfl) _
 refine ⟨h.set k ?_, k⟩
 have := heap_setCell_same w D 0 _ _ (.int .u64 (e : Nat)) h.dec
 simpa [qgf] using this
section
variable (base p : Nat) (v : Value) (bs : List Nat) (i D last : Nat) (s : Nat × Nat) (w : World)
theorem dbits_any (n x e m : Nat) (h : DS w base p v bs i D last s 0) (hl : bs.length ≤ 1099511627776) (hi : i ≤ 8 * bs.length) (hs : stepB (n : Int) ((qap bs).drop i) = (x, e, m)) :
 Calls Tryz.prog 100 #[.pointer (some ⟨D, 0, none⟩), .int .i64 (n : Nat)] w fun e' w' => e' = .returned (.int .u64 (x : Nat)) ∧ DS w' base p v bs (i + m) D last s e ∧ Keeps (fun k => k = p ∨ k = D) w w' := by
 obtain ⟨c0, c1, c2, c3, c4, cf⟩ := h.cells
 have hr := rbits_all base p v bs i (n : Int) w h.rd (by omega) hi
 rw [hs] at hr
 have HR := Hj hr; have H := Hj h
 have hne := h.ne
 have HNE := Hj hne
 clear hr h hs hne cf c0 c1 c2
 go_enter Tryz.func100, Tryz.ntmps100
 go_wp2_with fail
 refine HR.out.mono ?_
 rintro e1 w1 ⟨rfl, r1, k1⟩
 have hd1 := k1.heap H.out.dec (fun e => HNE.out.1 e.symm)
 have d1 : DS w1 base p v bs (i + m) D last s 0 := ⟨r1, hd1⟩
 have cf1 := d1.cells.2.2.2.2.2 4
 have g1 := d1.cells.2.2.2.2.1
 obtain ⟨s1, s2⟩ := d1.setErr (e := e)
 have S1 := Hj s1
 have K := Hj ((k1.mono (S' := fun k => k = p ∨ k = D) (fun _ _ h => .inl h)).trans s2 (fun _ _ h => .inr h))
 clear r1 k1 hd1 d1 s1 s2 c3 c4
 go_wp2
 go_ret
 exact ⟨rfl, S1.out, K.out⟩
end
end
section
open Go.RowKit
theorem infoI64 : (Tryz.prog.info? 2).map (fun i => (i.zero, i.size, i.bytes)) = some (some (.int .i64 0), 1, 8) := by kernel_rfl
end
section
open Go.RowKit
end
section
open Go.RowKit
theorem put5_any (base p : Nat) (v0 v : Value) (bits : List Bool) (l : List Int) (w : World) (hW : IsW w base p v0 bits) (hb0 : base ≤ w.heap.size) (hbits : bits.length ≤ 1000000000) (hl : l.length ≤ 1000000000) (hX : ∀ x ∈ l, inI x)
 (h : Holds w v (i64s l)) (hap : ∀ k, ownH v l k → ¬ foot p v0 k) (hT : TabF w) (hbase : 0 < base) :
 Calls Tryz.prog 23 #[.pointer (some ⟨p, 0, none⟩), v] w fun e w' => e = .returned (.int .i64 0) ∧ Wrote base p v0 (bits ++ enc5 l) w w' := tput_any base p v0 v bits l w hW hb0 hbits hl hX h hap hT hbase
end
section
open Go.RowKit
end
section
open Go.RowKit
section
variable (base p : Nat) (v : Value) (bs : List Nat) (i D last : Nat) (s : Nat × Nat) (w : World)
end
end
section
open Go.RowKit
attribute [local go_sem ↓] Go.wp_at_zero Go.wp_at_succ
end
section
open Go.RowKit
end
section
open Go.RowKit
section
variable (base p : Nat) (v : Value) (bs : List Nat) (i D last : Nat) (s : Nat × Nat) (w : World)
end
end
section
open Go.RowKit
end
section
open Go.RowKit
end
section
open Go.RowKit
end
section
open Go.RowKit
end
section
open Go.RowKit
end
end Go.Proofs.YtfpcgcbehdogjaaGreatDoor
