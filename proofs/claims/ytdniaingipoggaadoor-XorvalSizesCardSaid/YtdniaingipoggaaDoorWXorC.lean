/-
  WALKS: xorval.encode, Put, Size.
-/
import Derived.Test.YtdniaingipoggaaDoorWXorB
import Derived.Test.YtdniaingipoggaaDoorWBits
namespace Go.Proofs.YtdniaingipoggaaDoor
open Go.RowKit

/-- the bits from value i on -/
def restX (i : Nat) (s : Nat × Nat) (p : Nat) (l : List Nat) : List Bool := if i = 0 then enc6 l else encX s p (l.drop i)
theorem restX_first {t : Nat} {l : List Nat} (h : l[0]? = some t) : restX 0 win0 0 l = fieldBits t 64 ++ restX 1 win0 t l := by
  cases l with
  | nil => simp at h
  | cons s r => simp only [List.getElem?_cons_zero, Option.some.injEq] at h; subst h; simp [restX, enc6]
theorem restX_step {s : Nat × Nat} {p v i : Nat} {l : List Nat} (hi : i ≠ 0) (h : l[i]? = some v) : restX i s p l = bitsX s (v ^^^ p) ++ restX (i + 1) (newX s (v ^^^ p)) v l := by
  have hlt : i < l.length := (List.getElem?_eq_some_iff.1 h).1
  have e : l[i] = v := by rw [List.getElem?_eq_getElem hlt] at h; simpa using h
  unfold restX
  rw [if_neg hi, if_neg (by omega), List.drop_eq_getElem_cons hlt, e, encX]
theorem restX_end {s : Nat × Nat} {p i : Nat} {l : List Nat} (h : l.length ≤ i) : restX i s p l = [] := by
  unfold restX
  split
  · rename_i h0
    have : l = [] := List.eq_nil_of_length_eq_zero (by omega)
    rw [this]; rfl
  · rw [List.drop_eq_nil_of_le h]; rfl
theorem word_cell {w : World} {ad : Option Addr} {cap : Nat} {l : List Nat} (h : Holds w (.slice ad l.length cap) (u64s l)) {j y : Nat} (hj : l[j]? = some y) :
    ∃ b off, ad = some ⟨b, off, none⟩ ∧ w.cell? ⟨b, off + j, none⟩ = some (.int .u64 (y : Nat)) := drop_cell h hj
section
variable (F : Nat) (cap : Value) (S : Nat → Prop) (n0 : Nat) (R : List Bool → World → Prop) (hO : OutC F cap S n0 R)
include hO
theorem eput_any (E v last : Nat) (s : Nat × Nat) (cur : List Bool) (w : World) (hE : IsE w E last s (.func (.func F) #[] #[cap])) (hv : v < 18446744073709551616) (hl : last < 18446744073709551616) (hs : okWin s) (hR : R cur w) (hn0 : n0 ≤ E) (hcl : cur.length ≤ 1000000000000) (hT : TabZ w) :
    Calls Tryd.prog 70 #[.pointer (some ⟨E, 0, none⟩), .int .u64 (v : Nat)] w (PutX S n0 R E v s (v ^^^ last) cur (.func (.func F) #[] #[cap]) w) := by
  by_cases h0 : v ^^^ last = 0
  · have : last = v := by
      have := congrArg (last ^^^ ·) h0
      simp only [xor_forth, Nat.xor_zero] at this
      exact this.symm
    subst this
    rw [h0]
    exact eput_zero F cap S n0 R hO E _ s cur w hE hv hR hn0 hcl
  · by_cases hf : fitsX s (v ^^^ last) = true
    · have hs' : s.1 + s.2 ≤ 63 := hs.resolve_left (fun e => by rw [e, fitsX_none (xor_lt64 hv hl) h0] at hf; cases hf)
      exact eput_fits F cap S n0 R hO E v last s cur w _ hE hv hl rfl h0 hf hs' hR hn0 hcl hT
    · exact eput_new F cap S n0 R hO E v last s cur w _ hE hv hl rfl h0 (by simpa using hf) hs hR hn0 hcl hT

set_option maxRecDepth 100000 in
set_option maxHeartbeats 4000000 in
theorem encode_any (v : Value) (l : List Nat) (cur : List Bool) (w : World) (hl : l.length ≤ 1000000000) (hcl : cur.length ≤ 100000000000) (hX : ∀ x ∈ l, x ≤ 18446744073709551615) (h : Holds w v (u64s l)) (hap : ∀ g, ownH v l g → g < n0 ∧ ¬ S g) (hR : R cur w) (hn : n0 ≤ w.heap.size)
    (hkeep : ∀ a o, R cur a → R cur (a.alloc o)) (hT : TabZ w) :
    Calls Tryd.prog 58 #[v, .func (.func F) #[] #[cap]] w fun e w' => e = .returned (.tuple #[]) ∧ R (cur ++ enc6 l) w' ∧ Keeps (fun k => S k ∨ n0 ≤ k) w w' := by
  have HH := Lib.hid h; have HX := Lib.hid hX; have HAP := Lib.hid hap
  obtain ⟨ad, cp, rfl, hc, _⟩ := h
  rw [u64s_length] at hc HH HAP ⊢
  have hel := enc6_length l
  have he := fun args w => hO.enter args w
  obtain ⟨E, hEE⟩ : ∃ E, E = w.heap.size := ⟨_, rfl⟩
  obtain ⟨w1, hw1⟩ : ∃ w1, w1 = w.alloc (.cells (encCells 0 win0 (.func (.func F) #[] #[cap])) 123) := ⟨_, rfl⟩
  have i1 : IsE w1 E 0 win0 (.func (.func F) #[] #[cap]) := by rw [hw1, hEE]; exact heap_alloc_new w _
  have k1 : ∀ S, Keeps S w w1 := fun S => by rw [hw1]; exact (Keeps.refl S w).alloc _
  have r1 : R cur w1 := by rw [hw1]; exact hkeep _ _ hR
  have t1 := hT.keeps (k1 (fun _ => False)) (fun h => h)
  have hh1 := HH.out.keeps (k1 (fun _ => False)) (fun _ _ h => h)
  have HW1 := Lib.hid hw1; have I1 := Lib.hid i1; have K1 := Lib.hid k1; have R1 := Lib.hid r1; have T1 := Lib.hid t1; have H1 := Lib.hid hh1; have HEE := Lib.hid hEE
  have hnE : n0 ≤ E := by omega
  have hbE : 1 < E := Nat.lt_of_lt_of_le hO.tab.1 hnE
  clear hX hap hR hkeep hT hw1 i1 k1 r1 t1 hh1 hEE
  go_enter Tryd.func58, Tryd.ntmps58
  go_wp2
  rw [show w.alloc (.cells #[.int .u64 0, .int .i64 0, .int .i64 0, .func (.func F) #[] #[cap]] 123) = w1 from HW1.out.symm, ← HEE.out]
  go_loopw [12] (fun i wr => ∃ (k last : Nat) (s : Nat × Nat) (cu : List Bool), k ≤ l.length ∧ i = .int .i64 k ∧ IsE wr E last s (.func (.func F) #[] #[cap]) ∧ okWin s ∧ last < 18446744073709551616 ∧ R cu wr ∧ Holds wr (.slice ad l.length cp) (u64s l) ∧ TabZ wr ∧ Keeps (fun k => S k ∨ n0 ≤ k) w wr ∧
      (k = 0 → last = 0 ∧ s = win0) ∧ cu ++ restX k s last l = cur ++ enc6 l) (fun i _ => l.length - (intOf i).toNat)
  case atStart => exact ⟨0, 0, win0, cur, by omega, rfl, I1.out, .inl rfl, by decide, R1.out, H1.out, T1.out, K1.out _, fun _ => ⟨rfl, rfl⟩, rfl⟩
  case round =>
    obtain ⟨k, last, s, cu, hk, rfl, hE, hs, hla, hR, hh, hT, hkw, hk0, hcu⟩ := hrel
    clear I1 R1 T1 H1
    by_cases hlt : k < l.length
    · have hkl : (k : Int) < l.length := by omega
      have hcl3 : cu.length ≤ 1000000000000 := by
        have := congrArg List.length hcu
        simp only [List.length_append] at this
        omega
      obtain ⟨x, hx⟩ : ∃ x, l[k]? = some x := ⟨l[k], by simp [hlt]⟩
      have hx64 := HX.out x (List.mem_of_getElem? hx)
      obtain ⟨b, off, rfl, hcell⟩ := word_cell hh hx
      have hs0 : n0 ≤ wr.heap.size := Nat.le_trans hn hkw.size
      by_cases hk1 : k = 0
      · subst hk1
        obtain ⟨rfl, rfl⟩ := hk0 rfl
        have hcell' : wr.cell? ⟨b, off, none⟩ = some (.int .u64 (x : Nat)) := hcell
        have hst := restX_first hx
        rw [hst, ← List.append_assoc] at hcu
        have HE := Lib.hid hE; have HR := Lib.hid hR; have Hh := Lib.hid hh; have HT := Lib.hid hT; have HKW := Lib.hid hkw; have HCU := Lib.hid hcu
        clear hE hR hh hT hkw hcu hst hx hcell hk0 hs hla
        go_wp2
        refine (hO.call cu x 64 wr HR.out hs0 (by omega) (by decide) (by omega)).mono ?_
        rintro e w2 ⟨rfl, r2, k2, e2⟩
        have i2 := e2 E _ HE.out
        obtain ⟨c0, _, _, _, cf⟩ := IsE.cells i2
        have cf0 := cf 0
        have F1 := Lib.hid (HKW.out.trans k2 (fun _ _ h => h))
        have F2 := Lib.hid (HT.out.keeps k2 (fun e => e.elim hO.tab.2 (fun e => by have := hO.tab.1; omega)))
        have F3 := Lib.hid (Hh.out.keepsH k2 u64s_nil (fun g hg e => e.elim (HAP.out g hg).2 (fun e => by have := (HAP.out g hg).1; omega)))
        have F4 := Lib.hid r2
        have F5 := Lib.hid i2
        clear cf r2 k2 e2 i2 hcell'
        go_wp2
        have kE : Keeps (fun k => k = E) w2 (w2.setCell ⟨E, 0, none⟩ (.int .u64 (x : Nat))) := (Keeps.refl (fun k => k = E) w2).setCell (p := ⟨E, 0, none⟩) (fun _ => rfl) _
        refine ⟨⟨1, x, win0, _, by omega, rfl, IsE.set0 F5.out, .inl rfl, by omega, hO.keep _ _ _ E _ F4.out F5.out kE hnE, F3.out.keepsH kE u64s_nil (fun g hg e => by have := (HAP.out g hg).1; omega), F2.out.keeps kE (by omega), F1.out.trans kE (fun k _ e => .inr (by rw [e]; exact hnE)), fun h => by omega, HCU.out⟩, by simp [intOf]; omega⟩
      · have hk1' : (0 : Int) < k := by omega
        rw [restX_step hk1 hx, ← List.append_assoc] at hcu
        have hx2 : x < 18446744073709551616 := by omega
        have HE := Lib.hid hE; have HR := Lib.hid hR; have Hh := Lib.hid hh; have HT := Lib.hid hT; have HKW := Lib.hid hkw; have HCU := Lib.hid hcu; have HS := Lib.hid hs
        clear hE hR hh hT hkw hcu hx hk0 hs hk1
        go_wp2_with fail
        refine (eput_any F cap S n0 R hO E x last s cu wr HE.out hx2 hla HS.out HR.out hnE hcl3 HT.out).mono ?_
        rintro e w2 ⟨rfl, r2, i2, k2⟩
        have F1 := Lib.hid (HKW.out.trans k2 (fun _ _ h => h))
        have F2 := Lib.hid (HT.out.keeps k2 (fun e => e.elim hO.tab.2 (fun e => by have := hO.tab.1; omega)))
        have F3 := Lib.hid (Hh.out.keepsH k2 u64s_nil (fun g hg e => e.elim (HAP.out g hg).2 (fun e => by have := (HAP.out g hg).1; omega)))
        have F4 := Lib.hid r2
        have F5 := Lib.hid i2
        clear r2 k2 i2 hcell
        go_wp2
        exact ⟨⟨k + 1, x, _, _, by omega, by go_num, F5.out, newX_ok HS.out (xor_lt64 hx2 hla), hx2, F4.out, F3.out, F2.out, F1.out, fun h => by omega, HCU.out⟩, by simp [intOf]; omega⟩
    · rw [restX_end (by omega), List.append_nil] at hcu
      subst hcu
      have HR := Lib.hid hR; have HKW := Lib.hid hkw
      have hkl : ¬ (k : Int) < l.length := by omega
      clear hE hR hh hT hkw hk0 hs
      go_wp2
      go_end0
      exact ⟨rfl, HR.out, HKW.out⟩
end
/-- the writer's closure -/
def RPut (base p : Nat) (v0 : Value) (bits : List Bool) (w : World) (cur : List Bool) (wq : World) : Prop :=
  Wrote base p v0 (bits ++ cur) w wq ∧ wq.heap[w.heap.size]? = some (.cells #[.pointer (some ⟨p, 0, none⟩)] 45 (0, 0)) ∧ p < w.heap.size
theorem foot_ne {w : World} {base p : Nat} {v : Value} {l : List Bool} (h : IsW w base p v l) {E : Nat} {cs : Array Value} {t : TypeId} {fr : Nat × Nat} (hE : w.heap[E]? = some (.cells cs t fr)) (h1 : t ≠ 95) (h2 : t ≠ 5) : ¬ foot p v E := by
  rintro (e | e)
  · exact ne_of_types hE h.blk h1 e
  · obtain ⟨c', hc'⟩ := row_type h.row e
    exact ne_of_types hE hc' h2 rfl
set_option maxRecDepth 100000 in
set_option maxHeartbeats 1000000 in
theorem xput1_call (base p : Nat) (v0 : Value) (bits : List Bool) (w : World) (hbits : bits.length ≤ 1000000000) (hb0 : base ≤ w.heap.size) (cur : List Bool) (x n : Nat) (wq : World) (h : RPut base p v0 bits w cur wq) (hx : x < 18446744073709551616) (hn : n ≤ 64) (hcl : cur.length ≤ 1000000000100) :
    Calls Tryd.prog 59 #[.int .u64 (x : Nat), .int .i64 (n : Nat), .pointer (some ⟨w.heap.size, 0, none⟩)] wq fun e w' => e = .returned (.tuple #[]) ∧ RPut base p v0 bits w (cur ++ fieldBits x n) w' ∧ Keeps (fun k => foot p v0 k ∨ w.heap.size ≤ k) wq w' ∧ ∀ (E : Nat) cs, wq.heap[E]? = some (Obj.cells cs 123 (0, 0)) → w'.heap[E]? = some (Obj.cells cs 123 (0, 0)) := by
  obtain ⟨⟨v', i1, k1, n1⟩, hB, hp⟩ := h
  have hc : wq.cell? ⟨w.heap.size, 0, none⟩ = some (.pointer (some ⟨p, 0, none⟩)) := by rw [cell_of_row _ _ _ _ _ _ hB]; rfl
  have I1 := Lib.hid i1; have K1 := Lib.hid k1; have N1 := Lib.hid n1; have HB := Lib.hid hB
  have hbw : base ≤ wq.heap.size := Nat.le_trans hb0 k1.size
  clear i1 k1 n1 hB
  go_enter Tryd.func59, Tryd.ntmps59
  go_wp2_with fail
  refine (wbits_any base p v' (bits ++ cur) x n wq I1.out (by omega) hn (by rw [List.length_append]; omega) hbw).mono ?_
  rintro e w2 ⟨rfl, hw⟩
  have HWR := Lib.hid hw
  clear hw hc
  go_wp2
  go_end0
  obtain ⟨v2, i2, k2, n2⟩ := HWR.out
  refine ⟨rfl, ⟨?_, ?_, hp⟩, ?_, ?_⟩
  · rw [← List.append_assoc]
    exact Wrote.trans K1.out N1.out ⟨v2, i2, k2, n2⟩
  · exact k2.heap HB.out (foot_ne I1.out HB.out (by decide) (by decide))
  · refine k2.mono (fun k _ e => ?_)
    rcases e with e | e
    · exact .inl (.inl e)
    · exact (N1.out k e).imp .inr id
  · intro E cs hE
    exact k2.heap hE (foot_ne I1.out hE (by decide) (by decide))
theorem xput1_enter : ∀ args w, (callFunc 59 args).run Tryd.prog w = .ok (.enter 59 args) w := fun _ _ => rfl
theorem outPut (base p : Nat) (v0 : Value) (bits : List Bool) (w : World) (hbits : bits.length ≤ 1000000000) (hb0 : base ≤ w.heap.size) (hbase : 1 < base) (hW : IsW w base p v0 bits) :
    OutC 59 (.pointer (some ⟨w.heap.size, 0, none⟩)) (foot p v0) w.heap.size (RPut base p v0 bits w) where
  enter := xput1_enter
  call cur x n wq hR _ hx hn hcl := xput1_call base p v0 bits w hbits hb0 cur x n wq hR hx hn hcl
  keep cur a b E cs hR hE k hn := by
    obtain ⟨⟨v', i1, k1, n1⟩, hB, hp⟩ := hR
    have hf := foot_ne i1 hE (by decide) (by decide)
    refine ⟨⟨v', i1.keeps k (fun e => hf (.inl e.symm)) (fun g hg e => hf (.inr (by rw [← e]; exact hg))), k1.trans k (fun k hk e => by omega), n1⟩, ?_, hp⟩
    exact k.heap hB (ne_of_types hB hE (by decide))
  tab := ⟨by omega, fun e => by
    rcases e with e | e
    · have := hW.base; omega
    · have := (hW.row.lt _ e).1; omega⟩
set_option maxRecDepth 100000 in
set_option maxHeartbeats 1000000 in
theorem xput_any (base p : Nat) (v0 v : Value) (bits : List Bool) (l : List Nat) (w : World) (hW : IsW w base p v0 bits) (hb0 : base ≤ w.heap.size) (hbits : bits.length ≤ 1000000000) (hl : l.length ≤ 1000000000) (hX : ∀ x ∈ l, x ≤ 18446744073709551615)
    (h : Holds w v (u64s l)) (hap : ∀ k, ownH v l k → ¬ foot p v0 k) (hT : TabZ w) (hbase : 1 < base) :
    Calls Tryd.prog 39 #[.pointer (some ⟨p, 0, none⟩), v] w fun e w' => e = .returned (.int .i64 0) ∧ Wrote base p v0 (bits ++ enc6 l) w w' := by
  have hO := outPut base p v0 bits w hbits hb0 hbase hW
  obtain ⟨w1, hw1⟩ : ∃ w1, w1 = w.alloc (.cells #[.pointer (some ⟨p, 0, none⟩)] 45) := ⟨_, rfl⟩
  have k1 : Keeps (fun _ => False) w w1 := by rw [hw1]; exact (Keeps.refl _ w).alloc _
  have hB : w1.heap[w.heap.size]? = some (.cells #[.pointer (some ⟨p, 0, none⟩)] 45 (0, 0)) := by rw [hw1]; exact heap_alloc_new w _
  have i1 := hW.keeps k1 (fun h => h) (fun _ _ h => h)
  have hR : RPut base p v0 bits w [] w1 := ⟨by rw [List.append_nil]; exact ⟨v0, i1, k1.mono (fun _ _ h => h.elim), fun g hg => .inl hg⟩, hB, hW.lt⟩
  have hap2 : ∀ g, ownH v l g → g < w.heap.size ∧ ¬ foot p v0 g := fun g hg => ⟨ownH_lt h hg, hap g hg⟩
  have hkeep : ∀ a o, RPut base p v0 bits w [] a → RPut base p v0 bits w [] (a.alloc o) := fun a o hR => by
    obtain ⟨⟨v', j1, j2, j3⟩, hB, hp⟩ := hR
    have ka : Keeps (fun _ => False) a (a.alloc o) := (Keeps.refl _ a).alloc o
    exact ⟨⟨v', j1.keeps ka (fun h => h) (fun _ _ h => h), j2.trans ka (fun _ _ h => h.elim), j3⟩, ka.heap hB (fun h => h), hp⟩
  have he := encode_any 59 (.pointer (some ⟨w.heap.size, 0, none⟩)) (foot p v0) w.heap.size (RPut base p v0 bits w) hO v l [] w1 hl (by simp) hX (h.keeps k1 (fun _ _ h => h)) hap2 hR k1.size hkeep (hT.keeps k1 (fun h => h))
  have hc : w1.cell? ⟨w.heap.size, 0, none⟩ = some (.pointer (some ⟨p, 0, none⟩)) := by rw [cell_of_row _ _ _ _ _ _ hB]; rfl
  have HE := Lib.hid he; have HW1 := Lib.hid hw1
  clear hO k1 hB i1 hR hap2 hkeep he hw1 hap hX h hT hW
  go_enter Tryd.func39, Tryd.ntmps39
  go_wp2_with fail
  rw [← HW1.out]
  refine HE.out.mono ?_
  rintro e w2 ⟨rfl, ⟨hw, _⟩, _⟩
  have HWR := Lib.hid hw
  clear hw hc
  go_wp2
  go_ret
  exact ⟨rfl, by simpa using HWR.out⟩
set_option maxHeartbeats 400000 in
theorem xput_nil (v : Value) (w : World) : Calls Tryd.prog 39 #[.pointer none, v] w fun e w' => e = .returned (.int .i64 1) ∧ Keeps (fun _ => False) w w' := by
  go_enter Tryd.func39, Tryd.ntmps39
  go_wp2
  go_ret
  exact ⟨rfl, (Keeps.refl _ w).alloc _⟩
/-- the counter's closure -/
def RSize (w : World) (cur : List Bool) (wq : World) : Prop := Keeps (fun _ => False) w wq ∧ wq.heap[w.heap.size]? = some (.cells #[.int .i64 (cur.length : Nat)] 3 (0, 0))
theorem xsize1_enter : ∀ args w, (callFunc 60 args).run Tryd.prog w = .ok (.enter 60 args) w := fun _ _ => rfl
set_option maxRecDepth 100000 in
set_option maxHeartbeats 1000000 in
theorem xsize1_call (w : World) (cur : List Bool) (x n : Nat) (wq : World) (h : RSize w cur wq) (hn : n ≤ 64) (hcl : cur.length ≤ 1000000000100) :
    Calls Tryd.prog 60 #[.int .u64 (x : Nat), .int .i64 (n : Nat), .pointer (some ⟨w.heap.size, 0, none⟩)] wq fun e w' => e = .returned (.tuple #[]) ∧ RSize w (cur ++ fieldBits x n) w' ∧ Keeps (fun k => False ∨ w.heap.size ≤ k) wq w' ∧ ∀ (E : Nat) cs, wq.heap[E]? = some (Obj.cells cs 123 (0, 0)) → w'.heap[E]? = some (Obj.cells cs 123 (0, 0)) := by
  obtain ⟨k1, hB⟩ := h
  have hc : wq.cell? ⟨w.heap.size, 0, none⟩ = some (.int .i64 (cur.length : Nat)) := by rw [cell_of_row _ _ _ _ _ _ hB]; rfl
  have hfr : wq.frozen? ⟨w.heap.size, 0, none⟩ = false := frozen_of_row _ _ _ _ _ hB
  obtain ⟨m, hm⟩ : ∃ m, m = cur.length + n := ⟨_, rfl⟩
  have e1 : (cur.length : Int) + n = m := by omega
  have e2 : IntKind.i64.wrap (m : Int) = m := wrap_nat m (by omega)
  have e3 : IntKind.i64.wrap ((cur.length : Int) + n) = m := by rw [e1, e2]
  obtain ⟨w2, hw2⟩ : ∃ w2, w2 = wq.setCell ⟨w.heap.size, 0, none⟩ (.int .i64 (m : Nat)) := ⟨_, rfl⟩
  have k2 : Keeps (fun k => k = w.heap.size) wq w2 := by rw [hw2]; exact (Keeps.refl (fun k => k = w.heap.size) wq).setCell (p := ⟨w.heap.size, 0, none⟩) (fun _ => rfl) _
  have hB2 : w2.heap[w.heap.size]? = some (.cells #[.int .i64 (m : Nat)] 3 (0, 0)) := by
    rw [hw2]
    have := heap_setCell_same wq w.heap.size 0 _ _ (.int .i64 (m : Nat)) hB
    simpa using this
  have K1 := Lib.hid k1; have HB := Lib.hid hB; have K2 := Lib.hid k2; have HB2 := Lib.hid hB2; have HM := Lib.hid hm; have HW2 := Lib.hid hw2
  clear k1 hB k2 hB2 hm hw2
  go_enter Tryd.func60, Tryd.ntmps60
  go_wp2
  rw [← HW2.out]
  go_end0
  refine ⟨rfl, ⟨K1.out.trans K2.out (fun k hk e => by omega), ?_⟩, K2.out.mono (fun k _ e => .inr (by omega)), fun E cs hE => K2.out.heap hE (ne_of_types hE HB.out (by decide))⟩
  rw [List.length_append, fieldBits_length, ← HM.out]
  exact HB2.out
theorem outSize (w : World) (hTz : 1 < w.heap.size) : OutC 60 (.pointer (some ⟨w.heap.size, 0, none⟩)) (fun _ => False) w.heap.size (RSize w) where
  enter := xsize1_enter
  call cur x n wq hR _ _ hn hcl := xsize1_call w cur x n wq hR hn hcl
  keep cur a b E cs hR hE k hn := ⟨hR.1.trans k (fun k hk e => by omega), k.heap hR.2 (ne_of_types hR.2 hE (by decide))⟩
  tab := ⟨hTz, fun h => h⟩
set_option maxRecDepth 100000 in
set_option maxHeartbeats 1000000 in
theorem xsize_any (v : Value) (l : List Nat) (w : World) (hl : l.length ≤ 1000000000) (h : Holds w v (u64s l)) (hX : ∀ x ∈ l, x ≤ 18446744073709551615) (hT : TabZ w) :
    Calls Tryd.prog 40 #[v] w fun e w' => e = .returned (.int .i64 (((enc6 l).length : Nat) : Int)) ∧ Keeps (fun _ => False) w w' := by
  have hO := outSize w hT.pos
  obtain ⟨w1, hw1⟩ : ∃ w1, w1 = w.alloc (.cells #[.int .i64 0] 3) := ⟨_, rfl⟩
  have k1 : Keeps (fun _ => False) w w1 := by rw [hw1]; exact (Keeps.refl _ w).alloc _
  have hB : w1.heap[w.heap.size]? = some (.cells #[.int .i64 0] 3 (0, 0)) := by rw [hw1]; exact heap_alloc_new w _
  have hR : RSize w [] w1 := ⟨k1, hB⟩
  have hkeep : ∀ a o, RSize w [] a → RSize w [] (a.alloc o) := fun a o hR => by
    have ka : Keeps (fun _ => False) a (a.alloc o) := (Keeps.refl _ a).alloc o
    exact ⟨hR.1.trans ka (fun _ _ h => h), ka.heap hR.2 (fun h => h)⟩
  have he := encode_any 60 (.pointer (some ⟨w.heap.size, 0, none⟩)) (fun _ => False) w.heap.size (RSize w) hO v l [] w1 hl (by simp) hX (h.keeps k1 (fun _ _ h => h)) (fun g hg => ⟨ownH_lt h hg, fun h => h⟩) hR k1.size hkeep (hT.keeps k1 (fun h => h))
  have HE := Lib.hid he; have HW1 := Lib.hid hw1
  clear hO k1 hB hR hkeep he hw1 hX h hT
  go_enter Tryd.func40, Tryd.ntmps40
  go_wp2_with fail
  rw [← HW1.out]
  refine HE.out.mono ?_
  rintro e w2 ⟨rfl, ⟨hk, hb⟩, _⟩
  rw [List.nil_append] at hb
  have hc : w2.cell? ⟨w.heap.size, 0, none⟩ = some (.int .i64 ((enc6 l).length : Nat)) := by rw [cell_of_row _ _ _ _ _ _ hb]; rfl
  have HK := Lib.hid hk
  clear hk hb
  go_wp2
  go_ret
  exact ⟨rfl, HK.out⟩
end Go.Proofs.YtdniaingipoggaaDoor
