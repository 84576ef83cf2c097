/-
  Lemmas on which LTopChunks rests, packed out of the texts WChunkD; each for all arguments under the hypotheses it names.
-/
import Derived.Test.YtfpcgcbehdogjaaGreatDoorT21
namespace Go.Proofs.YtfpcgcbehdogjaaGreatDoor
section
set_option maxHeartbeats 8000000
set_option maxRecDepth 100000
open Go.RowKit
theorem infoSmp : (Tryz.prog.info? 28).map (fun i => (i.zero, i.size, i.bytes)) = some (some (.agg #[.int .i64 0, .int .u64 0]), 2, 16) := by kernel_rfl
theorem cells2_set {α : Type} (f g : α → Value) : ∀ (L : List α) (j : Nat) (x : α), cells2 f g (L.set j x) = ((cells2 f g L).set (j * 2) (f x)).set (j * 2 + 1) (g x) := by
 intro L
 induction L with
 | nil => intro j x; simp [cells2]
 | cons y r ih =>
   intro j x
   cases j with
   | zero => simp [cells2]
   | succ j =>
     have := ih j x
     simp only [cells2, List.set_cons_succ, List.flatMap_cons] at this ⊢
     rw [this, show (j + 1) * 2 = j * 2 + 2 by omega, show j * 2 + 2 + 1 = (j * 2 + 1) + 2 by omega]
     simp
def laidO (l : List Smp) (j : Nat) : List Smp := l.take j ++ List.replicate (l.length - j) (0, 0)
theorem laidO_zero (l : List Smp) : laidO l 0 = List.replicate l.length (0, 0) := by simp [laidO]
theorem laidO_all (l : List Smp) : laidO l l.length = l := by simp [laidO]
theorem laidO_length (l : List Smp) (j : Nat) (h : j ≤ l.length) : (laidO l j).length = l.length := by simp [laidO]; omega
theorem laidO_step {l : List Smp} {j : Nat} {x : Smp} (h : l[j]? = some x) : laidO l (j + 1) = (laidO l j).set j x := by
 have hj := (List.getElem?_eq_some_iff.1 h).1
 unfold laidO
 rw [List.take_add_one, h, show l.length - j = (l.length - (j + 1)) + 1 by omega, List.replicate_succ, List.set_append_right _ _ (by simp; omega)]
 have : j - (l.take j).length = 0 := by simp; omega
 rw [this]
 simp
theorem madeSmp (n : Nat) : madeCells #[.int .i64 0, .int .u64 0] (n * 2) = (smpC (List.replicate n (0, 0))).toArray := by
 apply Array.ext_getElem?
 intro k
 have hr : (smpC (List.replicate n (0, 0))).toArray[k]? = (smpC (List.replicate n (0, 0)))[k]? := by simp
 rw [hr]
 by_cases hk : k < n * 2
 · have hi : k / 2 < n := by omega
   have hg : (List.replicate n ((0 : Int), (0 : Int)))[k / 2]? = some (0, 0) := by simp [hi]
   obtain ⟨h0, h1⟩ := qcx smpF smpG _ _ _ hg
   rcases Nat.mod_two_eq_zero_or_one k with hm | hm
   · rw [show k / 2 * 2 = k by omega] at h0
     rw [show smpC (List.replicate n (0, 0)) = cells2 smpF smpG (List.replicate n ((0 : Int), (0 : Int))) from rfl, h0]
     simp [madeCells, hk, hm, smpF]
   · rw [show k / 2 * 2 + 1 = k by omega] at h1
     rw [show smpC (List.replicate n (0, 0)) = cells2 smpF smpG (List.replicate n ((0 : Int), (0 : Int))) from rfl, h1]
     simp [madeCells, hk, hm, smpG]
 · have h2 : (smpC (List.replicate n (0, 0))).length = n * 2 := by unfold smpC; rw [qbv]; simp
   rw [List.getElem?_eq_none (by omega), Array.getElem?_eq_none (by rw [size_madeCells]; omega)]
theorem makeS (n : Nat) (hn : n ≤ 1000000) (w : World) : (Instr.makeSlice 22 (.int .i64 (n : Int)) (.int .i64 (n : Int))).run Tryz.prog w = .ok (.slice (some ⟨w.heap.size, 0, none⟩) n n) (w.alloc (.cells (smpC (List.replicate n (0, 0))).toArray 28)) := by
 obtain ⟨i0, hi, hz0, hz1, hz2⟩ := info_parts infoSmp
 have := run_makeSlice (P := Tryz.prog) (w := w) 22 28 i0 (.agg #[.int .i64 0, .int .u64 0]) Tryz.underlying22 hi hz0 .i64 .i64 n n (by omega) (by omega) (by rw [hz1]; simp; omega) (by rw [hz2]; omega) (by omega)
 rw [← madeSmp]
 simpa [hz1, Value.cells] using this
theorem laid_block {w : World} {g j : Nat} {t : TypeId} {l : List Smp} {x : Smp} (h : w.heap[g]? = some (.cells (smpC (laidO l j)).toArray t (0, 0))) (hx : l[j]? = some x) :
 ((w.setCell ⟨g, j * 2, none⟩ (.int .i64 x.1)).setCell ⟨g, j * 2 + 1, none⟩ (.int .u64 x.2)).heap[g]? = some (.cells (smpC (laidO l (j + 1))).toArray t (0, 0)) := by
 rw [heap_setCell_same _ _ _ _ _ _ (heap_setCell_same _ _ _ _ _ _ h), laidO_step hx]
 congr 2
 rw [show smpC ((laidO l j).set j x) = ((smpC (laidO l j)).set (j * 2) (smpF x)).set (j * 2 + 1) (smpG x) from cells2_set _ _ _ _ _]
 simp [smpF, smpG]
theorem i64_cell {w : World} {ad : Option Addr} {n cap : Nat} {ts : List Int} (h : Holds w (.slice ad n cap) (i64s ts)) {j : Nat} {x : Int} (hx : ts[j]? = some x) : ∃ b off, ad = some ⟨b, off, none⟩ ∧ w.cell? ⟨b, off + j, none⟩ = some (.int .i64 x) := by
 obtain ⟨a', c', hv, hc, h | ⟨b, off, rfl, hcell⟩⟩ := h
 · have : ts = [] := by simpa [i64s] using h
   subst this; simp at hx
 · simp only [Value.slice.injEq] at hv
   exact ⟨b, off, hv.1, hcell j _ (by simp [i64s, hx])⟩
theorem rdS_block {w : World} {g : Nat} {t : TypeId} {l : List Smp} (h : w.heap[g]? = some (.cells (smpC l).toArray t (0, 0))) : RdS w (.slice (some ⟨g, 0, none⟩) l.length l.length) l := by
 have hl : (smpC l).length = l.length * 2 := qbv _ _ _
 refine ⟨hl, _, _, rfl, Nat.le_refl _, .inr ⟨g, 0, rfl, fun j u hj => ?_⟩⟩
 rw [cell_of_row _ _ _ _ _ _ h, Nat.zero_add]
 simpa using hj
theorem get5_ok (base p : Nat) (v : Value) (bs : List Nat) (i : Nat) (ts : List Int) (R : List Bool) (w : World) (h : IsR w base p v bs i) (hl : bs.length ≤ 1099511627776) (hi : i ≤ 8 * bs.length) (hn : ts.length ≤ 1000000000) (hX : ∀ x ∈ ts, inI x)
 (hb : (qad bs).drop i = enc5 ts ++ R) (hT : TabF w) (hbase : 0 < base) :
 Calls Tryz.prog 27 #[.pointer (some ⟨p, 0, none⟩), .int .i64 (ts.length : Int)] w fun e w' => ∃ v', e = .returned (.tuple #[v', .int .i64 0]) ∧ w'.ownsRow w.heap.size 2 1 v' ts.length (i64s ts) ∧
  (∃ i', i' ≤ 8 * bs.length ∧ IsR w' base p v bs i' ∧ (qad bs).drop i' = R) ∧ Keeps (fun k => k = p) w w' := by
 have := get5_any base p v bs i ts.length w h hl hi hn hT hbase
 rw [hb, dec5_enc ts hX R] at this
 refine this.mono ?_
 rintro e w' ⟨v', rfl, h1, ⟨i', h2, h3, h4⟩, h5⟩
 exact ⟨v', rfl, h1, ⟨i', h2, h3, h4.symm⟩, h5⟩
theorem getV_ok (tag F : Nat) (base p : Nat) (v : Value) (bs : List Nat) (i : Nat) (vs : List Nat) (R : List Bool) (w : World) (hF : (tag = 1 ∧ F = 45) ∨ (tag = 2 ∧ F = 48) ∨ (tag = 3 ∧ F = 51)) (h : IsR w base p v bs i) (hl : bs.length ≤ 1099511627776) (hi : i ≤ 8 * bs.length) (hn : vs.length ≤ 1000000000) (hX : ∀ x ∈ vs, x ≤ 18446744073709551615)
 (hne : vs ≠ []) (hk : tag = 3 → (dictO vs).length ≤ 128) (hb : (qad bs).drop i = encV tag vs ++ R) (hT : TabZ w) (hbase : 2 < base) :
 Calls Tryz.prog F #[.pointer (some ⟨p, 0, none⟩), .int .i64 (vs.length : Int)] w fun e w' => ∃ v', e = .returned (.tuple #[v', .int .i64 0]) ∧ w'.ownsRow w.heap.size 23 1 v' vs.length (u64s vs) ∧
  (∃ i', i' ≤ 8 * bs.length ∧ IsR w' base p v bs i' ∧ (qad bs).drop i' = R) ∧ Keeps (fun k => k = p) w w' := by
 rcases hF with ⟨rfl, rfl⟩ | ⟨rfl, rfl⟩ | ⟨rfl, rfl⟩
 · have := get6_any base p v bs i vs.length w h hl hi hn hT hbase
   rw [hb, show encV 1 vs = enc6 vs from rfl, dec6_enc vs hX R] at this
   refine this.mono ?_
   rintro e w' ⟨v', rfl, h1, ⟨i', h2, h3, h4⟩, h5⟩
   exact ⟨v', rfl, h1, ⟨i', h2, h3, h4.symm⟩, h5⟩
 · have := get7_any base p v bs i vs.length w h hl hi hn
   rw [hb, show encV 2 vs = enc7 vs from rfl, dec7_enc vs hX R] at this
   refine this.mono ?_
   rintro e w' ⟨v', rfl, h1, ⟨i', h2, h3, h4⟩, h5⟩
   exact ⟨v', rfl, h1, ⟨i', h2, h3, h4.symm⟩, h5⟩
 · exact get8_any base p v bs i vs R w h hl hi hn hX hne (hk rfl) hb
theorem u8_cells {w : World} {ad : Option Addr} {n cap a b : Nat} {bs : List Nat} (h : Holds w (.slice ad n cap) (u8s (a :: b :: bs))) : n = bs.length + 2 ∧ ∃ g off, ad = some ⟨g, off, none⟩ ∧ w.cell? ⟨g, off, none⟩ = some (.int .u8 (a : Int)) ∧ w.cell? ⟨g, off + 1, none⟩ = some (.int .u8 (b : Int)) := by
 obtain ⟨a', c', hv, hc, h | ⟨g, off, rfl, hcell⟩⟩ := h
 · simp [u8s] at h
 · simp only [Value.slice.injEq] at hv
   obtain ⟨rfl, hn, rfl⟩ := hv
   refine ⟨by rw [hn]; simp [u8s], g, off, rfl, ?_, ?_⟩
   · have := hcell 0 (.int .u8 (a : Int)) (by simp [u8s]); simpa using this
   · exact hcell 1 (.int .u8 (b : Int)) (by simp [u8s])
theorem cdecode_any (v : Value) (l : List Smp) (w : World) (h : Holds w v (u8s (chunkC l))) (h1 : 1 ≤ l.length) (h2 : l.length ≤ 120) (hf : FitS l) (hT : TabZ w) (hF : TabF w) :
 Calls Tryz.prog 8 #[v] w fun e w' => ∃ g, e = .returned (.tuple #[.slice (some ⟨g, 0, none⟩) l.length l.length, .int .i64 0]) ∧ w.heap.size ≤ g ∧ w'.heap[g]? = some (.cells (smpC l).toArray 28 (0, 0)) ∧ Keeps (fun _ => False) w w' := by
 obtain ⟨i8, hi8, _, hz8, _⟩ := info_parts infoU8
 have hce := chunkC_eq l h1 h2
 rw [hce] at h
 have htg := tagO_range (valsS l)
 obtain ⟨vs, hvs⟩ : ∃ vs, vs = valsS l := ⟨_, rfl⟩
 obtain ⟨ts, hts⟩ : ∃ ts, ts = timesS l := ⟨_, rfl⟩
 have hvl : vs.length = l.length := by rw [hvs, valsS_length]
 have htl : ts.length = l.length := by rw [hts, timesS_length]
 have hvX : ∀ x ∈ vs, x ≤ 18446744073709551615 := by rw [hvs]; exact hf.vals
 have htX : ∀ x ∈ ts, inI x := by rw [hts]; exact hf.times
 have hrc : restC l = packed (enc5 ts ++ encV (tagO vs) vs) := by rw [hvs, hts]; rfl
 rw [← hvs] at h htg
 have hdk : tagO vs = 3 → (dictO vs).length ≤ 128 := fun e => size8_room (tagO_dict e)
 have hel := encV_length (tagO vs) vs hdk htg
 obtain ⟨tag, htag⟩ : ∃ tag, tag = tagO vs := ⟨_, rfl⟩
 have HTAG := Hj htag
 rw [← htag] at h htg hrc hdk hel
 obtain ⟨pad, hpad⟩ := packed_front (enc5 ts ++ encV tag vs)
 have hend := endOf_pad _ _ hpad
 have hlt := packed_lt (enc5 ts ++ encV tag vs)
 have hbl : (restC l).length ≤ 100000 := by rw [hrc, qay, List.length_append]; have := enc5_length ts; omega
 rw [← hrc] at hpad hlt
 generalize restC l = bs at *
 obtain ⟨ad, cp, hv, _, _⟩ := id h
 subst hv
 obtain ⟨hN, b0, off, rfl, c0, c1⟩ := u8_cells h
 obtain ⟨N, hNN⟩ : ∃ N, (u8s (tag :: (l.length - 1) :: bs)).length = N := ⟨_, rfl⟩
 rw [hNN] at h hN ⊢
 obtain ⟨q, hq⟩ : ∃ q, l.length = q + 1 := ⟨l.length - 1, by omega⟩
 rw [show l.length - 1 = q by omega] at c1 h hNN
 have HH := Hj h
 have HSL : Hid (∀ wq, Keeps (fun _ => False) w wq → ∃ a2 cap2, (Instr.sliceAt 29 (.slice (some ⟨b0, off, none⟩) N cp) (some (.int .i64 2)) none none).run Tryz.prog wq = .ok (.slice a2 bs.length cap2) wq ∧ Holds wq (.slice a2 bs.length cap2) (u8s bs)) := Hj (fun wq hk => by
  obtain ⟨a2, cap2, e1, e2, _⟩ := run_from (P := Tryz.prog) (w := wq) 29 5 Tryz.underlying29 hi8 hz8 (HH.out.keeps hk (fun _ _ e => e)) .i64 2 (by simp [u8s])
  have e3 : (u8s (tag :: q :: bs)).length - 2 = bs.length := by simp [u8s]
  have e4 : (u8s (tag :: q :: bs)).drop 2 = u8s bs := by simp [u8s]
  rw [e3] at e1 e2
  rw [e4] at e2
  exact ⟨a2, cap2, e1, e2⟩)
 have hl1 : ¬ (N : Int) < 1 := by omega
 have hl2 : ¬ (N : Int) < 2 := by omega
 have hl0 : (0 : Int) < (N : Int) := by omega
 have hl11 : (1 : Int) < (N : Int) := by omega
 have ht1 : ¬ (tag : Int) < 1 := by omega
 have ht3 : ¬ (3 : Int) < (tag : Int) := by omega
 have hq1 : ¬ (120 : Int) ≤ (q : Int) := by omega
 have eq1 : (q : Int) + 1 = (l.length : Int) := by omega
 have htb : (tag : Int) ≤ 3 := by omega
 have hqb : (q : Int) ≤ 119 := by omega
 have HTZ := Hj hT; have HTF := Hj hF; have HVX := Hj hvX; have HTX := Hj htX; have HVL := Hj hvl; have HTL := Hj htl; have HDK := Hj hdk; have HPAD := Hj hpad; have HEND := Hj hend; have HLT := Hj hlt; have HVS := Hj hvs; have HTS := Hj hts
 have HBL := Hj hbl; have HTG := Hj htg; have HFI := Hj hf
 clear h hT hF hvX htX hvl htl hdk hpad hend hlt hvs hts hbl htg hf hce hrc hel htag hN hNN hq
 go_enter Tryz.func8, Tryz.ntmps8
 go_upto_region 9 with fail
 go_quiet (fail)
 have hk1 : Keeps (fun _ => False) w (w.drewN nq) := (Keeps.refl _ w).drewN nq
 generalize w.drewN nq = w1 at *
 obtain ⟨a2, cap2, hs2, hh2⟩ := HSL.out w1 hk1
 have HK1 := Hj hk1; have HH2 := Hj hh2
 clear hk1 hh2 HSL HH c0 c1
 go_wp2_with fail
 refine (newReader_any w.heap.size _ bs w1 HH2.out (by have := HBL.out; omega) HLT.out HK1.out.size).mono ?_
 rintro e w2 ⟨P, vr, rfl, hP, hr2, hown2, hk2⟩
 have HK2 := Hj (HK1.out.trans hk2 (fun _ _ e => e))
 have hPw : w.heap.size ≤ P := Nat.le_trans HK1.out.size hP
 have HPW := Hj hPw
 have HP2 := Hj hr2.lt
 have HC5 : Hid (Calls Tryz.prog 27 #[.pointer (some ⟨P, 0, none⟩), .int .i64 (l.length : Int)] w2 fun e w' => ∃ v', e = .returned (.tuple #[v', .int .i64 0]) ∧ w'.ownsRow w2.heap.size 2 1 v' l.length (i64s ts) ∧
  (∃ i', i' ≤ 8 * bs.length ∧ IsR w' w.heap.size P vr bs i' ∧ (qad bs).drop i' = encV tag vs ++ pad) ∧ Keeps (fun k => k = P) w2 w') := Hj (by
  have := get5_ok w.heap.size P vr bs 0 ts (encV tag vs ++ pad) w2 hr2 (by have := HBL.out; omega) (by omega) (by have := HTL.out; omega) HTX.out (by rw [List.drop_zero, HPAD.out, List.append_assoc]) (HTF.out.keeps HK2.out (fun e => e)) HTF.out.pos
  rwa [HTL.out] at this)
 clear hP hr2 hown2 hk2 hPw hs2
 go_wp2_with fail
 refine HC5.out.mono ?_
 rintro e w3 ⟨v5, rfl, hrow5, ⟨i5, hi5, hr5, hd5⟩, hk5⟩
 obtain ⟨ad5, cp5, rfl⟩ := qaf hrow5
 have HROW5 := Hj hrow5; have HR5 := Hj hr5; have HD5 := Hj hd5; have HK5 := Hj hk5; have HI5 := Hj hi5
 clear hrow5 hr5 hd5 hk5 HC5 hi5
 have HTZ3 : Hid (TabZ w3) := Hj ((HTZ.out.keeps HK2.out (fun e => e)).keeps HK5.out (fun e => by have := HTZ.out.pos; have := HPW.out; omega))
 have HGV : Hid (∀ w4, Keeps (fun _ => False) w3 w4 → ∀ F, (tag = 1 ∧ F = 45) ∨ (tag = 2 ∧ F = 48) ∨ (tag = 3 ∧ F = 51) →
  Calls Tryz.prog F #[.pointer (some ⟨P, 0, none⟩), .int .i64 (l.length : Int)] w4 fun e w' => ∃ v', e = .returned (.tuple #[v', .int .i64 0]) ∧ w'.ownsRow w4.heap.size 23 1 v' l.length (u64s vs) ∧
  (∃ i', i' ≤ 8 * bs.length ∧ IsR w' w.heap.size P vr bs i' ∧ (qad bs).drop i' = pad) ∧ Keeps (fun k => k = P) w4 w') := Hj (fun w4 hk4 F hF => by
  have h0 := HVL.out
  have := getV_ok tag F w.heap.size P vr bs i5 vs pad w4 hF (HR5.out.keeps hk4 (fun e => e) (fun _ _ e => e)) (by have := HBL.out; omega) HI5.out (by omega) HVX.out (by intro e; rw [e] at h0; simp at h0; omega) HDK.out HD5.out (HTZ3.out.keeps hk4 (fun e => e)) HTZ.out.pos
  rwa [HVL.out] at this)
 have hms := makeS l.length (by omega)
 have HMS := Hj hms
 clear hms
 go_upto_region 14 with fail
 go_cut [8, 9] (fun s8 s9 wx => ∃ ad6 cp6, s8 = .int .i64 0 ∧ s9 = .slice ad6 l.length cp6 ∧ Hid (Holds wx (.slice ad6 l.length cp6) (u64s vs)) ∧ (∃ i', i' ≤ 8 * bs.length ∧ IsR wx w.heap.size P vr bs i' ∧ (qad bs).drop i' = pad) ∧ Keeps (fun k => k = P) w3 wx)
 case first =>
  rcases HTG.out with h | h | h
  · obtain rfl := h
    go_wp2_with (first
     | (go_at_call 24; refine (qcq w3).mono ?_; rintro e w4 ⟨rfl, hk4⟩; have HC6 := Hj (HGV.out w4 hk4 45 (by simp)); have HK4 := Hj hk4; clear hk4)
     | (refine qah _ rfl 65 _ _ rfl _ _ (.agg #[.func (.func 43) #[] #[], .func (.func 44) #[] #[], .func (.func 45) #[] #[]]) rfl rfl rfl ?_)
     | (refine qbg _ rfl 64 _ _ rfl _ (.func (.func 45) #[] #[]) rfl rfl ?_)
     | (go_at_call 45; refine HC6.out.mono ?_; rintro e w5 ⟨v6, rfl, hrow6, ⟨i6, hi6, hr6, hd6⟩, hk6⟩; obtain ⟨ad6, cp6, rfl⟩ := qaf hrow6; have HROW6 := Hj hrow6; have HR6 := Hj hr6; have HD6 := Hj hd6; have HK6 := Hj hk6; clear hrow6 hr6 hd6 hk6))
    go_meet
    case rel => exact ⟨ad6, cp6, rfl, rfl, Hj (qaq HROW6.out), ⟨i6, hi6, HR6.out, HD6.out⟩, (HK4.out.mono (S' := fun k => k = P) (fun _ _ e => e.elim)).trans HK6.out (fun _ _ e => e)⟩
  · obtain rfl := h
    go_wp2_with (first
     | (go_at_call 24; refine (qcq w3).mono ?_; rintro e w4 ⟨rfl, hk4⟩; have HC6 := Hj (HGV.out w4 hk4 48 (by simp)); have HK4 := Hj hk4; clear hk4)
     | (refine qah _ rfl 65 _ _ rfl _ _ (.agg #[.func (.func 46) #[] #[], .func (.func 47) #[] #[], .func (.func 48) #[] #[]]) rfl rfl rfl ?_)
     | (refine qbg _ rfl 64 _ _ rfl _ (.func (.func 48) #[] #[]) rfl rfl ?_)
     | (go_at_call 48; refine HC6.out.mono ?_; rintro e w5 ⟨v6, rfl, hrow6, ⟨i6, hi6, hr6, hd6⟩, hk6⟩; obtain ⟨ad6, cp6, rfl⟩ := qaf hrow6; have HROW6 := Hj hrow6; have HR6 := Hj hr6; have HD6 := Hj hd6; have HK6 := Hj hk6; clear hrow6 hr6 hd6 hk6))
    go_meet
    case rel => exact ⟨ad6, cp6, rfl, rfl, Hj (qaq HROW6.out), ⟨i6, hi6, HR6.out, HD6.out⟩, (HK4.out.mono (S' := fun k => k = P) (fun _ _ e => e.elim)).trans HK6.out (fun _ _ e => e)⟩
  · obtain rfl := h
    go_wp2_with (first
     | (go_at_call 24; refine (qcq w3).mono ?_; rintro e w4 ⟨rfl, hk4⟩; have HC6 := Hj (HGV.out w4 hk4 51 (by simp)); have HK4 := Hj hk4; clear hk4)
     | (refine qah _ rfl 65 _ _ rfl _ _ (.agg #[.func (.func 49) #[] #[], .func (.func 50) #[] #[], .func (.func 51) #[] #[]]) rfl rfl rfl ?_)
     | (refine qbg _ rfl 64 _ _ rfl _ (.func (.func 51) #[] #[]) rfl rfl ?_)
     | (go_at_call 51; refine HC6.out.mono ?_; rintro e w5 ⟨v6, rfl, hrow6, ⟨i6, hi6, hr6, hd6⟩, hk6⟩; obtain ⟨ad6, cp6, rfl⟩ := qaf hrow6; have HROW6 := Hj hrow6; have HR6 := Hj hr6; have HD6 := Hj hd6; have HK6 := Hj hk6; clear hrow6 hr6 hd6 hk6))
    go_meet
    case rel => exact ⟨ad6, cp6, rfl, rfl, Hj (qaq HROW6.out), ⟨i6, hi6, HR6.out, HD6.out⟩, (HK4.out.mono (S' := fun k => k = P) (fun _ _ e => e.elim)).trans HK6.out (fun _ _ e => e)⟩
 case rest =>
  obtain ⟨ad6, cp6, rfl, rfl, HH6, ⟨i6, hi6, hr6, hd6⟩, hk6⟩ := hcut
  have HK6 := Hj hk6
  have HEN : Hid (∀ wq, wq = wc → Calls Tryz.prog 28 #[.pointer (some ⟨P, 0, none⟩)] wq fun e w' => e = .returned (.int .i64 0) ∧ ∃ n, w' = wc.drewN n) := Hj (fun wq hq => by
   subst hq
   have := rend_any w.heap.size P vr bs i6 wq hr6 (by have := HBL.out; omega) hi6
   rw [hd6, HEND.out] at this
   exact this)
  have HCH : Hid (∀ wq, Keeps (fun _ => False) wc wq → Calls Tryz.prog 20 #[.slice ad6 l.length cp6] wq fun e w' => e = .returned (.int .i64 (tag : Int)) ∧ Keeps (fun _ => False) wq w') := Hj (fun wq hq => by
   have := choose_any (.slice ad6 l.length cp6) vs wq (by have := HVL.out; omega) (HH6.out.keeps hq (fun _ _ e => e)) HVX.out ((HTZ3.out.keeps hk6 (fun e => by have := HTZ.out.pos; have := HPW.out; omega)).keeps hq (fun e => e))
   rwa [← HTAG.out] at this)
  clear hr6 hd6 hk6 hi6 HGV
  go_wp2_with (first
   | (go_at_call 28; refine (HEN.out _ rfl).mono ?_; rintro e w6 ⟨rfl, n6, hw6⟩; have HK7 : Hid (Keeps (fun _ => False) wc w6) := Hj (by rw [hw6]; exact (Keeps.refl _ _).drewN _); clear hw6)
   | (go_at_call 20; refine (HCH.out _ HK7.out).mono ?_; rintro e w8 ⟨rfl, hk8⟩; have HK8 := Hj (HK7.out.trans hk8 (fun _ _ e => e)); have hms := HMS.out w8; clear hk8))
  have HG0 : Hid ((w8.alloc (.cells (smpC (List.replicate l.length (0, 0))).toArray 28)).heap[w8.heap.size]? = some (.cells (smpC (laidO l 0)).toArray 28 (0, 0))) := Hj (by rw [laidO_zero]; exact heap_alloc_new _ _)
  have HKA : Hid (Keeps (fun _ => False) w8 (w8.alloc (.cells (smpC (List.replicate l.length (0, 0))).toArray 28))) := Hj ((Keeps.refl _ _).alloc _)
  have HH5 := Hj (((qaq HROW5.out).keeps HK6.out (fun g hg e => by have := (HROW5.out.lt g hg).1; have := HP2.out; omega)).keeps HK8.out (fun _ _ e => e))
  have HH68 := Hj (HH6.out.keeps HK8.out (fun _ _ e => e))
  clear hms HMS HEN HCH
  go_loopw [87] (fun c wr => ∃ j : Nat, c = .int .i64 (j : Int) ∧ j ≤ l.length ∧ Hid (wr.heap[w8.heap.size]? = some (.cells (smpC (laidO l j)).toArray 28 (0, 0))) ∧ Hid (Keeps (fun _ => False) w8 wr)) (fun c _ => l.length - (intOf c).toNat)
  case atStart => exact ⟨0, rfl, Nat.zero_le _, HG0, HKA⟩
  case round =>
   clear HG0 HKA
   obtain ⟨j, rfl, hjl, HG, HK⟩ := hrel
   by_cases hlt : j < l.length
   · have hlti : (j : Int) < (l.length : Int) := by omega
     obtain ⟨x, hx⟩ : ∃ x, l[j]? = some x := ⟨l[j], by simp⟩
     have htx : ts[j]? = some x.1 := by rw [HTS.out]; simp [timesS, hx]
     have hvx : vs[j]? = some x.2.toNat := by rw [HVS.out]; simp [valsS, hx]
     have hx0 := (HFI.out x (List.mem_of_getElem? hx)).2
     obtain ⟨b5, o5, rfl, hc5⟩ := i64_cell (HH5.out.keeps HK.out (fun _ _ e => e)) htx
     have h6 := HH68.out.keeps HK.out (fun _ _ e => e)
     rw [← HVL.out] at h6
     obtain ⟨b6, o6, rfl, hc6⟩ := qdc h6 hvx
     rw [show ((x.2.toNat : Nat) : Int) = x.2 by omega] at hc6
     have hlen : (smpC (laidO l j)).length = l.length * 2 := by unfold smpC; rw [qbv, laidO_length l j (by omega)]
     obtain ⟨y0, hy0⟩ : ∃ y, (smpC (laidO l j))[j * 2]? = some y := ⟨(smpC (laidO l j))[j * 2]'(by omega), by simp⟩
     obtain ⟨y1, hy1⟩ : ∃ y, (smpC (laidO l j))[j * 2 + 1]? = some y := ⟨(smpC (laidO l j))[j * 2 + 1]'(by omega), by simp⟩
     have g0 : wr.cell? ⟨w8.heap.size, j * 2, none⟩ = some y0 := by rw [cell_of_row _ _ _ _ _ _ HG.out]; simpa using hy0
     have g1 : (wr.setCell ⟨w8.heap.size, j * 2, none⟩ (.int .i64 x.1)).cell? ⟨w8.heap.size, j * 2 + 1, none⟩ = some y1 := by
      rw [World.cell?_setCell_other _ _ _ _ (by simp), cell_of_row _ _ _ _ _ _ HG.out]; simpa using hy1
     have f0 : wr.frozen? ⟨w8.heap.size, j * 2, none⟩ = false := frozen_of_row _ _ _ _ _ HG.out
     have f1 : (wr.setCell ⟨w8.heap.size, j * 2, none⟩ (.int .i64 x.1)).frozen? ⟨w8.heap.size, j * 2 + 1, none⟩ = false := by rw [qbi]; exact frozen_of_row _ _ _ _ _ HG.out
     have HX := Hj hx
     clear hx htx hvx hx0 h6 hlen hy0 hy1
     go_wp2
     go_region
     go_wp2
     refine ⟨⟨j + 1, by simp, by omega, Hj ?_, Hj ?_⟩, by simp [intOf]; omega⟩
     · exact laid_block (w := wr.drewN _) HG.out HX.out
     · exact ((HK.out.drewN _).setCell (p := ⟨w8.heap.size, j * 2, none⟩) (fun e => absurd e (Nat.lt_irrefl _)) _).setCell (p := ⟨w8.heap.size, j * 2 + 1, none⟩) (fun e => absurd e (Nat.lt_irrefl _)) _
   · obtain rfl : j = l.length := by omega
     go_wp2
     go_ret2
     have hg := HG.out
     rw [laidO_all] at hg
     have hsz : w.heap.size ≤ w8.heap.size := by have h1 := HK2.out.size; have h2 := HK5.out.size; have h3 := HK6.out.size; have h4 := HK8.out.size; omega
     refine ⟨w8.heap.size, rfl, hsz, hg, ?_⟩
     have k1 : Keeps (fun k => k = P) w2 wr := (HK5.out.trans HK6.out (fun _ _ e => e)).trans ((HK8.out.trans HK.out (fun _ _ e => e))) (fun _ _ e => e.elim)
     exact HK2.out.trans k1 (fun k hk e => by have := HPW.out; omega)
end
end Go.Proofs.YtfpcgcbehdogjaaGreatDoor
