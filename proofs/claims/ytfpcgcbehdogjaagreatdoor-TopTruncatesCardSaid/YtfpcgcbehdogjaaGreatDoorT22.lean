/-
  Lemmas on which LTopTruncates rests, packed out of the texts YOne YPre; each for all arguments under the hypotheses it names.
-/
import Derived.Test.YtfpcgcbehdogjaaGreatDoorT19
import Derived.Test.YtfpcgcbehdogjaaGreatDoorT20
namespace Go.Proofs.YtfpcgcbehdogjaaGreatDoor
section
set_option maxHeartbeats 8000000
set_option maxRecDepth 100000
open Go.RowKit
theorem front64 {bs : List Nat} {i : Nat} {X : Nat} {R : List Bool} (hX : X < 18446744073709551616) (hi : i ≤ 8 * bs.length) (h : (qap bs).drop i = qab X 64 ++ R) : i + 64 ≤ 8 * bs.length ∧ stepB ((64 : Nat) : Int) ((qap bs).drop i) = (X, 0, 64) ∧ (qap bs).drop (i + 64) = R := by
 have hl := congrArg List.length h
 rw [List.length_append, qad, rest_length'] at hl
 refine ⟨by omega, ?_, ?_⟩
 · rw [stepB_in 64 _ (by decide) (by rw [h, List.length_append, qad]; omega), h, List.take_left' (qad _ _), qdy, Nat.mod_eq_of_lt (by omega)]
 · rw [← List.drop_drop, h, List.drop_left' (qad _ _)]
theorem tget_one (base p : Nat) (v : Value) (bs : List Nat) (i : Nat) (t : Int) (R : List Bool) (w : World) (h : IsR w base p v bs i) (hl : bs.length ≤ 1099511627776) (hi : i ≤ 8 * bs.length) (ht : inI t) (hb : (qap bs).drop i = qab (U t) 64 ++ R) :
 Calls Tryz.prog 27 #[.pointer (some ⟨p, 0, none⟩), .int .i64 1] w fun e w' => ∃ v', e = .returned (.tuple #[v', .int .i64 0]) ∧ w'.ownsRow w.heap.size 2 1 v' 1 (i64s [t]) ∧
  (∃ i', i' ≤ 8 * bs.length ∧ IsR w' base p v bs i' ∧ (qap bs).drop i' = R) ∧ Keeps (fun k => k = p) w w' := by
 obtain ⟨h64, hst, hR⟩ := front64 (U_lt t) hi hb
 have hcon := rbits_all base p v bs i ((64 : Nat) : Int) w h (by omega) hi
 rw [hst] at hcon
 have htw : IntKind.i64.wrap ((U t : Nat) : Int) = t := W_U ht
 have htw2 : wrap64 ((U t : Nat) : Int) = t := (IntWalk.i64_left _).symm.trans htw
 obtain ⟨X, hX⟩ : ∃ X, X = U t := ⟨_, rfl⟩
 have hX64 : X < 18446744073709551616 := by rw [hX]; exact U_lt t
 rw [← hX] at hcon htw htw2
 have HCON := Hj hcon; have HR0 := Hj hR
 clear hcon hst hb hX hR h
 go_enter Tryz.func27, Tryz.ntmps27
 go_wp2_with fail
 refine HCON.out.mono ?_
 rintro e w1 ⟨rfl, hR1, hk1⟩
 have hs1 := hk1.size
 have HR1 := Hj hR1; have HK1 := Hj hk1
 clear hR1 hk1
 go_wp2
 obtain ⟨w2, hw2⟩ : ∃ w2, w2 = w1.alloc (.cells #[.int .i64 t] 2) := ⟨_, rfl⟩
 rw [← hw2]
 have hk2 : ∀ S, Keeps S w1 w2 := fun S => by rw [hw2]; exact (Keeps.refl S w1).alloc _
 have hrow2 : w2.ownsRow w.heap.size 2 1 (.slice (some ⟨w1.heap.size, 0, none⟩) 1 1) 1 (i64s [t]) := by
  rw [hw2]
  exact World.ownsRow_lit (base := w.heap.size) (e := 2) (size := 1) w1 #[.int .i64 t] 1 hs1 (by decide) rfl
 have HR2 := Hj (HR1.out.keeps (hk2 (fun _ => False)) (fun h => h) (fun _ _ h => h))
 have HKW := Hj (HK1.out.trans (hk2 (fun k => k = p)) (fun _ _ h => h))
 have HROW := Hj hrow2
 clear hk2 hw2 hrow2
 go_loopw [8, 9, 10, 36] (fun _ _ t10 t36 wr => t36 = .int .i64 0 ∧ t10 = .slice (some ⟨w1.heap.size, 0, none⟩) 1 1 ∧ wr = w2) (fun _ _ _ _ _ => 0)
 case atStart => exact ⟨rfl, rfl, rfl⟩
 case round =>
  obtain ⟨rfl, rfl, rfl⟩ := hrel
  go_wp2
  go_ret2
  exact ⟨_, rfl, HROW.out, ⟨i + 64, h64, HR2.out, HR0.out⟩, HKW.out⟩
theorem xget_one (base p : Nat) (v : Value) (bs : List Nat) (i X : Nat) (R : List Bool) (w : World) (h : IsR w base p v bs i) (hl : bs.length ≤ 1099511627776) (hi : i ≤ 8 * bs.length) (hX64 : X < 18446744073709551616) (hb : (qap bs).drop i = qab X 64 ++ R) :
 Calls Tryz.prog 45 #[.pointer (some ⟨p, 0, none⟩), .int .i64 1] w fun e w' => ∃ v', e = .returned (.tuple #[v', .int .i64 0]) ∧ w'.ownsRow w.heap.size 23 1 v' 1 (u64s [X]) ∧
  (∃ i', i' ≤ 8 * bs.length ∧ IsR w' base p v bs i' ∧ (qap bs).drop i' = R) ∧ Keeps (fun k => k = p) w w' := by
 obtain ⟨h64, hst, hR⟩ := front64 hX64 hi hb
 have hpl := h.lt
 obtain ⟨E, hE⟩ : ∃ E, E = w.heap.size := ⟨_, rfl⟩
 obtain ⟨w1, hw1⟩ : ∃ w1, w1 = w.alloc (.cells (qgf 0 win0 p 0) 191) := ⟨_, rfl⟩
 have k1 : Keeps (fun _ => False) w w1 := by rw [hw1]; exact (Keeps.refl _ w).alloc _
 have d1 : DS w1 base p v bs i E 0 win0 0 := ⟨h.keeps k1 (fun h => h) (fun _ _ h => h), by rw [hw1, hE]; exact heap_alloc_new w _⟩
 have hs1 : w1.heap.size = E + 1 := by rw [hw1, hE]; simp
 have hpE : p < E := by rw [hE]; exact hpl
 have hc1 := dbits_any base p v bs i E 0 win0 w1 64 X 0 64 d1 hl hi hst
 have HC1 := Hj hc1; have K1 := Hj k1; have HW1 := Hj hw1; have HS1 := Hj hs1; have HR0 := Hj hR
 clear hb hw1 k1 d1 hst hc1 h hs1 hR
 subst hE
 go_enter Tryz.func45, Tryz.ntmps45
 go_wp2_with fail
 rw [show w.alloc (.cells #[.int .u64 0, .int .i64 0, .int .i64 0, .pointer (some ⟨p, 0, none⟩), .int .i64 0] 191) = w1 from HW1.out.symm]
 refine HC1.out.mono ?_
 rintro e w2 ⟨rfl, d2, k2⟩
 obtain ⟨c0, _, _, _, c4, cf⟩ := d2.cells
 have cf0 := cf 0
 obtain ⟨w3, hw3⟩ : ∃ w3, w3 = w2.setCell ⟨w.heap.size, 0, none⟩ (.int .u64 (X : Nat)) := ⟨_, rfl⟩
 obtain ⟨d3, k3⟩ := d2.setLast (e := X)
 rw [← hw3] at d3 k3
 have b0 := d3.cells.1
 have hk3 : Keeps (fun k => k = p ∨ w.heap.size ≤ k) w w3 := (((K1.out.mono (fun _ _ h => h.elim)).trans k2 (fun k _ e => e.imp id (fun e => by omega))).trans k3 (fun k _ e => .inr (by omega)))
 have HW3 := Hj hw3; have D3 := Hj d3; have HK3 := Hj hk3
 have hs3 : w.heap.size + 1 ≤ w3.heap.size := by have := HS1.out; have := k2.size; have := k3.size; omega
 clear cf d2 k2 d3 k3 hw3 hk3
 go_upto_region 9 with fail
 rw [← HW3.out]
 clear c0 c4 cf0
 go_wp2_with fail
 obtain ⟨w4, hw4⟩ : ∃ w4, w4 = w3.alloc (.cells #[.int .u64 (X : Nat)] 23) := ⟨_, rfl⟩
 rw [← hw4]
 have k4 : ∀ S, Keeps S w3 w4 := fun S => by rw [hw4]; exact (Keeps.refl S w3).alloc _
 have hrow4 : w4.ownsRow (w.heap.size + 1) 23 1 (.slice (some ⟨w3.heap.size, 0, none⟩) 1 1) 1 (u64s [X]) := by
  rw [hw4]
  exact World.ownsRow_lit (base := w.heap.size + 1) (e := 23) (size := 1) w3 #[.int .u64 (X : Nat)] 1 hs3 (by decide) rfl
 have d4 := D3.out.keeps (k4 _)
 have g4 := d4.cells.2.2.2.2.1
 have D4 := Hj d4; have HK4 := Hj (HK3.out.trans (k4 (fun _ => False)) (fun _ _ h => h.elim)); have HR4 := Hj hrow4
 clear k4 hrow4 hw4 b0 d4
 go_loopw [7, 8] (fun t7 t8 wr => t8 = .int .i64 1 ∧ t7 = .slice (some ⟨w3.heap.size, 0, none⟩) 1 1 ∧ wr = w4) (fun _ _ _ => 0)
 case atStart => exact ⟨rfl, rfl, rfl⟩
 case round =>
  obtain ⟨rfl, rfl, rfl⟩ := hrel
  go_wp2
  go_ret2
  exact ⟨_, rfl, qao HR4.out (fun g hg => by have := (HR4.out.lt g hg).1; omega), ⟨i + 64, h64, D4.out.rd, HR0.out⟩, HK4.out.mono (fun k hk e => by omega)⟩
theorem get5_one (base p : Nat) (v : Value) (bs : List Nat) (i : Nat) (ts : List Int) (R : List Bool) (w : World) (h : IsR w base p v bs i) (hl : bs.length ≤ 1099511627776) (hi : i ≤ 8 * bs.length) (h1 : ts.length = 1) (hX : ∀ x ∈ ts, inI x) (hb : (qap bs).drop i = enc5 ts ++ R) :
 Calls Tryz.prog 27 #[.pointer (some ⟨p, 0, none⟩), .int .i64 (ts.length : Int)] w fun e w' => ∃ v', e = .returned (.tuple #[v', .int .i64 0]) ∧ w'.ownsRow w.heap.size 2 1 v' ts.length (i64s ts) ∧
  (∃ i', i' ≤ 8 * bs.length ∧ IsR w' base p v bs i' ∧ (qap bs).drop i' = R) ∧ Keeps (fun k => k = p) w w' := by
 match ts, h1 with
 | [t], _ => exact tget_one base p v bs i t R w h hl hi (hX t (by simp)) (by rw [hb]; simp [enc5, chgF, qam])
theorem getV_one (tag : Nat) (base p : Nat) (v : Value) (bs : List Nat) (i : Nat) (vs : List Nat) (R : List Bool) (w : World) (htag : tag = 1) (h : IsR w base p v bs i) (hl : bs.length ≤ 1099511627776) (hi : i ≤ 8 * bs.length) (h1 : vs.length = 1) (hX : ∀ x ∈ vs, x ≤ 18446744073709551615) (hb : (qap bs).drop i = encV tag vs ++ R) :
 Calls Tryz.prog 45 #[.pointer (some ⟨p, 0, none⟩), .int .i64 (vs.length : Int)] w fun e w' => ∃ v', e = .returned (.tuple #[v', .int .i64 0]) ∧ w'.ownsRow w.heap.size 23 1 v' vs.length (u64s vs) ∧
  (∃ i', i' ≤ 8 * bs.length ∧ IsR w' base p v bs i' ∧ (qap bs).drop i' = R) ∧ Keeps (fun k => k = p) w w' := by
 subst htag
 match vs, h1 with
 | [x], _ => exact xget_one base p v bs i x R w h hl hi (by have := hX x (by simp); omega) (by rw [hb]; simp [encV, enc6, encX])
theorem cdecode_one (v : Value) (l : List Smp) (w : World) (h : Holds w v (u8s (chunkC l))) (he1 : l.length = 1) (htg1 : tagO (valsS l) = 1) (hf : FitS l) (hT : TabZ w) (hF : TabF w) :
 Calls Tryz.prog 8 #[v] w fun e w' => ∃ g, e = .returned (.tuple #[.slice (some ⟨g, 0, none⟩) l.length l.length, .int .i64 0]) ∧ w.heap.size ≤ g ∧ w'.heap[g]? = some (.cells (smpC l).toArray 28 (0, 0)) ∧ Keeps (fun _ => False) w w' := by
 obtain ⟨i8, hi8, _, hz8, _⟩ := info_parts infoU8
 have h1 : 1 ≤ l.length := by omega
 have h2 : l.length ≤ 120 := by omega
 have HE1 := Hj he1
 clear he1
 have hce := chunkC_eq l h1 h2
 rw [hce] at h
 have htg := htg1
 clear htg1
 obtain ⟨vs, hvs⟩ : ∃ vs, vs = valsS l := ⟨_, rfl⟩
 obtain ⟨ts, hts⟩ : ∃ ts, ts = timesS l := ⟨_, rfl⟩
 have hvl : vs.length = l.length := by rw [hvs, qey]
 have htl : ts.length = l.length := by rw [hts, qej]
 have hvX : ∀ x ∈ vs, x ≤ 18446744073709551615 := by rw [hvs]; exact hf.vals
 have htX : ∀ x ∈ ts, inI x := by rw [hts]; exact hf.times
 have hrc : restC l = packed (enc5 ts ++ encV (tagO vs) vs) := by rw [hvs, hts]; rfl
 rw [← hvs] at h htg
 have hdk : tagO vs = 3 → (dictO vs).length ≤ 128 := fun e => qhb (qjf e)
 have hel := qfw (tagO vs) vs hdk (.inl htg)
 obtain ⟨tag, htag⟩ : ∃ tag, tag = tagO vs := ⟨_, rfl⟩
 have HTAG := Hj htag
 rw [← htag] at h htg hrc hdk hel
 obtain ⟨pad, hpad⟩ := packed_front (enc5 ts ++ encV tag vs)
 have hend := endOf_pad _ _ hpad
 have hlt := packed_lt (enc5 ts ++ encV tag vs)
 have hbl : (restC l).length ≤ 100000 := by rw [hrc, qaw, List.length_append]; have := qfs ts; omega
 rw [← hrc] at hpad hlt
 generalize restC l = bs at *
 obtain ⟨ad, cp, hv, _, _⟩ := id h
 subst hv
 obtain ⟨hN, b0, off, rfl, c0, c1⟩ := u8_cells h
 obtain ⟨N, hNN⟩ : ∃ N, (u8s (tag :: (l.length - 1) :: bs)).length = N := ⟨_, rfl⟩
 rw [hNN] at h hN ⊢
 obtain ⟨q, hq⟩ : ∃ q, l.length = q + 1 := ⟨l.length - 1, by omega⟩
 rw [show l.length - 1 = q by omega] at c1 h hNN
 have HH := Hj h
 have HSL : Hid (∀ wq, Keeps (fun _ => False) w wq → ∃ a2 cap2, (Instr.sliceAt 29 (.slice (some ⟨b0, off, none⟩) N cp) (some (.int .i64 2)) none none).run Tryz.prog wq = .ok (.slice a2 bs.length cap2) wq ∧ Holds wq (.slice a2 bs.length cap2) (u8s bs)) := Hj (fun wq hk => by
  obtain ⟨a2, cap2, e1, e2, _⟩ := qff (P := Tryz.prog) (w := wq) 29 5 Tryz.underlying29 hi8 hz8 (HH.out.keeps hk (fun _ _ e => e)) .i64 2 (by simp [u8s])
  have e3 : (u8s (tag :: q :: bs)).length - 2 = bs.length := by simp [u8s]
  have e4 : (u8s (tag :: q :: bs)).drop 2 = u8s bs := by simp [u8s]
  rw [e3] at e1 e2
  rw [e4] at e2
  exact ⟨a2, cap2, e1, e2⟩)
 have hl1 : ¬ (N : Int) < 1 := by omega
 have hl2 : ¬ (N : Int) < 2 := by omega
 have hl0 : (0 : Int) < (N : Int) := by omega
 have hl11 : (1 : Int) < (N : Int) := by omega
 have ht1 : ¬ (tag : Int) < 1 := by omega
 have ht3 : ¬ (3 : Int) < (tag : Int) := by omega
 have hq1 : ¬ (120 : Int) ≤ (q : Int) := by omega
 have eq1 : (q : Int) + 1 = (l.length : Int) := by omega
 have htb : (tag : Int) ≤ 3 := by omega
 have hqb : (q : Int) ≤ 119 := by omega
 have HTZ := Hj hT; have HTF := Hj hF; have HVX := Hj hvX; have HTX := Hj htX; have HVL := Hj hvl; have HTL := Hj htl; have HDK := Hj hdk; have HPAD := Hj hpad; have HEND := Hj hend; have HLT := Hj hlt; have HVS := Hj hvs; have HTS := Hj hts
 have HBL := Hj hbl; have HTG := Hj htg; have HFI := Hj hf
 clear h hT hF hvX htX hvl htl hdk hpad hend hlt hvs hts hbl htg hf hce hrc hel htag hN hNN hq
 go_enter Tryz.func8, Tryz.ntmps8
 go_upto_region 9 with fail
 go_quiet (fail)
 have hk1 : Keeps (fun _ => False) w (w.drewN nq) := (Keeps.refl _ w).drewN nq
 generalize w.drewN nq = w1 at *
 obtain ⟨a2, cap2, hs2, hh2⟩ := HSL.out w1 hk1
 have HK1 := Hj hk1; have HH2 := Hj hh2
 clear hk1 hh2 HSL HH c0 c1
 go_wp2_with fail
 refine (newReader_any w.heap.size _ bs w1 HH2.out (by have := HBL.out; omega) HLT.out HK1.out.size).mono ?_
 rintro e w2 ⟨P, vr, rfl, hP, hr2, hown2, hk2⟩
 have HK2 := Hj (HK1.out.trans hk2 (fun _ _ e => e))
 have hPw : w.heap.size ≤ P := Nat.le_trans HK1.out.size hP
 have HPW := Hj hPw
 have HP2 := Hj hr2.lt
 have HC5 : Hid (Calls Tryz.prog 27 #[.pointer (some ⟨P, 0, none⟩), .int .i64 (l.length : Int)] w2 fun e w' => ∃ v', e = .returned (.tuple #[v', .int .i64 0]) ∧ w'.ownsRow w2.heap.size 2 1 v' l.length (i64s ts) ∧
  (∃ i', i' ≤ 8 * bs.length ∧ IsR w' w.heap.size P vr bs i' ∧ (qap bs).drop i' = encV tag vs ++ pad) ∧ Keeps (fun k => k = P) w2 w') := Hj (by
  have := get5_one w.heap.size P vr bs 0 ts (encV tag vs ++ pad) w2 hr2 (by have := HBL.out; omega) (by omega) (by have := HTL.out; have := HE1.out; omega) HTX.out (by rw [List.drop_zero, HPAD.out, List.append_assoc])
  rwa [HTL.out] at this)
 clear hP hr2 hown2 hk2 hPw hs2
 go_wp2_with fail
 refine HC5.out.mono ?_
 rintro e w3 ⟨v5, rfl, hrow5, ⟨i5, hi5, hr5, hd5⟩, hk5⟩
 obtain ⟨ad5, cp5, rfl⟩ := qac hrow5
 have HROW5 := Hj hrow5; have HR5 := Hj hr5; have HD5 := Hj hd5; have HK5 := Hj hk5; have HI5 := Hj hi5
 clear hrow5 hr5 hd5 hk5 HC5 hi5
 have HTZ3 : Hid (TabZ w3) := Hj ((HTZ.out.keeps HK2.out (fun e => e)).keeps HK5.out (fun e => by have := HTZ.out.pos; have := HPW.out; omega))
 have HGV : Hid (∀ w4, Keeps (fun _ => False) w3 w4 → Calls Tryz.prog 45 #[.pointer (some ⟨P, 0, none⟩), .int .i64 (l.length : Int)] w4 fun e w' => ∃ v', e = .returned (.tuple #[v', .int .i64 0]) ∧ w'.ownsRow w4.heap.size 23 1 v' l.length (u64s vs) ∧
  (∃ i', i' ≤ 8 * bs.length ∧ IsR w' w.heap.size P vr bs i' ∧ (qap bs).drop i' = pad) ∧ Keeps (fun k => k = P) w4 w') := Hj (fun w4 hk4 => by
  have h0 := HVL.out
  have := getV_one tag w.heap.size P vr bs i5 vs pad w4 HTG.out (HR5.out.keeps hk4 (fun e => e) (fun _ _ e => e)) (by have := HBL.out; omega) HI5.out (by have := HVL.out; have := HE1.out; omega) HVX.out HD5.out
  rwa [HVL.out] at this)
 have hms := makeS l.length (by omega)
 have HMS := Hj hms
 clear hms
 go_upto_region 14 with fail
 go_cut [8, 9] (fun s8 s9 wx => ∃ ad6 cp6, s8 = .int .i64 0 ∧ s9 = .slice ad6 l.length cp6 ∧ Hid (Holds wx (.slice ad6 l.length cp6) (u64s vs)) ∧ (∃ i', i' ≤ 8 * bs.length ∧ IsR wx w.heap.size P vr bs i' ∧ (qap bs).drop i' = pad) ∧ Keeps (fun k => k = P) w3 wx)
 case first =>
  obtain rfl := HTG.out
  go_wp2_with (first
   | (go_at_call 24; refine (qef w3).mono ?_; rintro e w4 ⟨rfl, hk4⟩; have HC6 := Hj (HGV.out w4 hk4); have HK4 := Hj hk4; clear hk4)
   | (refine qae _ rfl 65 _ _ rfl _ _ (.agg #[.func (.func 43) #[] #[], .func (.func 44) #[] #[], .func (.func 45) #[] #[]]) rfl rfl rfl ?_)
   | (refine qbz _ rfl 64 _ _ rfl _ (.func (.func 45) #[] #[]) rfl rfl ?_)
   | (go_at_call 45; refine HC6.out.mono ?_; rintro e w5 ⟨v6, rfl, hrow6, ⟨i6, hi6, hr6, hd6⟩, hk6⟩; obtain ⟨ad6, cp6, rfl⟩ := qac hrow6; have HROW6 := Hj hrow6; have HR6 := Hj hr6; have HD6 := Hj hd6; have HK6 := Hj hk6; clear hrow6 hr6 hd6 hk6))
  go_meet
  case rel => exact ⟨ad6, cp6, rfl, rfl, Hj (qaq HROW6.out), ⟨i6, hi6, HR6.out, HD6.out⟩, (HK4.out.mono (S' := fun k => k = P) (fun _ _ e => e.elim)).trans HK6.out (fun _ _ e => e)⟩
 case rest =>
  obtain ⟨ad6, cp6, rfl, rfl, HH6, ⟨i6, hi6, hr6, hd6⟩, hk6⟩ := hcut
  have HK6 := Hj hk6
  have HEN : Hid (∀ wq, wq = wc → Calls Tryz.prog 28 #[.pointer (some ⟨P, 0, none⟩)] wq fun e w' => e = .returned (.int .i64 0) ∧ ∃ n, w' = wc.drewN n) := Hj (fun wq hq => by
   subst hq
   have := rend_any w.heap.size P vr bs i6 wq hr6 (by have := HBL.out; omega) hi6
   rw [hd6, HEND.out] at this
   exact this)
  have HCH : Hid (∀ wq, Keeps (fun _ => False) wc wq → Calls Tryz.prog 20 #[.slice ad6 l.length cp6] wq fun e w' => e = .returned (.int .i64 (tag : Int)) ∧ Keeps (fun _ => False) wq w') := Hj (fun wq hq => by
   have := qkt (.slice ad6 l.length cp6) vs wq (by have := HVL.out; omega) (HH6.out.keeps hq (fun _ _ e => e)) HVX.out ((HTZ3.out.keeps hk6 (fun e => by have := HTZ.out.pos; have := HPW.out; omega)).keeps hq (fun e => e))
   rwa [← HTAG.out] at this)
  clear hr6 hd6 hk6 hi6 HGV
  go_wp2_with (first
   | (go_at_call 28; refine (HEN.out _ rfl).mono ?_; rintro e w6 ⟨rfl, n6, hw6⟩; have HK7 : Hid (Keeps (fun _ => False) wc w6) := Hj (by rw [hw6]; exact (Keeps.refl _ _).drewN _); clear hw6)
   | (go_at_call 20; refine (HCH.out _ HK7.out).mono ?_; rintro e w8 ⟨rfl, hk8⟩; have HK8 := Hj (HK7.out.trans hk8 (fun _ _ e => e)); have hms := HMS.out w8; clear hk8))
  have HG0 : Hid ((w8.alloc (.cells (smpC (List.replicate l.length (0, 0))).toArray 28)).heap[w8.heap.size]? = some (.cells (smpC (laidO l 0)).toArray 28 (0, 0))) := Hj (by rw [laidO_zero]; exact heap_alloc_new _ _)
  have HKA : Hid (Keeps (fun _ => False) w8 (w8.alloc (.cells (smpC (List.replicate l.length (0, 0))).toArray 28))) := Hj ((Keeps.refl _ _).alloc _)
  have HH5 := Hj (((qaq HROW5.out).keeps HK6.out (fun g hg e => by have := (HROW5.out.lt g hg).1; have := HP2.out; omega)).keeps HK8.out (fun _ _ e => e))
  have HH68 := Hj (HH6.out.keeps HK8.out (fun _ _ e => e))
  clear hms HMS HEN HCH
  go_loopw [87] (fun c wr => ∃ j : Nat, c = .int .i64 (j : Int) ∧ j ≤ l.length ∧ Hid (wr.heap[w8.heap.size]? = some (.cells (smpC (laidO l j)).toArray 28 (0, 0))) ∧ Hid (Keeps (fun _ => False) w8 wr)) (fun c _ => l.length - (intOf c).toNat)
  case atStart => exact ⟨0, rfl, Nat.zero_le _, HG0, HKA⟩
  case round =>
   clear HG0 HKA
   obtain ⟨j, rfl, hjl, HG, HK⟩ := hrel
   by_cases hlt : j < l.length
   · have hlti : (j : Int) < (l.length : Int) := by omega
     obtain ⟨x, hx⟩ : ∃ x, l[j]? = some x := ⟨l[j], by simp⟩
     have htx : ts[j]? = some x.1 := by rw [HTS.out]; simp [timesS, hx]
     have hvx : vs[j]? = some x.2.toNat := by rw [HVS.out]; simp [valsS, hx]
     have hx0 := (HFI.out x (List.mem_of_getElem? hx)).2
     obtain ⟨b5, o5, rfl, hc5⟩ := i64_cell (HH5.out.keeps HK.out (fun _ _ e => e)) htx
     have h6 := HH68.out.keeps HK.out (fun _ _ e => e)
     rw [← HVL.out] at h6
     obtain ⟨b6, o6, rfl, hc6⟩ := qdb h6 hvx
     rw [show ((x.2.toNat : Nat) : Int) = x.2 by omega] at hc6
     have hlen : (smpC (laidO l j)).length = l.length * 2 := by unfold smpC; rw [qat, laidO_length l j (by omega)]
     obtain ⟨y0, hy0⟩ : ∃ y, (smpC (laidO l j))[j * 2]? = some y := ⟨(smpC (laidO l j))[j * 2]'(by omega), by simp⟩
     obtain ⟨y1, hy1⟩ : ∃ y, (smpC (laidO l j))[j * 2 + 1]? = some y := ⟨(smpC (laidO l j))[j * 2 + 1]'(by omega), by simp⟩
     have g0 : wr.cell? ⟨w8.heap.size, j * 2, none⟩ = some y0 := by rw [cell_of_row _ _ _ _ _ _ HG.out]; simpa using hy0
     have g1 : (wr.setCell ⟨w8.heap.size, j * 2, none⟩ (.int .i64 x.1)).cell? ⟨w8.heap.size, j * 2 + 1, none⟩ = some y1 := by
      rw [World.cell?_setCell_other _ _ _ _ (by simp), cell_of_row _ _ _ _ _ _ HG.out]; simpa using hy1
     have f0 : wr.frozen? ⟨w8.heap.size, j * 2, none⟩ = false := frozen_of_row _ _ _ _ _ HG.out
     have f1 : (wr.setCell ⟨w8.heap.size, j * 2, none⟩ (.int .i64 x.1)).frozen? ⟨w8.heap.size, j * 2 + 1, none⟩ = false := by rw [qbg]; exact frozen_of_row _ _ _ _ _ HG.out
     have HX := Hj hx
     clear hx htx hvx hx0 h6 hlen hy0 hy1
     go_wp2
     go_region
     go_wp2
     refine ⟨⟨j + 1, by simp, by omega, Hj ?_, Hj ?_⟩, by simp [intOf]; omega⟩
     · exact laid_block (w := wr.drewN _) HG.out HX.out
     · exact ((HK.out.drewN _).setCell (p := ⟨w8.heap.size, j * 2, none⟩) (fun e => absurd e (Nat.lt_irrefl _)) _).setCell (p := ⟨w8.heap.size, j * 2 + 1, none⟩) (fun e => absurd e (Nat.lt_irrefl _)) _
   · obtain rfl : j = l.length := by omega
     go_wp2
     go_ret2
     have hg := HG.out
     rw [laidO_all] at hg
     have hsz : w.heap.size ≤ w8.heap.size := by have h1 := HK2.out.size; have h2 := HK5.out.size; have h3 := HK6.out.size; have h4 := HK8.out.size; omega
     refine ⟨w8.heap.size, rfl, hsz, hg, ?_⟩
     have k1 : Keeps (fun k => k = P) w2 wr := (HK5.out.trans HK6.out (fun _ _ e => e)).trans ((HK8.out.trans HK.out (fun _ _ e => e))) (fun _ _ e => e.elim)
     exact HK2.out.trans k1 (fun k hk e => by have := HPW.out; omega)
end
section
theorem vgo_cut (n k : Nat) (hk : k < (venc n).length) : vgo 0 0 ((venc n).take k) = (0, 0, 3) := vgo_prefix 9 n 0 0 k (by omega) hk
theorem chkO_sec (id : Nat) (s : List Nat) : chkO (secO id s) = true := chkO_app _
theorem secO_len (id : Nat) (s : List Nat) : (secO id s).length = 1 + (venc s.length).length + s.length + 4 := by
 simp only [secO, qau, frameO, lenB, List.length_cons, List.length_append]; omega
theorem rdSec_cut (pre s post : List Nat) (id k : Nat) (hs : s.length ≤ 100000000) (hk : pre.length ≤ k) :
 rdSec ((pre ++ secO id s ++ post).take k) pre.length 0 id = if pre.length + (secO id s).length ≤ k then (s, pre.length + (secO id s).length, 0) else ([], pre.length, 3) := by
 obtain ⟨q, rfl⟩ : ∃ q, k = pre.length + q := ⟨k - pre.length, by omega⟩
 have hS := secO_len id s
 obtain ⟨V, hV⟩ : ∃ V, V = venc s.length := ⟨_, rfl⟩
 obtain ⟨c4, hc4⟩ : ∃ c4, c4 = le4 (crcO (frameO id s)) := ⟨_, rfl⟩
 have hSe : secO id s = id :: (V ++ (s ++ c4)) := by rw [hV, hc4]; simp [secO, crcApp, frameO, lenB]
 have hc : c4.length = 4 := by rw [hc4]; rfl
 obtain ⟨A, hA⟩ : ∃ A, A = (secO id s ++ post).take q := ⟨_, rfl⟩
 have hm : (pre ++ secO id s ++ post).take (pre.length + q) = pre ++ A := by rw [hA, List.append_assoc, List.take_length_add_append]
 rw [hm]
 have hAl : A.length = min q ((secO id s).length + post.length) := by rw [hA]; simp
 have hd : ∀ j, (pre ++ A).drop (pre.length + j) = A.drop j := fun j => by simp
 rw [← hV] at hS
 unfold rdSec
 rw [if_neg (by simp)]
 by_cases h0 : q = 0
 · subst h0
   rw [if_pos (by simp [hAl]), if_neg (by omega)]
 rw [if_neg (by simp only [List.length_append, hAl]; omega)]
 obtain ⟨q, rfl⟩ : ∃ r, q = r + 1 := ⟨q - 1, by omega⟩
 have hAe : A = id :: (V ++ (s ++ c4 ++ post)).take q := by rw [hA, hSe]; simp
 rw [if_neg (by rw [hAe]; simp)]
 have hd1 : (pre ++ A).drop (pre.length + 1) = (V ++ (s ++ c4 ++ post)).take q := by rw [hd, hAe]; rfl
 rw [hd1]
 by_cases h1 : q < V.length
 · rw [List.take_append_of_le_length (by omega), hV, vgo_cut _ q (by rw [← hV]; omega), if_neg (by omega)]
   rfl
 have hg : vgo 0 0 ((V ++ (s ++ c4 ++ post)).take q) = (s.length, V.length, 0) := by
  obtain ⟨r, rfl⟩ : ∃ r, q = V.length + r := ⟨q - V.length, by omega⟩
  rw [List.take_length_add_append, hV, vgo_venc _ (by omega)]
 rw [hg]
 unfold rdSecB
 simp only [ne_eq, not_true_eq_false, if_false]
 have hAe2 : 1 + V.length + s.length + 4 ≤ q + 1 → A = secO id s ++ post.take (q + 1 - (secO id s).length) := fun h => by
  rw [hA]
  obtain ⟨r, hr⟩ : ∃ r, q + 1 = (secO id s).length + r := ⟨q + 1 - (secO id s).length, by omega⟩
  rw [hr, List.take_length_add_append, Nat.add_sub_cancel_left]
 by_cases h2 : 1 + V.length + s.length + 4 ≤ q + 1
 · have e := hAe2 h2
   have hAl2 : (secO id s).length ≤ A.length := by rw [hAl]; omega
   rw [if_neg (by simp only [List.length_append]; omega)]
   have e1 : (pre ++ A).drop pre.length = A := by simp
   have e2 : A.take (1 + V.length + s.length + 4) = secO id s := by rw [e, ← hS]; simp
   rw [e1, e2, chkO_sec, if_neg (by simp), if_pos (by omega), Nat.add_assoc pre.length 1, hd]
   have e3 : A.drop (1 + V.length) = s ++ (c4 ++ post.take (q + 1 - (secO id s).length)) := by rw [e, hSe]; simp [Nat.add_comm 1]
   rw [e3, List.take_left, hS]
   simp only [Nat.add_assoc]
 · rw [if_pos (by simp only [List.length_append, hAl]; omega), if_neg (by omega)]
theorem rdSec_stop (l : List Nat) (i id : Nat) : rdSec l i 3 id = ([], i, 3) := rfl
theorem qle (l r s : List Nat) (i : Nat) : (rdLit l i 3 r s).2 = 3 := by
 unfold rdLit litErr
 split
 · rfl
 · split <;> rfl
theorem pErr_stop {l : List Nat} (h : (pAt l 5).2 = 3) : pErr l = 3 := by
 have h1 : qdg l = 3 := by unfold qdg; rw [h]; split <;> rfl
 have h2 : pSum l = ([], (pAt l 5).1, 3) := by unfold pSum; rw [h1]; rfl
 have h3 : qdo l = 3 := by unfold qdo; rw [h2]; simp
 have h4 : (pEnd l).2 = 3 := by unfold pEnd; rw [h3]; exact qle _ _ _ _
 unfold pErr
 rw [h4]; rfl
theorem bO_succ (s0 s1 s2 s3 : List Nat) : bO s0 s1 s2 s3 1 = bO s0 s1 s2 s3 0 ++ secO 1 s0 ∧ bO s0 s1 s2 s3 2 = bO s0 s1 s2 s3 1 ++ secO 2 s1 ∧ bO s0 s1 s2 s3 3 = bO s0 s1 s2 s3 2 ++ secO 3 s2 ∧ bO s0 s1 s2 s3 4 = bO s0 s1 s2 s3 3 ++ secO 4 s3 := ⟨rfl, rfl, rfl, rfl⟩
theorem qjv {l : List Nat} {k j id : Nat} {pre s post : List Nat} (hl : l = (pre ++ secO id s ++ post).take k) (hs : s.length ≤ 100000000) (hid : id = j + 1) (h : pre.length ≤ k → pAt l j = (pre.length, 0)) (h3 : k < pre.length → (pAt l j).2 = 3) :
 ((pre ++ secO id s).length ≤ k → pAt l (j + 1) = ((pre ++ secO id s).length, 0) ∧ pSec l j = s) ∧ (k < (pre ++ secO id s).length → (pAt l (j + 1)).2 = 3) := by
 subst hid
 refine ⟨fun hk => ?_, fun hk => ?_⟩
 · rw [List.length_append] at hk
   have e := h (by omega)
   have c := rdSec_cut pre s post (j + 1) k hs (by omega)
   rw [if_pos hk, ← hl] at c
   refine ⟨?_, ?_⟩
   · show (rdSec l (pAt l j).1 (pAt l j).2 (j + 1)).2 = _
     rw [e]; simp only [c, List.length_append]
   · show (rdSec l (pAt l j).1 (pAt l j).2 (j + 1)).1 = _
     rw [e]; simp only [c]
 · show (rdSec l (pAt l j).1 (pAt l j).2 (j + 1)).2.2 = 3
   by_cases h1 : pre.length ≤ k
   · rw [List.length_append] at hk
     have c := rdSec_cut pre s post (j + 1) k hs h1
     rw [if_neg (by omega), ← hl] at c
     rw [h h1]; simp only [c]
   · rw [h3 (by omega), rdSec_stop]
theorem pErr_prefix (s0 s1 s2 s3 : List Nat) (h0 : s0.length ≤ 100000000) (h1 : s1.length ≤ 100000000) (h2 : s2.length ≤ 100000000) (h3 : s3.length ≤ 100000000) (k : Nat) (hk : k < (fileO s0 s1 s2 s3).length) : pErr ((fileO s0 s1 s2 s3).take k) = 3 := by
 obtain ⟨b1, b2, b3, b4⟩ := bO_succ s0 s1 s2 s3
 obtain ⟨toc, htoc⟩ : ∃ t, t = contO (atO s0 s1 s2 s3) := ⟨_, rfl⟩
 obtain ⟨c4, hc4⟩ : ∃ c, c = le4 (crcO (bodyO s0 s1 s2 s3)) := ⟨_, rfl⟩
 have htl : toc.length ≤ 100000000 := by rw [htoc]; have := qcv (atO s0 s1 s2 s3); have h4 : (atO s0 s1 s2 s3).length = 4 := rfl; omega
 have hcl : c4.length = 4 := by rw [hc4]; rfl
 have hbody : bodyO s0 s1 s2 s3 = bO s0 s1 s2 s3 4 ++ secO 5 toc := by rw [htoc]; rfl
 have hfile : fileO s0 s1 s2 s3 = bO s0 s1 s2 s3 4 ++ secO 5 toc ++ c4 ++ tailO := by unfold fileO crcApp; rw [← hc4, hbody]
 obtain ⟨l, hl⟩ : ∃ l, l = (fileO s0 s1 s2 s3).take k := ⟨_, rfl⟩
 rw [← hl]
 have hll : l.length = k := by rw [hl, List.length_take]; omega
 have q0 : bO s0 s1 s2 s3 0 = headO := rfl
 have hh5 : headO.length = 5 := rfl
 obtain ⟨R, hR⟩ : ∃ R, fileO s0 s1 s2 s3 = headO ++ R := ⟨secO 1 s0 ++ secO 2 s1 ++ secO 3 s2 ++ secO 4 s3 ++ secO 5 toc ++ c4 ++ tailO, by rw [hfile, b4, b3, b2, b1, q0]; simp only [List.append_assoc]⟩
 have a0 : headO.length ≤ k → pAt l 0 = (headO.length, 0) := fun h => by
  have e : l = headO ++ R.take (k - 5) := by rw [hl, hR]; obtain ⟨r, rfl⟩ : ∃ r, k = headO.length + r := ⟨k - headO.length, by omega⟩; rw [List.take_length_add_append]; simp [hh5]
  show (rdTake l 0 (litErr 0 l headO) (min l.length headO.length)).2 = _
  have hmin : min l.length headO.length = headO.length := by omega
  have hle : litErr 0 l headO = 0 := by unfold litErr; rw [hmin, e]; simp
  rw [hle, hmin]
  unfold rdTake
  rw [if_pos rfl, if_pos (by omega)]; simp
 have a0' : k < headO.length → (pAt l 0).2 = 3 := fun h => by
  show (rdTake l 0 (litErr 0 l headO) (min l.length headO.length)).2.2 = 3
  have hmin : min l.length headO.length = k := by omega
  have e : l = headO.take k := by rw [hl, hR, List.take_append_of_le_length (by omega)]
  have hle : litErr 0 l headO = 3 := by unfold litErr; rw [hmin, e, List.take_take, Nat.min_self, if_neg (by simp), if_pos h]; rfl
  rw [hle]; rfl
 have r1 := qjv (l := l) (k := k) (j := 0) (id := 1) (pre := headO) (s := s0) (post := secO 2 s1 ++ secO 3 s2 ++ secO 4 s3 ++ secO 5 toc ++ c4 ++ tailO) (by rw [hl, hfile, b4, b3, b2, b1, q0]; simp only [List.append_assoc]) h0 rfl a0 a0'
 have r2 := qjv (l := l) (k := k) (j := 1) (id := 2) (pre := bO s0 s1 s2 s3 1) (s := s1) (post := secO 3 s2 ++ secO 4 s3 ++ secO 5 toc ++ c4 ++ tailO) (by rw [hl, hfile, b4, b3, b2]; simp only [List.append_assoc]) h1 rfl (fun h => (r1.1 h).1) r1.2
 have r3 := qjv (l := l) (k := k) (j := 2) (id := 3) (pre := bO s0 s1 s2 s3 2) (s := s2) (post := secO 4 s3 ++ secO 5 toc ++ c4 ++ tailO) (by rw [hl, hfile, b4, b3]; simp only [List.append_assoc]) h2 rfl (fun h => (r2.1 (by rw [← b2]; exact h)).1.trans (by rw [b2])) (fun h => r2.2 (by rw [← b2]; exact h))
 have r4 := qjv (l := l) (k := k) (j := 3) (id := 4) (pre := bO s0 s1 s2 s3 3) (s := s3) (post := secO 5 toc ++ c4 ++ tailO) (by rw [hl, hfile, b4]; simp only [List.append_assoc]) h3 rfl (fun h => (r3.1 (by rw [← b3]; exact h)).1.trans (by rw [b3])) (fun h => r3.2 (by rw [← b3]; exact h))
 have r5 := qjv (l := l) (k := k) (j := 4) (id := 5) (pre := bO s0 s1 s2 s3 4) (s := toc) (post := c4 ++ tailO) (by rw [hl, hfile]; simp only [List.append_assoc]) htl rfl (fun h => (r4.1 (by rw [← b4]; exact h)).1.trans (by rw [b4])) (fun h => r4.2 (by rw [← b4]; exact h))
 rw [← hbody] at r5
 by_cases hB : k < (bodyO s0 s1 s2 s3).length
 · exact pErr_stop (r5.2 hB)
 obtain ⟨e5, et⟩ := r5.1 (by omega)
 have hlen : (fileO s0 s1 s2 s3).length = (bodyO s0 s1 s2 s3).length + 8 := by unfold fileO; rw [List.length_append, qau]; rfl
 have l5 : (bodyO s0 s1 s2 s3).length = (bO s0 s1 s2 s3 4).length + (secO 5 toc).length := by rw [hbody, List.length_append]
 have l4 : (bO s0 s1 s2 s3 4).length = (bO s0 s1 s2 s3 3).length + (secO 4 s3).length := by rw [b4, List.length_append]
 have l3 : (bO s0 s1 s2 s3 3).length = (bO s0 s1 s2 s3 2).length + (secO 3 s2).length := by rw [b3, List.length_append]
 have l2 : (bO s0 s1 s2 s3 2).length = (bO s0 s1 s2 s3 1).length + (secO 2 s1).length := by rw [b2, List.length_append]
 have l1 : (bO s0 s1 s2 s3 1).length = (bO s0 s1 s2 s3 0).length + (secO 1 s0).length := by rw [b1, List.length_append]
 rw [q0] at l1
 have t0 := a0 (by omega)
 have t1 := (r1.1 (by rw [← q0, ← b1]; omega)).1
 have t2 := (r2.1 (by rw [← b2]; omega)).1
 have t3 := (r3.1 (by rw [← b3]; omega)).1
 have hte : qdg l = 0 := by
  unfold qdg
  rw [et, t0, t1, t2, t3, e5, htoc, if_neg]
  rw [← q0, ← b1, ← b2, ← b3]
  simp [atO, q0]
 have hps : pSum l = if 4 ≤ k - (bodyO s0 s1 s2 s3).length then ((l.drop (bodyO s0 s1 s2 s3).length).take 4, (bodyO s0 s1 s2 s3).length + 4, 0) else ([], (bodyO s0 s1 s2 s3).length, 3) := by
  unfold pSum rdTake; rw [hte, e5, if_pos rfl, hll]
 by_cases h4 : 4 ≤ k - (bodyO s0 s1 s2 s3).length
 · rw [if_pos h4] at hps
   have hchk : l.take ((bodyO s0 s1 s2 s3).length + 4) = crcApp (bodyO s0 s1 s2 s3) := by
    rw [hl, List.take_take, Nat.min_eq_left (by omega)]
    unfold fileO
    rw [List.take_append_of_le_length (by rw [qau]; omega), List.take_of_length_le (by rw [qau]; omega)]
   have hse : qdo l = 0 := by
    unfold qdo; rw [hps]; simp only [hchk, chkO_app]; simp
   have hdr : l.drop ((bodyO s0 s1 s2 s3).length + 4) = tailO.take (k - ((bodyO s0 s1 s2 s3).length + 4)) := by
    rw [hl, List.drop_take]
    unfold fileO
    rw [List.drop_append_of_le_length (by rw [qau]; omega), List.drop_of_length_le (by rw [qau]; omega), List.nil_append]
   obtain ⟨r, hr⟩ : ∃ r, r = k - ((bodyO s0 s1 s2 s3).length + 4) := ⟨_, rfl⟩
   have hr4 : r < 4 := by omega
   have hpe : (pEnd l).2 = 3 := by
    unfold pEnd
    rw [hse, hps, hdr, ← hr]
    have hle : litErr 0 (tailO.take r) tailO = 3 := by
     have ht : (tailO.take r).length = r := by rw [List.length_take]; simp [tailO]; omega
     unfold litErr
     rw [ht, Nat.min_eq_left (by simp [tailO]; omega), List.take_take, Nat.min_self, if_neg (by simp), if_pos (by simp [tailO]; omega)]; rfl
    unfold rdLit
    rw [hle]; rfl
   unfold pErr; rw [hpe]; rfl
 · rw [if_neg h4] at hps
   have hse : qdo l = 3 := by unfold qdo; rw [hps]; simp
   have hpe : (pEnd l).2 = 3 := by unfold pEnd; rw [hse]; exact qle _ _ _ _
   unfold pErr; rw [hpe]; rfl
theorem fileO_pos (s0 s1 s2 s3 : List Nat) : 0 < (fileO s0 s1 s2 s3).length := by unfold fileO; rw [List.length_append, qau]; omega
end
end Go.Proofs.YtfpcgcbehdogjaaGreatDoor
