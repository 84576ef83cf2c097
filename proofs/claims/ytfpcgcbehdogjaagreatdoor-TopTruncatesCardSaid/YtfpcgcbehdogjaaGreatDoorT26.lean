/-
  Lemmas on which LTopTruncates rests, packed out of the texts YSec YEnc; each for all arguments under the hypotheses it names.
-/
import Derived.Test.YtfpcgcbehdogjaaGreatDoorT25
namespace Go.Proofs.YtfpcgcbehdogjaaGreatDoor
section
set_option maxHeartbeats 8000000
set_option maxRecDepth 100000
open Go.RowKit Go.Shelf
attribute [local go_sem] Oper.semAt_some
def mkH (p : Hdr × Value) : Hdr := match p.2 with | .slice a n c => ⟨p.1.la, p.1.ln, p.1.lc, a, n, c⟩ | _ => ⟨p.1.la, p.1.ln, p.1.lc, none, 0, 0⟩
theorem mkH_lv (p : Hdr × Value) : (mkH p).lv = p.1.lv := by unfold mkH; split <;> rfl
theorem hdr_rows : ∀ (hs : List Hdr) (cvs : List Value), (∀ v ∈ cvs, ∃ a n c, v = .slice a n c) → cells2 Prod.fst Prod.snd ((hs.map Hdr.lv).zip cvs) = hdrC ((hs.zip cvs).map mkH)
 | [], _, _ => by simp [cells2, hdrC]
 | h :: r, [], _ => by simp [cells2, hdrC]
 | h :: r, v :: q, hv => by
   obtain ⟨a, n, c, rfl⟩ := hv v (by simp)
   have ih := hdr_rows r q (fun u hu => hv u (by simp [hu]))
   simp only [cells2, hdrC, List.map_cons, List.zip_cons_cons, List.flatMap_cons] at *
   rw [ih]
   rfl
theorem sections_any (pos : ByteArray → Nat) (tb : List ByteArray) (ad : Option Addr) (n cap : Nat) (hs : List Hdr) (b : List Ser) (w : World) (h : RdB w (.slice ad n cap) hs b) (hn : b.length = n) (hn1 : n ≤ 1000000) (hC : modE b = 0) (hf : ∀ x ∈ b, x.2 ≠ [] ∧ x.2.length ≤ 1000000000 ∧ FitS x.2) (hsn : qai b ≤ 1099511627776) (hln : ∀ x ∈ b, x.1.length ≤ 1000000)
 (hT : TabZ w) (hF : TabF w) (htb : tabO (symsL b) = strB tb) (hts : ∀ s ∈ tb, s.size ≤ 65535) (htl : tb.length ≤ 1000000) (hA : Asc tb) (hP : ∀ s ∈ symsL b, Pos tb s (pos s)) (hsy : (symsL b).length ≤ 1099511627776) (hN1 : (symO tb).length ≤ 1000000000) (hN2 : (dataO b).length ≤ 1000000000) (hN3 : ∀ x ∈ b, (lensOf x.2).length ≤ 1000000 ∧ lensOf x.2 ≠ [] ∧ ∀ m ∈ lensOf x.2, 1 ≤ m ∧ m ≤ 2147483647) (hNc : (chO b).length ≤ 1000000000) (hN4 : (recO pos (recsO b)).length ≤ 1000000000)
 (hlab : ∀ x ∈ b, ∀ y ∈ x.1, y.1.size ≤ maxLen ∧ y.2.size ≤ maxLen) (hls : ((b.map (·.1)).map List.length).sum ≤ 1000000000) (hpe : ∀ e ∈ bldO (b.map (·.1)), Pos tb e.1.1 (pos e.1.1) ∧ Pos tb e.1.2 (pos e.1.2)) (hpm : ∀ e ∈ bldO (b.map (·.1)), e.2.length ≤ 1000000 ∧ Mono e.2 ∧ ∀ n ∈ e.2, n ≤ 1000000) (hpl : (bldO (b.map (·.1))).length ≤ 1000000) (hN5 : (postO pos (bldO (b.map (·.1)))).length ≤ 1000000000) :
 Calls Tryz.prog 31 #[.slice ad n cap] w fun e w' => ∃ v0 v1 v2 v3, e = .returned (.tuple #[.agg #[v0, v1, v2, v3], .int .i64 0]) ∧ Holds w' v0 (u8s (symO tb)) ∧ Holds w' v1 (u8s (recO pos (recsO b))) ∧ Holds w' v2 (u8s (dataO b)) ∧ Holds w' v3 (u8s (postO pos (bldO (b.map (·.1))))) ∧ Keeps (fun _ => False) w w' := by
 have hhn : hs.length = n := h.1.trans hn
 obtain ⟨Wa, hWa⟩ : ∃ Wa, Wa = w.alloc (.cells #[.slice none 0 0, .slice none 0 0, .slice none 0 0, .slice none 0 0] 75) := ⟨_, rfl⟩
 have hka : Below w.heap.size w Wa := by rw [hWa]; exact (Below.refl _ _).alloc (Nat.le_refl _) _
 have ha0 : Wa.heap[w.heap.size]? = some (.cells #[.slice none 0 0, .slice none 0 0, .slice none 0 0, .slice none 0 0] 75 (0, 0)) := by rw [hWa]; exact heap_alloc_new w _
 have hck := qks (.slice ad n cap) hs b Wa (h.below hka) (by omega) hsn (fun y hy => ⟨by have := hln y hy; omega, by have := (hf y hy).2.1; omega⟩)
 rw [hC] at hck
 obtain ⟨lvs, hlvs⟩ : ∃ lvs, lvs = hs.map Hdr.lv := ⟨_, rfl⟩
 have hlvn : lvs.length = n := by rw [hlvs, List.length_map, hhn]
 have HCK := Hj hck; have HWa := Hj hWa; have HKa := Hj hka; have HA0 := Hj ha0; have HH := Hj h
 have HTZ := Hj hT; have HTF := Hj hF; have HTB := Hj htb; have HTS := Hj hts; have HASC := Hj hA; have HPO := Hj hP; have HFF := Hj hf
 have HLV := Hj hlvs; have HLN := Hj hlvn; have HHN := Hj hhn; have HBN := Hj hn; have HN3 := Hj hN3; have HLAB := Hj hlab; have HPE := Hj hpe; have HPM := Hj hpm; have HLL := Hj hln
 have HQ := Hj (And.intro hN1 (And.intro hN2 (And.intro hNc (And.intro hN4 (And.intro hls (And.intro hpl (And.intro hN5 (And.intro hsy htl))))))))
 clear h hWa hka ha0 hck hT hF htb hts hA hP hf hC hlvs hlvn hhn hN3 hlab hpe hpm hln hN1 hN2 hNc hN4 hls hpl hN5 hsy htl hn hsn
 refine (callsIn_wide (n := 0)).1 ?_
 refine callsIn_of_wp_marks Tryz.func31 rfl trivial ?_ rfl
 simp only [Tryz.ntmps31, List.size_toArray, List.length_cons, List.length_nil, Nat.reduceAdd, Nat.reduceSub, Array.replicate_succ, Array.replicate_zero, List.push_toArray, List.append_toArray, List.nil_append, List.cons_append]
 gi_wp2
 rw [← HWa.out]
 refine ⟨trivial, rfl, (callsIn_wide.2 HCK.out).mono ?_⟩
 rintro e w1 ⟨rfl, hb1⟩
 obtain ⟨rw0, hrw0⟩ : ∃ r, r = (cells2 Prod.fst Prod.snd ((List.replicate n nilV).zip (List.replicate n nilV))).toArray := ⟨_, rfl⟩
 obtain ⟨lw0, hlw0⟩ : ∃ r, r = (List.replicate n nilV).toArray := ⟨_, rfl⟩
 have hmr := fun w => makeRn n hn1 w
 have hml := fun w => makeLn n hn1 w
 rw [← hrw0] at hmr
 rw [← hlw0] at hml
 have HB1 := Hj hb1; have HRW0 := Hj hrw0; have HLW0 := Hj hlw0
 clear hb1 hrw0 hlw0
 gi_wp2
 clear hmr hml
 obtain ⟨W5, hW5⟩ : ∃ W5, W5 = (((w1.alloc (.cells #[.slice none 0 0] 29)).alloc (.cells rw0 127)).alloc (.cells #[.slice (some ⟨w1.heap.size + 1, 0, none⟩) n n] 123)).alloc (.cells lw0 95) := ⟨_, rfl⟩
 have hk5 : Keeps (fun _ => False) w1 W5 := by rw [hW5]; exact ((((Keeps.refl _ _).alloc _).alloc _).alloc _).alloc _
 have hs5 : W5.heap.size = w1.heap.size + 4 := by rw [hW5]; simp
 have hD5 : W5.heap[w1.heap.size]? = some (.cells #[.slice none 0 0] 29 (0, 0)) := by rw [hW5]; exact heap_alloc _ (heap_alloc _ (heap_alloc _ (heap_alloc_new w1 _)))
 have hR5 : W5.heap[w1.heap.size + 1]? = some (.cells rw0 127 (0, 0)) := by
  rw [hW5]
  have := heap_alloc_new (w1.alloc (.cells #[.slice none 0 0] 29)) (.cells rw0 127)
  rw [World.size_alloc] at this
  exact heap_alloc _ (heap_alloc _ this)
 have hL5 : W5.heap[w1.heap.size + 2]? = some (.cells #[.slice (some ⟨w1.heap.size + 1, 0, none⟩) n n] 123 (0, 0)) := by
  rw [hW5]
  have := heap_alloc_new ((w1.alloc (.cells #[.slice none 0 0] 29)).alloc (.cells rw0 127)) (.cells #[.slice (some ⟨w1.heap.size + 1, 0, none⟩) n n] 123)
  rw [World.size_alloc, World.size_alloc] at this
  exact heap_alloc _ this
 have hS5 : W5.heap[w1.heap.size + 3]? = some (.cells lw0 95 (0, 0)) := by
  rw [hW5]
  have := heap_alloc_new (((w1.alloc (.cells #[.slice none 0 0] 29)).alloc (.cells rw0 127)).alloc (.cells #[.slice (some ⟨w1.heap.size + 1, 0, none⟩) n n] 123)) (.cells lw0 95)
  rw [World.size_alloc, World.size_alloc, World.size_alloc] at this
  exact this
 rw [← hW5]
 have hkw5 : Keeps (fun _ => False) w W5 := by
  have k1 : Keeps (fun _ => False) w w1 := (Keeps.ofBelow (HB1.out)).mono (fun _ _ e => e) |> fun k => (Keeps.trans (S' := fun _ => False) (Keeps.ofBelow HKa.out) k (fun _ _ e => e))
  exact k1.trans hk5 (fun _ _ e => e)
 have HD5 := Hj hD5; have HL5 := Hj hL5; have HK5 := Hj hkw5
 have HR5 : Hid (W5.heap[w1.heap.size + 1]? = some (.cells (cells2 Prod.fst Prod.snd ((updL lvs 0 n).zip (List.replicate n nilV))).toArray 127 (0, 0))) := Hj (by rw [updL_zero, ← HRW0.out]; exact hR5)
 have HS5 : Hid (W5.heap[w1.heap.size + 3]? = some (.cells (updL lvs 0 n).toArray 95 (0, 0))) := Hj (by rw [updL_zero, ← HLW0.out]; exact hS5)
 have HA5 : Hid (W5.heap[w.heap.size]? = some (.cells #[.slice none 0 0, .slice none 0 0, .slice none 0 0, .slice none 0 0] 75 (0, 0))) := Hj (hk5.heap (qfg HB1.out HA0.out) (fun e => e))
 have HWW : Hid (w.heap.size + 1 ≤ w1.heap.size) := Hj (by have := HB1.out.size; have := qan HA0.out; omega)
 clear hW5 hk5 hs5 hD5 hR5 hL5 hS5 hkw5
 gi_loopw [32] (fun i wr => ∃ k : Nat, i = .int .i64 (k : Int) ∧ k ≤ n ∧ Hid (wr.heap[w1.heap.size]? = some (.cells #[.slice none 0 0] 29 (0, 0))) ∧ Hid (wr.heap[w1.heap.size + 1]? = some (.cells (cells2 Prod.fst Prod.snd ((updL lvs k n).zip (List.replicate n nilV))).toArray 127 (0, 0))) ∧ Hid (wr.heap[w1.heap.size + 2]? = some (.cells #[.slice (some ⟨w1.heap.size + 1, 0, none⟩) n n] 123 (0, 0))) ∧ Hid (wr.heap[w1.heap.size + 3]? = some (.cells (updL lvs k n).toArray 95 (0, 0))) ∧ Hid (wr.heap[w.heap.size]? = some (.cells #[.slice none 0 0, .slice none 0 0, .slice none 0 0, .slice none 0 0] 75 (0, 0))) ∧ Hid (Keeps (fun _ => False) w wr)) (fun i _ => n - (intOf i).toNat)
 case atStart => exact ⟨0, rfl, Nat.zero_le _, HD5, HR5, HL5, HS5, HA5, HK5⟩
 case round =>
  clear HD5 HR5 HL5 HS5 HA5 HK5
  obtain ⟨k, rfl, hkn, HD, HR, HL, HS, HA, HK⟩ := hrel
  by_cases hlt : k < n
  · have hlti : (k : Int) < (n : Int) := by omega
    obtain ⟨hd, hhd⟩ : ∃ hd, hs[k]? = some hd := ⟨_, List.getElem?_eq_getElem (by rw [HHN.out]; exact hlt)⟩
    have hlv : lvs[k]? = some hd.lv := by rw [HLV.out, List.getElem?_map, hhd]; rfl
    obtain ⟨b0, o0, rfl, x1, x2⟩ := RdH.at (by rw [HHN.out]; exact HH.out.2.1) hhd
    obtain ⟨la, ln, lc, sa, sn, sc⟩ := hd
    simp only [Hdr.lv] at hlv
    have x1 := HK.out.cell x1 (fun e => e)
    have x2 := HK.out.cell x2 (fun e => e)
    simp only at x1 x2
    have hu0 := updL_get HLN.out hlt
    have hz0 : ((updL lvs k n).zip (List.replicate n nilV))[k]? = some (nilV, nilV) := zip_at hu0 (by rw [List.getElem?_replicate, if_pos hlt])
    have hr0 := (qco Prod.fst Prod.snd _ _ _ hz0).1
    have hset1 : (cells2 Prod.fst Prod.snd ((updL lvs k n).zip (List.replicate n nilV))).toArray.setIfInBounds (k * 2) (.slice la ln lc) = (cells2 Prod.fst Prod.snd ((updL lvs (k + 1) n).zip (List.replicate n nilV))).toArray := by
     have e1 := qjh (v := .slice la ln lc) hz0
     have e2 : ((updL lvs k n).zip (List.replicate n nilV)).set k (.slice la ln lc, nilV) = (updL lvs (k + 1) n).zip (List.replicate n nilV) := by
      rw [← updL_set HLN.out hlt hlv]
      apply List.ext_getElem?
      intro i
      by_cases hi : k = i
      · subst hi
        have hl2 : k < (updL lvs k n).length := by rw [updL_length HLN.out hkn]; exact hlt
        rw [List.getElem?_set_self (by rw [List.length_zip, List.length_replicate]; omega)]
        exact (zip_at (List.getElem?_set_self hl2) (by rw [List.getElem?_replicate, if_pos hlt])).symm
      · rw [List.getElem?_set_ne hi]
        simp only [List.zip, List.getElem?_zipWith, List.getElem?_set_ne hi]
     rw [← e2, ← e1]; simp
    have hset2 : (updL lvs k n).toArray.setIfInBounds k (.slice la ln lc) = (updL lvs (k + 1) n).toArray := by rw [← updL_set HLN.out hlt hlv]; simp
    have HSET1 := Hj hset1; have HSET2 := Hj hset2
    clear hset1 hset2 hz0 hhd hlv
    gi_upto_region 10 with fail
    obtain ⟨W6, hW6⟩ : ∃ W6, W6 = wr.alloc (.cells #[.slice la ln lc, .slice sa sn sc] 97) := ⟨_, rfl⟩
    have hk6 : Keeps (fun _ => False) wr W6 := by rw [hW6]; exact (Keeps.refl _ _).alloc _
    have hr6 : W6.heap[wr.heap.size]? = some (.cells #[.slice la ln lc, .slice sa sn sc] 97 (0, 0)) := by rw [hW6]; exact heap_alloc_new wr _
    have hR6 := hk6.heap HR.out (fun e => e); have hL6 := hk6.heap HL.out (fun e => e); have hS6 := hk6.heap HS.out (fun e => e); have hD6 := hk6.heap HD.out (fun e => e)
    have hwl : w1.heap.size + 4 ≤ wr.heap.size := qan HS.out
    have q1 : W6.cell? ⟨wr.heap.size, 0, none⟩ = some (.slice la ln lc) := by rw [cell_of_row _ _ _ _ _ _ hr6]; rfl
    have q2 : W6.cell? ⟨w1.heap.size + 1 + 1, 0, none⟩ = some (.slice (some ⟨w1.heap.size + 1, 0, none⟩) n n) := by rw [cell_of_row _ _ _ _ _ _ hL6]; rfl
    have q3 : W6.cell? ⟨w1.heap.size + 1, k * 2, none⟩ = some (.slice none 0 0) := by rw [cell_of_row _ _ _ _ _ _ hR6]; simpa using hr0
    have q4 : W6.frozen? ⟨w1.heap.size + 1, k * 2, none⟩ = false := frozen_of_row _ _ _ _ _ hR6
    have q5 : W6.cell? ⟨w1.heap.size + 1 + 1 + 1, k, none⟩ = some (.slice none 0 0) := by rw [cell_of_row _ _ _ _ _ _ hS6]; simpa using hu0
    have q6 : W6.frozen? ⟨w1.heap.size + 1 + 1 + 1, k, none⟩ = false := frozen_of_row _ _ _ _ _ hS6
    rw [← hW6]
    have HR6 := Hj hR6; have HL6 := Hj hL6; have HS6 := Hj hS6; have HD6 := Hj hD6; have HA6 := Hj (hk6.heap HA.out (fun e => e)); have HK6 := Hj (HK.out.trans hk6 (fun _ _ e => e)); have HWL := Hj hwl
    obtain ⟨WR, hWR⟩ : ∃ WR, WR = W6.setCell ⟨w1.heap.size + 1, k * 2, none⟩ (.slice la ln lc) := ⟨_, rfl⟩
    obtain ⟨WS, hWS⟩ : ∃ WS, WS = W6.setCell ⟨w1.heap.size + 1 + 1 + 1, k, none⟩ (.slice la ln lc) := ⟨_, rfl⟩
    have kR : Keeps (fun k => k = w1.heap.size + 1 ∨ k = w1.heap.size + 3) W6 WR := by rw [hWR]; exact (Keeps.refl _ W6).setCell (p := ⟨w1.heap.size + 1, k * 2, none⟩) (fun _ => .inl rfl) _
    have kS : Keeps (fun k => k = w1.heap.size + 1 ∨ k = w1.heap.size + 3) W6 WS := by rw [hWS]; exact (Keeps.refl _ W6).setCell (p := ⟨w1.heap.size + 1 + 1 + 1, k, none⟩) (fun _ => .inr rfl) _
    have gR : WR.heap[w1.heap.size + 3]? = W6.heap[w1.heap.size + 3]? := by rw [hWR]; exact heap_setCell_other _ _ _ _ (by simp only; omega)
    have gS : WS.heap[w1.heap.size + 1]? = W6.heap[w1.heap.size + 1]? := by rw [hWS]; exact heap_setCell_other _ _ _ _ (by simp only; omega)
    have t5 : WR.cell? ⟨w1.heap.size + 1 + 1 + 1, k, none⟩ = some (.slice none 0 0) := by rw [cell_of_row _ _ _ _ _ _ (gR.trans hS6)]; simpa using hu0
    have t6 : WR.frozen? ⟨w1.heap.size + 1 + 1 + 1, k, none⟩ = false := frozen_of_row _ _ _ _ _ (gR.trans hS6)
    have u3 : WS.cell? ⟨w1.heap.size + 1, k * 2, none⟩ = some (.slice none 0 0) := by rw [cell_of_row _ _ _ _ _ _ (gS.trans hR6)]; simpa using hr0
    have u4 : WS.frozen? ⟨w1.heap.size + 1, k * 2, none⟩ = false := frozen_of_row _ _ _ _ _ (gS.trans hR6)
    rw [hWR] at t5 t6 kR
    rw [hWS] at u3 u4 kS
    have CC : Hid (∀ q, Keeps (fun k => k = w1.heap.size + 1 ∨ k = w1.heap.size + 3) W6 q → q.cell? ⟨wr.heap.size, 0, none⟩ = some (.slice la ln lc) ∧ q.cell? ⟨w1.heap.size + 1 + 1, 0, none⟩ = some (.slice (some ⟨w1.heap.size + 1, 0, none⟩) n n)) := Hj (fun q hq => ⟨hq.cell q1 (by have := HWL.out; simp only; omega), hq.cell q2 (by simp only; omega)⟩)
    have K0 : Hid (Keeps (fun k => k = w1.heap.size + 1 ∨ k = w1.heap.size + 3) W6 W6.drew) := Hj (Keeps.refl _ _).drew
    have K1 := Hj kR.drew; have K2 := Hj kS.drew
    have K3 := Hj (kR.setCell (p := ⟨w1.heap.size + 1 + 1 + 1, k, none⟩) (fun _ => .inr rfl) (.slice la ln lc)).drew
    have K4 := Hj (kS.setCell (p := ⟨w1.heap.size + 1, k * 2, none⟩) (fun _ => .inl rfl) (.slice la ln lc)).drew
    clear hWR hWS kR kS hr6 hR6 hL6 hS6 hD6 hW6 hk6 x1 x2 gR gS hwl hu0 hr0
    refine wpIn_wide.2 ?_
    go_region_held3 (fun q => q.cell? ⟨wr.heap.size, 0, none⟩ = some (.slice la ln lc) ∧ q.cell? ⟨w1.heap.size + 1 + 1, 0, none⟩ = some (.slice (some ⟨w1.heap.size + 1, 0, none⟩) n n)) (first | exact CC.out _ K0.out | exact CC.out _ K1.out | exact CC.out _ K2.out | exact CC.out _ K3.out | exact CC.out _ K4.out) (first | skip)
    clear t5 t6 u3 u4 q1 q2 q3 q4 q5 q6
    obtain ⟨W7, hW7⟩ : ∃ W7, W7 = ((W6.setCell ⟨w1.heap.size + 1, k * 2, none⟩ (.slice la ln lc)).setCell ⟨w1.heap.size + 1 + 1 + 1, k, none⟩ (.slice la ln lc)).drew := ⟨_, rfl⟩
    rw [← hW7]
    have k7 : Keeps (fun k => k = w1.heap.size + 1 ∨ k = w1.heap.size + 3) W6 W7 := by rw [hW7]; exact K3.out
    have r7 : W7.heap[w1.heap.size + 1]? = some (.cells (cells2 Prod.fst Prod.snd ((updL lvs (k + 1) n).zip (List.replicate n nilV))).toArray 127 (0, 0)) := by
     rw [hW7]
     have := heap_setCell_same W6 (w1.heap.size + 1) (k * 2) _ _ (.slice la ln lc) HR6.out
     rw [HSET1.out] at this
     exact (heap_setCell_other (W6.setCell ⟨w1.heap.size + 1, k * 2, none⟩ (.slice la ln lc)) ⟨w1.heap.size + 1 + 1 + 1, k, none⟩ _ _ (by simp only; omega)).trans this
    have s7 : W7.heap[w1.heap.size + 3]? = some (.cells (updL lvs (k + 1) n).toArray 95 (0, 0)) := by
     rw [hW7]
     have := heap_setCell_same (W6.setCell ⟨w1.heap.size + 1, k * 2, none⟩ (.slice la ln lc)) (w1.heap.size + 1 + 1 + 1) k _ _ (.slice la ln lc) ((heap_setCell_other _ _ _ _ (by simp only; omega)).trans HS6.out)
     rw [HSET2.out] at this
     exact this
    have HR7 := Hj r7; have HS7 := Hj s7
    have HD7 := Hj (k7.heap HD6.out (by omega)); have HL7 := Hj (k7.heap HL6.out (by omega)); have HA7 := Hj (k7.heap HA6.out (by have := HWW.out; omega)); have HK7 := Hj (HK6.out.trans k7 (fun k hk e => by have := HWW.out; omega))
    clear hW7 k7 r7 s7
    gi_wp2
    exact ⟨⟨k + 1, by simp, by omega, HD7, HR7, HL7, HS7, HA7, HK7⟩, by simp [intOf]; omega⟩
  · obtain rfl : n = k := by omega
    have hup : updL lvs n n = lvs := by have := updL_all lvs; rwa [HLN.out] at this
    rw [hup] at HR HS
    obtain ⟨W8, hW8⟩ : ∃ W8, W8 = wr.alloc (.cells #[.func (.func 62) #[] #[.pointer (some ⟨w1.heap.size, 0, none⟩), .pointer (some ⟨w1.heap.size + 2, 0, none⟩)]] 128) := ⟨_, rfl⟩
    have hk8 : Keeps (fun _ => False) wr W8 := by rw [hW8]; exact (Keeps.refl _ _).alloc _
    have hf8 : W8.heap[wr.heap.size]? = some (.cells #[.func (.func 62) #[] #[.pointer (some ⟨w1.heap.size, 0, none⟩), .pointer (some ⟨w1.heap.size + 2, 0, none⟩)]] 128 (0, 0)) := by rw [hW8]; exact heap_alloc_new wr _
    have HW8 := Hj hW8; have HK8 := Hj hk8; have HF8 := Hj hf8
    clear hW8 hk8 hf8 hup
    gi_wp2
    rw [← HW8.out]
    refine ⟨trivial, rfl, (callsIn_wide.2 (chunks_any ad n cap _)).mono ?_⟩
    rintro e w9 ⟨rfl, hw9⟩
    have hk9 : Keeps (fun _ => False) W8 w9 := by rw [hw9]; exact (Keeps.refl _ _).alloc _
    have hs9 : w9.heap.size = W8.heap.size + 1 := by rw [hw9]; simp
    have hb9 : w9.cell? ⟨W8.heap.size, 0, none⟩ = some (.slice ad n cap) := by rw [hw9, cell_of_row _ _ _ _ _ _ (heap_alloc_new W8 _)]; rfl
    have hkr := HK8.out.trans hk9 (fun _ _ e => e)
    have HK9 := Hj (HK.out.trans hkr (fun _ _ e => e))
    have HWR : Hid (w1.heap.size + 4 ≤ wr.heap.size ∧ wr.heap.size < W8.heap.size) := Hj ⟨qan HS.out, qan HF8.out⟩
    have HS9 := Hj (hkr.heap HS.out (fun e => e)); have HA9 := Hj (hkr.heap HA.out (fun e => e)); have HF9 := Hj (hk9.heap HF8.out (fun e => e))
    have HSEC : Hid (SecAt w9 w1.heap.size (w1.heap.size + 2) (w1.heap.size + 1) (w9.heap.size + 2) n lvs (dataF []) (lensF n []) (.slice none 0 0) (List.replicate n nilV)) := Hj ⟨hkr.heap HD.out (fun e => e), World.ownsRow_nil _ _ _ _, hkr.heap HL.out (fun e => e), hkr.heap HR.out (fun e => e), HLN.out, by simp, by simp [lensF], fun i v l h1 h2 => by
     obtain rfl := rep_get h1
     obtain rfl := rep_get (show (List.replicate n ([] : List Nat))[i]? = some l from h2)
     exact World.ownsRow_nil _ _ _ _, fun i j u v g h1 _ h3 _ => by
     obtain rfl := rep_get h1
     cases h3⟩
    have HB9 := Hj hb9; have HZ9 := Hj hs9
    clear hw9 hk9 hs9 hb9 hkr HD HR HL HS HA HK HF8 HK8 HW8
    gi_wp2
    refine' qhq (gf := 118) (lb := #[.pointer (some ⟨W8.heap.size, 0, none⟩)]) (w := w9) rfl (enters_of Tryz.func118 (by kernel_rfl) rfl)
     (encs := encChk) (pc := pcS w.heap.size) (q := w.heap.size) (S := fun xs => xs.map (·.1) = chO b) (Sp := fun pre => pre.map (·.1) <+: chO b)
     (Qx := fun x W1 => Rd 1 W1 (.slice x.2.1 x.1.2.length x.2.2) x.1.2.length (u8s x.1.2) ∧ ∀ g, (Value.slice x.2.1 x.1.2.length x.2.2).ownBlock = some g → w9.heap.size + 2 ≤ g)
     ?hseq (by have := HWR.out; have := HZ9.out; have := HWW.out; omega) ?hQx (fun x => rfl)
     (fun pre W => ∃ dv cvs, Hid (SecAt W w1.heap.size (w1.heap.size + 2) (w1.heap.size + 1) (w9.heap.size + 2) n lvs (dataF (pre.map (·.1))) (lensF n (pre.map (·.1))) dv cvs) ∧ Hid (Keeps (Tb (pcS w.heap.size) w9) w9 W))
     (fun _ _ _ => False) ?hI (fun _ _ _ _ h _ => h) ?h0 _ ?assign ?body ?done ?stop
    case assign =>
     intro lp x W K hK
     simp only [encChk]
     gi_wp2
     exact hK
    case hseq =>
     intro W hsz hk
     have hkk := HK9.out.trans hk (fun _ _ e => e)
     have := chsT_at w W W8.heap.size ad cap hs b (by rw [HBN.out]; exact hk.cell HB9.out (fun e => e)) (by rw [HBN.out]; exact HH.out) (hkk.mono (fun _ _ e => e.elim)) HFF.out (by rw [HBN.out]; omega) HTZ.out HTF.out
     intro l J Jx p1 p2 p3 p4
     exact this l J Jx p1 p2 (fun pre y W1 q1 q2 q3 => p3 pre y W1 q1 q2 ⟨q3.1, fun g hg => by have := q3.2 g hg; omega⟩) p4
    case hQx =>
     rintro y A B ⟨q1, q2⟩ hk
     exact ⟨q1.keeps hk (fun g hg e => by have := q2 g hg; omega), q2⟩
    case hI =>
     rintro pre A B ⟨dv, cvs, h1, h2⟩ hk
     have hW := HWR.out; have hZ := HZ9.out
     refine ⟨dv, cvs, Hj ⟨hk.heap h1.out.hD (fun e => by omega), hk.row h1.out.rD (fun g hg e => by have := (h1.out.rD.lt g hg).1; omega), hk.heap h1.out.hL (fun e => by omega), hk.heap h1.out.hR (fun e => by omega), h1.out.ln, h1.out.cn, h1.out.sn, fun i v l a1 a2 => hk.row (h1.out.row i v l a1 a2) (fun g hg e => by have := ((h1.out.row i v l a1 a2).lt g hg).1; omega), h1.out.apart⟩, Hj (h2.out.trans hk (fun k hk e => by omega))⟩
    case h0 => exact ⟨_, _, HSEC, Hj (Keeps.refl _ _)⟩
    case body =>
     rintro lp pre y W hI hsp ⟨hq1, hq2⟩ hsz
     obtain ⟨⟨i, bs⟩, a3, c3⟩ := y
     simp only at hq1 hq2
     obtain ⟨dv, cvs, h1, h2⟩ := hI
     obtain ⟨hQ1, hQ2, hQc, _⟩ := HQ.out
     have hpm : ((pre ++ [((i, bs), (a3, c3))]).map (·.1)) = pre.map (·.1) ++ [(i, bs)] := by simp
     rw [hpm] at hsp
     have hmem : (i, bs) ∈ chO b := hsp.subset (by simp)
     have hin : i < n := by have := chO_lt b _ hmem; rw [HBN.out] at this; exact this
     obtain ⟨l, hl⟩ : ∃ l, (lensF n (pre.map (·.1)))[i]? = some l := ⟨_, List.getElem?_eq_getElem (by rw [lensF_length]; exact hin)⟩
     have hll := lensF_bound n _ l (List.mem_of_getElem? hl)
     have hpl := hsp.length_le
     have hdl := dataF_le hsp
     rw [qkv, List.length_append] at hdl
     replace hdl : (dataF (pre.map (·.1))).length + bs.length ≤ (dataF (chO b)).length := hdl
     rw [List.length_append, List.length_singleton] at hpl
     have hfc : W.cell? ⟨wr.heap.size, 0, none⟩ = some (.func (.func 62) #[] #[.pointer (some ⟨w1.heap.size, 0, none⟩), .pointer (some ⟨w1.heap.size + 2, 0, none⟩)]) := by
      rw [cell_of_row _ _ _ _ _ _ (h2.out.heap HF9.out (fun e => not_ti (q := 0) HF9.out (fun e => by rcases e.2 with e | e | e | e <;> cases e) (.inl e)))]; rfl
     have HADD := Hj (add_any w.heap.size w1.heap.size (w1.heap.size + 2) (w1.heap.size + 1) (w9.heap.size + 2) n i lvs _ l _ dv cvs a3 c3 bs W h1.out hl hq1 hsz ⟨by have := HWW.out; omega, by have := HWW.out; omega, by have := HWW.out; have := HWR.out; have := HZ9.out; omega⟩ (by have := hQ2; unfold dataO at this; omega) (by omega))
     have H2 := h2
     have HEQ : Hid ((lensF n (pre.map (·.1))).set i (l ++ [bs.length]) = lensF n ((pre ++ [((i, bs), (a3, c3))]).map (·.1))) := Hj (by
      rw [hpm, lensF_snoc]
      have : (lensF n (pre.map (·.1))).getD i [] = l := by rw [List.getD_eq_getElem?_getD, hl]; rfl
      simp only [qdn, this])
     have HEQ2 : Hid (dataF (pre.map (·.1)) ++ bs = dataF ((pre ++ [((i, bs), (a3, c3))]).map (·.1))) := Hj (by rw [hpm, qkv])
     obtain ⟨m, hm⟩ : ∃ m, m = bs.length := ⟨_, rfl⟩
     rw [← hm] at HADD HEQ
     clear h1 h2 hsp hq1 hq2 hl hll hpl hdl hmem hin hpm hQ1 hQ2 hQc hsz
     simp only [← hm]
     clear hm
     gi_wp2
     refine ⟨trivial, rfl, ((callsIn_wide.2 HADD.out).inRound lp).mono ?_⟩
     rintro e W2 ⟨dv', cvs', rfl, a1, a2⟩
     have A1 := Hj a1; have A2 := Hj a2
     clear a1 a2 hfc
     gi_wp2
     exact ⟨A2.out, dv', cvs', by rw [HEQ.out, HEQ2.out] at A1; exact A1, Hj (H2.out.tb A2.out)⟩
    case stop => rintro D c pre W _ h; exact h.elim
    case done =>
     rintro D xs W hxs ⟨dv, cvs, h1, h2⟩ hD hK
     have HK := Hj hK
     rw [hxs] at h1
     obtain ⟨s2, hs2⟩ : ∃ s, s = dataO b := ⟨_, rfl⟩
     rw [show dataF (chO b) = s2 from hs2.symm] at h1
     have hle := lensF_all b
     rw [HBN.out] at hle
     rw [hle] at h1
     have hkW : Keeps (fun _ => False) w W := HK9.out.trans h2.out (fun k hk e => by obtain ⟨_, _, _, _, e⟩ := e; have := e.1; omega)
     have HKW := Hj hkW
     have nt : ∀ (k : Nat) (c : Array Value) (t : TypeId) (fr : Nat × Nat), w9.heap[k]? = some (.cells c t fr) → t ≠ 29 → t ≠ 127 → t ≠ 5 → t ≠ 3 → ¬ Tb (pcS w.heap.size) w9 k := fun k c t fr hg e1 e2 e3 e4 e => not_ti (q := 0) hg (fun e => by rcases e.2 with e | e | e | e <;> first | exact e1 e | exact e2 e | exact e3 e | exact e4 e) (.inl e)
     have HS9W := Hj (h2.out.heap HS9.out (nt _ _ _ _ HS9.out (by decide) (by decide) (by decide) (by decide))); have HA9W := Hj (h2.out.heap HA9.out (nt _ _ _ _ HA9.out (by decide) (by decide) (by decide) (by decide)))
     have hsy := symbols_any (.slice ad n cap) hs b W (HH.out.below hkW.toBelow) (by rw [HHN.out]; omega) (fun y hy => by have := HLL.out y hy; omega) HQ.out.2.2.2.2.2.2.2.1
     have hlen : (tabO (symsL b)).length = tb.length := by rw [HTB.out]; simp [strB]
     rw [hlen, HTB.out, encB_strB] at hsy
     have HSY := Hj hsy
     have H1 := h1; have H2 := Hj h2.out.size; have HS2 := Hj hs2; have HDD0 := Hj hD
     clear hK hkW hsy hlen nt h1 h2 hxs hle hs2 hD
     gi_wp2
     refine ⟨trivial, rfl, (callsIn_wide.2 HSY.out).mono ?_⟩
     rintro e X1 ⟨ta, tc, rfl, hrt, hbt⟩
     have HRT := Hj (show RdT X1 (.slice ta tb.length tc) tb from hrt); have HBT := Hj hbt.toKeeps
     clear hrt hbt HSY
     have HX := Hj (H1.out.keep HBT.out)
     obtain ⟨a2, c2, rfl⟩ := qac H1.out.rD
     have HDV := Hj HX.out.rD
     have HDb := Hj HX.out.hD; have HRb := Hj HX.out.hR; have HLb := Hj HX.out.hL; have HSb := Hj (HBT.out.heap HS9W.out (fun e => e)); have HAb := Hj (HBT.out.heap HA9W.out (fun e => e)); have HKb := Hj (HBT.out.heap HK.out (fun e => e))
     have HKX := Hj (HKW.out.trans HBT.out (fun _ _ e => e))
     have hz9 : w9.heap.size ≤ X1.heap.size := by have := H2.out; have := HBT.out.size; omega
     have HZX := Hj hz9
     clear hz9 H1 H2 HS9W HA9W HK HS9 HA9 HF9 HB9 HSEC
     obtain ⟨s0, hs0⟩ : ∃ s, s = symO tb := ⟨_, rfl⟩
     obtain ⟨s1, hs1⟩ : ∃ s, s = recO pos (recsO b) := ⟨_, rfl⟩
     obtain ⟨s3, hs3⟩ : ∃ s, s = postO pos (bldO (b.map (·.1))) := ⟨_, rfl⟩
     have HS0e := Hj hs0; have HS1e := Hj hs1; have HS3e := Hj hs3
     clear hs0 hs1 hs3
     obtain ⟨Y0, hY0⟩ : ∃ Y0, Y0 = (X1.alloc (.cells #[.slice none 0 0, .slice none 0 0, .slice none 0 0, .slice none 0 0] 75)).alloc (.cells #[.int .i64 0, .int .i64 0, .int .i64 0] 134) := ⟨_, rfl⟩
     have hky : Keeps (fun _ => False) X1 Y0 := by rw [hY0]; exact ((Keeps.refl _ _).alloc _).alloc _
     have hsy : Y0.heap.size = X1.heap.size + 2 := by rw [hY0]; simp
     have hs0 : Y0.heap[X1.heap.size]? = some (.cells #[.slice none 0 0, .slice none 0 0, .slice none 0 0, .slice none 0 0] 75 (0, 0)) := by rw [hY0]; exact heap_alloc _ (heap_alloc_new X1 _)
     have he0 : Y0.heap[X1.heap.size + 1]? = some (.cells #[.int .i64 0, .int .i64 0, .int .i64 0] 134 (0, 0)) := by
      rw [hY0]
      have := heap_alloc_new (X1.alloc (.cells #[.slice none 0 0, .slice none 0 0, .slice none 0 0, .slice none 0 0] 75)) (.cells #[.int .i64 0, .int .i64 0, .int .i64 0] 134)
      rwa [World.size_alloc] at this
     have HYS := Hj hsy
     have HRT0 : Hid (∀ q, Keeps (fun k => k = X1.heap.size ∨ k = X1.heap.size + 1) X1 q → RdT q (.slice ta tb.length tc) tb) := Hj (fun q hq => Rd.below HRT.out (hq.toFresh (fun k hk e => by omega)).toBelow)
     have hen := symenc_any (.slice ta tb.length tc) tb Y0 (Rd.keeps HRT.out hky (fun _ _ e => e)) HTS.out HQ.out.2.2.2.2.2.2.2.2 HASC.out HQ.out.1
     rw [← HS0e.out] at hen
     have HEN := Hj hen
     clear hen
     have HY0 := Hj hY0; have HS0' := Hj hs0; have HE0' := Hj he0; have HKY0 := Hj hky
     clear hY0 hky hsy hs0 he0
     gi_upto_region 20 with fail
     rw [← HY0.out]
     gi_wp2
     refine ⟨trivial, rfl, (callsIn_wide.2 HEN.out).mono ?_⟩
     rintro e Y1 ⟨v0, rfl, hr0, hk0⟩
     obtain ⟨a0, c0, rfl⟩ := qac hr0
     have HV0 := Hj hr0
     have HKr : Hid (Keeps (fun k => k = X1.heap.size ∨ k = X1.heap.size + 1) X1 Y1) := Hj ((HKY0.out.trans hk0 (fun _ _ e => e)).mono (fun _ _ e => e.elim))
     have HSr := Hj (hk0.heap HS0'.out (fun e => e)); have HEr := Hj (hk0.heap HE0'.out (fun e => e))
     clear hr0 hk0 HEN HS0' HE0' HKY0
     have g1 : Y1.cell? ⟨X1.heap.size, 0, none⟩ = some (.slice none 0 0) := by rw [cell_of_row _ _ _ _ _ _ HSr.out]; rfl
     have g2 : Y1.frozen? ⟨X1.heap.size, 0, none⟩ = false := frozen_of_row _ _ _ _ _ HSr.out
     have g3 : Y1.cell? ⟨X1.heap.size + 1, 0, none⟩ = some (.int .i64 0) := by rw [cell_of_row _ _ _ _ _ _ HEr.out]; rfl
     have g4 : Y1.frozen? ⟨X1.heap.size + 1, 0, none⟩ = false := frozen_of_row _ _ _ _ _ HEr.out
     gi_upto_region 21 with fail
     clear g1 g2 g3 g4
     obtain ⟨Z1, hZ1⟩ : ∃ Z1, Z1 = (Y1.setCell ⟨X1.heap.size, 0, none⟩ (.slice a0 s0.length c0)).setCell ⟨X1.heap.size + 1, 0, none⟩ (.int .i64 0) := ⟨_, rfl⟩
     have kZ1 : Keeps (fun k => k = X1.heap.size ∨ k = X1.heap.size + 1) Y1 Z1 := by rw [hZ1]; exact ((Keeps.refl _ Y1).setCell (p := ⟨X1.heap.size, 0, none⟩) (fun _ => .inl rfl) _).setCell (p := ⟨X1.heap.size + 1, 0, none⟩) (fun _ => .inr rfl) _
     have sZ1 : Z1.heap[X1.heap.size]? = some (.cells #[.slice a0 s0.length c0, .slice none 0 0, .slice none 0 0, .slice none 0 0] 75 (0, 0)) := by
      rw [hZ1, heap_setCell_other _ _ _ _ (by simp)]
      exact (heap_setCell_same Y1 X1.heap.size 0 _ _ (.slice a0 s0.length c0) HSr.out).trans rfl
     have eZ1 : Z1.heap[X1.heap.size + 1]? = some (.cells #[.int .i64 0, .int .i64 0, .int .i64 0] 134 (0, 0)) := by
      rw [hZ1]
      exact (heap_setCell_same (Y1.setCell ⟨X1.heap.size, 0, none⟩ (.slice a0 s0.length c0)) (X1.heap.size + 1) 0 _ _ (.int .i64 0) ((heap_setCell_other Y1 _ _ _ (by simp)).trans HEr.out)).trans rfl
     rw [← hZ1]
     have HKs := Hj (HKr.out.trans kZ1 (fun k hk e => e)); have HSn := Hj sZ1; have HEn := Hj eZ1; have HKn := Hj kZ1
     clear hZ1 kZ1 sZ1 eZ1 HKr HSr HEr
     have HKr := HKs; have HSr := HSn; have HEr := HEn
     clear HKs HSn HEn
     have hz1 : X1.heap.size + 2 ≤ Z1.heap.size := qan HEr.out
     have HDK : Hid (∀ g, (Value.slice a2 s2.length c2).ownBlock = some g → w.heap.size < g ∧ g < X1.heap.size ∧ g ≠ D) := Hj (fun g hg => ⟨by have := (HDV.out.lt g hg).1; have := HWR.out; have := HWW.out; have := HZ9.out; omega, (HDV.out.lt g hg).2, fun e => by subst e; obtain ⟨cur, hc⟩ := qak HDV.out hg; rw [HKb.out] at hc; cases hc⟩)
     have HDD : Hid (w.heap.size < D ∧ D < X1.heap.size) := Hj ⟨by have := HWR.out; have := HWW.out; have := HZ9.out; have := HDD0.out; omega, qan HKb.out⟩
     have hLl := qan HLb.out; have hRl := qan HRb.out; have hSl := qan HSb.out; have hDl := qan HDb.out
     have NS : ∀ k, k < X1.heap.size → ¬ (k = X1.heap.size ∨ k = X1.heap.size + 1) := fun k hk e => by omega
     refine wpIn_wide.2 ?_
     have hcs : ∀ v ∈ cvs, ∃ a n c, v = .slice a n c := fun v hv => by
      obtain ⟨j, hj⟩ := List.mem_iff_getElem?.1 hv
      have hjl := (List.getElem?_eq_some_iff.1 hj).1
      obtain ⟨l, hl⟩ : ∃ l, (b.map fun x => lensOf x.2)[j]? = some l := ⟨_, List.getElem?_eq_getElem (by rw [List.length_map, HBN.out, ← HX.out.cn]; exact hjl)⟩
      obtain ⟨a, c, e⟩ := qac (HX.out.row j v l hj hl)
      exact ⟨a, _, c, e⟩
     have hRdR : RdR Z1 (.slice (some ⟨w1.heap.size + 1, 0, none⟩) n n) ((hs.zip cvs).map mkH) (recsO b) := by
      have hR1 := HKr.out.heap HRb.out (NS _ hRl)
      rw [HLV.out, hdr_rows hs cvs hcs] at hR1
      have hzl : ((hs.zip cvs).map mkH).length = n := by rw [List.length_map, List.length_zip, HHN.out, HX.out.cn, Nat.min_self]
      refine ⟨by rw [hzl, recsO, List.length_map, HBN.out], ?_, fun i h r hi hr => ?_⟩
      · unfold RdH
        rw [hzl]
        exact ⟨by rw [hdrC, qat, hzl], _, _, rfl, Nat.le_refl _, .inr ⟨_, _, rfl, fun j u hj => by rw [Nat.zero_add, cell_of_row _ _ _ _ _ _ hR1]; simpa using hj⟩⟩
      · rw [List.getElem?_map] at hi
        cases hz : (hs.zip cvs)[i]? with
        | none => rw [hz] at hi; cases hi
        | some p =>
          rw [hz] at hi
          obtain rfl := (Option.some.inj hi).symm
          obtain ⟨hp1, hp2⟩ := List.getElem?_zip_eq_some.1 hz
          rw [recsO, List.getElem?_map] at hr
          cases hx : b[i]? with
          | none => rw [hx] at hr; cases hr
          | some x =>
            rw [hx] at hr
            obtain rfl := (Option.some.inj hr).symm
            have hkz := HKX.out.trans HKr.out (fun k hk e => by have := HKX.out.size; omega)
            refine ⟨?_, ?_⟩
            · rw [mkH_lv]
              exact (HH.out.2.2 i p.1 x hp1 hx).1.below hkz.toBelow
            · have hro := HX.out.row i p.2 (lensOf x.2) hp2 (by rw [List.getElem?_map, hx]; rfl)
              obtain ⟨qa, qc, e⟩ := qac hro
              obtain ⟨p1, p2⟩ := p
              simp only at e
              subst e
              exact rd_row (HKr.out.row hro (fun g hg => NS g (hro.lt g hg).2))
     have hrec := recenc_any pos ta tc tb _ _ _ Z1 hRdR (by rw [List.length_map, List.length_zip, HHN.out]; omega) (HRT0.out _ HKr.out) HQ.out.2.2.2.2.2.2.2.2
      (fun r hr => by obtain ⟨x, hx, rfl⟩ := List.mem_map.1 hr; exact ⟨HLL.out x hx, (HN3.out x hx).1, (HN3.out x hx).2.1⟩) (fun r hr s hs => by obtain ⟨x, hx, rfl⟩ := List.mem_map.1 hr; exact HPO.out s (List.mem_flatMap.2 ⟨x, hx, hs⟩)) (fun r hr => by obtain ⟨x, hx, rfl⟩ := List.mem_map.1 hr; exact (HN3.out x hx).2.2) HQ.out.2.2.2.1
     rw [← HS1e.out] at hrec
     have HREC := Hj hrec
     clear hrec hcs
     clear hRdR
     have l1 : Z1.cell? ⟨w1.heap.size + 1 + 1, 0, none⟩ = some (.slice (some ⟨w1.heap.size + 1, 0, none⟩) n n) := by rw [cell_of_row _ _ _ _ _ _ (HKr.out.heap HLb.out (NS _ hLl))]; rfl
     go_upto_region 22 with (
      go_at_call 66
      refine HREC.out.mono ?_
      rintro e Y2 ⟨v1, rfl, hv1⟩
      obtain ⟨a1, c1, rfl⟩ := hv1.slice
      rw [qaa] at hv1 ⊢
      have HV1 := Hj hv1.1; have hk2 := hv1.2.toKeeps
      have HKq : Hid (Keeps (fun k => k = X1.heap.size ∨ k = X1.heap.size + 1) X1 Y2) := Hj (HKr.out.trans (hk2.mono (fun _ _ e => e.elim)) (fun k hk e => e))
      have HSq := Hj (hk2.heap HSr.out (fun e => e)); have HEq := Hj (hk2.heap HEr.out (fun e => e)); have HKz2 := Hj hk2
      clear hv1 hk2 HREC l1 HKr HSr HEr
      have g1 : Y2.cell? ⟨X1.heap.size, 1, none⟩ = some (.slice none 0 0) := by rw [cell_of_row _ _ _ _ _ _ HSq.out]; rfl
      have g2 : Y2.frozen? ⟨X1.heap.size, 1, none⟩ = false := frozen_of_row _ _ _ _ _ HSq.out
      have g3 : Y2.cell? ⟨X1.heap.size + 1, 1, none⟩ = some (.int .i64 0) := by rw [cell_of_row _ _ _ _ _ _ HEq.out]; rfl
      have g4 : Y2.frozen? ⟨X1.heap.size + 1, 1, none⟩ = false := frozen_of_row _ _ _ _ _ HEq.out)
     clear g1 g2 g3 g4
     obtain ⟨Z2, hZ2⟩ : ∃ Z2, Z2 = ((Y2.setCell ⟨X1.heap.size, 1, none⟩ (.slice a1 s1.length c1)).setCell ⟨X1.heap.size + 1, 1, none⟩ (.int .i64 0)) := ⟨_, rfl⟩
     have kZ2 : Keeps (fun k => k = X1.heap.size ∨ k = X1.heap.size + 1) Y2 Z2 := by rw [hZ2]; exact ((Keeps.refl _ Y2).setCell (p := ⟨X1.heap.size, 1, none⟩) (fun _ => .inl rfl) _).setCell (p := ⟨X1.heap.size + 1, 1, none⟩) (fun _ => .inr rfl) _
     have sZ2 : Z2.heap[X1.heap.size]? = some (.cells #[(.slice a0 s0.length c0), (.slice a1 s1.length c1), Value.slice none 0 0, Value.slice none 0 0] 75 (0, 0)) := by
      rw [hZ2, heap_setCell_other _ _ _ _ (by simp)]
      exact (heap_setCell_same Y2 X1.heap.size 1 _ _ (.slice a1 s1.length c1) HSq.out).trans rfl
     have eZ2 : Z2.heap[X1.heap.size + 1]? = some (.cells #[.int .i64 0, .int .i64 0, .int .i64 0] 134 (0, 0)) := by
      rw [hZ2]
      exact (heap_setCell_same (Y2.setCell ⟨X1.heap.size, 1, none⟩ (.slice a1 s1.length c1)) (X1.heap.size + 1) 1 _ _ (.int .i64 0) ((heap_setCell_other Y2 _ _ _ (by simp)).trans HEq.out)).trans rfl
     rw [← hZ2]
     have HKr := Hj (HKq.out.trans kZ2 (fun k hk e => e)); have HSr := Hj sZ2; have HEr := Hj eZ2; have HTZ2 := Hj kZ2
     clear hZ2 kZ2 sZ2 eZ2 HKq HSq HEq
     have l5 : Z2.cell? ⟨w1.heap.size, 0, none⟩ = some (.slice a2 s2.length c2) := by rw [cell_of_row _ _ _ _ _ _ (HKr.out.heap HDb.out (NS _ hDl))]; rfl
     have HKq := HKr; have HSq := HSr; have HEq := HEr
     clear HKr HSr HEr
     have g1 : Z2.cell? ⟨X1.heap.size, 2, none⟩ = some (.slice none 0 0) := by rw [cell_of_row _ _ _ _ _ _ HSq.out]; rfl
     have g2 : Z2.frozen? ⟨X1.heap.size, 2, none⟩ = false := frozen_of_row _ _ _ _ _ HSq.out
     refine wpIn_wide.2 ?_
     go_upto_region 23 with fail
     clear g1 g2 l5
     obtain ⟨Z3, hZ3⟩ : ∃ Z3, Z3 = Z2.setCell ⟨X1.heap.size, 2, none⟩ (.slice a2 s2.length c2) := ⟨_, rfl⟩
     have kZ3 : Keeps (fun k => k = X1.heap.size ∨ k = X1.heap.size + 1) Z2 Z3 := by rw [hZ3]; exact (Keeps.refl _ Z2).setCell (p := ⟨X1.heap.size, 2, none⟩) (fun _ => .inl rfl) _
     have sZ3 : Z3.heap[X1.heap.size]? = some (.cells #[(.slice a0 s0.length c0), (.slice a1 s1.length c1), (.slice a2 s2.length c2), Value.slice none 0 0] 75 (0, 0)) := by
      rw [hZ3]
      exact (heap_setCell_same Z2 X1.heap.size 2 _ _ (.slice a2 s2.length c2) HSq.out).trans rfl
     have eZ3 : Z3.heap[X1.heap.size + 1]? = some (.cells #[.int .i64 0, .int .i64 0, .int .i64 0] 134 (0, 0)) := by
      rw [hZ3]
      exact (heap_setCell_other Z2 _ _ _ (by simp)).trans HEq.out
     rw [← hZ3]
     have HKr := Hj (HKq.out.trans kZ3 (fun k hk e => e)); have HSr := Hj sZ3; have HEr := Hj eZ3; have HTZ3 := Hj kZ3
     clear hZ3 kZ3 sZ3 eZ3 HKq HSq HEq
     have hbn : (b.map (·.1)).length = n := by rw [List.length_map, HBN.out]
     have hkz3 := HKX.out.trans HKr.out (fun k hk e => by have := HKX.out.size; omega)
     have hbl := build_any (some ⟨w1.heap.size + 1 + 1 + 1, 0, none⟩) n lvs (b.map (·.1)) Z3 (by rw [hbn]; exact ⟨by rw [HLN.out, Nat.mul_one], _, _, rfl, Nat.le_refl _, .inr ⟨_, _, rfl, fun j u hj => by rw [Nat.zero_add, cell_of_row _ _ _ _ _ _ (HKr.out.heap HSb.out (NS _ hSl))]; simpa using hj⟩⟩)
      (fun k v l hv hl => by
        rw [HLV.out, List.getElem?_map] at hv
        rw [List.getElem?_map] at hl
        cases hh : hs[k]? with
        | none => rw [hh] at hv; cases hv
        | some h =>
          cases hx : b[k]? with
          | none => rw [hx] at hl; cases hl
          | some x =>
            rw [hh] at hv; rw [hx] at hl
            obtain rfl := Option.some.inj hv
            obtain rfl := Option.some.inj hl
            exact (HH.out.2.2 k h x hh hx).1.below hkz3.toBelow)
      (fun l hl x hx => by obtain ⟨y, hy, rfl⟩ := List.mem_map.1 hl; exact HLAB.out y hy x hx) (by rw [hbn]; omega) HQ.out.2.2.2.2.1
     rw [hbn] at hbl
     have HBL := Hj hbl
     clear hbl hbn hkz3
     have hz3 : X1.heap.size + 2 ≤ Z3.heap.size := qan HEr.out
     go_upto_region 24 with (first
      | (go_at_call 68
         refine HBL.out.mono ?_
         rintro e B3 ⟨vb, hdb, rfl, hrb, hkb⟩
         have hdl := hrb.1
         have hbq := HKr.out.trans (hkb.mono (fun _ _ e => e.elim)) (fun k hk e => e)
         have hpe := postenc_any pos ta tc tb vb hdb (bldO (b.map (·.1))) B3 hrb (by rw [hdl]; exact HQ.out.2.2.2.2.2.1) (HRT0.out _ hbq) HQ.out.2.2.2.2.2.2.2.2 HPE.out HPM.out HQ.out.2.2.2.2.2.2.1
         rw [← HS3e.out] at hpe
         have HPE := Hj hpe
         clear hpe hdl
         have HKb3 := Hj hkb; have HBQ := Hj hbq
         clear hrb hkb hbq)
      | (go_at_call 67
         refine HPE.out.mono ?_
         rintro e Y4 ⟨v3, rfl, hv3⟩
         obtain ⟨a3, c3, rfl⟩ := hv3.slice
         rw [qaa] at hv3 ⊢
         have HV3 := Hj hv3.1; have hk4 := HKb3.out.trans hv3.2.toKeeps (fun _ _ e => e)
         have HKq : Hid (Keeps (fun k => k = X1.heap.size ∨ k = X1.heap.size + 1) X1 Y4) := Hj (HKr.out.trans (hk4.mono (fun _ _ e => e.elim)) (fun k hk e => e))
         have HSq := Hj (hk4.heap HSr.out (fun e => e)); have HEq := Hj (hk4.heap HEr.out (fun e => e)); have HKz4 := Hj hk4
         clear hv3 hk4 HKr HSr HEr HBL HPE
         have g1 : Y4.cell? ⟨X1.heap.size, 3, none⟩ = some (.slice none 0 0) := by rw [cell_of_row _ _ _ _ _ _ HSq.out]; rfl
         have g2 : Y4.frozen? ⟨X1.heap.size, 3, none⟩ = false := frozen_of_row _ _ _ _ _ HSq.out
         have g3 : Y4.cell? ⟨X1.heap.size + 1, 2, none⟩ = some (.int .i64 0) := by rw [cell_of_row _ _ _ _ _ _ HEq.out]; rfl
         have g4 : Y4.frozen? ⟨X1.heap.size + 1, 2, none⟩ = false := frozen_of_row _ _ _ _ _ HEq.out))
     clear g1 g2 g3 g4
     obtain ⟨Z4, hZ4⟩ : ∃ Z4, Z4 = ((Y4.setCell ⟨X1.heap.size, 3, none⟩ (.slice a3 s3.length c3)).setCell ⟨X1.heap.size + 1, 2, none⟩ (.int .i64 0)) := ⟨_, rfl⟩
     have kZ4 : Keeps (fun k => k = X1.heap.size ∨ k = X1.heap.size + 1) Y4 Z4 := by rw [hZ4]; exact ((Keeps.refl _ Y4).setCell (p := ⟨X1.heap.size, 3, none⟩) (fun _ => .inl rfl) _).setCell (p := ⟨X1.heap.size + 1, 2, none⟩) (fun _ => .inr rfl) _
     have sZ4 : Z4.heap[X1.heap.size]? = some (.cells #[(.slice a0 s0.length c0), (.slice a1 s1.length c1), (.slice a2 s2.length c2), (.slice a3 s3.length c3)] 75 (0, 0)) := by
      rw [hZ4, heap_setCell_other _ _ _ _ (by simp)]
      exact (heap_setCell_same Y4 X1.heap.size 3 _ _ (.slice a3 s3.length c3) HSq.out).trans rfl
     have eZ4 : Z4.heap[X1.heap.size + 1]? = some (.cells #[.int .i64 0, .int .i64 0, .int .i64 0] 134 (0, 0)) := by
      rw [hZ4]
      exact (heap_setCell_same (Y4.setCell ⟨X1.heap.size, 3, none⟩ (.slice a3 s3.length c3)) (X1.heap.size + 1) 2 _ _ (.int .i64 0) ((heap_setCell_other Y4 _ _ _ (by simp)).trans HEq.out)).trans rfl
     rw [← hZ4]
     have HKr := Hj (HKq.out.trans kZ4 (fun k hk e => e)); have HSr := Hj sZ4; have HEr := Hj eZ4; have HTZ4 := Hj kZ4
     clear hZ4 kZ4 sZ4 eZ4 HKq HSq HEq
     have hAb := HKr.out.heap HAb.out (NS _ (qan HAb.out))
     have hKb := HKr.out.heap HKb.out (NS _ (qan HKb.out))
     have HA4 := Hj hAb; have HK4 := Hj hKb
     clear hAb hKb
     go_wp2_with (refine wpList_load_row rfl 134 _ rfl (X1.heap.size + 1) rfl 134 #[.int .i64 0, .int .i64 0, .int .i64 0] (0, 0) _ HEr.out Tryz.underlying134 rfl (by kernel_rfl) ?_)
     go_loopw [87] (fun i wr => wr = Z4 ∧ (i = .int .i64 0 ∨ i = .int .i64 1 ∨ i = .int .i64 2 ∨ i = .int .i64 3)) (fun i _ => 3 - (intOf i).toNat)
     case atStart => exact ⟨rfl, .inl rfl⟩
     case round =>
      obtain ⟨hwr, hi⟩ := hrel
      obtain rfl := hwr.symm
      rcases hi with rfl | rfl | rfl | rfl
      · go_wp2_with (refine qae _ rfl 134 _ _ rfl _ _ (.int .i64 0) rfl rfl rfl ?_)
        exact ⟨⟨by simp, .inr (.inl rfl)⟩, by simp [intOf]⟩
      · go_wp2_with (refine qae _ rfl 134 _ _ rfl _ _ (.int .i64 0) rfl rfl rfl ?_)
        exact ⟨⟨by simp, .inr (.inr (.inl rfl))⟩, by simp [intOf]⟩
      · go_wp2_with (refine qae _ rfl 134 _ _ rfl _ _ (.int .i64 0) rfl rfl rfl ?_)
        exact ⟨⟨by simp, .inr (.inr (.inr rfl))⟩, by simp [intOf]⟩
      · go_wp2_with (first
         | (refine wpList_load_row rfl 75 _ rfl X1.heap.size rfl 75 #[.slice a0 s0.length c0, .slice a1 s1.length c1, .slice a2 s2.length c2, .slice a3 s3.length c3] (0, 0) _ HSr.out Tryz.underlying75 rfl (by kernel_rfl) ?_)
         | (refine wpList_store_row rfl 75 _ _ rfl w.heap.size #[.slice a0 s0.length c0, .slice a1 s1.length c1, .slice a2 s2.length c2, .slice a3 s3.length c3] rfl rfl 75 _ HA4.out (by kernel_rfl) rfl (by simp [Value.oneCell']) ?_))
        obtain ⟨W9, hW9⟩ : ∃ W9, W9 = Z4.setRow w.heap.size #[.slice a0 s0.length c0, .slice a1 s1.length c1, .slice a2 s2.length c2, .slice a3 s3.length c3] := ⟨_, rfl⟩
        rw [← hW9]
        have k9 : Keeps (fun k => k = w.heap.size) Z4 W9 := by rw [hW9]; exact qax (Keeps.refl _ _) _ _ (fun _ => rfl)
        have r9 : W9.heap[w.heap.size]? = some (.cells #[.slice a0 s0.length c0, .slice a1 s1.length c1, .slice a2 s2.length c2, .slice a3 s3.length c3] 75 (0, 0)) := by rw [hW9]; exact setRow_heap _ _ _ _ _ _ HA4.out
        have hDD := HDD.out
        have d9 := k9.heap HK4.out (by omega)
        clear hW9
        refine ⟨by simp, .inl ⟨_, _, rfl, run_takeDeferred d9, ?_⟩⟩
        have hp : Keeps (fun k => k = D) W9 (W9.putObj D (.deferred none)) := Keeps.putObj _ _ _ rfl
        have k4 := k9.trans (S' := fun k => k = D) hp
        have fin : ∀ (v : Value) (b n : Nat) (xs : List Value), Z4.ownsRow b 5 1 v n xs → (∀ g, v.ownBlock = some g → g ≠ w.heap.size ∧ g ≠ D) → Holds (W9.putObj D (.deferred none)) v xs := fun v b n xs hr hg => qaq (hp.row (k9.row hr (fun g h e => (hg g h).1 e)) (fun g h e => (hg g h).2 e))
        have kA : Keeps (fun k => k = X1.heap.size ∨ k = X1.heap.size + 1) Y2 Z4 := ((HTZ2.out.trans HTZ3.out (fun _ _ e => e)).trans HKz4.out (fun _ _ e => e.elim)).trans HTZ4.out (fun _ _ e => e)
        have kB : Keeps (fun k => k = X1.heap.size ∨ k = X1.heap.size + 1) Y1 Z4 := (HKn.out.trans HKz2.out (fun _ _ e => e.elim)).trans kA (fun _ _ e => e)
        refine ⟨.tuple #[.agg #[.slice a0 s0.length c0, .slice a1 s1.length c1, .slice a2 s2.length c2, .slice a3 s3.length c3], .int .i64 0], qcy Tryz.results31 _ _ w.heap.size 75 #[.slice a0 s0.length c0, .slice a1 s1.length c1, .slice a2 s2.length c2, .slice a3 s3.length c3] (0, 0) _ rfl (hp.heap r9 (by omega)) Tryz.underlying75 rfl (by kernel_rfl), _, _, _, _, rfl, ?_, ?_, ?_, ?_, ?_⟩
        · rw [← HS0e.out]; exact fin _ _ _ _ (kB.row HV0.out (fun g hg => by have := (HV0.out.lt g hg).1; have := HYS.out; omega)) (fun g hg => by have := (HV0.out.lt g hg).1; have := HYS.out; omega)
        · rw [← HS1e.out]; exact fin _ _ _ _ (kA.row HV1.out (fun g hg => by have := (HV1.out.lt g hg).1; omega)) (fun g hg => by have := (HV1.out.lt g hg).1; omega)
        · rw [← HS2.out]; exact fin _ _ _ _ (HKr.out.row HDV.out (fun g hg => NS g (HDK.out g hg).2.1)) (fun g hg => ⟨by have := (HDK.out g hg).1; omega, (HDK.out g hg).2.2⟩)
        · rw [← HS3e.out]
          have hb3 := HKb3.out.size
          exact fin _ _ _ _ (HTZ4.out.row HV3.out (fun g hg => by have := (HV3.out.lt g hg).1; omega)) (fun g hg => by have := (HV3.out.lt g hg).1; omega)
        · have hwx := HKX.out.size
          exact ((HKX.out.trans HKr.out (fun k hk e => by omega)).trans k9 (fun k hk e => by omega)).trans hp (fun k hk e => by omega)
end
section
set_option maxHeartbeats 2000000
set_option maxRecDepth 100000
open Go.RowKit
structure EncOk (pos : ByteArray → Nat) (tb : List ByteArray) (b : List Ser) : Prop where
 few : b.length ≤ 1000000
 chk : modE b = 0
 ser : ∀ x ∈ b, x.2 ≠ [] ∧ x.2.length ≤ 1000000000 ∧ FitS x.2
 smp : qai b ≤ 1099511627776
 lab : ∀ x ∈ b, x.1.length ≤ 1000000
 tab : tabO (symsL b) = strB tb
 str : ∀ s ∈ tb, s.size ≤ 65535
 tbl : tb.length ≤ 1000000
 asc : Asc tb
 at_ : ∀ s ∈ symsL b, Pos tb s (pos s)
 sym : (symsL b).length ≤ 1099511627776
 len : ∀ x ∈ b, (lensOf x.2).length ≤ 1000000 ∧ lensOf x.2 ≠ [] ∧ ∀ m ∈ lensOf x.2, 1 ≤ m ∧ m ≤ 2147483647
 chs : (chO b).length ≤ 1000000000
 siz : ∀ x ∈ b, ∀ y ∈ x.1, y.1.size ≤ maxLen ∧ y.2.size ≤ maxLen
 sum : ((b.map (·.1)).map List.length).sum ≤ 1000000000
 pos_ : ∀ e ∈ bldO (b.map (·.1)), Pos tb e.1.1 (pos e.1.1) ∧ Pos tb e.1.2 (pos e.1.2)
 mono : ∀ e ∈ bldO (b.map (·.1)), e.2.length ≤ 1000000 ∧ Mono e.2 ∧ ∀ n ∈ e.2, n ≤ 1000000
 ents : (bldO (b.map (·.1))).length ≤ 1000000
 l0 : (symO tb).length ≤ 100000000
 l1 : (recO pos (recsO b)).length ≤ 100000000
 l2 : (dataO b).length ≤ 100000000
 l3 : (postO pos (bldO (b.map (·.1)))).length ≤ 100000000
 b0 : ∀ c ∈ symO tb, c < 256
 b1 : ∀ c ∈ recO pos (recsO b), c < 256
 b2 : ∀ c ∈ dataO b, c < 256
 b3 : ∀ c ∈ postO pos (bldO (b.map (·.1))), c < 256
theorem fileO_lt (s0 s1 s2 s3 : List Nat) (h0 : s0.length ≤ 100000000) (h1 : s1.length ≤ 100000000) (h2 : s2.length ≤ 100000000) (h3 : s3.length ≤ 100000000)
 (b0 : ∀ c ∈ s0, c < 256) (b1 : ∀ c ∈ s1, c < 256) (b2 : ∀ c ∈ s2, c < 256) (b3 : ∀ c ∈ s3, c < 256) : ∀ c ∈ fileO s0 s1 s2 s3, c < 256 := by
 have hb := fun k hk => qdf s0 s1 s2 s3 k hk h0 h1 h2 h3
 have hat : ∀ x ∈ atO s0 s1 s2 s3, x ≤ 400000100 := fun x hx => by
  simp only [atO, List.mem_cons, List.not_mem_nil, or_false] at hx
  rcases hx with rfl | rfl | rfl | rfl
  · exact hb 0 (by omega)
  · exact hb 1 (by omega)
  · exact hb 2 (by omega)
  · exact hb 3 (by omega)
 have hc : ∀ c ∈ contO (atO s0 s1 s2 s3), c < 256 := fun c hc => by
  obtain ⟨x, hx, hc⟩ := List.mem_flatMap.1 hc
  exact qcp x (by have := hat x hx; omega) c hc
 have hcl : (contO (atO s0 s1 s2 s3)).length ≤ 1000000000 := by have := qcv (atO s0 s1 s2 s3); have h4 : (atO s0 s1 s2 s3).length = 4 := rfl; omega
 have hbody : ∀ c ∈ bodyO s0 s1 s2 s3, c < 256 := fun c hm => (List.mem_append.1 hm).elim (bO_lt s0 s1 s2 s3 4 h0 h1 h2 h3 b0 b1 b2 b3 c) (qgz 5 _ (by decide) hc hcl c)
 have ht : ∀ c ∈ tailO, c < 256 := by decide
 exact fun c hm => (List.mem_append.1 hm).elim (crcApp_lt _ hbody c) (ht c)
theorem fileO_len (s0 s1 s2 s3 : List Nat) (h0 : s0.length ≤ 100000000) (h1 : s1.length ≤ 100000000) (h2 : s2.length ≤ 100000000) (h3 : s3.length ≤ 100000000) : (fileO s0 s1 s2 s3).length ≤ 1000000000 := by
 have hb := qdf s0 s1 s2 s3 4 (by omega) h0 h1 h2 h3
 have hc := qcv (atO s0 s1 s2 s3)
 have h4 : (atO s0 s1 s2 s3).length = 4 := rfl
 have h5 := qbt 5 (contO (atO s0 s1 s2 s3))
 have ht : tailO.length = 4 := rfl
 simp only [fileO, bodyO, List.length_append, qau, ht]
 omega
theorem fenc_at (pos : ByteArray → Nat) (tb : List ByteArray) (ad : Option Addr) (n cap : Nat) (hs : List Hdr) (b : List Ser) (s0 s1 s2 s3 : List Nat) (e0 : symO tb = s0) (e1 : recO pos (recsO b) = s1) (e2 : dataO b = s2) (e3 : postO pos (bldO (b.map (·.1))) = s3) (w : World) (h : RdB w (.slice ad n cap) hs b) (hn : b.length = n) (ok : EncOk pos tb b) (hT : TabZ w) (hF : TabF w) (hTC : TabC w) :
 Calls Tryz.prog 11 #[.slice ad n cap] w fun e w' => ∃ v, e = .returned (.tuple #[v, .int .i64 0]) ∧ w'.ownsRow w.heap.size 5 1 v (fileO s0 s1 s2 s3).length (u8s (fileO s0 s1 s2 s3)) ∧ (s0.length ≤ 100000000 ∧ s1.length ≤ 100000000 ∧ s2.length ≤ 100000000 ∧ s3.length ≤ 100000000) ∧ (∀ c ∈ fileO s0 s1 s2 s3, c < 256) ∧ Keeps (fun _ => False) w w' := by
 have hs' := sections_any pos tb ad n cap hs b w h hn (by rw [← hn]; exact ok.few) ok.chk ok.ser ok.smp ok.lab hT hF ok.tab ok.str ok.tbl ok.asc ok.at_ ok.sym (by have := ok.l0; omega) (by have := ok.l2; omega) ok.len ok.chs (by have := ok.l1; omega) ok.siz ok.sum ok.pos_ ok.mono ok.ents (by have := ok.l3; omega)
 have hll := And.intro ok.l0 (And.intro ok.l1 (And.intro ok.l2 ok.l3))
 have hbb := And.intro ok.b0 (And.intro ok.b1 (And.intro ok.b2 ok.b3))
 generalize symO tb = t0 at *
 generalize recO pos (recsO b) = t1 at *
 generalize postO pos (bldO (b.map (·.1))) = t3 at *
 generalize dataO b = t2 at *
 obtain rfl : s0 = t0 := e0.symm
 obtain rfl : s1 = t1 := e1.symm
 obtain rfl : s2 = t2 := e2.symm
 obtain rfl : s3 = t3 := e3.symm
 have HS := Hj hs'; have HTC := Hj hTC; have HLL := Hj hll; have HBB := Hj hbb
 clear h hT hF hTC hs' hll hbb ok
 go_enter Tryz.func11, Tryz.ntmps11
 have hcat : ∀ (q : World), Keeps (fun _ => False) w q → TabC q := fun q hq => HTC.out.keeps hq (fun e => e)
 have HCAT := Hj hcat
 clear hcat
 go_wp2_with (first
  | (go_at_call 31
     refine HS.out.mono ?_
     rintro e w1 ⟨v0, v1, v2, v3, rfl, r0, r1, r2, r3, k1⟩
     obtain ⟨a0, n0, c0, rfl⟩ : ∃ d n p, v0 = .slice d n p := by obtain ⟨d, p, h, _⟩ := r0; exact ⟨d, _, p, h⟩
     obtain ⟨a1, n1, c1, rfl⟩ : ∃ d n p, v1 = .slice d n p := by obtain ⟨d, p, h, _⟩ := r1; exact ⟨d, _, p, h⟩
     obtain ⟨a2, n2, c2, rfl⟩ : ∃ d n p, v2 = .slice d n p := by obtain ⟨d, p, h, _⟩ := r2; exact ⟨d, _, p, h⟩
     obtain ⟨a3, n3, c3, rfl⟩ : ∃ d n p, v3 = .slice d n p := by obtain ⟨d, p, h, _⟩ := r3; exact ⟨d, _, p, h⟩
     have R0 := Hj r0; have R1 := Hj r1; have R2 := Hj r2; have R3 := Hj r3; have K1 := Hj k1
     have hrow := heap_alloc_new w1 (.cells #[.slice a0 n0 c0, .slice a1 n1 c1, .slice a2 n2 c2, .slice a3 n3 c3] 75)
     have HROW := Hj hrow
     have hkk := (Keeps.refl (fun _ => False) w1).alloc (.cells #[.slice a0 n0 c0, .slice a1 n1 c1, .slice a2 n2 c2, .slice a3 n3 c3] 75)
     have HKK := Hj hkk
     have HASM := Hj (asm_any _ _ _ _ s0 s1 s2 s3 _ (r0.keeps hkk (fun _ _ e => e)) (r1.keeps hkk (fun _ _ e => e)) (r2.keeps hkk (fun _ _ e => e)) (r3.keeps hkk (fun _ _ e => e)) HLL.out.1 HLL.out.2.1 HLL.out.2.2.1 HLL.out.2.2.2 HBB.out.1 HBB.out.2.1 HBB.out.2.2.1 HBB.out.2.2.2 ((HCAT.out _ k1).keeps hkk (fun e => e)))
     clear r0 r1 r2 r3 k1 hrow hkk)
  | (refine wpList_store_row rfl 75 _ _ rfl w1.heap.size #[.slice a0 n0 c0, .slice a1 n1 c1, .slice a2 n2 c2, .slice a3 n3 c3] rfl rfl 75 _ (heap_alloc_new w1 _) (by kernel_rfl) rfl (by simp [Value.oneCell']) ?_
     rw [World.setRow_alloc_new])
  | (refine wpList_load_row rfl 75 _ rfl w1.heap.size rfl 75 _ (0, 0) _ HROW.out Tryz.underlying75 rfl (by kernel_rfl) ?_)
  | (go_at_call 32
     refine HASM.out.mono ?_
     rintro e w2 ⟨v, rfl, hr, k2⟩
     obtain ⟨av, cv, rfl⟩ := qac hr
     have HR := Hj hr; have K2 := Hj k2
     clear hr k2))
 go_ret2
 refine ⟨_, rfl, qao HR.out (fun g hg => by have := (HR.out.lt g hg).1; have := K1.out.size; have := HKK.out.size; omega), HLL.out, ?_, (K1.out.trans HKK.out (fun _ _ e => e)).trans K2.out (fun _ _ e => e)⟩
 exact fileO_lt s0 s1 s2 s3 HLL.out.1 HLL.out.2.1 HLL.out.2.2.1 HLL.out.2.2.2 HBB.out.1 HBB.out.2.1 HBB.out.2.2.1 HBB.out.2.2.2
theorem fenc_any (pos : ByteArray → Nat) (tb : List ByteArray) (ad : Option Addr) (n cap : Nat) (hs : List Hdr) (b : List Ser) (w : World) (h : RdB w (.slice ad n cap) hs b) (hn : b.length = n) (ok : EncOk pos tb b) (hT : TabZ w) (hF : TabF w) (hTC : TabC w) :
 Calls Tryz.prog 11 #[.slice ad n cap] w fun e w' => ∃ v s0 s1 s2 s3, e = .returned (.tuple #[v, .int .i64 0]) ∧ w'.ownsRow w.heap.size 5 1 v (fileO s0 s1 s2 s3).length (u8s (fileO s0 s1 s2 s3)) ∧ (s0.length ≤ 100000000 ∧ s1.length ≤ 100000000 ∧ s2.length ≤ 100000000 ∧ s3.length ≤ 100000000) ∧ (∀ c ∈ fileO s0 s1 s2 s3, c < 256) ∧ Keeps (fun _ => False) w w' :=
 (fenc_at pos tb ad n cap hs b _ _ _ _ rfl rfl rfl rfl w h hn ok hT hF hTC).mono fun _ _ ⟨v, h⟩ => ⟨v, _, _, _, _, h⟩
end
end Go.Proofs.YtfpcgcbehdogjaaGreatDoor
