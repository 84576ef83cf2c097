/-
  Lemmas on which LTopTruncates rests, packed out of the texts YVals XStr2 YFeed XPar YTop; each for all arguments under the hypotheses it names.
-/
import Derived.Test.YtfpcgcbehdogjaaGreatDoorT28
import Derived.Test.YtfpcgcbehdogjaaGreatDoorT26
import Derived.Test.YtfpcgcbehdogjaaGreatDoorT18
namespace Go.Proofs.YtfpcgcbehdogjaaGreatDoor
section
open Go.RowKit
abbrev bS : List Ser := [([xS], mS)]
theorem w_bld : bldO (bS.map (·.1)) = [(xS, [0])] := by
 have h1 : bldM (bS.map (·.1)) = [(xS, [0])] := by kernel_rfl
 have h2 : sortL [xS] = [xS] := by unfold sortL; exact List.mergeSort_singleton _
 unfold bldO
 rw [h1, show ([(xS, [0])] : List Ent).map (·.1) = [xS] from rfl, h2]
 show [(xS, numsM [(xS, [0])] xS)] = [(xS, [0])]
 kernel_rfl
theorem w_data : dataO bS = chunkC mS := by
 have h : dataO bS = chunkC (partS mS 0) ++ [] := by kernel_rfl
 rw [h, List.append_nil]
 exact congrArg chunkC (show partS mS 0 = mS by kernel_rfl)
theorem w_lens : lensOf mS = [18] := by kernel_rfl
theorem w_recs : recsO bS = [([xS], [18])] := by unfold recsO; rw [List.map_cons, w_lens]; rfl
theorem bS_mem {x : Ser} (h : x ∈ bS) : x = ([xS], mS) := List.mem_singleton.1 h
theorem encS : EncOk posS tbS bS where
 few := by decide
 chk := by kernel_rfl
 ser := fun x hx => by rw [bS_mem hx]; exact ⟨by decide, by decide, fitS⟩
 smp := by decide
 lab := fun x hx => by rw [bS_mem hx]; decide
 tab := v_tab
 str := v_siz
 tbl := by decide
 asc := v_asc
 at_ := fun s hs => by
  have hs : s ∈ [sA, s1] := hs
  simp only [List.mem_cons, List.not_mem_nil, or_false] at hs
  rcases hs with rfl | rfl
  · exact v_pos.1
  · exact v_pos.2
 sym := by decide
 len := fun x hx => by
  rw [bS_mem hx]
  show (lensOf mS).length ≤ _ ∧ lensOf mS ≠ [] ∧ ∀ m ∈ lensOf mS, _
  rw [w_lens]; decide
 chs := by decide
 siz := fun x hx y hy => by
  rw [bS_mem hx] at hy
  rw [List.mem_singleton.1 hy]
  exact ⟨Nat.le_of_ble_eq_true (by kernel_rfl), Nat.le_of_ble_eq_true (by kernel_rfl)⟩
 sum := by decide
 pos_ := fun e he => by
  rw [w_bld] at he
  rw [List.mem_singleton.1 he]
  exact v_pos
 mono := fun e he => by
  rw [w_bld] at he
  rw [List.mem_singleton.1 he]
  exact ⟨by decide, fun j hj => by have : j = 0 := by simpa using hj
                                   subst this; decide, by decide⟩
 ents := by rw [w_bld]; decide
 l0 := by rw [v_sym]; decide
 l1 := by rw [w_recs, v_rec]; decide
 l2 := by rw [w_data, v_len]; decide
 l3 := by rw [w_bld, v_post]; decide
 b0 := by rw [v_sym]; decide
 b1 := by rw [w_recs, v_rec]; decide
 b2 := by rw [w_data]; exact v_chk
 b3 := by rw [w_bld, v_post]; decide
theorem encode_small (ad : Option Addr) (cap : Nat) (hd : Hdr) (w : World) (h : RdB w (.slice ad 1 cap) [hd] bS) (hT : TabZ w) (hF : TabF w) (hTC : TabC w) :
 Calls Tryz.prog 11 #[.slice ad 1 cap] w fun e w' => ∃ v, e = .returned (.tuple #[v, .int .i64 0]) ∧ w'.ownsRow w.heap.size 5 1 v (fileO (symO tbS) (recO posS [([xS], [(chunkC mS).length])]) (chunkC mS) (postO posS [(xS, [0])])).length (u8s (fileO (symO tbS) (recO posS [([xS], [(chunkC mS).length])]) (chunkC mS) (postO posS [(xS, [0])]))) ∧ Keeps (fun _ => False) w w' :=
 (fenc_at posS tbS ad 1 cap [hd] bS _ _ _ _ rfl (by rw [w_recs, v_len]) w_data (by rw [w_bld]) w h rfl encS hT hF hTC).mono fun _ _ ⟨v, h1, h2, _, _, h3⟩ => ⟨v, h1, h2, h3⟩
end
section
set_option maxHeartbeats 4000000
set_option maxRecDepth 100000
open Go.RowKit
def fileS : List Nat := fileO (symO tbS) (recO posS [([xS], [(chunkC mS).length])]) (chunkC mS) (postO posS [(xS, [0])])
theorem stores_ok (w : World) (hT : TabZ w) (hF : TabF w) (hTC : TabC w) (hp : ∀ v q, Keeps (fun _ => False) w q → Holds q v (u8s fileS) → ∀ q', Keeps (fun _ => False) q q' → qhy v q' [2, 1, 49, 1, 97] [1, 1, 1, 0, 1, 18] (chunkC mS) [1, 1, 0, 1, 0]) (hn : ∀ q, Keeps (fun _ => False) w q → qcl (.slice none 0 0) q) :
 Calls Tryz.prog 5 #[] w fun e w' => e = .returned (.bool true) ∧ Keeps (fun _ => False) w w' := by
 have hsm := small_any
 have HHC : Hid (∀ q, Keeps (fun _ => False) w q → TabZ q ∧ TabF q ∧ TabC q) := Hj (fun q hq => ⟨hT.keeps hq (fun e => e), hF.keeps hq (fun e => e), hTC.keeps hq (fun e => e)⟩)
 have HP := Hj hp; have HN := Hj hn
 clear hp hn hT hF hTC
 go_enter Tryz.func5, Tryz.ntmps5
 go_upto_region 2 with (first
  | (go_at_call 17; refine (hsm _).mono ?_; rintro e w1 ⟨b1, hd1, rfl, hr1, hk1⟩
     have HEN := Hj (encode_small (some ⟨b1, 0, none⟩) 1 hd1 w1 hr1 (HHC.out _ hk1).1 (HHC.out _ hk1).2.1 (HHC.out _ hk1).2.2)
     have HK1 := Hj hk1
     clear hr1 hk1)
  | (go_at_call 11; refine HEN.out.mono ?_; rintro e w2 ⟨v2, rfl, ho2, hk2⟩))
 have hk02 := HK1.out.trans hk2 (fun _ _ e => e)
 have HDEC := Hj (decode_ok v2 [2, 1, 49, 1, 97] [1, 1, 1, 0, 1, 18] (chunkC mS) [1, 1, 0, 1, 0] w2 (fun _ u w' => ∃ hd, RdB w' u [hd] [([xS], mS)]) (fun q hq => HP.out v2 w2 hk02 (qaq ho2) q hq) (fun q v0 v1 v2 v3 hq h0 h1 h2 h3 => (secdec_small v0 v1 v2 v3 q h0 h1 h2 h3 (HHC.out _ (hk02.trans hq (fun _ _ e => e))).1 (HHC.out _ (hk02.trans hq (fun _ _ e => e))).2.1).mono (fun e w' h => by obtain ⟨v, hd, rfl, hr, hk⟩ := h; exact ⟨v, rfl, ⟨hd, hr⟩, hk⟩)))
 obtain ⟨a2, c2, rfl⟩ := qac ho2
 have HK2 := Hj hk02
 clear hk02 hk2 ho2 HEN
 go_upto_region 3 with (go_at_call 18; refine HDEC.out.mono ?_; rintro e w3 ⟨q3, u3, rfl, ⟨hd3, hr3⟩, hk3⟩)
 have hvb : Hid (∀ q, Keeps (fun _ => False) w q → Calls Tryz.prog 14 #[.slice none 0 0] q fun e w' => e = .returned (.agg #[.int .i64 1, .int .i64 3, .int .i64 0, .int .i64 0, .int .i64 0, .int .i64 0, .int .i64 0, .int .i64 0]) ∧ Keeps (fun _ => False) q w') := Hj (fun q hq => qld _ q (fun q' hq' => HN.out q' (hq.trans hq' (fun _ _ e => e))))
 have hfl : ∀ q, (Instr.field 46 (.agg #[.int .i64 1, .int .i64 3, .int .i64 0, .int .i64 0, .int .i64 0, .int .i64 0, .int .i64 0, .int .i64 0]) 0).run Tryz.prog q = .ok (.int .i64 1) q := fun _ => by kernel_rfl
 have HK3 := Hj (HK2.out.trans hk3 (fun _ _ e => e))
 have HR3 := Hj hr3
 clear hk3 hr3 HDEC
 go_wp2_with (first
  | (go_at_call 17
     refine (hsm _).mono ?_
     rintro e w4 ⟨b4, hd4, rfl, hr4, hk4⟩
     have HEQ := Hj (equal_same u3 (.slice (some ⟨b4, 0, none⟩) 1 1) [hd3] [hd4] [([xS], mS)] w4 (HR3.out.below hk4.toBelow) hr4 (by decide) (fun x hx => by simp only [List.mem_singleton] at hx; subst hx; exact ⟨by decide, by decide⟩))
     have HK4 := Hj (HK3.out.trans hk4 (fun _ _ e => e))
     clear hr4 hk4)
  | (go_at_call 19
     refine HEQ.out.mono ?_
     rintro e w5 ⟨rfl, hb5⟩
     have HK5 := Hj (HK4.out.trans hb5.toKeeps (fun _ _ e => e))
     have HV5 := Hj (hvb.out _ HK5.out)
     clear hb5)
  | (go_at_call 14
     refine HV5.out.mono ?_
     rintro e w6 ⟨rfl, hk6⟩
     have HK6 := Hj (HK5.out.trans hk6 (fun _ _ e => e))
     clear hk6))
 go_ret
 exact ⟨rfl, HK6.out⟩
end
section
set_option maxHeartbeats 2000000
set_option maxRecDepth 100000
open Go.RowKit
theorem Holds.toRd {w : World} {v : Value} {xs : List Value} (h : Holds w v xs) : Rd 1 w v xs.length xs := by
 obtain ⟨a, cap, e, h1, h2⟩ := h
 exact ⟨by rw [Nat.mul_one], a, cap, e, h1, h2.imp (fun e => by rw [e]; rfl) id⟩
theorem pfeed_any (p m cap : Nat) (ad : Option Addr) (l : List Nat) (w : World) (h : IsP w p (.slice none 0 0) 0 0 (partV 0)) (hx : Holds w (.slice ad m cap) (u8s l)) (hm : m = l.length) (hb : ∀ c ∈ l, c < 256) (hl : m ≤ 1000000000) (hbad : ∀ j, j ≤ m → pErr (l.take j) = 3) (hT : TabC w) (hTp : 1 ≠ p) :
 Calls Tryz.prog 13 #[.pointer (some ⟨p, 0, none⟩), .slice ad m cap] w fun e w' => e = .returned (.int .i64 0) ∧ (∃ v i c st, IsP w' p v i c st) ∧ Keeps (fun k => k = p) w w' := by
 have hrd := hx.toRd
 rw [qaa, ← hm] at hrd
 have hpl := qan h
 have c0 : w.cell? ⟨p, 0, none⟩ = some (.slice none 0 0) := by rw [cell_of_row _ _ _ _ _ _ h]; rfl
 have c5 : w.cell? ⟨p, 5, none⟩ = some (.bool false) := by rw [cell_of_row _ _ _ _ _ _ h]; rfl
 have H := Hj h; have HRD := Hj hrd; have HB := Hj hb; have HBAD := Hj hbad; have HT := Hj hT; have HM := Hj hm; have HPL := Hj hpl
 clear h hrd hx hb hbad hT hm hpl
 go_enter Tryz.func13, Tryz.ntmps13
 go_upto_region 6 with (first
  | (at_builtin
     refine appE elU rfl _ _ rfl w.heap.size _ _ 0 m [] (u8s l) rfl rfl (World.ownsRow_nil _ _ _ _) HRD.out (qdv l) (by omega) (Nat.le_refl _) ?_
     intro v6 w6 hown6 hg6' hn6'
     have hg6 : w.grownBy w6 none := hg6'
     have k6 : Keeps (fun _ => False) w w6 := (Keeps.refl _ w).grown hg6 (fun k _ e => by cases e)
     have hP6 := k6.heap H.out (fun e => e)
     have d0 : w6.cell? ⟨p, 0, none⟩ = some (.slice none 0 0) := by rw [cell_of_row _ _ _ _ _ _ hP6]; rfl
     have f0 : w6.frozen? ⟨p, 0, none⟩ = false := frozen_of_row _ _ _ _ _ hP6
     obtain ⟨a6, c6, rfl⟩ := qac hown6
     have HO6 := Hj hown6; have HP6 := Hj hP6; have K6 := Hj k6
     clear hown6 hg6 hg6' hn6' hP6 k6))
 simp only [Nat.zero_add, List.nil_append] at HO6 ⊢
 obtain ⟨W7, hW7⟩ : ∃ W7, W7 = w6.setCell ⟨p, 0, none⟩ (.slice a6 m c6) := ⟨_, rfl⟩
 have k7 : Keeps (fun k => k = p) w6 W7 := by rw [hW7]; exact (Keeps.refl (fun k => k = p) w6).setCell (p := ⟨p, 0, none⟩) (fun _ => rfl) _
 have hP7 : IsP W7 p (.slice a6 m c6) 0 0 (partV 0) := by
  have h1 := heap_setCell_same w6 p 0 _ _ (.slice a6 m c6) HP6.out
  rw [hW7]
  exact h1.trans rfl
 have kw : Keeps (fun k => k = p) w W7 := (K6.out.mono (fun _ _ e => e.elim)).trans k7 (fun _ _ e => e)
 have hO7 : W7.ownsRow w.heap.size 5 1 (.slice a6 m c6) m (u8s l) := k7.row HO6.out (fun g hg e => by have := (HO6.out.lt g hg).1; have := HPL.out; omega)
 have c4 : W7.cell? ⟨p, 4, none⟩ = some (.int .i64 0) := by rw [cell_of_row _ _ _ _ _ _ hP7]; rfl
 have hadv : Calls Tryz.prog 33 #[.pointer (some ⟨p, 0, none⟩)] W7 fun e w' => e = .returned (.tuple #[]) ∧ (∃ i c st, IsP w' p (.slice a6 m c6) i c st) ∧ Keeps (fun k => k = p) W7 w' := by
  rcases id hO7.2 with ⟨hv, hm0⟩ | ⟨g, cp, cur, hv, _⟩
  · simp only [Value.slice.injEq] at hv
    obtain ⟨rfl, rfl, rfl⟩ := hv
    refine padv_nil p W7 hP7 (fun q hk => ?_)
    refine (qfc (.slice none 0 0) [] q (Holds.nil _) (by simp) (by simp) ((HT.out.keeps kw (fun e => hTp e)).keeps hk (fun e => hTp e))).mono ?_
    rintro e w2 ⟨v0, v1, v2, v3, k2, _, h1⟩
    have h3 := HBAD.out 0 (Nat.le_refl _)
    rw [List.take_zero] at h3
    have he := h1 (by rw [h3]; decide)
    rw [h3] at he
    exact ⟨he, k2⟩
  · simp only [Value.slice.injEq] at hv
    obtain ⟨rfl, _, rfl⟩ := hv
    exact padv_some p w.heap.size g m _ l W7 hP7 hO7 HM.out HB.out hl HBAD.out (HT.out.keeps kw (fun e => hTp e)) hTp
 have HADV := Hj hadv; have HKW := Hj kw
 rw [← hW7]
 clear hW7 k7 hP7 kw hO7 hadv HO6 HP6 K6
 go_wp2_with (go_at_call 33; refine HADV.out.mono ?_; rintro e w8 ⟨rfl, hs, k8⟩; have HS := Hj hs; have K8 := Hj k8; clear hs k8)
 go_ret
 obtain ⟨i, c, st, h8⟩ := HS.out
 exact ⟨rfl, ⟨_, i, c, st, h8⟩, HKW.out.trans K8.out (fun _ _ e => e)⟩
end
section
open Go.RowKit
theorem p_err : pErr fileS = 0 := by kernel_rfl
theorem p_0 : pSec fileS 0 = [2, 1, 49, 1, 97] := by kernel_rfl
theorem p_1 : pSec fileS 1 = [1, 1, 1, 0, 1, 18] := by kernel_rfl
theorem p_2 : pSec fileS 2 = chunkC mS := by kernel_rfl
theorem p_3 : pSec fileS 3 = [1, 1, 0, 1, 0] := by kernel_rfl
theorem p_len : fileS.length ≤ 1000000000 := Nat.le_of_ble_eq_true (by kernel_rfl)
theorem p_lt : ∀ c ∈ fileS, c < 256 := all_lt (by kernel_rfl)
theorem p_nil : pErr [] = 3 := by kernel_rfl
theorem parses_small (v : Value) (q : World) (h : Holds q v (u8s fileS)) (hT : TabC q) : qhy v q [2, 1, 49, 1, 97] [1, 1, 1, 0, 1, 18] (chunkC mS) [1, 1, 0, 1, 0] := by
 refine (qfc v fileS q h p_len p_lt hT).mono ?_
 rintro e w' ⟨v0, v1, v2, v3, hk, h0, _⟩
 obtain ⟨he, q0, q1, q2, q3⟩ := h0 p_err
 rw [p_0] at q0; rw [p_1] at q1; rw [p_2] at q2; rw [p_3] at q3
 exact ⟨v0, v1, v2, v3, _, _, _, _, _, he, q0, q1, q2, q3, hk⟩
theorem parses_nil (q : World) (hT : TabC q) : qcl (.slice none 0 0) q := by
 refine (qfc (.slice none 0 0) [] q (Holds.nil _) (by decide) (by simp) hT).mono ?_
 rintro e w' ⟨v0, v1, v2, v3, hk, _, h1⟩
 have he := h1 (by rw [p_nil]; decide)
 rw [p_nil] at he
 exact ⟨he, hk⟩
theorem stores_any (w : World) (hT : TabZ w) (hF : TabF w) (hTC : TabC w) : Calls Tryz.prog 5 #[] w fun e w' => e = .returned (.bool true) ∧ Keeps (fun _ => False) w w' :=
 stores_ok w hT hF hTC (fun v _ hk h q' hk' => parses_small v q' (h.keeps hk' (fun _ _ e => e)) ((hTC.keeps hk (fun e => e)).keeps hk' (fun e => e))) (fun q hk => parses_nil q (hTC.keeps hk (fun e => e)))
end
section
set_option maxHeartbeats 4000000
set_option maxRecDepth 100000
open Go.RowKit
theorem toptrunc_any (ad : Option Addr) (n cap : Nat) (cut : Nat) (hs : List Hdr) (b : List Ser) (w : World) (h : RdB w (.slice ad n cap) hs b) (hn : b.length = n) (hc : cut ≤ 65535) (hl : b.length ≤ 4398046511104)
 (hok : Small b → (b.flatMap (·.1)).length ≤ 200 → modE b = 0 → ∃ pos tb, EncOk pos tb b) (hT : TabZ w) (hF : TabF w) (hTC : TabC w) :
 Calls Tryz.prog 4 #[.slice ad n cap, .int .u16 (cut : Int)] w fun e w' => e = .returned (.bool true) ∧ Keeps (fun _ => False) w w' := by
 have HBL := Hj (block_any (.slice ad n cap) hs b w h hl)
 have HST := Hj (fun q (hk : Keeps (fun _ => False) w q) => stores_any q (hT.keeps hk (fun e => e)) (hF.keeps hk (fun e => e)) (hTC.keeps hk (fun e => e)))
 have HEN : Hid (∀ q, Keeps (fun _ => False) w q → Small b → (b.flatMap (·.1)).length ≤ 200 → modE b = 0 → Calls Tryz.prog 11 #[.slice ad n cap] q fun e w' => ∃ v s0 s1 s2 s3, e = .returned (.tuple #[v, .int .i64 0]) ∧ w'.ownsRow q.heap.size 5 1 v (fileO s0 s1 s2 s3).length (u8s (fileO s0 s1 s2 s3)) ∧ (s0.length ≤ 100000000 ∧ s1.length ≤ 100000000 ∧ s2.length ≤ 100000000 ∧ s3.length ≤ 100000000) ∧ (∀ c ∈ fileO s0 s1 s2 s3, c < 256) ∧ Keeps (fun _ => False) q w') := Hj (fun q hk a1 a2 a3 => by
  obtain ⟨pos, tb, ok⟩ := hok a1 a2 a3
  exact fenc_any pos tb ad n cap hs b q (h.below hk.toBelow) hn ok (hT.keeps hk (fun e => e)) (hF.keeps hk (fun e => e)) (hTC.keeps hk (fun e => e)))
 have HTC := Hj hTC
 clear h hok hT hF hTC hl
 go_enter Tryz.func4, Tryz.ntmps4
 go_upto_region 4 with (first
  | (go_at_call 10; refine HBL.out.mono ?_; rintro e w1 ⟨he1, b1⟩; have B1 := Hj b1.toKeeps; clear b1; rcases he1 with rfl | ⟨rfl, a1, a2, a3⟩)
  | (go_at_call 5; refine (HST.out _ B1.out).mono ?_; rintro e w2 ⟨rfl, k2⟩)
  | (go_at_call 11; refine (HEN.out _ B1.out a1 a2 a3).mono ?_; rintro e w2 ⟨v, s0, s1, s2, s3, rfl, hr, hll, hbb, k2⟩; have HR := Hj hr; have HLL := Hj hll; have HBB := Hj hbb; have K2 := Hj (B1.out.trans k2 (fun _ _ e => e)); obtain ⟨va, vc, rfl⟩ := qac hr; clear hr hll hbb k2 a1 a2 a3))
 · go_ret
   exact ⟨rfl, B1.out.trans k2 (fun _ _ e => e)⟩
 obtain ⟨m, hm⟩ : ∃ m, m = (fileO s0 s1 s2 s3).length := ⟨_, rfl⟩
 have hm0 : 0 < m := by rw [hm]; exact fileO_pos _ _ _ _
 have hml : m ≤ 1000000000 := by rw [hm]; exact fileO_len _ _ _ _ HLL.out.1 HLL.out.2.1 HLL.out.2.2.1 HLL.out.2.2.2
 obtain ⟨k, hk⟩ : ∃ k : Nat, k = cut % m := ⟨_, rfl⟩
 have hkm : k < m := by rw [hk]; exact Nat.mod_lt _ hm0
 have hrem : ((cut : Int) % (m : Int)) = (k : Int) := by rw [hk]; omega
 rw [← hm] at HR ⊢
 have HM := Hj hm; have HK := Hj hk
 have hm0' : ¬ (m : Int) = 0 := by omega
 have hmi : (0 : Int) < (m : Int) := by omega
 clear hm hk
 go_upto_region 7 with fail
 rw [hrem]
 go_upto_region 10 with (first
  | (go_at_call 12; refine (pnew_any _).mono ?_; rintro e w3 ⟨rfl, ip, k3⟩; have IP := Hj ip; have K3 := Hj k3; clear ip k3))
 have HRI := Hj (id HR.out.2)
 rcases id HR.out.2 with ⟨_, h0⟩ | ⟨g, c', cur, hv, _, _, hmc, _⟩
 · exact absurd h0 (by omega)
 simp only [Value.slice.injEq] at hv
 obtain ⟨rfl, _, rfl⟩ := hv
 have hgl : g < w2.heap.size := (HR.out.lt g rfl).2
 obtain ⟨l, hl⟩ : ∃ l, l = (fileO s0 s1 s2 s3).take k := ⟨_, rfl⟩
 have hll : k = l.length := by rw [hl, List.length_take, ← HM.out]; omega
 have hbad : ∀ j, j ≤ k → pErr (l.take j) = 3 := fun j hj => by
  rw [hl, List.take_take]
  exact pErr_prefix s0 s1 s2 s3 HLL.out.1 HLL.out.2.1 HLL.out.2.2.1 HLL.out.2.2.2 _ (by rw [← HM.out]; omega)
 have hbb : ∀ c ∈ l, c < 256 := fun c hc => HBB.out c (List.mem_of_mem_take (hl ▸ hc))
 have hcrc : 1 ≠ w2.heap.size := by have h1 := HTC.out.pos; have h2 := K2.out.size; omega
 have HH : Hid (∀ q, Keeps (fun k => k = w2.heap.size) w2 q → Holds q (.slice (some ⟨g, 0, none⟩) k vc) (u8s l)) := Hj (fun q hq => by
  have h1 := Holds.take (qaq (hq.row HR.out (fun x hx e => by simp [Value.ownBlock] at hx; omega))) k (by omega)
  have ht : (u8s (fileO s0 s1 s2 s3)).take k = u8s l := by rw [hl]; simp [u8s]
  rw [ht] at h1
  exact h1)
 have HTQ := Hj (fun q (hq : Keeps (fun k => k = w2.heap.size) w2 q) => (HTC.out.keeps K2.out (fun e => e)).keeps hq hcrc)
 have HPB : Hid (∀ q, Keeps (fun k => k = w2.heap.size) w2 q → qcl (.slice (some ⟨g, 0, none⟩) k vc) q) := Hj (fun q hq => by
  refine (qfc _ l q (HH.out q hq) (by omega) hbb (HTQ.out q hq)).mono ?_
  rintro e w9 ⟨v0, v1, v2, v3, k9, _, h1⟩
  have h3 : pErr l = 3 := by have := hbad k (Nat.le_refl _); rwa [List.take_of_length_le (by omega)] at this
  have he := h1 (by rw [h3]; decide)
  rw [h3] at he
  exact ⟨he, k9⟩)
 have HFE := Hj (fun q (h1 : IsP q w2.heap.size (.slice none 0 0) 0 0 (partV 0)) (h2 : Keeps (fun k => k = w2.heap.size) w2 q) => pfeed_any _ k vc _ l q h1 (HH.out q h2) hll hbb (by omega) hbad (HTQ.out q h2) hcrc)
 have HWK : Hid (∀ q, Keeps (fun k => k = w2.heap.size) w2 q → Keeps (fun _ => False) w q) := Hj (fun q hq => K2.out.trans hq (fun k h1 e => by have := K2.out.size; omega))
 have K3' : Hid (Keeps (fun k => k = w2.heap.size) w2 w3) := Hj (K3.out.mono (fun _ _ e => e.elim))
 have hk0 : (0 : Int) ≤ (k : Int) := by omega
 have hkv : (k : Int) ≤ (vc : Int) := by omega
 clear hbad hbb hcrc hl hll HRI HR hgl
 go_upto_region 11 with (first
  | (go_at_call 13; refine (HFE.out _ IP.out K3'.out).mono ?_; rintro e w4 ⟨rfl, ⟨v4, i4, c4, st4, ip4⟩, k4⟩; have IP4 := Hj ip4; have K4 := Hj (K3'.out.trans k4 (fun _ _ e => e)); clear ip4 k4))
 have HVB : Hid (∀ q, Keeps (fun k => k = w2.heap.size) w2 q → Calls Tryz.prog 14 #[.slice (some ⟨g, 0, none⟩) k vc] q fun e w' => e = .returned (.agg #[.int .i64 1, .int .i64 3, .int .i64 0, .int .i64 0, .int .i64 0, .int .i64 0, .int .i64 0, .int .i64 0]) ∧ Keeps (fun _ => False) q w') := Hj (fun q hq => qld (.slice (some ⟨g, 0, none⟩) k vc) q (fun r hr => HPB.out r (hq.trans (S' := fun _ => False) hr (fun _ _ e => e.elim))))
 have HCB := Hj (fun q (hq : Keeps (fun k => k = w2.heap.size) w2 q) => qch (.slice (some ⟨g, 0, none⟩) k vc) q (HPB.out q hq))
 have hfl : ∀ q, (Instr.field 46 (.agg #[.int .i64 1, .int .i64 3, .int .i64 0, .int .i64 0, .int .i64 0, .int .i64 0, .int .i64 0, .int .i64 0]) 0).run Tryz.prog q = .ok (.int .i64 1) q := fun _ => by kernel_rfl
 go_wp2_with (first
  | (go_at_call 5; refine (HST.out _ (HWK.out _ K4.out)).mono ?_; rintro e w5 ⟨rfl, k5⟩; have IP5 := Hj (k5.heap IP4.out (fun e => e)); have K5 := Hj (K4.out.trans k5 (fun _ _ e => e.elim)); clear k5)
  | (go_at_call 14; refine (HVB.out _ K5.out).mono ?_; rintro e w6 ⟨rfl, k6⟩; have IP6 := Hj (k6.heap IP5.out (fun e => e)); have K6 := Hj (K5.out.trans k6 (fun _ _ e => e.elim)); clear k6)
  | (go_at_call 15; refine (perr_any _ _ _ _ _ _ IP6.out).mono ?_; rintro e w7 ⟨rfl, rfl⟩)
  | (go_at_call 16; refine (HCB.out _ K6.out).mono ?_; rintro e w8 ⟨rfl, k8⟩; have K8 := Hj (K6.out.trans k8 (fun _ _ e => e.elim)); clear k8))
 go_ret
 exact ⟨rfl, HWK.out _ K8.out⟩
end
end Go.Proofs.YtfpcgcbehdogjaaGreatDoor
