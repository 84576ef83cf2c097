/-
  Lemmas on which LTopTruncates rests, packed out of the texts WModD XEqS WArcA WArcB WArcC YLrg XArgs YArgs; each for all arguments under the hypotheses it names.
-/
import Derived.Test.YtfpcgcbehdogjaaGreatDoorT15
import Derived.SizedLaws
namespace Go.Proofs.YtfpcgcbehdogjaaGreatDoor
section
set_option maxHeartbeats 4000000
set_option maxRecDepth 100000
open Go.RowKit
attribute [local go_sem ↓] Go.wp_at_zero Go.wp_at_succ
theorem serE_lab {p : Ser} (h : chkE none p.1 ≠ 0) : serE p = chkE none p.1 := by unfold serE; rw [if_pos h]
theorem serE_emp {p : Ser} (h : chkE none p.1 = 0) (h2 : p.2.length = 0) : serE p = 21 := by unfold serE; rw [if_neg (by simpa using h), if_pos h2]
theorem serE_tim {p : Ser} (h : chkE none p.1 = 0) (h2 : ¬ p.2.length = 0) : serE p = ascE cmpT 20 p.2 := by unfold serE; rw [if_neg (by simpa using h), if_neg h2]
theorem rCheck_any (v : Value) (hs : List Hdr) (b : List Ser) (w : World) (h : RdB w v hs b) (hl : hs.length ≤ 1099511627776) (hN : qai b ≤ 1099511627776) (hf : ∀ x ∈ b, Fit x) :
 Calls Tryz.prog 30 #[v] w fun e w' => e = .returned (.int .i64 (modE b)) ∧ Below w.heap.size w w' := by
 have H0 := Hj (rlarge_any v hs b w h hl hN)
 have HH := Hj h
 have HLN := Hj h.1
 obtain ⟨ad, cap, rfl, hcap⟩ := Rd.slice h.2.1
 clear h hN
 by_cases hbig : 1048576 < b.length ∨ 16777216 < qai b
 · have HF : Hid (modE b = 7) := Hj (by unfold modE; rw [if_pos hbig])
   rw [if_pos hbig] at H0
   clear hbig
   go_enter Tryz.func30, Tryz.ntmps30
   go_wp2_with (go_at_call 58; refine H0.out.mono ?_; rintro e w1 ⟨rfl, hb1⟩)
   go_ret
   exact ⟨qag HF.out.symm, hb1⟩
 · have HM : Hid (modE b = bloE none b) := Hj (by unfold modE; rw [if_neg hbig])
   rw [if_neg hbig] at H0
   clear hbig
   go_enter Tryz.func30, Tryz.ntmps30
   go_wp2_with (go_at_call 58; refine H0.out.mono ?_; rintro e w1 ⟨rfl, hb1⟩)
   have HB1 := Hj hb1
   clear hb1 H0
   go_loopw [3] (fun i wr => MRel b w i wr) (fun i _ => hs.length - (intOf i).toNat)
   case atStart => exact ⟨0, by omega, rfl, Hj rfl, HB1.out⟩
   case round =>
    obtain ⟨k, hk, rfl, HE, hbr⟩ := hrel
    by_cases hkl : k < hs.length
    · obtain ⟨x, hx⟩ := qaj hkl
      obtain ⟨p, hp⟩ := qaj (l := b) (k := k) (by have := HLN.out; omega)
      have hrd := HH.out.below hbr
      have s1 := hrd.2.2 _ _ _ hx hp
      obtain ⟨bb, off, rfl, c1, c2⟩ := RdH.at hrd.2.1 hx
      have hkl' : (k : Int) < (hs.length : Int) := by omega
      have hk0 : (0 : Int) ≤ (k : Int) := by omega
      have hfp := hf _ (List.mem_of_getElem? hp)
      have HCK := Hj (refCheck_any x.lv p.1 wr s1.1 hfp.1)
      have HTM := Hj (fun wq (hq : Below wr.heap.size wr wq) => times_any x.sv p.2 wq (s1.below hq).2 hfp.2)
      have HC2 := Hj c2; have HC1 := Hj c1
      have HP := Hj hp; have HX := Hj hx; have HRD := Hj hrd; have HBR := Hj hbr
      have HLN2 := Hj s1.lens
      obtain ⟨E, hE⟩ : ∃ E, E = chkE none p.1 := ⟨_, rfl⟩
      rw [← hE] at HCK
      have HLE := Hj hE
      clear hx hp hrd s1 hE hbr hkl hfp c2
      obtain ⟨xa, xn, xc, xsa, xsn, xsc⟩ := x
      simp only [Hdr.lv, Hdr.sv] at HCK HTM HC2 HLN2 HC1
      have D2 : Hid (∀ wq, Below wr.heap.size wr wq → wq.cell? ⟨bb, off + k * 2 + 1, none⟩ = some (.slice xsa xsn xsc)) := Hj (fun wq hq => (hq.cell (World.block_lt_of_cell? wr _ HC2.out)).trans HC2.out)
      have D1 : Hid (∀ wq, Below wr.heap.size wr wq → wq.cell? ⟨bb, off + k * 2, none⟩ = some (.slice xa xn xc)) := Hj (fun wq hq => (hq.cell (World.block_lt_of_cell? wr _ HC1.out)).trans HC1.out)
      by_cases hz : E = 0
      · subst hz
        by_cases hsn : p.2.length = 0
        · have hxs : ((xsn : Int) == 0) = true := by rw [beq_iff_eq, HLN2.out.2]; omega
          have HS : Hid (serE p = 21) := Hj (serE_emp HLE.out.symm hsn)
          have HF : Hid (bloE none b = 21) := Hj (by rw [HE.out, qaz HP.out, qhv _ _ _ (by rw [HS.out]; decide)]; exact HS.out)
          clear hsn hk HE hf
          go_wp2_with (go_at_call 59; refine HCK.out.mono ?_; rintro e w3 ⟨rfl, hb3⟩; have d3 := D2.out _ hb3)
          go_ret
          exact ⟨qag (HM.out.trans HF.out).symm, HBR.out.trans (hb3.mono HBR.out.size)⟩
        · have hxs : ((xsn : Int) == 0) = false := by rw [beq_eq_false_iff_ne, HLN2.out.2]; omega
          have HS := Hj (serE_tim HLE.out.symm hsn)
          obtain ⟨A, hA⟩ : ∃ A, A = ascE cmpT 20 p.2 := ⟨_, rfl⟩
          rw [← hA] at HTM HS
          clear hA hsn
          by_cases hz2 : A = 0
          · subst hz2
            rcases Nat.eq_zero_or_pos k with rfl | hkp
            · simp only [Nat.zero_mul, Nat.add_zero] at c1 D2
              have h0l : (0 : Int) < (hs.length : Int) := by omega
              clear hkl' hk hf
              go_wp2_with (first
               | (go_at_call 59; refine HCK.out.mono ?_; rintro e w3 ⟨rfl, hb3⟩; have d3 := D2.out _ hb3)
               | (go_at_call 60; refine (HTM.out _ hb3).mono ?_; rintro e w4 ⟨rfl, hb4⟩))
              have hb5 := hb3.trans (hb4.mono hb3.size)
              exact ⟨MRel.next HP.out HE.out (qkr _ _ HS.out) (HBR.out.trans (hb5.mono HBR.out.size)), by simp [intOf]; omega⟩
            · obtain ⟨j, rfl⟩ : ∃ j, k = j + 1 := ⟨k - 1, by omega⟩
              obtain ⟨q, hq⟩ := qaj (l := b) (k := j) (by have := HLN.out; omega)
              obtain ⟨y, hy⟩ := qaj (l := hs) (k := j) (by omega)
              obtain ⟨b', off', hbb, e1, e2⟩ := RdH.at HRD.out.2.1 hy
              simp only [Option.some.injEq, Addr.mk.injEq, and_true] at hbb
              obtain ⟨rfl, rfl⟩ := hbb
              have hj0 : (0 : Int) ≤ (j : Int) := by omega
              have hj1 : (j : Int) + 1 < (hs.length : Int) := by omega
              have hj2 : (j : Int) < (hs.length : Int) := by omega
              have hj3 : (0 : Int) < (j : Int) + 1 := by omega
              have hj4 : (0 : Int) ≤ (j : Int) + 1 := by omega
              have hjw : IntKind.i64.wrap (j : Int) = (j : Int) := by rw [IntKind.wrap_i64]; omega
              have HQ : Hid (bloE none b = bloE (some q) (b.drop (j + 1))) := Hj (by rw [HE.out, qgw, hq])
              have s2 := HRD.out.2.2 _ _ _ hy hq
              have s1 := HRD.out.2.2 _ _ _ HX.out HP.out
              have HCM := Hj (fun wq (hw : Below wr.heap.size wr wq) => qfm y.lv (.slice xa xn xc) q.1 p.1 wq (s2.below hw).1 (s1.below hw).1 (hf _ (List.mem_of_getElem? hq)).1 (hf _ (List.mem_of_getElem? HP.out)).1)
              obtain ⟨ya, yn, yc, ysa, ysn, ysc⟩ := y
              simp only [Hdr.lv] at HCM
              have HE1 : Hid (∀ wq, Below wr.heap.size wr wq → wq.cell? ⟨bb, off + j * 2, none⟩ = some (.slice ya yn yc)) := Hj (fun wq hq => (hq.cell (World.block_lt_of_cell? wr _ e1)).trans e1)
              obtain ⟨C, hC⟩ : ∃ C, C = cmpL q.1 p.1 := ⟨_, rfl⟩
              rw [← hC] at HCM
              have hbl := HQ.out.trans (by rw [qaz HP.out, qgi q p _ HS.out, show cmpB q p = C from hC.symm])
              have HBL := Hj hbl
              have HBN : Hid (bloE (some q) (p :: b.drop (j + 1 + 1)) = if C = 0 then 19 else if 0 < C then 16 else bloE (some p) (b.drop (j + 1 + 1))) := Hj (by rw [qgi q p _ HS.out, show cmpB q p = C from hC.symm])
              clear hkp hk hq hy hkl' hf s1 s2 e1 e2 hC hbl
              go_wp2_with (first
               | (go_at_call 59; refine HCK.out.mono ?_; rintro e w3 ⟨rfl, hb3⟩; have d3 := D2.out _ hb3)
               | (go_at_call 60; refine (HTM.out _ hb3).mono ?_; rintro e w4 ⟨rfl, hb4⟩))
              have hb5 := hb3.trans (hb4.mono hb3.size)
              have CC : Hid (∀ wq, Below w4.heap.size w4 wq → wq.cell? ⟨bb, off + j * 2, none⟩ = some (.slice ya yn yc) ∧ wq.cell? ⟨bb, off + (j + 1) * 2, none⟩ = some (.slice xa xn xc) ∧ True ∧ True ∧ True) := Hj (fun wq hw => ⟨HE1.out _ (hb5.trans (hw.mono hb5.size)), D1.out _ (hb5.trans (hw.mono hb5.size)), trivial, trivial, trivial⟩)
              have CB : Hid (∀ wq, Below w4.heap.size w4 wq → Calls Tryz.prog 39 #[.slice ya yn yc, .slice xa xn xc] wq fun e w' => e = .returned (.int .i64 C) ∧ Below w4.heap.size w4 w') := Hj (fun wq hw => (HCM.out _ (hb5.trans (hw.mono hb5.size))).mono fun e w' ⟨he, hb⟩ => ⟨he, hw.trans (hb.mono hw.size)⟩)
              have HB5 := Hj (HBR.out.trans (hb5.mono HBR.out.size))
              clear hb3 hb4 hb5 d3 c1
              refine qas (fun x => Below w4.heap.size w4 x) (by kernel_rfl) (by kernel_rfl) ((Below.refl _ _).drew) ?_
              repeat (
               refine wpQuiet_step (fun K hK => ?_)
               go_simp
               first
                | (refine hK _ ?_; clear hK K)
                | (refine ⟨_, fun _ _ => rfl, hK _ ?_⟩; clear hK K)
                | (apply Exists.intro
                   refine ⟨fun wq hwq => ?_, hK _ ?_⟩
                   (first
                    | (go_at_call 39; exact CB.out _ hwq)
                    | (have hc := CC.out _ hwq; go_simp; exact rfl)
                    | (obtain ⟨hc0, hc1, hc2, hc3, hc4⟩ := CC.out _ hwq; go_simp; exact rfl))
                   clear hK K))
              refine wpQuiet_nil ?_
              intro wq hwq
              have HBQ := Hj (HB5.out.trans (hwq.mono HB5.out.size))
              clear hwq CC CB
              by_cases hc0 : C = 0
              · have he : (C == 0) = true := by simpa using hc0
                have HF := Hj (HBL.out.trans (if_pos hc0))
                clear hc0
                go_wp2
                go_ret
                exact ⟨qag (HM.out.trans HF.out).symm, HBQ.out⟩
              · have he : (C == 0) = false := by simpa using hc0
                by_cases hcp : 0 < C
                · have HF := Hj (HBL.out.trans ((if_neg hc0).trans (if_pos hcp)))
                  clear hc0
                  go_wp2
                  go_ret
                  exact ⟨qag (HM.out.trans HF.out).symm, HBQ.out⟩
                · have hcn : C ≤ 0 := by omega
                  have HF := Hj (HBN.out.trans ((if_neg hc0).trans (if_neg hcp)))
                  clear hc0 hcp
                  go_wp2
                  exact ⟨MRel.next HP.out HQ.out HF.out HBQ.out, by simp [intOf]; omega⟩
          · have hn : (A != 0) = true := by simpa using hz2
            have he : (A == 0) = false := by simpa using hz2
            have HF : Hid (bloE none b = A) := Hj (by rw [HE.out, qaz HP.out, qhv _ _ _ (by rw [HS.out]; exact hz2)]; exact HS.out)
            clear hz2 hk HE hf
            go_wp2_with (first
             | (go_at_call 59; refine HCK.out.mono ?_; rintro e w3 ⟨rfl, hb3⟩; have d3 := D2.out _ hb3)
             | (go_at_call 60; refine (HTM.out _ hb3).mono ?_; rintro e w4 ⟨rfl, hb4⟩))
            go_ret
            have hb5 := hb3.trans (hb4.mono hb3.size)
            exact ⟨qag (HM.out.trans HF.out).symm, HBR.out.trans (hb5.mono HBR.out.size)⟩
      · have hn : (E != 0) = true := by simpa using hz
        have he : (E == 0) = false := by simpa using hz
        have HS : Hid (serE p = E) := Hj (by rw [serE_lab (by rw [← HLE.out]; exact hz)]; exact HLE.out.symm)
        have HF : Hid (bloE none b = E) := Hj (by rw [HE.out, qaz HP.out, qhv _ _ _ (by rw [HS.out]; exact hz)]; exact HS.out)
        clear hz hk HE hf
        go_wp2_with (go_at_call 59; refine HCK.out.mono ?_; rintro e w3 ⟨rfl, hb3⟩)
        go_ret
        exact ⟨qag (HM.out.trans HF.out).symm, HBR.out.trans (hb3.mono HBR.out.size)⟩
    · obtain rfl : k = hs.length := by have := HLN.out; omega
      have HF : Hid (bloE none b = 0) := Hj (by rw [HE.out, HLN.out, List.drop_length]; unfold bloE; rfl)
      clear HE
      go_wp2
      go_ret
      exact ⟨qag (HM.out.trans HF.out).symm, hbr⟩
end
section
set_option maxHeartbeats 2000000
set_option maxRecDepth 100000
open Go.RowKit
attribute [local go_sem ↓] Go.wp_at_zero Go.wp_at_succ
theorem same_same (v v' : Value) (l : List Smp) (w : World) (h : RdS w v l) (h' : RdS w v' l) (hl : l.length ≤ 1099511627776) :
 Calls Tryz.prog 9 #[v, v'] w fun e w' => e = .returned (.bool true) ∧ Below w.heap.size w w' := by
 have HH := Hj h; have HH' := Hj h'
 obtain ⟨ad, cap, rfl, hcap⟩ := Rd.slice h
 obtain ⟨ad', cap', rfl, hcap'⟩ := Rd.slice h'
 clear h h'
 go_enter Tryz.func9, Tryz.ntmps9
 go_wp2
 go_loopw [5] (fun c wr => ∃ k : Nat, k ≤ l.length ∧ c = .int .i64 (k : Nat) ∧ Below w.heap.size w wr) (fun c _ => l.length - (intOf c).toNat)
 case atStart => exact ⟨0, by omega, rfl, Below.refl _ _⟩
 case round =>
  obtain ⟨k, hk, rfl, hbr⟩ := hrel
  have g1 := HH.out.below hbr
  have g2 := HH'.out.below hbr
  by_cases hlt : k < l.length
  · obtain ⟨⟨x, y⟩, hx⟩ := qaj hlt
    obtain ⟨b1, o1, rfl, c1, c1'⟩ := RdS.at g1 hx
    obtain ⟨b2, o2, rfl, c2, c2'⟩ := RdS.at g2 hx
    have hklt : (k : Int) < l.length := by omega
    have hk0 : (0 : Int) ≤ (k : Int) := by omega
    have HBR := Hj hbr
    clear hx g1 g2 hlt hbr
    go_wp2
    go_quiet (fail)
    go_wp2
    exact ⟨⟨k + 1, by omega, rfl, qav HBR.out _⟩, by simp [intOf]; omega⟩
  · obtain rfl : k = l.length := by omega
    go_wp2
    go_ret
    exact ⟨rfl, hbr⟩
theorem equal_same (v v' : Value) (hs hs' : List Hdr) (b : List Ser) (w : World) (h : RdB w v hs b) (h' : RdB w v' hs' b) (hl : b.length ≤ 1099511627776) (hf : ∀ x ∈ b, Fit x) :
 Calls Tryz.prog 19 #[v, v'] w fun e w' => e = .returned (.bool true) ∧ Below w.heap.size w w' := by
 have HH := Hj h; have HH' := Hj h'
 have hlen : hs.length = b.length := h.1
 have hlen' : hs'.length = b.length := h'.1
 obtain ⟨ad, cap, rfl, hcap⟩ := Rd.slice h.2.1
 obtain ⟨ad', cap', rfl, hcap'⟩ := Rd.slice h'.2.1
 rw [hlen] at hcap HH ⊢
 rw [hlen'] at hcap' HH' ⊢
 clear h h'
 go_enter Tryz.func19, Tryz.ntmps19
 go_wp2
 go_loopw [5] (fun c wr => ∃ k : Nat, k ≤ b.length ∧ c = .int .i64 (k : Nat) ∧ Below w.heap.size w wr) (fun c _ => b.length - (intOf c).toNat)
 case atStart => exact ⟨0, by omega, rfl, Below.refl _ _⟩
 case round =>
  obtain ⟨k, hk, rfl, hbr⟩ := hrel
  have g1 := HH.out.below hbr
  have g2 := HH'.out.below hbr
  by_cases hlt : k < b.length
  · obtain ⟨p, hp⟩ := qaj hlt
    obtain ⟨x, hx⟩ := qaj (l := hs) (k := k) (by omega)
    obtain ⟨y, hy⟩ := qaj (l := hs') (k := k) (by omega)
    rw [← hlen] at g1
    rw [← hlen'] at g2
    obtain ⟨b1, o1, rfl, c1, c1'⟩ := RdH.at g1.2.1 hx
    obtain ⟨b2, o2, rfl, c2, c2'⟩ := RdH.at g2.2.1 hy
    have s1 := g1.2.2 _ _ _ hx hp
    have s2 := g2.2.2 _ _ _ hy hp
    have hfp := hf _ (List.mem_of_getElem? hp)
    have CM : Hid (∀ wq, Below wr.heap.size wr wq → Calls Tryz.prog 39 #[.slice x.la x.ln x.lc, .slice y.la y.ln y.lc] wq fun e w' => e = .returned (.int .i64 0) ∧ Below wr.heap.size wr w') := Hj (fun wq hq => by
     have := qfm x.lv y.lv p.1 p.1 wq (s1.below hq).1 (s2.below hq).1 hfp.1 hfp.1
     rw [(cmpL_zero p.1 p.1).2 rfl] at this
     exact this.mono fun e w' ⟨he, hb⟩ => ⟨he, hq.trans (hb.mono hq.size)⟩)
    have CS : Hid (∀ wq, Below wr.heap.size wr wq → Calls Tryz.prog 9 #[.slice x.sa x.sn x.sc, .slice y.sa y.sn y.sc] wq fun e w' => e = .returned (.bool true) ∧ Below wr.heap.size wr w') := Hj (fun wq hq =>
     (same_same x.sv y.sv p.2 wq (s1.below hq).2 (s2.below hq).2 hfp.2).mono fun e w' ⟨he, hb⟩ => ⟨he, hq.trans (hb.mono hq.size)⟩)
    obtain ⟨xa, xn, xc, xsa, xsn, xsc⟩ := x
    obtain ⟨ya, yn, yc, ysa, ysn, ysc⟩ := y
    have CC : Hid (∀ wq, Below wr.heap.size wr wq → wq.cell? ⟨b1, o1 + k * 2, none⟩ = some (.slice xa xn xc) ∧ wq.cell? ⟨b1, o1 + k * 2 + 1, none⟩ = some (.slice xsa xsn xsc) ∧ wq.cell? ⟨b2, o2 + k * 2, none⟩ = some (.slice ya yn yc) ∧ wq.cell? ⟨b2, o2 + k * 2 + 1, none⟩ = some (.slice ysa ysn ysc) ∧ True) := Hj (fun wq hq => by
     refine ⟨?_, ?_, ?_, ?_, trivial⟩
     · rw [hq.cell (World.block_lt_of_cell? wr _ c1)]; exact c1
     · rw [hq.cell (World.block_lt_of_cell? wr _ c1')]; exact c1'
     · rw [hq.cell (World.block_lt_of_cell? wr _ c2)]; exact c2
     · rw [hq.cell (World.block_lt_of_cell? wr _ c2')]; exact c2')
    have hklt : (k : Int) < b.length := by omega
    have hk0 : (0 : Int) ≤ (k : Int) := by omega
    have HBR := Hj hbr
    clear hx hy hp g1 g2 hlt hbr s1 s2 c1 c1' c2 c2' hlen hlen' hfp
    go_wp2_with fail
    refine qas (fun x => Below wr.heap.size wr x) (by kernel_rfl) (by kernel_rfl) ((Below.refl _ _).drew) ?_
    repeat (
     refine wpQuiet_step (fun K hK => ?_)
     go_simp
     first
      | (refine hK _ ?_; clear hK K)
      | (refine ⟨_, fun _ _ => rfl, hK _ ?_⟩; clear hK K)
      | (apply Exists.intro
         refine ⟨fun wq hwq => ?_, hK _ ?_⟩
         (first
          | (go_at_call 39; exact CM.out _ hwq)
          | (go_at_call 9; exact CS.out _ hwq)
          | (have hc := CC.out _ hwq; go_simp; exact rfl)
          | (obtain ⟨hc0, hc1, hc2, hc3, hc4⟩ := CC.out _ hwq; go_simp; exact rfl))
         clear hK K))
    refine wpQuiet_nil ?_
    intro wq hwq
    have HBQ := Hj (HBR.out.trans (hwq.mono HBR.out.size))
    clear hwq CC CM CS
    go_wp2
    exact ⟨⟨k + 1, by omega, rfl, HBQ.out⟩, by simp [intOf]; omega⟩
  · obtain rfl : k = b.length := by omega
    go_wp2
    go_ret
    exact ⟨rfl, hbr⟩
end
section
open Go.RowKit
end
section
set_option maxHeartbeats 1000000
set_option maxRecDepth 100000
open Go.RowKit
theorem strings_any (v : Value) (l : List Lab) (w : World) (h : RdL w v l) (hl : l.length ≤ 4398046511104) :
 Calls Tryz.prog 111 #[v] w fun e w' => ∃ v', e = .returned v' ∧ w'.ownsRow w.heap.size 9 1 v' (2 * l.length) (strC (strsL l)) ∧ Below w.heap.size w w' := by
 have HH := Hj h
 obtain ⟨ad, cap, rfl, hcap⟩ := h.slice
 clear h
 go_enter Tryz.func111, Tryz.ntmps111
 go_wp2
 go_loopw [3, 4] (fun o i wr => ∃ k : Nat, k ≤ l.length ∧ i = .int .i64 (k : Nat) ∧ wr.ownsRow w.heap.size 9 1 o (2 * k) (strC (strsL (l.take k))) ∧ Below w.heap.size w wr) (fun _ i _ => l.length - (intOf i).toNat)
 case atStart => exact ⟨0, by omega, rfl, World.ownsRow_nil _ _ _ _, Below.refl _ _⟩
 case round =>
  obtain ⟨k, hk, rfl, hown, hbr⟩ := hrel
  by_cases hlt : k < l.length
  · obtain ⟨⟨x, y⟩, hx⟩ := qaj hlt
    obtain ⟨b1, o1, rfl, c1, c2⟩ := HH.out.at hx
    have CC : Hid (∀ q, Below w.heap.size w q → q.cell? ⟨b1, o1 + k * 2, none⟩ = some (.string x) ∧ q.cell? ⟨b1, o1 + k * 2 + 1, none⟩ = some (.string y)) := Hj (fun q hq =>
     ⟨(hq.cell (World.block_lt_of_cell? w _ c1)).trans c1, (hq.cell (World.block_lt_of_cell? w _ c2)).trans c2⟩)
    have hklt : (k : Int) < l.length := by omega
    have hk0 : (0 : Int) ≤ (k : Int) := by omega
    have HBR := Hj hbr; have HOWN := Hj hown; have HX := Hj (qkq l hx)
    have hsz := hbr.size
    have HALL : Hid (Below w.heap.size w (wr.drew.alloc (.cells #[.string x, .string y] 9))) := Hj (hbr.drew.alloc hsz _)
    obtain ⟨ao, co, rfl⟩ := qac hown
    clear hx hlt hbr hown c1 c2
    go_wp2_with fail
    go_region_held3 (fun q => q.cell? ⟨b1, o1 + k * 2, none⟩ = some (.string x) ∧ q.cell? ⟨b1, o1 + k * 2 + 1, none⟩ = some (.string y)) (first | exact CC.out _ HBR.out.drew | exact CC.out _ HALL.out | exact CC.out _ hb1) (first | (refine sappE elS rfl _ _ rfl w.heap.size _ _ _ 2 _ [.string x, .string y] rfl rfl (HOWN.out.alloc _) (rd_new _ 1 2 [.string x, .string y] 9 2 rfl (by omega)) (by simp [Value.oneCell']) (by omega) (by simp; omega) ?_; intro v' w1 hown1 hg1 hn1; have hb1 : Below w.heap.size w w1 := HALL.out.trans (qcx (HOWN.out.alloc _) hg1 (by simp; omega))))
    have HB1 := Hj hb1
    have hr : w1.ownsRow w.heap.size 9 1 v' (2 * (k + 1)) (strC (strsL (l.take (k + 1)))) := by rw [HX.out, qdd]; exact hown1
    have HR := Hj hr
    obtain ⟨ao2, co2, rfl⟩ := qac hr
    clear hown1 hg1 hn1 hb1 hr
    go_wp2
    exact ⟨⟨k + 1, by omega, rfl, HR.out, HB1.out⟩, by simp [intOf]; omega⟩
  · obtain rfl : k = l.length := by omega
    have hr := hown
    rw [List.take_length] at hr
    have HR := Hj hr
    obtain ⟨ao, co, rfl⟩ := qac hown
    clear hown hr
    go_wp2
    go_ret
    exact ⟨_, rfl, HR.out, hbr⟩
theorem large10_any (v : Value) (ss : List ByteArray) (w : World) (h : RdT w v ss) (hl : ss.length ≤ 8796093022208) :
 Calls Tryz.prog 110 #[v] w fun e w' => (e = .returned (.int .i64 0) ∨ e = .returned (.int .i64 1)) ∧ Below w.heap.size w w' := by
 have HH := Hj h
 obtain ⟨ad, cap, rfl, hcap⟩ := Rd.slice h
 clear h
 go_enter Tryz.func110, Tryz.ntmps110
 go_wp2
 go_loopw [3, 8] (fun n i wr => ∃ (k : Nat) (m : Int), k ≤ ss.length ∧ n = .int .i64 m ∧ 0 ≤ m ∧ m ≤ 200000 ∧ i = .int .i64 (k : Nat) ∧ Below w.heap.size w wr) (fun _ i _ => ss.length - (intOf i).toNat)
 case atStart => exact ⟨0, 0, by omega, rfl, by omega, by omega, rfl, Below.refl _ _⟩
 case round =>
  obtain ⟨k, m, hk, rfl, hm0, hm1, rfl, hbr⟩ := hrel
  by_cases hlt : k < ss.length
  · obtain ⟨s, hx⟩ := qaj hlt
    have g1 := HH.out.below hbr
    obtain ⟨b1, o1, rfl, c1⟩ := RdT.at g1 hx
    have hklt : (k : Int) < ss.length := by omega
    have HBR := Hj hbr
    have hs0 : (0 : Int) ≤ (s.size : Int) := by omega
    clear hx g1 hlt hbr
    go_wp2
    all_goals first
     | (go_ret; exact ⟨.inr rfl, HBR.out⟩)
     | (exact ⟨⟨k + 1, _, by omega, rfl, by omega, by omega, rfl, HBR.out⟩, by simp [intOf]; omega⟩)
  · obtain rfl : k = ss.length := by omega
    go_wp2
    go_ret
    exact ⟨.inl rfl, hbr⟩
theorem rdT_row {w : World} {base : Nat} {v : Value} {n : Nat} {ss : List ByteArray} (h : w.ownsRow base 9 1 v n (strC ss)) : RdT w v ss := by
 have h2 := rd_row h
 have : n = ss.length := by have := h.1; simp [strC] at this; omega
 subst this
 exact h2
end
section
open Go.RowKit
attribute [local go_sem ↓] Go.wp_at_zero Go.wp_at_succ
theorem labC_append (a b : List Lab) : labC (a ++ b) = labC a ++ labC b := by simp [labC, cells2]
theorem labC_one (l : List Lab) : ∀ u ∈ labC l, u.oneCell' = true := by
 intro u hu
 simp only [labC, cells2, List.mem_flatMap, List.mem_cons, List.not_mem_nil, or_false] at hu
 obtain ⟨x, _, rfl | rfl⟩ := hu <;> rfl
theorem labC_length (l : List Lab) : (labC l).length = l.length * 2 := qat _ _ l
theorem rdL_row {w : World} {base : Nat} {v : Value} {n : Nat} {l : List Lab} (h : w.ownsRow base 94 2 v n (labC l)) : RdL w v l := by
 have h2 := rd_row h
 have : n = l.length := by have := h.1; rw [labC_length] at this; omega
 subst this
 exact h2
def Small (b : List Ser) : Prop := b.length ≤ 300 ∧ ∀ x ∈ b, x.1.length ≤ 200 ∧ x.2.length ≤ 3000
def SmallTo (b : List Ser) (k : Nat) : Prop := (k = 0 ∨ b.length ≤ 300) ∧ ∀ (j : Nat) (x : Ser), j < k → b[j]? = some x → x.1.length ≤ 200 ∧ x.2.length ≤ 3000
theorem SmallTo.next {b : List Ser} {k : Nat} {p : Ser} (h : SmallTo b k) (hp : b[k]? = some p) (h1 : b.length ≤ 300) (h2 : p.1.length ≤ 200) (h3 : p.2.length ≤ 3000) : SmallTo b (k + 1) :=
 ⟨.inr h1, fun j x hj hx => by
   by_cases e : j = k
   · subst e; rw [hp] at hx; obtain rfl := Option.some.inj hx; exact ⟨h2, h3⟩
   · exact h.2 j x (by omega) hx⟩
theorem SmallTo.all {b : List Ser} (h : SmallTo b b.length) : Small b := by
 refine ⟨by rcases h.1 with h | h <;> omega, fun x hx => ?_⟩
 obtain ⟨j, hj, e⟩ := List.getElem_of_mem hx
 exact h.2 j x hj (by rw [List.getElem?_eq_getElem hj, e])
end
section
set_option maxHeartbeats 2000000
set_option maxRecDepth 100000
open Go.RowKit
attribute [local go_sem ↓] Go.wp_at_zero Go.wp_at_succ
theorem large11n_any (v : Value) (l : List Lab) (w : World) (h : RdL w v l) (hl : l.length ≤ 4398046511104) :
 Calls Tryz.prog 57 #[v] w fun e w' => (e = .returned (.int .i64 0) ∧ l.length ≤ 200 ∨ e = .returned (.int .i64 1)) ∧ Below w.heap.size w w' := by
 have HS := Hj (strings_any v l w h hl)
 obtain ⟨ad, cap, rfl, hcap⟩ := h.slice
 clear h
 by_cases h1 : 200 < l.length
 · have h1' : (200 : Int) < (l.length : Int) := by omega
   clear h1
   go_enter Tryz.func57, Tryz.ntmps57
   go_wp2
   go_ret
   exact ⟨.inr rfl, Below.refl _ _⟩
 · have h1' : (l.length : Int) ≤ 200 := by omega
   clear h1
   go_enter Tryz.func57, Tryz.ntmps57
   go_wp2_with (go_at_call 111; refine HS.out.mono ?_; rintro e w1 ⟨v', rfl, hr, hb1⟩)
   have hL := large10_any v' (strsL l) w1 (rdT_row hr) (by rw [qci]; omega)
   have HL := Hj hL
   obtain ⟨a1, c1, rfl⟩ := qac hr
   clear hr hL
   go_wp2_with (go_at_call 110; refine HL.out.mono ?_; rintro e w2 ⟨he, hb2⟩; rcases he with rfl | rfl)
   · go_ret
     exact ⟨.inl ⟨rfl, by omega⟩, hb1.trans (hb2.mono hb1.size)⟩
   · go_ret
     exact ⟨.inr rfl, hb1.trans (hb2.mono hb1.size)⟩
theorem large12n_any (v : Value) (hs : List Hdr) (b : List Ser) (w : World) (h : RdB w v hs b) (hl : b.length ≤ 4398046511104) :
 Calls Tryz.prog 29 #[v] w fun e w' => (e = .returned (.int .i64 1) ∨ e = .returned (.int .i64 0) ∧ Small b ∧ (b.flatMap (·.1)).length ≤ 200) ∧ Below w.heap.size w w' := by
 have HH := Hj h
 have hlen : hs.length = b.length := h.1
 obtain ⟨ad, cap, rfl, hcap⟩ := Rd.slice h.2.1
 rw [hlen] at hcap HH ⊢
 clear h
 go_enter Tryz.func29, Tryz.ntmps29
 go_wp2
 go_loopw [3, 4, 9] (fun n l i wr => ∃ (k : Nat) (m : Int) (acc : List Lab), k ≤ b.length ∧ n = .int .i64 m ∧ 0 ≤ m ∧ m ≤ 3000 ∧ i = .int .i64 (k : Nat) ∧ Hid (wr.ownsRow w.heap.size 94 2 l acc.length (labC acc)) ∧ acc.length ≤ 200 * k ∧ Hid (acc = (b.take k).flatMap (·.1)) ∧ Hid (SmallTo b k) ∧ Below w.heap.size w wr) (fun _ _ i _ => b.length - (intOf i).toNat)
 case atStart => exact ⟨0, 0, [], by omega, rfl, by omega, by omega, rfl, Hj (World.ownsRow_nil _ _ _ _), by simp, Hj rfl, Hj ⟨.inl rfl, fun j x hj => by omega⟩, Below.refl _ _⟩
 case round =>
  obtain ⟨k, m, acc, hk, rfl, hm0, hm1, rfl, HOWN, hacc, HAC, HS, hbr⟩ := hrel
  obtain ⟨al, cl, rfl⟩ := qac HOWN.out
  by_cases hlt : k < b.length
  · obtain ⟨p, hp⟩ := qaj hlt
    obtain ⟨x, hx⟩ := qaj (l := hs) (k := k) (by omega)
    have g1 := HH.out.below hbr
    rw [← hlen] at g1
    obtain ⟨b1, o1, rfl, c1, c1'⟩ := RdH.at g1.2.1 hx
    have s1 := g1.2.2 _ _ _ hx hp
    obtain ⟨e1, e2⟩ := s1.lens
    obtain ⟨xa, xn, xc, xsa, xsn, xsc⟩ := x
    simp only at e1 e2 c1 c1'
    subst e1
    subst e2
    have hkl : (k : Int) < (b.length : Int) := by omega
    have hs0 : (0 : Int) ≤ (p.2.length : Int) := by omega
    have HTK : Hid ((b.take (k + 1)).flatMap (·.1) = (b.take k).flatMap (·.1) ++ p.1) := Hj (by rw [List.take_add_one, hp]; simp)
    have HP := Hj hp; have HBR := Hj hbr
    have hsz := hbr.size
    have hba : Below wr.heap.size wr (wr.alloc (.cells #[.slice xa p.1.length xc, .slice xsa p.2.length xsc] 97)) := (Below.refl _ _).alloc (Nat.le_refl _) _
    have HBA : Hid (Below w.heap.size w (wr.alloc (.cells #[.slice xa p.1.length xc, .slice xsa p.2.length xsc] 97))) := Hj (hbr.trans (hba.mono hsz))
    have HRL : Hid (RdL (wr.alloc (.cells #[.slice xa p.1.length xc, .slice xsa p.2.length xsc] 97)) (.slice xa p.1.length xc) p.1) := Hj (s1.1.below hba)
    have HOA : Hid ((wr.alloc (.cells #[.slice xa p.1.length xc, .slice xsa p.2.length xsc] 97)).ownsRow w.heap.size 94 2 (.slice al acc.length cl) acc.length (labC acc)) := Hj (HOWN.out.alloc _)
    have hszA : w.heap.size ≤ (wr.alloc (.cells #[.slice xa p.1.length xc, .slice xsa p.2.length xsc] 97)).heap.size := HBA.out.size
    clear hp hx g1 hlt hbr s1 hba hlen
    by_cases hb300 : b.length ≤ 300
    · by_cases hp200 : p.1.length ≤ 200
      · have i1 : (b.length : Int) ≤ 300 := by omega
        have i2 : (p.1.length : Int) ≤ 200 := by omega
        have hbnd : acc.length + p.1.length ≤ 4398046511104 := by omega
        have hacc2 : (acc ++ p.1).length ≤ 200 * (k + 1) := by rw [List.length_append]; omega
        go_wp2_with (at_builtin; refine appE elL rfl _ _ rfl w.heap.size _ _ acc.length p.1.length (labC acc) (labC p.1) rfl rfl HOA.out HRL.out (labC_one _) hbnd hszA ?_; intro v' w1 hown1 hg1 hn1; obtain ⟨al2, cl2, rfl⟩ := qac hown1)
        all_goals first
         | (go_ret; exact ⟨.inl rfl, HBA.out⟩)
         | (refine ⟨⟨k + 1, _, acc ++ p.1, by omega, rfl, by omega, by omega, rfl, Hj (by rw [List.length_append, labC_append]; exact hown1), hacc2, Hj (by rw [HTK.out, ← HAC.out]), Hj (HS.out.next HP.out hb300 hp200 (by omega)), HBA.out.trans (qcx HOA.out hg1 hszA)⟩, by simp [intOf]; omega⟩)
      · have i2 : (200 : Int) < (p.1.length : Int) := by omega
        clear hp200
        go_wp2
        all_goals (go_ret; exact ⟨.inl rfl, HBA.out⟩)
    · have i1 : (300 : Int) < (b.length : Int) := by omega
      clear hb300
      go_wp2
      all_goals (go_ret; exact ⟨.inl rfl, HBA.out⟩)
  · obtain rfl : k = b.length := by omega
    have hal : acc.length ≤ 60000 := by rcases HS.out.1 with h | h <;> omega
    have HL := Hj (large11n_any (.slice al acc.length cl) acc wr (rdL_row HOWN.out) (by omega))
    go_wp2_with (go_at_call 57; refine HL.out.mono ?_; rintro e w2 ⟨he, hb2⟩; rcases he with ⟨rfl, hle⟩ | rfl)
    · go_ret
      exact ⟨.inr ⟨rfl, HS.out.all, by rw [HAC.out, List.take_length] at hle; exact hle⟩, hbr.trans (hb2.mono hbr.size)⟩
    · go_ret
      exact ⟨.inl rfl, hbr.trans (hb2.mono hbr.size)⟩
theorem qfo : ∀ {b : List Ser}, (∀ x ∈ b, x.2.length ≤ 3000) → qai b ≤ b.length * 3000
 | [], _ => by simp [qai]
 | x :: r, h => by
   have h1 := h x (by simp)
   have h2 := qfo (b := r) (fun y hy => h y (by simp [hy]))
   rw [qai, List.length_cons]; omega
theorem block_any (v : Value) (hs : List Hdr) (b : List Ser) (w : World) (h : RdB w v hs b) (hl : b.length ≤ 4398046511104) :
 Calls Tryz.prog 10 #[v] w fun e w' => (e = .returned (.bool false) ∨ e = .returned (.bool true) ∧ Small b ∧ (b.flatMap (·.1)).length ≤ 200 ∧ modE b = 0) ∧ Below w.heap.size w w' := by
 have HL := Hj (large12n_any v hs b w h hl)
 have HC : Hid (∀ q, Below w.heap.size w q → Small b → Calls Tryz.prog 30 #[v] q fun e w' => e = .returned (.int .i64 (modE b)) ∧ Below q.heap.size q w') := Hj (fun q hq ha => rCheck_any v hs b q (h.below hq) (by have := h.1; have := ha.1; omega) (by have := qfo (fun x hx => (ha.2 x hx).2); have := ha.1; omega) (fun x hx => ⟨by have := (ha.2 x hx).1; omega, by have := (ha.2 x hx).2; omega⟩))
 obtain ⟨m, hm⟩ : ∃ m, m = modE b := ⟨_, rfl⟩
 rw [← hm] at HC ⊢
 clear h hm
 go_enter Tryz.func10, Tryz.ntmps10
 go_upto_region 1 with fail
 by_cases h0 : m = 0
 · have he : (m == 0) = true := by simp [h0]
   go_wp2_with (first
    | (go_at_call 29; refine HL.out.mono ?_; rintro e w1 ⟨he1, b1⟩; have B1 := Hj b1; clear b1; rcases he1 with rfl | ⟨rfl, hs1, hs2⟩)
    | (go_at_call 30; refine (HC.out _ B1.out hs1).mono ?_; rintro e w2 ⟨rfl, b2⟩; have B2 := Hj b2; clear b2))
   · go_ret
     exact ⟨.inl rfl, B1.out⟩
   · go_ret
     exact ⟨.inr ⟨rfl, hs1, hs2, h0⟩, B1.out.trans (B2.out.mono B1.out.size)⟩
 · have he : (m == 0) = false := by simp [h0]
   go_wp2_with (first
    | (go_at_call 29; refine HL.out.mono ?_; rintro e w1 ⟨he1, b1⟩; have B1 := Hj b1; clear b1; rcases he1 with rfl | ⟨rfl, hs1, hs2⟩)
    | (go_at_call 30; refine (HC.out _ B1.out hs1).mono ?_; rintro e w2 ⟨rfl, b2⟩; have B2 := Hj b2; clear b2))
   · go_ret
     exact ⟨.inl rfl, B1.out⟩
   · go_ret
     exact ⟨.inl rfl, B1.out.trans (B2.out.mono B1.out.size)⟩
end
section
open Go.ChangeShapes Go.WideShapes Go.Deep Go.RowKit
theorem qfe {α : Type} {P : Nat → α → Prop} : ∀ n, (∀ i, i < n → ∃ x, P i x) → ∃ l : List α, l.length = n ∧ ∀ i x, l[i]? = some x → P i x
 | 0, _ => ⟨[], rfl, by simp⟩
 | n + 1, h => by
   obtain ⟨l, hl, hp⟩ := qfe n (fun i hi => h i (by omega))
   obtain ⟨x, hx⟩ := h n (by omega)
   refine ⟨l ++ [x], by simp [hl], fun i y hi => ?_⟩
   rcases Nat.lt_or_ge i n with h1 | h1
   · rw [List.getElem?_append_left (by omega)] at hi; exact hp i y hi
   · rw [List.getElem?_append_right (by omega)] at hi
     rcases Nat.lt_or_ge (i - l.length) 1 with h2 | h2
     · have h3 : i = n := by omega
       subst h3
       rw [show i - l.length = 0 by omega] at hi
       simp only [List.getElem?_cons_zero, Option.some.injEq] at hi
       subst hi; exact hx
     · rw [List.getElem?_eq_none (by simpa using h2)] at hi; cases hi
theorem addr_addA (b off k : Nat) : (⟨b, off, none⟩ : Addr).add k = ⟨b, off + k, none⟩ := by unfold Addr.add; split <;> simp_all
theorem qjy {H : Type} {P : Program} {e : TypeId} : ∀ {l : List (DataW H)} {d : DataW H}, d ∈ l → ∀ n ∈ d.weights P e, n ∈ DataW.weightsAll P e l
 | [], _, h, _, _ => by cases h
 | x :: r, d, h, n, hn => by
   rw [DataW.weightsAll, List.mem_append]
   rcases List.mem_cons.1 h with rfl | h
   · exact .inl hn
   · exact .inr (qjy h n hn)
section
variable {H : Type} {enc : TypeId × Value → H} {P : Program} {w : World} {base : Nat} {spare : Nat → Bool} {held : Bool}
theorem qfx {t e : TypeId} {fs : Array Field} {fuel : Nat} {cs : List Value} {x : DataW H × List MemPlace} (ht : P.underlying t = some (.slice e)) (he : P.underlying e = some (.struct fs))
 (hone : oneCellFields P fs = true) (hC : P.cellsOf e = fs.size) (h : DataW.trod enc P w base spare held fuel t cs = some x) :
 (cs = [.slice none 0 0] ∧ x = (.nil, [])) ∨
 ∃ (a : Addr) (len cap m : Nat) (D : Nat → DataW H) (Pl : Nat → List MemPlace), cs = [.slice (some a) len cap] ∧ len ≤ cap ∧ m = (if spare a.block then cap else len) ∧
  x = (.slice ((List.range len).map D) ((List.range (m - len)).map fun j => D (len + j)), MemPlace.row a (m * fs.size) ++ (List.range m).flatMap Pl) ∧
  ∀ i, i < m → ∃ (ys : List (DataW H × List MemPlace)) (n : Nat), D i = .agg (ys.map (·.1)) ∧ ys.length = fs.size ∧
   ∀ (j : Nat) (f : Field), fs[j]? = some f → ∃ (v : Value) (y : DataW H × List MemPlace), w.cell? (a.add (i * fs.size + j)) = some v ∧ ys[j]? = some y ∧ DataW.trod enc P w base spare held n f.type [v] = some y := by
 rcases open_slice ht h with h0 | ⟨a, len, cap, m, n, D, Pl, hcs, hb, hl, hm, hmm, hx, hi⟩
 · exact .inl h0
 · refine .inr ⟨a, len, cap, m, D, Pl, hcs, hl, hmm, by rw [hC] at hx; exact hx, fun i him => ?_⟩
   obtain ⟨cs', hc, ht'⟩ := hi i him
   rw [hC] at hc
   obtain ⟨ys, n', hn', hy, hlen, hyl, hf⟩ := DataW.trod_struct he ht'
   obtain ⟨_, hcl, hat⟩ := World.cells?_some hc
   simp only [Prod.mk.injEq] at hy
   refine ⟨ys, n', hy.1, hyl, fun j f hj => ?_⟩
   obtain ⟨ho, hk⟩ := hone_of hone j f hj
   have hjl : j < fs.size := (Array.getElem?_eq_some_iff.1 hj).1
   have hcell := hat j hjl
   have hv : cs'[j]? = some (cs'[j]'(by omega)) := List.getElem?_eq_getElem (by omega)
   have h1 := hf j f hj
   rw [ho, hk] at h1
   have hone' : (cs'.drop j).take 1 = [cs'[j]'(by omega)] := by
    rw [List.drop_eq_getElem_cons (by omega)]
    rfl
   rw [hone'] at h1
   have hys : ys[j]? = some (ys[j]'(by omega)) := List.getElem?_eq_getElem (by omega)
   refine ⟨_, _, ?_, hys, h1.trans hys⟩
   rw [← Go.Deep.add_add, hcell, hv]
theorem rd2_of {α : Type} {f g : α → Value} {Q : Nat → α → Prop} {a : Addr} {len cap : Nat} (hl : len ≤ cap) (h : ∀ i, i < len → ∃ p : α, w.cell? (a.add (i * 2)) = some (f p) ∧ w.cell? (a.add (i * 2 + 1)) = some (g p) ∧ Q i p) :
 ∃ l : List α, l.length = len ∧ Rd 2 w (.slice (some a) l.length cap) l.length (cells2 f g l) ∧ ∀ i p, l[i]? = some p → Q i p := by
 obtain ⟨l, hll, hp⟩ := qfe len h
 refine ⟨l, hll, ⟨by rw [qat], _, _, rfl, by omega, ?_⟩, fun i p hi => (hp i p hi).2.2⟩
 by_cases h0 : l.length = 0
 · exact .inl h0
 · right
   obtain ⟨q, hq⟩ := qaj (l := l) (k := 0) (by omega)
   have hq' := hp 0 q hq
   obtain ⟨b, off, spot⟩ := a
   have hspot : spot = none := by simpa [Addr.add] using World.cell?_spot hq'.1
   subst hspot
   refine ⟨b, off, rfl, fun j u hj => ?_⟩
   have hjl := (List.getElem?_eq_some_iff.1 hj).1
   rw [qat] at hjl
   obtain ⟨y, hy⟩ := qaj (l := l) (k := j / 2) (by omega)
   obtain ⟨c1, c2, _⟩ := hp _ y hy
   obtain ⟨g1, g2⟩ := qco f g l _ y hy
   rw [addr_addA] at c1 c2
   rcases Nat.mod_two_eq_zero_or_one j with h2 | h2
   · have e : j / 2 * 2 = j := by omega
     rw [e] at c1 g1
     rw [g1] at hj
     rw [← Option.some.inj hj]; exact c1
   · have e : j / 2 * 2 + 1 = j := by omega
     rw [e] at c2 g2
     rw [g2] at hj
     rw [← Option.some.inj hj]; exact c2
end
section
variable {H : Type} {enc : TypeId × Value → H} {w : World} {base : Nat} {spare : Nat → Bool} {held : Bool} {fuel : Nat}
def FitT (x : Smp) : Prop := (-9223372036854775808 ≤ x.1 ∧ x.1 ≤ 9223372036854775807) ∧ 0 ≤ x.2 ∧ x.2 < 18446744073709551616
theorem cells_sample : Tryz.prog.cellsOf 28 = 2 := by kernel_rfl
theorem open_samples {cs : List Value} {x : DataW H × List MemPlace} (hs : ∀ b, spare b = true) (h : DataW.trod enc Tryz.prog w base spare held fuel 22 cs = some x) :
 ∃ (ad : Option Addr) (cap : Nat) (l : List Smp), cs = [.slice ad l.length cap] ∧ RdS w (.slice ad l.length cap) l ∧ ∀ y ∈ l, FitT y := by
 rcases qfx Tryz.underlying22 Tryz.underlying28 (by kernel_rfl) cells_sample h with ⟨rfl, _⟩ | ⟨a, len, cap, m, D, Pl, rfl, hl, hmm, hx, hi⟩
 · exact ⟨none, 0, [], rfl, Rd.nil _ _, by simp⟩
 · rw [hs, if_pos rfl] at hmm
   obtain ⟨l, hll, hrd, hQ⟩ := rd2_of (w := w) (f := smpF) (g := smpG) (Q := fun _ p => FitT p) (a := a) hl (fun i hil => by
    obtain ⟨ys, n, hD, hyl, hf⟩ := hi i (by omega)
    obtain ⟨v0, y0, hc0, hy0, ht0⟩ := hf 0 _ rfl
    obtain ⟨v1, y1, hc1, hy1, ht1⟩ := hf 1 _ rfl
    obtain ⟨a0, e0, _, w0⟩ := DataW.trod_int Tryz.underlying2 ht0
    obtain ⟨a1, e1, _, w1⟩ := DataW.trod_int Tryz.underlying23 ht1
    simp at e0 e1
    subst e0 e1
    have b1 := bounds_u64 w1
    exact ⟨(a0, a1), by simpa [smpF] using hc0, by simpa [smpG] using hc1, bounds_i64 w0, by simp only; omega, by simp only; omega⟩)
   subst hll
   refine ⟨_, cap, l, rfl, hrd, fun y hy => ?_⟩
   obtain ⟨j, hj, e⟩ := List.getElem_of_mem hy
   exact hQ j y (by rw [List.getElem?_eq_getElem hj, e])
end
theorem fitS_of {l : List Smp} (h : ∀ y ∈ l, FitT y) : FitS l := fun y hy => ⟨(h y hy).1, (h y hy).2.1, by have := (h y hy).2.2; omega⟩
end
section
open Go.ChangeShapes Go.WideShapes Go.Deep Go.RowKit
section
variable {H : Type} {enc : TypeId × Value → H} {w : World} {base : Nat} {spare : Nat → Bool} {held : Bool} {fuel : Nat}
theorem cells_label : Tryz.prog.cellsOf 94 = 2 := by kernel_rfl
theorem cells_series : Tryz.prog.cellsOf 97 = 2 := by kernel_rfl
theorem bytes_label : Tryz.prog.bytesOf 94 = 32 := by kernel_rfl
theorem bytes_series : Tryz.prog.bytesOf 97 = 48 := by kernel_rfl
theorem open_labels {cs : List Value} {x : DataW H × List MemPlace} (hs : ∀ b, spare b = true) (h : DataW.trod enc Tryz.prog w base spare held fuel 95 cs = some x) :
 ∃ (ad : Option Addr) (cap : Nat) (l : List Lab), cs = [.slice ad l.length cap] ∧ RdL w (.slice ad l.length cap) l ∧ ∀ B, (∀ n ∈ x.1.weights Tryz.prog 95, n ≤ B) → l.length * 32 ≤ B := by
 rcases qfx Tryz.underlying95 Tryz.underlying94 (by kernel_rfl) cells_label h with ⟨rfl, _⟩ | ⟨a, len, cap, m, D, Pl, rfl, hl, hmm, hx, hi⟩
 · exact ⟨none, 0, [], rfl, Rd.nil _ _, fun B _ => by simp⟩
 · rw [hs, if_pos rfl] at hmm
   obtain ⟨l, hll, hrd, _⟩ := rd2_of (w := w) (f := labF) (g := labG) (Q := fun _ _ => True) (a := a) hl (fun i hil => by
    obtain ⟨ys, n, hD, hyl, hf⟩ := hi i (by omega)
    obtain ⟨v0, y0, hc0, hy0, ht0⟩ := hf 0 _ rfl
    obtain ⟨v1, y1, hc1, hy1, ht1⟩ := hf 1 _ rfl
    obtain ⟨a0, e0, _, w0⟩ := DataW.trod_string Tryz.underlying9 ht0
    obtain ⟨a1, e1, _, w1⟩ := DataW.trod_string Tryz.underlying9 ht1
    simp at e0 e1
    subst e0 e1
    exact ⟨(a0, a1), by simpa [labF] using hc0, by simpa [labG] using hc1, trivial⟩)
   subst hll
   refine ⟨_, cap, l, rfl, hrd, fun B hB => ?_⟩
   have := hB ((((List.range l.length).map D).length + ((List.range (m - l.length)).map fun j => D (l.length + j)).length) * Tryz.prog.bytesOf 94) (by
    rw [hx]
    simp only [DataW.weights, Tryz.underlying95]
    exact List.mem_cons_self)
   rw [bytes_label, List.length_map, List.length_range] at this
   exact Nat.le_trans (Nat.mul_le_mul_right 32 (Nat.le_add_right _ _)) this
theorem open_series {cs : List Value} {x : DataW H × List MemPlace} (hs : ∀ b, spare b = true) (h : DataW.trod enc Tryz.prog w base spare held fuel 37 cs = some x) :
 ∃ (ad : Option Addr) (cap : Nat) (hs : List Hdr) (b : List Ser), cs = [.slice ad b.length cap] ∧ RdB w (.slice ad b.length cap) hs b ∧ (∀ x ∈ b, ∀ y ∈ x.2, FitT y) ∧
  ∀ B, (∀ n ∈ x.1.weights Tryz.prog 37, n ≤ B) → b.length * 48 ≤ B ∧ ∀ x ∈ b, x.1.length * 32 ≤ B := by
 rcases qfx Tryz.underlying37 Tryz.underlying97 (by kernel_rfl) cells_series h with ⟨rfl, _⟩ | ⟨a, len, cap, m, D, Pl, rfl, hl, hmm, hx, hi⟩
 · exact ⟨none, 0, [], [], rfl, ⟨rfl, Rd.nil _ _, fun i h x h1 => by simp at h1⟩, by simp, fun B _ => ⟨by simp, by simp⟩⟩
 · rw [hs, if_pos rfl] at hmm
   obtain ⟨l, hll, hrd, hQ⟩ := rd2_of (w := w) (f := fun p : Hdr × Ser => p.1.lv) (g := fun p => p.1.sv) (Q := fun i p => SerOk w p.1 p.2 ∧ (∀ y ∈ p.2.2, FitT y) ∧ ∀ B, (∀ n ∈ (D i).weights Tryz.prog 97, n ≤ B) → p.2.1.length * 32 ≤ B) (a := a) hl (fun i hil => by
    obtain ⟨ys, n, hD, hyl, hf⟩ := hi i (by omega)
    obtain ⟨v0, y0, hc0, hy0, ht0⟩ := hf 0 _ rfl
    obtain ⟨v1, y1, hc1, hy1, ht1⟩ := hf 1 _ rfl
    obtain ⟨la, lc, l, e0, r0, z0⟩ := open_labels hs ht0
    obtain ⟨sa, sc, s, e1, r1, z1⟩ := open_samples hs ht1
    simp only [List.cons.injEq, and_true] at e0 e1
    subst e0 e1
    refine ⟨(⟨la, l.length, lc, sa, s.length, sc⟩, (l, s)), by simpa [Hdr.lv] using hc0, by simpa [Hdr.sv] using hc1, ⟨r0, r1⟩, z1, fun B hB => z0 B (fun n hn => hB n ?_)⟩
    rw [hD]
    simp only [DataW.weights, Tryz.underlying97]
    obtain ⟨k0, k1, rfl⟩ : ∃ k0 k1, ys = [k0, k1] := by
     match ys, hyl with
     | [k0, k1], _ => exact ⟨k0, k1, rfl⟩
    simp only [List.getElem?_cons_zero, Option.some.injEq] at hy0
    subst hy0
    simp only [List.map_cons, DataW.weightsEach, List.mem_append]
    exact .inl hn)
   subst hll
   refine ⟨some a, cap, l.map (·.1), l.map (·.2), by simp, ⟨by simp, ?_, fun i h x h1 h2 => ?_⟩, fun x hx' => ?_, fun B hB => ⟨?_, fun x hx' => ?_⟩⟩
   · have e : hdrC (l.map (·.1)) = cells2 (fun p : Hdr × Ser => p.1.lv) (fun p => p.1.sv) l := by simp [hdrC, cells2, List.flatMap_map]
     unfold RdH
     rw [e, List.length_map, List.length_map]
     exact hrd
   · rw [List.getElem?_map] at h1 h2
     cases hp : l[i]? with
     | none => rw [hp] at h1; cases h1
     | some p =>
       rw [hp] at h1 h2
       simp only [Option.map_some, Option.some.injEq] at h1 h2
       subst h1 h2
       exact (hQ i p hp).1
   · obtain ⟨p, hp, rfl⟩ := List.mem_map.1 hx'
     obtain ⟨j, hj, e⟩ := List.getElem_of_mem hp
     exact (hQ j p (by rw [List.getElem?_eq_getElem hj, e])).2.1
   · have := hB ((((List.range l.length).map D).length + ((List.range (m - l.length)).map fun j => D (l.length + j)).length) * Tryz.prog.bytesOf 97) (by
      rw [hx]
      simp only [DataW.weights, Tryz.underlying37]
      exact List.mem_cons_self)
     rw [bytes_series, List.length_map, List.length_range] at this
     rw [List.length_map]
     exact Nat.le_trans (Nat.mul_le_mul_right 48 (Nat.le_add_right _ _)) this
   · obtain ⟨p, hp, rfl⟩ := List.mem_map.1 hx'
     obtain ⟨j, hj, e⟩ := List.getElem_of_mem hp
     refine (hQ j p (by rw [List.getElem?_eq_getElem hj, e])).2.2 B (fun n hn => hB n ?_)
     rw [hx]
     simp only [DataW.weights, Tryz.underlying37, List.mem_cons, List.mem_append]
     exact .inr (.inl (qjy (List.mem_map.2 ⟨j, by simpa using hj, rfl⟩) n hn))
end
theorem nat_u16 {n : Int} (h : (Lit.int .u16 n).wf = true) : ∃ m : Nat, n = (m : Int) ∧ m ≤ 65535 := by
 have := bounds_u16 h
 exact ⟨n.toNat, by omega, by omega⟩
end
end Go.Proofs.YtfpcgcbehdogjaaGreatDoor
