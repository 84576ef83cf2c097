/-
  WALKS: the reference's end of a line, the reference's Import.
  WALKS: the reference's Import.
-/
import Derived.Test.YtnoodiibkchaaaaGreatDoorAImp
import Derived.Deep.RegionLaw
namespace Go.Proofs.YtnoodiibkchaaaaGreatDoor
open Go.RowKit
attribute [local go_sem ↓] Go.wp_at_zero Go.wp_at_succ

def nlI : Option Nat → Int
  | some e => (e : Int)
  | none => -1
theorem nl_step {t : ByteArray} {f k : Nat} (hk : k < t.size) (hf : t.size + 1 ≤ k + f) : ∃ g, f = g + 1 ∧ nlAt t f k = if bAt t k = 10 then some k else nlAt t g (k + 1) := by
  obtain ⟨g, rfl⟩ : ∃ g, f = g + 1 := ⟨f - 1, by omega⟩
  exact ⟨g, rfl, by rw [nlAt, if_pos hk]⟩
set_option maxHeartbeats 1000000 in
set_option maxRecDepth 100000 in
theorem end_any (t : ByteArray) (a : Nat) (w : World) (ha : a ≤ t.size) (hs : t.size ≤ 1099511627776) :
    Calls Tryz.prog 37 #[.string t, .int .i64 (a : Nat)] w fun e w' => e = .returned (.int .i64 (nlI (nlAt t (t.size + 1) a))) ∧ w = w' := by
  go_enter Tryz.func37, Tryz.ntmps37
  go_wp2
  go_loop [5] (fun i => ∃ k f : Nat, i = .int .i64 (k : Nat) ∧ k ≤ t.size ∧ t.size + 1 ≤ k + f ∧ Hid (nlAt t (t.size + 1) a = nlAt t f k)) (fun i => t.size - (intOf i).toNat)
  case atStart => exact ⟨a, t.size + 1, rfl, ha, by omega, Lib.hid rfl⟩
  case round =>
    obtain ⟨k, f, rfl, hk, hf, HE⟩ := hrel
    by_cases hlt : k < t.size
    · obtain ⟨g, hg, hst⟩ := nl_step hlt hf
      have hx0 : (t[k]'hlt).toNat = bAt t k := (bAt_get t k hlt).symm
      have hlti : (k : Int) < (t.size : Int) := by omega
      have hk0 : (0 : Int) ≤ (k : Int) := by omega
      by_cases h10 : bAt t k = 10
      · have HF : Hid (nlAt t (t.size + 1) a = some k) := Lib.hid (by rw [HE.out, hst, if_pos h10])
        rw [h10] at hx0
        clear hst hg h10
        go_wp2
        go_ret
        exact ⟨ret_i64 (by rw [HF.out]; rfl), rfl⟩
      · have HF : Hid (nlAt t (t.size + 1) a = nlAt t g (k + 1)) := Lib.hid (by rw [HE.out, hst, if_neg h10])
        obtain ⟨b, hb⟩ : ∃ b, b = bAt t k := ⟨_, rfl⟩
        rw [← hb] at hx0 h10
        have hnm : ((b : Int) == 10) = false := by rw [beq_eq_false_iff_ne]; omega
        have hfg : t.size + 1 ≤ k + 1 + g := by omega
        clear hst hg hb h10 hf
        go_wp2
        exact ⟨⟨k + 1, g, rfl, by omega, hfg, HF⟩, by simp [intOf]; omega⟩
    · have HF : Hid (nlAt t (t.size + 1) a = none) := Lib.hid (by
        rw [HE.out]
        cases f with
        | zero => rfl
        | succ g => rw [nlAt, if_neg hlt])
      obtain rfl : k = t.size := by omega
      clear hlt
      go_wp2
      go_ret
      exact ⟨ret_i64 (by rw [HF.out]; rfl), rfl⟩
/-- a line's sample, whatever it is -/
theorem refSample_some (s : ByteArray) (w : World) (hs : s.size ≤ 1099511627776) (hT : TabsN w) : Calls Tryz.prog 38 #[.string s] w fun e w' => (∃ u v c : Int, e = .returned (.tuple #[.agg #[.int .i64 u, .int .u64 v], .int .i64 c])) ∧ Below w.heap.size w w' :=
  (refSample_any s w hs hT).mono fun e w' ⟨h, hb⟩ => by
    rcases h with ⟨x, _, rfl⟩ | ⟨_, rfl⟩
    · exact ⟨⟨_, _, _, rfl⟩, hb⟩
    · exact ⟨⟨_, _, _, rfl⟩, hb⟩
theorem stepB_head {b : List Ser} {s : ByteArray} {l : List Lab} (h : hdV s = some l) : stepB b s = some (b ++ [(l, [])]) := by unfold stepB; rw [h]
theorem stepB_add {b : List Ser} {s : ByteArray} {x : Smp} (h : hdV s = none) (h2 : smpV s = some x) (hb : b ≠ []) : stepB b s = some (addS b x) := by unfold stepB; rw [h, h2]; simp only; rw [if_neg hb]
theorem stepB_none1 {b : List Ser} {s : ByteArray} (h : hdV s = none) (h2 : smpV s = none) : stepB b s = none := by unfold stepB; rw [h, h2]
theorem stepB_none2 {s : ByteArray} {x : Smp} (h : hdV s = none) (h2 : smpV s = some x) : stepB [] s = none := by unfold stepB; rw [h, h2]; simp
end Go.Proofs.YtnoodiibkchaaaaGreatDoor
namespace Go.Proofs.YtnoodiibkchaaaaGreatDoor
open Go.RowKit
attribute [local go_sem ↓] Go.wp_at_zero Go.wp_at_succ

theorem ser_cells {w : World} {B G cap N : Nat} {cs : List Value} {lv sv : Value} (h : w.ownsRow B 53 2 (.slice (some ⟨G, 0, none⟩) (N + 1) cap) (N + 1) (cs ++ [lv, sv])) (hc : cs.length = N * 2) :
    w.cell? ⟨G, N * 2 + 1, none⟩ = some sv ∧ w.frozen? ⟨G, N * 2 + 1, none⟩ = false ∧ B ≤ G ∧ G < w.heap.size := by
  have h1 := h.cells (g := G) rfl (N * 2 + 1) sv (by rw [List.getElem?_append_right (by omega), hc, show N * 2 + 1 - N * 2 = 1 by omega]; rfl)
  rw [show ((⟨G, 0, none⟩ : Addr).add (N * 2 + 1)) = ⟨G, N * 2 + 1, none⟩ from by unfold Addr.add; simp] at h1
  obtain ⟨c, hcur⟩ := row_type h (g := G) rfl
  exact ⟨h1, frozen_of_row _ _ _ _ _ hcur, (h.lt G rfl).1, (h.lt G rfl).2⟩
/-- the last series' header, in a row of one's own -/
theorem Own.last {B : Nat} {w : World} {v : Value} {hs0 : List Hdr} {h0 : Hdr} {b0 : List Ser} {x0 : Ser} (h : Own B w v (hs0 ++ [h0]) (b0 ++ [x0])) :
    ∃ G cap, v = .slice (some ⟨G, 0, none⟩) (hs0.length + 1) cap ∧ w.ownsRow B 53 2 v (hs0.length + 1) (hdrC hs0 ++ [h0.lv, h0.sv]) ∧ w.ownsRow B 56 2 h0.sv x0.2.length (smpC x0.2) := by
  have hr := h.row
  rw [List.length_append, hdrC_snoc] at hr
  obtain ⟨g, cap, cur, hv, _⟩ := row_shape hr (by simp)
  have hlen : hs0.length = b0.length := by have := h.len; simp at this; omega
  exact ⟨g, cap, hv, hr, h.smp hs0.length h0 x0 (by simp) (by rw [hlen]; simp)⟩
theorem snoc_of {α : Type} {l : List α} {n : Nat} (h : l.length = n + 1) : ∃ l0 x, l = l0 ++ [x] := by
  have hne : l ≠ [] := by rintro rfl; cases h
  exact ⟨l.dropLast, l.getLast hne, (List.dropLast_concat_getLast hne).symm⟩
theorem Own.slice {B : Nat} {w : World} {v : Value} {hs : List Hdr} {b : List Ser} (h : Own B w v hs b) : ∃ ad cap, v = .slice ad b.length cap := by
  obtain ⟨ad, cap, e⟩ := row_slice h.row
  exact ⟨ad, cap, by rw [e, h.len]⟩
theorem one2 (u v : Value) (h1 : u.oneCell' = true) (h2 : v.oneCell' = true) : ∀ x ∈ [u, v], x.oneCell' = true := by
  intro x hx
  simp only [List.mem_cons, List.not_mem_nil, or_false] at hx
  rcases hx with rfl | rfl
  · exact h1
  · exact h2
/-- reading a head: what is got, as a row of one's own above B -/
theorem refParse_some (s : ByteArray) (l : List Lab) (w : World) (B : Nat) (hB : B ≤ w.heap.size) (hs : s.size ≤ 1099511627776) (hT : Tabs w) (h : hdV s = some l) :
    Calls Tryz.prog 22 #[.string s] w fun e w' => (∃ la lc, e = .returned (.tuple #[.slice la l.length lc, .int .i64 0]) ∧ w'.ownsRow B 46 2 (.slice la l.length lc) l.length (labC l)) ∧ Below w.heap.size w w' :=
  (refParse_any s w hs hT).mono fun e w' ⟨hp, hb⟩ => by
    rcases hp with ⟨l', v, h', rfl, hr⟩ | ⟨h', _⟩
    · rw [h] at h'
      obtain rfl := Option.some.inj h'
      obtain ⟨la, lc, rfl⟩ := row_slice hr
      exact ⟨⟨la, lc, rfl, row_base hr (fun g hg => by have := (hr.lt g hg).1; omega)⟩, hb⟩
    · rw [h] at h'; cases h'
theorem refParse_no (s : ByteArray) (w : World) (hs : s.size ≤ 1099511627776) (hT : Tabs w) (h : hdV s = none) :
    Calls Tryz.prog 22 #[.string s] w fun e w' => e = .returned (.tuple #[.slice none 0 0, .int .i64 24]) ∧ Below w.heap.size w w' :=
  (refParse_any s w hs hT).mono fun e w' ⟨hp, hb⟩ => by
    rcases hp with ⟨l', v, h', _⟩ | ⟨_, rfl⟩
    · rw [h] at h'; cases h'
    · exact ⟨rfl, hb⟩
theorem refSample_is (s : ByteArray) (x1 x2 : Int) (w : World) (hs : s.size ≤ 1099511627776) (hT : TabsN w) (h : smpV s = some (x1, x2)) :
    Calls Tryz.prog 38 #[.string s] w fun e w' => e = .returned (.tuple #[.agg #[.int .i64 x1, .int .u64 x2], .int .i64 0]) ∧ Below w.heap.size w w' :=
  (refSample_any s w hs hT).mono fun e w' ⟨hp, hb⟩ => by
    rcases hp with ⟨x, h', rfl⟩ | ⟨h', _⟩
    · rw [h] at h'
      obtain rfl := Option.some.inj h'
      exact ⟨rfl, hb⟩
    · rw [h] at h'; cases h'
theorem refSample_no (s : ByteArray) (w : World) (hs : s.size ≤ 1099511627776) (hT : TabsN w) (h : smpV s = none) :
    Calls Tryz.prog 38 #[.string s] w fun e w' => e = .returned (.tuple #[.agg #[.int .i64 0, .int .u64 0], .int .i64 24]) ∧ Below w.heap.size w w' :=
  (refSample_any s w hs hT).mono fun e w' ⟨hp, hb⟩ => by
    rcases hp with ⟨x, h', _⟩ | ⟨_, rfl⟩
    · rw [h] at h'; cases h'
    · exact ⟨rfl, hb⟩
set_option maxHeartbeats 4000000 in
set_option maxRecDepth 100000 in
theorem refImport_any (t : ByteArray) (w : World) (hs : t.size ≤ 1099511627776) (hT : TabsN w) :
    Calls Tryz.prog 14 #[.string t] w fun e w' => ImpR t w.heap.size e w' ∧ Below w.heap.size w w' := by
  have HT := Lib.hid hT
  clear hT
  go_enter Tryz.func14, Tryz.ntmps14
  go_wp2
  go_loopw [5, 6] (fun v i wr => ∃ a : Nat, i = .int .i64 (a : Nat) ∧ a ≤ t.size ∧ Hid (ImpRel t w.heap.size v a wr) ∧ Below w.heap.size w wr) (fun _ i _ => t.size - (intOf i).toNat)
  case atStart => exact ⟨0, rfl, Nat.zero_le _, Lib.hid ⟨t.size + 1, [], [], Own.nil _ _, by simp [bloT, cut], rfl, by omega⟩, Below.refl _ _⟩
  case round =>
    obtain ⟨a, rfl, ha, HR, hbr⟩ := hrel
    obtain ⟨f, hds, b, hown, hbt, himp, hf⟩ := HR.out
    have hbd := blo_bounds hbt (by omega)
    have hlen : hds.length = b.length := hown.len
    obtain ⟨ad, cap, rfl⟩ := hown.slice
    have HOWN := Lib.hid hown; have HBT := Lib.hid hbt; have HI := Lib.hid himp; have HF := Lib.hid hf; have HBD := Lib.hid hbd
    have HOB : Hid (∀ q, Below wr.heap.size wr q → Own w.heap.size q (.slice ad b.length cap) hds b) := Lib.hid (fun q hq => HOWN.out.below hq)
    have HBR := Lib.hid hbr
    have hsz := hbr.size
    have hbl : b.length ≤ 1099511627776 := by have := hbd.1; omega
    clear hown hbt himp hf hbd hbr HR
    by_cases hlt : a < t.size
    · have hai : (a : Int) < (t.size : Int) := by omega
      have ha0 : (0 : Int) ≤ (a : Int) := by omega
      have HE := Lib.hid (end_any t a wr ha hs)
      cases hn : nlAt t (t.size + 1) a with
      | none =>
        rw [hn] at HE
        have HV := Lib.hid (imp_bad hlt (.inl hn) HF.out HI.out)
        clear hn hlt
        go_wp2_with (go_at_call 37; refine HE.out.mono ?_; rintro e w1 ⟨rfl, rfl⟩; simp only [nlI])
        go_ret3
        exact ⟨⟨_, [], [], a, 24, HV.out, rfl, Own.nil _ _⟩, HBR.out⟩
      | some e =>
        rw [hn] at HE
        obtain ⟨n1, n2, n3, n4⟩ := nlAt_spec t _ a e hn
        have he0 : (0 : Int) ≤ (e : Int) := by omega
        have he1 : (a : Int) ≤ (e : Int) := by omega
        have he2 : (e : Int) ≤ (t.size : Int) := by omega
        have hea : t.size - (e + 1) < t.size - a := by omega
        have HN := Lib.hid hn; have HLT := Lib.hid hlt
        obtain ⟨s, hse⟩ : ∃ s, s = t.extract a e := ⟨_, rfl⟩
        have hss : s.size ≤ 1099511627776 := by rw [hse, ByteArray.size_extract]; omega
        have HNX : Hid (∀ b' v' wn hs', stepB b s = some b' → Own w.heap.size wn v' hs' b' → ImpRel t w.heap.size v' (e + 1) wn) := Lib.hid (fun b' v' wn hs' hst ho => by
          rw [hse] at hst
          obtain ⟨f', g1, g2, g3⟩ := imp_next HLT.out HN.out hst HF.out HBT.out HI.out
          exact ⟨f', hs', b', ho, g1, g2, g3⟩)
        have HBAD : Hid (stepB b s = none → impV t = ([], a, 24)) := Lib.hid (fun h => imp_bad HLT.out (.inr ⟨e, HN.out, by rw [← hse]; exact h⟩) HF.out HI.out)
        have HSE := Lib.hid hse
        clear hn hlt n1 n3 n4 hse
        cases h1 : hdV s with
        | some l =>
          have HST := Lib.hid (stepB_head (b := b) h1)
          have HP := Lib.hid (refParse_some s l wr w.heap.size hsz hss (HT.out.below HBR.out).a.tabs h1)
          have HSM := Lib.hid (fun q (hq : Below wr.heap.size wr q) => refSample_some s q hss (HT.out.below (HBR.out.trans (hq.mono hsz))))
          clear h1
          go_wp2_with (go_at_call 37; refine HE.out.mono ?_; rintro e w1 ⟨rfl, rfl⟩; simp only [nlI])
          rw [← HSE.out]
          refine HP.out.mono ?_
          rintro r w1 ⟨⟨la, lc, rfl, hlr⟩, hb1⟩
          have HLR := Lib.hid hlr; have HB1 := Lib.hid hb1
          clear hlr hb1
          have hbnd : hds.length + 1 ≤ 2932031007402 := by omega
          go_wp2_with (first
            | (go_at_call 38; refine (HSM.out _ HB1.out).mono ?_; rintro r w2 ⟨⟨u1, u2, u3, rfl⟩, hb2⟩)
            | (at_builtin
               have hbX : Below wr.heap.size wr ((w2.alloc (.cells #[.int .i64 u1, .int .u64 u2] 56)).alloc (.cells #[.slice la l.length lc, .slice none 0 0] 53)) := ((HB1.out.trans (hb2.mono HB1.out.size)).alloc (HB1.out.trans (hb2.mono HB1.out.size)).size _).alloc (by have := (HB1.out.trans (hb2.mono HB1.out.size)).size; simp; omega) _
               refine appE elX rfl _ _ rfl w.heap.size _ _ hds.length 1 (hdrC hds) [.slice la l.length lc, .slice none 0 0] rfl rfl (HOB.out _ hbX).row (rd_new2 _ _ 2 1 [.slice la l.length lc, .slice none 0 0] 53 1 rfl (Nat.le_refl _)) (one2 _ _ rfl rfl) hbnd (by have := hbX.size; omega) ?_
               intro v' w5 hown5 hg5 hn5
               have hO5 := Own.push (HOB.out _ hbX) ((row_below (row_below HLR.out hb2) (((Below.refl _ _).alloc (Nat.le_refl _) _).alloc (by simp) _))) hown5 hg5
               have hB5 := (HBR.out.trans (hbX.mono hsz)).trans (below_grown (HOB.out _ hbX).row hg5 (by have := hbX.size; omega))
               obtain ⟨ad5, cap5, rfl⟩ := hO5.slice))
          have hX := HNX.out _ _ _ _ HST.out hO5
          rw [List.length_append, List.length_singleton] at hX
          have HX := Lib.hid hX
          exact ⟨⟨e + 1, rfl, by omega, HX, hB5⟩, by simpa [intOf] using hea⟩
        | none =>
          have HP := Lib.hid (refParse_no s wr hss (HT.out.below HBR.out).a.tabs h1)
          cases h2 : smpV s with
          | none =>
            have HV := Lib.hid (HBAD.out (stepB_none1 h1 h2))
            have HSM := Lib.hid (fun q (hq : Below wr.heap.size wr q) => refSample_no s q hss (HT.out.below (HBR.out.trans (hq.mono hsz))) h2)
            clear h1 h2
            go_wp2_with (go_at_call 37; refine HE.out.mono ?_; rintro e w1 ⟨rfl, rfl⟩; simp only [nlI])
            rw [← HSE.out]
            refine HP.out.mono ?_
            rintro r w1 ⟨rfl, hb1⟩
            have HB1 := Lib.hid hb1
            clear hb1
            go_wp2_with (go_at_call 38; refine (HSM.out _ HB1.out).mono ?_; rintro r w2 ⟨rfl, hb2⟩)
            go_ret3
            exact ⟨⟨_, [], [], a, 24, HV.out, rfl, Own.nil _ _⟩, (HBR.out.trans ((HB1.out.trans (hb2.mono HB1.out.size)).mono hsz)).alloc (by have := (HB1.out.trans (hb2.mono HB1.out.size)).size; omega) _⟩
          | some x =>
            obtain ⟨x1, x2⟩ := x
            have HSM := Lib.hid (fun q (hq : Below wr.heap.size wr q) => refSample_is s x1 x2 q hss (HT.out.below (HBR.out.trans (hq.mono hsz))) h2)
            by_cases hb0 : b.length = 0
            · obtain rfl : b = [] := List.eq_nil_of_length_eq_zero hb0
              have HV := Lib.hid (HBAD.out (stepB_none2 h1 h2))
              clear h1 h2 hb0
              go_wp2_with (go_at_call 37; refine HE.out.mono ?_; rintro e w1 ⟨rfl, rfl⟩; simp only [nlI])
              rw [← HSE.out]
              refine HP.out.mono ?_
              rintro r w1 ⟨rfl, hb1⟩
              have HB1 := Lib.hid hb1
              clear hb1
              go_wp2_with (go_at_call 38; refine (HSM.out _ HB1.out).mono ?_; rintro r w2 ⟨rfl, hb2⟩)
              go_ret3
              exact ⟨⟨_, [], [], a, 24, HV.out, rfl, Own.nil _ _⟩, (HBR.out.trans ((HB1.out.trans (hb2.mono HB1.out.size)).mono hsz)).alloc (by have := (HB1.out.trans (hb2.mono HB1.out.size)).size; omega) _⟩
            · obtain ⟨b0, x0, rfl⟩ := snoc_of (l := b) (n := b.length - 1) (by omega)
              obtain ⟨hs0, h0, rfl⟩ := snoc_of (l := hds) (n := hds.length - 1) (by omega)
              have HST : Hid (stepB (b0 ++ [x0]) s = some (b0 ++ [(x0.1, x0.2 ++ [(x1, x2)])])) := Lib.hid (by rw [stepB_add h1 h2 (by simp), addS_snoc])
              have hx0 : x0.2.length + 1 ≤ 8796093022208 := by have := (HBD.out.2.2 x0 (by simp)).2; omega
              obtain ⟨G, cap', hv, hrow, hsr⟩ := HOWN.out.last
              have hnn : hs0.length = b0.length := by simp at hlen; omega
              have e9 : (b0 ++ [x0]).length = hs0.length + 1 := by simp; omega
              rw [e9] at hv HOB HOWN ⊢
              simp only [Value.slice.injEq] at hv
              obtain ⟨rfl, _, rfl⟩ := hv
              have hj0 : (0 : Int) ≤ (hs0.length : Int) := by omega
              have hj1 : (0 : Int) < (hs0.length : Int) + 1 := by omega
              have hj2 : (hs0.length : Int) < (hs0.length : Int) + 1 := by omega
              have hjw : IntKind.i64.wrap (hs0.length : Int) = (hs0.length : Int) := by rw [IntKind.wrap_i64]; simp at hbl; omega
              obtain ⟨ha', hn', hc', sa', sn', sc'⟩ := h0
              obtain ⟨e10, _, _⟩ : sn' = x0.2.length ∧ True ∧ True := by
                obtain ⟨aa, cc, hh⟩ := row_slice hsr
                simp only [Hdr.sv, Value.slice.injEq] at hh
                exact ⟨hh.2.1, trivial, trivial⟩
              subst e10
              have HNE : Hid (∀ q, Below wr.heap.size wr q → q.cell? ⟨G, hs0.length * 2 + 1, none⟩ = some (.slice sa' x0.2.length sc') ∧ q.frozen? ⟨G, hs0.length * 2 + 1, none⟩ = false ∧ w.heap.size ≤ G ∧ G < q.heap.size) := Lib.hid (fun q hq => by
                obtain ⟨_, _, hv2, hr2, _⟩ := (HOB.out q hq).last
                exact ser_cells hr2 (hdrC_length _))
              clear h1 h2 hb0 hlen hrow hsr hnn e9 hbl
              go_wp2_with (go_at_call 37; refine HE.out.mono ?_; rintro e w1 ⟨rfl, rfl⟩; simp only [nlI])
              rw [← HSE.out]
              refine HP.out.mono ?_
              rintro r w1 ⟨rfl, hb1⟩
              have HB1 := Lib.hid hb1
              clear hb1
              go_wp2_with (go_at_call 38; refine (HSM.out _ HB1.out).mono ?_; rintro r w2 ⟨rfl, hb2⟩)
              have hb12 := HB1.out.trans (hb2.mono HB1.out.size)
              obtain ⟨WA, hWA⟩ : ∃ WA, WA = w2.alloc (.cells #[.int .i64 x1, .int .u64 x2] 56) := ⟨_, rfl⟩
              have hbA : Below wr.heap.size wr WA := by rw [hWA]; exact hb12.alloc hb12.size _
              have hrowA : WA.heap[w2.heap.size]? = some (.cells #[.int .i64 x1, .int .u64 x2] 56 (0, 0)) := by rw [hWA]; exact heap_alloc_new w2 _
              obtain ⟨DD, hDD⟩ : ∃ DD, DD = w2.heap.size := ⟨_, rfl⟩
              rw [← hDD] at hrowA
              rw [← hWA, ← hDD]
              have d1 : WA.cell? ⟨DD, 0, none⟩ = some (.int .i64 x1) := by rw [cell_of_row _ _ _ _ _ _ hrowA]; rfl
              have d2 : WA.cell? ⟨DD, 1, none⟩ = some (.int .u64 x2) := by rw [cell_of_row _ _ _ _ _ _ hrowA]; rfl
              obtain ⟨d3, d4, d5, d6⟩ := HNE.out WA hbA
              have HSR : Hid (WA.drew.ownsRow w.heap.size 56 2 (.slice sa' x0.2.length sc') x0.2.length (smpC x0.2)) := Lib.hid (by
                obtain ⟨_, _, _, _, hq⟩ := (HOB.out WA.drew hbA.drew).last
                exact hq)
              have HSW : Hid (w.heap.size ≤ (WA.drew.alloc (.cells #[.int .i64 x1, .int .u64 x2] 56)).heap.size) := Lib.hid (by have := hbA.size; simp; omega)
              have HADD : Hid (∀ sa5 sc5 w5, w5.ownsRow w.heap.size 56 2 (.slice sa5 (x0.2.length + 1) sc5) (x0.2.length + 1) (smpC x0.2 ++ [.int .i64 x1, .int .u64 x2]) → (WA.drew.alloc (.cells #[.int .i64 x1, .int .u64 x2] 56)).grownBy w5 (Value.slice sa' x0.2.length sc').ownBlock →
                  (∀ g, (Value.slice sa5 (x0.2.length + 1) sc5).ownBlock = some g → (Value.slice sa' x0.2.length sc').ownBlock = some g ∨ (WA.drew.alloc (.cells #[.int .i64 x1, .int .u64 x2] 56)).heap.size ≤ g) →
                  (w5.cell? ⟨G, hs0.length * 2 + 1, none⟩ = some (.slice sa' x0.2.length sc') ∧ w5.frozen? ⟨G, hs0.length * 2 + 1, none⟩ = false) ∧
                  ImpRel t w.heap.size (.slice (some ⟨G, 0, none⟩) (hs0.length + 1) cap) (e + 1) (w5.setCell ⟨G, hs0.length * 2 + 1, none⟩ (.slice sa5 (x0.2.length + 1) sc5)) ∧ Below w.heap.size w (w5.setCell ⟨G, hs0.length * 2 + 1, none⟩ (.slice sa5 (x0.2.length + 1) sc5))) := Lib.hid (fun sa5 sc5 w5 hown5 hg5 hn5 => by
                have hbX : Below wr.heap.size wr (WA.drew.alloc (.cells #[.int .i64 x1, .int .u64 x2] 56)) := hbA.drew.alloc hbA.size _
                have ho := HOB.out _ hbX
                obtain ⟨_, _, _, hr2, hs2⟩ := ho.last
                have hser := row_grown hr2 hg5 (fun g hv => own_ne hr2 hs2 (by decide) hv)
                have hc := ser_cells hser (hdrC_length _)
                have hadd := Own.add (y := (x1, x2)) ho rfl hown5 hg5 hn5 sa5 sc5 rfl
                exact ⟨⟨hc.1, hc.2.1⟩, HNX.out _ _ _ _ HST.out hadd, ((HBR.out.trans (hbX.mono hsz)).trans (below_grown hs2 hg5 (by have := hbX.size; omega))).setCell (p := ⟨G, hs0.length * 2 + 1, none⟩) hc.2.2.1 _⟩)
              clear hb2 hb12 hbA hrowA hWA hDD
              go_region_law (refine sappE elM rfl _ _ rfl w.heap.size _ _ x0.2.length 1 _ [.int .i64 x1, .int .u64 x2] rfl rfl (HSR.out.alloc _) (rd_new _ 2 1 [.int .i64 x1, .int .u64 x2] 56 1 rfl (Nat.le_refl _)) (one2 _ _ rfl rfl) hx0 HSW.out ?_
                             intro v' w5 hown5 hg5 hn5
                             obtain ⟨sa5, sc5, rfl⟩ := row_slice hown5
                             have hadd := HADD.out _ _ w5 hown5 hg5 hn5
                             obtain ⟨k1, k2⟩ := hadd.1
                             have HAD := Lib.hid hadd.2
                             clear hadd hown5 hg5 hn5)
              all_goals
                go_wp2
                exact ⟨⟨e + 1, rfl, by omega, Lib.hid HAD.out.1, HAD.out.2⟩, by simpa [intOf] using hea⟩
    · obtain rfl : a = t.size := by omega
      have HV := Lib.hid (imp_end hlt HF.out (Nat.le_refl _) HI.out)
      have HCK := Lib.hid (rCheck_any _ hds b wr HOWN.out.rd (by omega) (by have := HBD.out.2.1; omega) (fun x hx => (HBD.out.2.2 x hx).1))
      obtain ⟨E, hE⟩ : ∃ E, E = modE b := ⟨_, rfl⟩
      rw [← hE] at HCK HV
      clear hlt hE hlen
      by_cases hz : E = 0
      · subst hz
        go_wp2_with (go_at_call 23; refine HCK.out.mono ?_; rintro e w1 ⟨rfl, hb1⟩)
        go_ret3
        exact ⟨⟨_, hds, b, t.size, 0, by rw [HV.out]; simp, rfl, HOB.out _ hb1⟩, HBR.out.trans (hb1.mono hsz)⟩
      · have hn : (E != 0) = true := by simpa using hz
        have HV2 : Hid (impV t = ([], t.size, E)) := Lib.hid (by rw [HV.out, if_pos hz])
        clear hz
        go_wp2_with (go_at_call 23; refine HCK.out.mono ?_; rintro e w1 ⟨rfl, hb1⟩)
        go_ret3
        exact ⟨⟨_, [], [], t.size, E, HV2.out, rfl, Own.nil _ _⟩, HBR.out.trans (hb1.mono hsz)⟩
end Go.Proofs.YtnoodiibkchaaaaGreatDoor
