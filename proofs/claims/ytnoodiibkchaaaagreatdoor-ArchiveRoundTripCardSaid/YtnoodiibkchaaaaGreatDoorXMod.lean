/-
  WALKS: model.single, model.Check (printed by gen_mod3.py).
  WALKS: the reference's Check of blocks (printed by gen_mod4.py).
-/
import Derived.Test.YtnoodiibkchaaaaGreatDoorWModB
namespace Go.Proofs.YtnoodiibkchaaaaGreatDoor
open Go.RowKit
attribute [local go_sem ↓] Go.wp_at_zero Go.wp_at_succ

/-- no series is too long to be counted -/
def Fit (p : Ser) : Prop := p.1.length ≤ 1099511627776 ∧ p.2.length ≤ 1099511627776
set_option maxHeartbeats 2000000 in
set_option maxRecDepth 100000 in
theorem msingle_any (x : Hdr) (p : Ser) (w : World) (h : SerOk w x p) (hf : Fit p) :
    Calls Tryz.prog 55 #[.agg #[.slice x.la x.ln x.lc, .slice x.sa x.sn x.sc]] w fun e w' => e = .returned (.int .i64 (serE p)) ∧ Below w.heap.size w w' := by
  obtain ⟨e1, e2⟩ := h.lens
  obtain ⟨W0, hW0⟩ : ∃ W0, W0 = w.alloc (.cells #[.slice x.la x.ln x.lc, .slice x.sa x.sn x.sc] 53) := ⟨_, rfl⟩
  have hb0 : Below w.heap.size w W0 := by rw [hW0]; exact (Below.refl _ _).alloc (Nat.le_refl _) _
  obtain ⟨d1, d2⟩ := cell_new2 w (.slice x.la x.ln x.lc) (.slice x.sa x.sn x.sc) 53
  rw [← hW0] at d1 d2
  have H1 := Lib.hid (check_any x.lv p.1 W0 (h.below hb0).1 hf.1)
  have H2 := Lib.hid (fun wq (hq : Below W0.heap.size W0 wq) => ascS_any x.sv p.2 wq ((h.below hb0).below hq).2 hf.2 20)
  have HD2 := Lib.hid d2
  have HB0 := Lib.hid hb0
  have HSE : Hid (serE p = if chkE none p.1 ≠ 0 then chkE none p.1 else if p.2.length = 0 then 21 else ascE cmpT 20 p.2) := Lib.hid rfl
  obtain ⟨xa, xn, xc, xsa, xsn, xsc⟩ := x
  simp only at e1 e2
  subst e1 e2
  simp only [Hdr.lv, Hdr.sv] at H1 H2 HD2
  obtain ⟨E, hE⟩ : ∃ E, E = chkE none p.1 := ⟨_, rfl⟩
  obtain ⟨A, hA⟩ : ∃ A, A = ascE cmpT 20 p.2 := ⟨_, rfl⟩
  rw [← hE] at H1 HSE
  rw [← hA] at H2 HSE
  clear hE hA hf h hb0 d2
  by_cases hz : E = 0
  · subst hz
    have HSE2 := Lib.hid (HSE.out.trans (if_neg (by decide)))
    clear HSE
    by_cases hl : p.2.length = 0
    · have HF := Lib.hid (HSE2.out.trans (if_pos hl))
      have hl2 : ((p.2.length : Int) == 0) = true := by rw [beq_iff_eq]; omega
      clear HSE2 hl
      go_enter Tryz.func55, Tryz.ntmps55
      go_wp2_with fail
      rw [← hW0]
      go_wp2_with (go_at_call 81; refine H1.out.mono ?_; rintro e w1 ⟨rfl, hb1⟩; have d3 := (hb1.cell (World.block_lt_of_cell? W0 _ HD2.out)).trans HD2.out)
      go_ret
      exact ⟨ret_i64 HF.out.symm, HB0.out.trans (hb1.mono HB0.out.size)⟩
    · have HF := Lib.hid (HSE2.out.trans (if_neg hl))
      have hl2 : ((p.2.length : Int) == 0) = false := by rw [beq_eq_false_iff_ne]; omega
      clear HSE2 hl
      go_enter Tryz.func55, Tryz.ntmps55
      go_wp2_with fail
      rw [← hW0]
      go_wp2_with (first
        | (go_at_call 81; refine H1.out.mono ?_; rintro e w1 ⟨rfl, hb1⟩; have d3 := (hb1.cell (World.block_lt_of_cell? W0 _ HD2.out)).trans HD2.out)
        | (go_at_call 82; refine (H2.out _ hb1).mono ?_; rintro e w2 ⟨rfl, hb2⟩))
      go_ret
      have hb3 := hb1.trans (hb2.mono hb1.size)
      exact ⟨ret_i64 HF.out.symm, HB0.out.trans (hb3.mono HB0.out.size)⟩
  · have HF := Lib.hid (HSE.out.trans (if_pos hz))
    have hn : (E != 0) = true := by simpa using hz
    clear HSE hz
    go_enter Tryz.func55, Tryz.ntmps55
    go_wp2_with fail
    rw [← hW0]
    go_wp2_with (go_at_call 81; refine H1.out.mono ?_; rintro e w1 ⟨rfl, hb1⟩)
    go_ret
    exact ⟨ret_i64 HF.out.symm, HB0.out.trans (hb1.mono HB0.out.size)⟩
/-- a slice of a row -/
theorem Rd.sub {k : Nat} {w : World} {b off n cap : Nat} {xs : List Value} (h : Rd k w (.slice (some ⟨b, off, none⟩) n cap) n xs) (lo hi : Nat) (h1 : lo ≤ hi) (h2 : hi ≤ n) (c : Nat) (hc : hi - lo ≤ c) :
    Rd k w (.slice (some ⟨b, off + lo * k, none⟩) (hi - lo) c) (hi - lo) ((xs.drop (lo * k)).take ((hi - lo) * k)) := by
  obtain ⟨hl, ad, cap', hv, hcap, h⟩ := h
  simp only [Value.slice.injEq] at hv
  obtain ⟨rfl, _, rfl⟩ := hv
  have hm1 : lo * k ≤ hi * k := Nat.mul_le_mul_right k h1
  have hm2 : hi * k ≤ n * k := Nat.mul_le_mul_right k h2
  have hm3 : (hi - lo) * k = hi * k - lo * k := Nat.sub_mul ..
  refine ⟨by rw [List.length_take, List.length_drop]; omega, _, c, rfl, hc, ?_⟩
  rcases h with h | ⟨bl, o, he, hcell⟩
  · exact .inl (by omega)
  · simp only [Option.some.injEq, Addr.mk.injEq, and_true] at he
    obtain ⟨rfl, rfl⟩ := he
    refine .inr ⟨b, off + lo * k, rfl, fun j u hj => ?_⟩
    rw [List.getElem?_take] at hj
    split at hj
    · rw [List.getElem?_drop] at hj
      have := hcell _ u hj
      rw [← Nat.add_assoc] at this
      exact this
    · cases hj
theorem cells2_drop {α : Type} (f g : α → Value) : ∀ (l : List α) (k : Nat), (cells2 f g l).drop (k * 2) = cells2 f g (l.drop k)
  | [], k => by simp [cells2]
  | x :: l, 0 => by simp
  | x :: l, k + 1 => by
    have e : cells2 f g (x :: l) = f x :: g x :: cells2 f g l := by simp [cells2]
    rw [show (k + 1) * 2 = k * 2 + 2 by omega, e, List.drop_succ_cons, List.drop_succ_cons, List.drop_succ_cons]
    exact cells2_drop f g l k
theorem cells2_take {α : Type} (f g : α → Value) : ∀ (l : List α) (k : Nat), (cells2 f g l).take (k * 2) = cells2 f g (l.take k)
  | [], k => by simp [cells2]
  | x :: l, 0 => by simp [cells2]
  | x :: l, k + 1 => by
    have e : ∀ r, cells2 f g (x :: r) = f x :: g x :: cells2 f g r := fun r => by simp [cells2]
    rw [show (k + 1) * 2 = k * 2 + 2 by omega, e, List.take_succ_cons, List.take_succ_cons, List.take_succ_cons, e, cells2_take f g l k]
/-- a window of a block -/
theorem RdB.sub {w : World} {b off cap : Nat} {hs : List Hdr} {bs : List Ser} (h : RdB w (.slice (some ⟨b, off, none⟩) hs.length cap) hs bs) (lo hi : Nat) (h1 : lo ≤ hi) (h2 : hi ≤ hs.length) (c : Nat) (hc : hi - lo ≤ c) :
    RdB w (.slice (some ⟨b, off + lo * 2, none⟩) (hi - lo) c) ((hs.drop lo).take (hi - lo)) ((bs.drop lo).take (hi - lo)) := by
  obtain ⟨hl, hr, hs'⟩ := h
  have hlen : ((hs.drop lo).take (hi - lo)).length = hi - lo := by rw [List.length_take, List.length_drop]; omega
  refine ⟨by rw [List.length_take, List.length_drop, List.length_take, List.length_drop, hl], ?_, ?_⟩
  · have := Rd.sub (k := 2) hr lo hi h1 h2 c hc
    unfold RdH
    rw [hlen]
    unfold hdrC at this ⊢
    rw [cells2_drop, cells2_take] at this
    exact this
  · intro i h x hi' hx
    rw [List.getElem?_take] at hi' hx
    split at hi'
    · rename_i hlt
      rw [if_pos hlt] at hx
      rw [List.getElem?_drop] at hi' hx
      exact hs' _ _ _ hi' hx
    · cases hi'
def prevB (b : List Ser) (k : Nat) : Option Ser := if k = 0 then none else b[k - 1]?
theorem prevB_succ (b : List Ser) (k : Nat) : prevB b (k + 1) = b[k]? := by unfold prevB; rw [if_neg (by omega), Nat.add_sub_cancel]
theorem bloE_err (p : Option Ser) (x : Ser) (r : List Ser) (h : serE x ≠ 0) : bloE p (x :: r) = serE x := by unfold bloE; rw [if_pos h]
theorem bloE_first (x : Ser) (r : List Ser) (h : serE x = 0) : bloE none (x :: r) = bloE (some x) r := by rw [bloE, if_neg (by simpa using h)]
theorem bloE_some (q x : Ser) (r : List Ser) (h : serE x = 0) : bloE (some q) (x :: r) = if cmpB q x = 0 then 19 else if 0 < cmpB q x then 16 else bloE (some x) r := by rw [bloE, if_neg (by simpa using h)]
def MRel (b : List Ser) (w : World) (i : Value) (wr : World) : Prop := ∃ k : Nat, k ≤ b.length ∧ i = .int .i64 (k : Nat) ∧ Hid (bloE none b = bloE (prevB b k) (b.drop k)) ∧ Below w.heap.size w wr
theorem MRel.next {b : List Ser} {w wr : World} {k : Nat} {x : Ser} {p : Option Ser} (hx : b[k]? = some x) (hE : bloE none b = bloE p (b.drop k)) (h : bloE p (x :: b.drop (k + 1)) = bloE (some x) (b.drop (k + 1))) (hb : Below w.heap.size w wr) : MRel b w (.int .i64 ((k : Int) + 1)) wr :=
  ⟨k + 1, (List.getElem?_eq_some_iff.1 hx).1, rfl, Lib.hid (by rw [hE, drop_at hx, h, prevB_succ, hx]), hb⟩
set_option maxHeartbeats 4000000 in
set_option maxRecDepth 100000 in
theorem mCheck_any (v : Value) (hs : List Hdr) (b : List Ser) (w : World) (h : RdB w v hs b) (hl : hs.length ≤ 1099511627776) (hN : samplesN b ≤ 1099511627776) (hf : ∀ x ∈ b, Fit x) :
    Calls Tryz.prog 27 #[v] w fun e w' => e = .returned (.int .i64 (modE b)) ∧ Below w.heap.size w w' := by
  have H0 := Lib.hid (mcheck0_any v hs b w h hl hN)
  have HH := Lib.hid h
  have HLN := Lib.hid h.1
  obtain ⟨ad, cap, rfl, hcap⟩ := Rd.slice h.2.1
  clear h hN
  by_cases hbig : 1048576 < b.length ∨ 16777216 < samplesN b
  · have HF : Hid (modE b = 7) := Lib.hid (by unfold modE; rw [if_pos hbig])
    rw [if_pos hbig] at H0
    clear hbig
    go_enter Tryz.func27, Tryz.ntmps27
    go_wp2_with (go_at_call 54; refine H0.out.mono ?_; rintro e w1 ⟨rfl, hb1⟩)
    go_ret
    exact ⟨ret_i64 HF.out.symm, hb1⟩
  · have HM : Hid (modE b = bloE none b) := Lib.hid (by unfold modE; rw [if_neg hbig])
    rw [if_neg hbig] at H0
    clear hbig
    go_enter Tryz.func27, Tryz.ntmps27
    go_wp2_with (go_at_call 54; refine H0.out.mono ?_; rintro e w1 ⟨rfl, hb1⟩)
    have HB1 := Lib.hid hb1
    clear hb1 H0
    go_loopw [15] (fun i wr => MRel b w i wr) (fun i _ => hs.length - (intOf i).toNat)
    case atStart => exact ⟨0, by omega, rfl, Lib.hid rfl, HB1.out⟩
    case round =>
      obtain ⟨k, hk, rfl, HE, hbr⟩ := hrel
      by_cases hkl : k < hs.length
      · obtain ⟨x, hx⟩ := at_some hkl
        obtain ⟨p, hp⟩ := at_some (l := b) (k := k) (by have := HLN.out; omega)
        have hrd := HH.out.below hbr
        have s1 := hrd.2.2 _ _ _ hx hp
        obtain ⟨bb, off, rfl, c1, c2⟩ := RdH.at hrd.2.1 hx
        have hkl' : (k : Int) < (hs.length : Int) := by omega
        have hk0 : (0 : Int) ≤ (k : Int) := by omega
        obtain ⟨W1, hW1⟩ : ∃ W1, W1 = wr.alloc (.cells #[.slice x.la x.ln x.lc, .slice x.sa x.sn x.sc] 53) := ⟨_, rfl⟩
        obtain ⟨n1, n2⟩ := cell_new2 wr (.slice x.la x.ln x.lc) (.slice x.sa x.sn x.sc) 53
        rw [← hW1] at n1 n2
        have hbW : Below wr.heap.size wr W1 := by rw [hW1]; exact (Below.refl _ _).alloc (Nat.le_refl _) _
        have HSG := Lib.hid (msingle_any x p W1 (s1.below hbW) (hf _ (List.mem_of_getElem? hp)))
        have HBW := Lib.hid hbW; have HP := Lib.hid hp; have HX := Lib.hid hx; have HRD := Lib.hid hrd; have HBR := Lib.hid hbr
        obtain ⟨E, hE⟩ : ∃ E, E = serE p := ⟨_, rfl⟩
        rw [← hE] at HSG
        have HLE := Lib.hid hE
        clear hx hp hrd s1 hE hbW hbr hkl
        obtain ⟨xa, xn, xc, xsa, xsn, xsc⟩ := x
        by_cases hz : E = 0
        · subst hz
          rcases Nat.eq_zero_or_pos k with rfl | hkp
          · simp only [Nat.zero_mul, Nat.add_zero] at c1 c2
            have h0l : (0 : Int) < (hs.length : Int) := by omega
            have HAS : Hid (∀ wq c, Below wr.heap.size wr wq → 1 ≤ c → Calls Tryz.prog 56 #[.slice (some ⟨bb, off, none⟩) 1 c, .func (.func 57) #[] #[], .int .i64 19] wq fun e w' => e = .returned (.int .i64 0) ∧ Below wq.heap.size wq w') := Lib.hid (fun wq c hq hc => by
              have hw := (HRD.out.below hq).sub 0 1 (by omega) (by omega) c (by omega)
              have h2 := ascB_any _ _ _ wq hw (by rw [List.length_take]; omega) (fun x hx => (hf x (List.mem_of_mem_drop (List.mem_of_mem_take hx))).1) 19
              rw [show ascE cmpB 19 (List.take (1 - 0) (List.drop 0 b)) = 0 from by
                rw [drop_at HP.out]; rfl] at h2
              simpa using h2)
            clear hkl' hk hf
            go_wp2_with fail
            rw [← hW1]
            go_wp2_with (go_at_call 55; refine HSG.out.mono ?_; rintro e w3 ⟨rfl, hb3⟩)
            have hb4 : Below wr.heap.size wr w3 := HBW.out.trans (hb3.mono HBW.out.size)
            refine (HAS.out _ cap hb4 (by omega)).mono ?_
            rintro e w4 ⟨rfl, hb5⟩
            have HB5 := Lib.hid (HBR.out.trans ((hb4.trans (hb5.mono hb4.size)).mono HBR.out.size))
            clear hb3 hb4 hb5 HAS
            go_wp2
            exact ⟨MRel.next HP.out HE.out (bloE_first _ _ HLE.out.symm) HB5.out, by simp [intOf]; omega⟩
          · obtain ⟨j, rfl⟩ : ∃ j, k = j + 1 := ⟨k - 1, by omega⟩
            obtain ⟨q, hq⟩ := at_some (l := b) (k := j) (by have := HLN.out; omega)
            have hj0 : (0 : Int) ≤ (j : Int) := by omega
            have hj1 : (j : Int) + 1 < (hs.length : Int) := by omega
            have hj2 : (j : Int) + 2 ≤ (hs.length : Int) := by omega
            have hjw : IntKind.i64.wrap (j : Int) = (j : Int) := by rw [IntKind.wrap_i64]; omega
            have hjm : max (j : Int) 0 = (j : Int) := by omega
            have hkz : (((j : Int) + 1) == 0) = false := by rw [beq_eq_false_iff_ne]; omega
            have HQ : Hid (bloE none b = bloE (some q) (b.drop (j + 1))) := Lib.hid (by rw [HE.out, prevB_succ, hq])
            have HQQ := Lib.hid hq
            obtain ⟨A, hA⟩ : ∃ A, A = if cmpB q p = 0 then 19 else if 0 < cmpB q p then 16 else (0 : Int) := ⟨_, rfl⟩
            have HAA := Lib.hid hA
            have HAS : Hid (∀ wq c, Below wr.heap.size wr wq → 2 ≤ c → Calls Tryz.prog 56 #[.slice (some ⟨bb, off + j * 2, none⟩) 2 c, .func (.func 57) #[] #[], .int .i64 19] wq fun e w' => e = .returned (.int .i64 A) ∧ Below wq.heap.size wq w') := Lib.hid (fun wq c hq' hc => by
              have hw := (HRD.out.below hq').sub j (j + 2) (by omega) (by omega) c (by omega)
              have h2 := ascB_any _ _ _ wq hw (by rw [List.length_take]; omega) (fun x hx => (hf x (List.mem_of_mem_drop (List.mem_of_mem_take hx))).1) 19
              rw [show ascE cmpB 19 (List.take (j + 2 - j) (List.drop j b)) = A from by
                rw [show j + 2 - j = 2 by omega, drop_at HQQ.out, drop_at HP.out, HAA.out]; rfl, show j + 2 - j = 2 by omega] at h2
              exact h2)
            clear hkp hk hq hkl' hA hf
            go_wp2_with fail
            rw [← hW1]
            go_wp2_with (go_at_call 55; refine HSG.out.mono ?_; rintro e w3 ⟨rfl, hb3⟩)
            rw [show j + 1 + 1 - j = 2 by omega]
            have hb4 : Below wr.heap.size wr w3 := HBW.out.trans (hb3.mono HBW.out.size)
            have hbl := HQ.out.trans (by rw [drop_at HP.out, bloE_some q p _ HLE.out.symm])
            by_cases hc0 : cmpB q p = 0
            · obtain rfl : A = 19 := by rw [HAA.out, if_pos hc0]
              rw [if_pos hc0] at hbl
              have HF := Lib.hid hbl
              refine (HAS.out _ (cap - j) hb4 (by omega)).mono ?_
              rintro e w4 ⟨rfl, hb5⟩
              have HB5 := Lib.hid (HBR.out.trans ((hb4.trans (hb5.mono hb4.size)).mono HBR.out.size))
              clear hb3 hb4 hb5 HAS hbl hc0 HAA
              go_wp2
              go_ret
              exact ⟨ret_i64 (HM.out.trans HF.out).symm, HB5.out⟩
            · rw [if_neg hc0] at hbl
              by_cases hcp : 0 < cmpB q p
              · obtain rfl : A = 16 := by rw [HAA.out, if_neg hc0, if_pos hcp]
                rw [if_pos hcp] at hbl
                have HF := Lib.hid hbl
                refine (HAS.out _ (cap - j) hb4 (by omega)).mono ?_
                rintro e w4 ⟨rfl, hb5⟩
                have HB5 := Lib.hid (HBR.out.trans ((hb4.trans (hb5.mono hb4.size)).mono HBR.out.size))
                clear hb3 hb4 hb5 HAS hbl hc0 hcp HAA
                go_wp2
                go_ret
                exact ⟨ret_i64 (HM.out.trans HF.out).symm, HB5.out⟩
              · obtain rfl : A = 0 := by rw [HAA.out, if_neg hc0, if_neg hcp]
                rw [if_neg hcp] at hbl
                have HF : Hid (bloE (some q) (p :: b.drop (j + 1 + 1)) = bloE (some p) (b.drop (j + 1 + 1))) := Lib.hid (by rw [bloE_some q p _ HLE.out.symm, if_neg hc0, if_neg hcp])
                refine (HAS.out _ (cap - j) hb4 (by omega)).mono ?_
                rintro e w4 ⟨rfl, hb5⟩
                have HB5 := Lib.hid (HBR.out.trans ((hb4.trans (hb5.mono hb4.size)).mono HBR.out.size))
                clear hb3 hb4 hb5 HAS hbl hc0 hcp HAA
                go_wp2
                exact ⟨MRel.next HP.out HQ.out HF.out HB5.out, by simp [intOf]; omega⟩
        · have hn : (E != 0) = true := by simpa using hz
          have HF : Hid (bloE none b = E) := Lib.hid (by rw [HE.out, drop_at HP.out, bloE_err _ _ _ (by rw [← HLE.out]; exact hz)]; exact HLE.out.symm)
          clear hz hk HE hf
          go_wp2_with fail
          rw [← hW1]
          go_wp2_with (go_at_call 55; refine HSG.out.mono ?_; rintro e w3 ⟨rfl, hb3⟩)
          go_ret
          have hb4 : Below wr.heap.size wr w3 := HBW.out.trans (hb3.mono HBW.out.size)
          exact ⟨ret_i64 (HM.out.trans HF.out).symm, HBR.out.trans (hb4.mono HBR.out.size)⟩
      · obtain rfl : k = hs.length := by have := HLN.out; omega
        have HF : Hid (bloE none b = 0) := Lib.hid (by rw [HE.out, HLN.out, List.drop_length]; unfold bloE; rfl)
        clear HE
        go_wp2
        go_ret
        exact ⟨ret_i64 (HM.out.trans HF.out).symm, hbr⟩
end Go.Proofs.YtnoodiibkchaaaaGreatDoor
namespace Go.Proofs.YtnoodiibkchaaaaGreatDoor
open Go.RowKit
attribute [local go_sem ↓] Go.wp_at_zero Go.wp_at_succ

theorem serE_lab {p : Ser} (h : chkE none p.1 ≠ 0) : serE p = chkE none p.1 := by unfold serE; rw [if_pos h]
theorem serE_emp {p : Ser} (h : chkE none p.1 = 0) (h2 : p.2.length = 0) : serE p = 21 := by unfold serE; rw [if_neg (by simpa using h), if_pos h2]
theorem serE_tim {p : Ser} (h : chkE none p.1 = 0) (h2 : ¬ p.2.length = 0) : serE p = ascE cmpT 20 p.2 := by unfold serE; rw [if_neg (by simpa using h), if_neg h2]
set_option maxHeartbeats 4000000 in
set_option maxRecDepth 100000 in
theorem rCheck_any (v : Value) (hs : List Hdr) (b : List Ser) (w : World) (h : RdB w v hs b) (hl : hs.length ≤ 1099511627776) (hN : samplesN b ≤ 1099511627776) (hf : ∀ x ∈ b, Fit x) :
    Calls Tryz.prog 23 #[v] w fun e w' => e = .returned (.int .i64 (modE b)) ∧ Below w.heap.size w w' := by
  have H0 := Lib.hid (rlarge_any v hs b w h hl hN)
  have HH := Lib.hid h
  have HLN := Lib.hid h.1
  obtain ⟨ad, cap, rfl, hcap⟩ := Rd.slice h.2.1
  clear h hN
  by_cases hbig : 1048576 < b.length ∨ 16777216 < samplesN b
  · have HF : Hid (modE b = 7) := Lib.hid (by unfold modE; rw [if_pos hbig])
    rw [if_pos hbig] at H0
    clear hbig
    go_enter Tryz.func23, Tryz.ntmps23
    go_wp2_with (go_at_call 48; refine H0.out.mono ?_; rintro e w1 ⟨rfl, hb1⟩)
    go_ret
    exact ⟨ret_i64 HF.out.symm, hb1⟩
  · have HM : Hid (modE b = bloE none b) := Lib.hid (by unfold modE; rw [if_neg hbig])
    rw [if_neg hbig] at H0
    clear hbig
    go_enter Tryz.func23, Tryz.ntmps23
    go_wp2_with (go_at_call 48; refine H0.out.mono ?_; rintro e w1 ⟨rfl, hb1⟩)
    have HB1 := Lib.hid hb1
    clear hb1 H0
    go_loopw [3] (fun i wr => MRel b w i wr) (fun i _ => hs.length - (intOf i).toNat)
    case atStart => exact ⟨0, by omega, rfl, Lib.hid rfl, HB1.out⟩
    case round =>
      obtain ⟨k, hk, rfl, HE, hbr⟩ := hrel
      by_cases hkl : k < hs.length
      · obtain ⟨x, hx⟩ := at_some hkl
        obtain ⟨p, hp⟩ := at_some (l := b) (k := k) (by have := HLN.out; omega)
        have hrd := HH.out.below hbr
        have s1 := hrd.2.2 _ _ _ hx hp
        obtain ⟨bb, off, rfl, c1, c2⟩ := RdH.at hrd.2.1 hx
        have hkl' : (k : Int) < (hs.length : Int) := by omega
        have hk0 : (0 : Int) ≤ (k : Int) := by omega
        have hfp := hf _ (List.mem_of_getElem? hp)
        have HCK := Lib.hid (refCheck_any x.lv p.1 wr s1.1 hfp.1)
        have HTM := Lib.hid (fun wq (hq : Below wr.heap.size wr wq) => times_any x.sv p.2 wq (s1.below hq).2 hfp.2)
        have HC2 := Lib.hid c2; have HC1 := Lib.hid c1
        have HP := Lib.hid hp; have HX := Lib.hid hx; have HRD := Lib.hid hrd; have HBR := Lib.hid hbr
        have HLN2 := Lib.hid s1.lens
        obtain ⟨E, hE⟩ : ∃ E, E = chkE none p.1 := ⟨_, rfl⟩
        rw [← hE] at HCK
        have HLE := Lib.hid hE
        clear hx hp hrd s1 hE hbr hkl hfp c2
        obtain ⟨xa, xn, xc, xsa, xsn, xsc⟩ := x
        simp only [Hdr.lv, Hdr.sv] at HCK HTM HC2 HLN2 HC1
        have D2 : Hid (∀ wq, Below wr.heap.size wr wq → wq.cell? ⟨bb, off + k * 2 + 1, none⟩ = some (.slice xsa xsn xsc)) := Lib.hid (fun wq hq => (hq.cell (World.block_lt_of_cell? wr _ HC2.out)).trans HC2.out)
        have D1 : Hid (∀ wq, Below wr.heap.size wr wq → wq.cell? ⟨bb, off + k * 2, none⟩ = some (.slice xa xn xc)) := Lib.hid (fun wq hq => (hq.cell (World.block_lt_of_cell? wr _ HC1.out)).trans HC1.out)
        by_cases hz : E = 0
        · subst hz
          by_cases hsn : p.2.length = 0
          · have hxs : ((xsn : Int) == 0) = true := by rw [beq_iff_eq, HLN2.out.2]; omega
            have HS : Hid (serE p = 21) := Lib.hid (serE_emp HLE.out.symm hsn)
            have HF : Hid (bloE none b = 21) := Lib.hid (by rw [HE.out, drop_at HP.out, bloE_err _ _ _ (by rw [HS.out]; decide)]; exact HS.out)
            clear hsn hk HE hf
            go_wp2_with (go_at_call 49; refine HCK.out.mono ?_; rintro e w3 ⟨rfl, hb3⟩; have d3 := D2.out _ hb3)
            go_ret
            exact ⟨ret_i64 (HM.out.trans HF.out).symm, HBR.out.trans (hb3.mono HBR.out.size)⟩
          · have hxs : ((xsn : Int) == 0) = false := by rw [beq_eq_false_iff_ne, HLN2.out.2]; omega
            have HS := Lib.hid (serE_tim HLE.out.symm hsn)
            obtain ⟨A, hA⟩ : ∃ A, A = ascE cmpT 20 p.2 := ⟨_, rfl⟩
            rw [← hA] at HTM HS
            clear hA hsn
            by_cases hz2 : A = 0
            · subst hz2
              rcases Nat.eq_zero_or_pos k with rfl | hkp
              · simp only [Nat.zero_mul, Nat.add_zero] at c1 D2
                have h0l : (0 : Int) < (hs.length : Int) := by omega
                clear hkl' hk hf
                go_wp2_with (first
                  | (go_at_call 49; refine HCK.out.mono ?_; rintro e w3 ⟨rfl, hb3⟩; have d3 := D2.out _ hb3)
                  | (go_at_call 50; refine (HTM.out _ hb3).mono ?_; rintro e w4 ⟨rfl, hb4⟩))
                have hb5 := hb3.trans (hb4.mono hb3.size)
                exact ⟨MRel.next HP.out HE.out (bloE_first _ _ HS.out) (HBR.out.trans (hb5.mono HBR.out.size)), by simp [intOf]; omega⟩
              · obtain ⟨j, rfl⟩ : ∃ j, k = j + 1 := ⟨k - 1, by omega⟩
                obtain ⟨q, hq⟩ := at_some (l := b) (k := j) (by have := HLN.out; omega)
                obtain ⟨y, hy⟩ := at_some (l := hs) (k := j) (by omega)
                obtain ⟨b', off', hbb, e1, e2⟩ := RdH.at HRD.out.2.1 hy
                simp only [Option.some.injEq, Addr.mk.injEq, and_true] at hbb
                obtain ⟨rfl, rfl⟩ := hbb
                have hj0 : (0 : Int) ≤ (j : Int) := by omega
                have hj1 : (j : Int) + 1 < (hs.length : Int) := by omega
                have hj2 : (j : Int) < (hs.length : Int) := by omega
                have hj3 : (0 : Int) < (j : Int) + 1 := by omega
                have hj4 : (0 : Int) ≤ (j : Int) + 1 := by omega
                have hjw : IntKind.i64.wrap (j : Int) = (j : Int) := by rw [IntKind.wrap_i64]; omega
                have HQ : Hid (bloE none b = bloE (some q) (b.drop (j + 1))) := Lib.hid (by rw [HE.out, prevB_succ, hq])
                have s2 := HRD.out.2.2 _ _ _ hy hq
                have s1 := HRD.out.2.2 _ _ _ HX.out HP.out
                have HCM := Lib.hid (fun wq (hw : Below wr.heap.size wr wq) => refCompare_any y.lv (.slice xa xn xc) q.1 p.1 wq (s2.below hw).1 (s1.below hw).1 (hf _ (List.mem_of_getElem? hq)).1 (hf _ (List.mem_of_getElem? HP.out)).1)
                obtain ⟨ya, yn, yc, ysa, ysn, ysc⟩ := y
                simp only [Hdr.lv] at HCM
                have HE1 : Hid (∀ wq, Below wr.heap.size wr wq → wq.cell? ⟨bb, off + j * 2, none⟩ = some (.slice ya yn yc)) := Lib.hid (fun wq hq => (hq.cell (World.block_lt_of_cell? wr _ e1)).trans e1)
                obtain ⟨C, hC⟩ : ∃ C, C = cmpL q.1 p.1 := ⟨_, rfl⟩
                rw [← hC] at HCM
                have hbl := HQ.out.trans (by rw [drop_at HP.out, bloE_some q p _ HS.out, show cmpB q p = C from hC.symm])
                have HBL := Lib.hid hbl
                have HBN : Hid (bloE (some q) (p :: b.drop (j + 1 + 1)) = if C = 0 then 19 else if 0 < C then 16 else bloE (some p) (b.drop (j + 1 + 1))) := Lib.hid (by rw [bloE_some q p _ HS.out, show cmpB q p = C from hC.symm])
                clear hkp hk hq hy hkl' hf s1 s2 e1 e2 hC hbl
                go_wp2_with (first
                  | (go_at_call 49; refine HCK.out.mono ?_; rintro e w3 ⟨rfl, hb3⟩; have d3 := D2.out _ hb3)
                  | (go_at_call 50; refine (HTM.out _ hb3).mono ?_; rintro e w4 ⟨rfl, hb4⟩))
                have hb5 := hb3.trans (hb4.mono hb3.size)
                have CC : Hid (∀ wq, Below w4.heap.size w4 wq → wq.cell? ⟨bb, off + j * 2, none⟩ = some (.slice ya yn yc) ∧ wq.cell? ⟨bb, off + (j + 1) * 2, none⟩ = some (.slice xa xn xc) ∧ True ∧ True ∧ True) := Lib.hid (fun wq hw => ⟨HE1.out _ (hb5.trans (hw.mono hb5.size)), D1.out _ (hb5.trans (hw.mono hb5.size)), trivial, trivial, trivial⟩)
                have CB : Hid (∀ wq, Below w4.heap.size w4 wq → Calls Tryz.prog 39 #[.slice ya yn yc, .slice xa xn xc] wq fun e w' => e = .returned (.int .i64 C) ∧ Below w4.heap.size w4 w') := Lib.hid (fun wq hw => (HCM.out _ (hb5.trans (hw.mono hb5.size))).mono fun e w' ⟨he, hb⟩ => ⟨he, hw.trans (hb.mono hw.size)⟩)
                have HB5 := Lib.hid (HBR.out.trans (hb5.mono HBR.out.size))
                clear hb3 hb4 hb5 d3 c1
                refine wp_region_class (fun x => Below w4.heap.size w4 x) (by kernel_rfl) (by kernel_rfl) ((Below.refl _ _).drew) ?_
                repeat (
                  refine wpQuiet_step (fun K hK => ?_)
                  go_simp
                  first
                    | (refine hK _ ?_; clear hK K)
                    | (refine ⟨_, fun _ _ => rfl, hK _ ?_⟩; clear hK K)
                    | (apply Exists.intro
                       refine ⟨fun wq hwq => ?_, hK _ ?_⟩
                       (first
                        | (go_at_call 39; exact CB.out _ hwq)
                        | (have hc := CC.out _ hwq; go_simp; exact rfl)
                        | (obtain ⟨hc0, hc1, hc2, hc3, hc4⟩ := CC.out _ hwq; go_simp; exact rfl))
                       clear hK K))
                refine wpQuiet_nil ?_
                intro wq hwq
                have HBQ := Lib.hid (HB5.out.trans (hwq.mono HB5.out.size))
                clear hwq CC CB
                by_cases hc0 : C = 0
                · have he : (C == 0) = true := by simpa using hc0
                  have HF := Lib.hid (HBL.out.trans (if_pos hc0))
                  clear hc0
                  go_wp2
                  go_ret
                  exact ⟨ret_i64 (HM.out.trans HF.out).symm, HBQ.out⟩
                · have he : (C == 0) = false := by simpa using hc0
                  by_cases hcp : 0 < C
                  · have HF := Lib.hid (HBL.out.trans ((if_neg hc0).trans (if_pos hcp)))
                    clear hc0
                    go_wp2
                    go_ret
                    exact ⟨ret_i64 (HM.out.trans HF.out).symm, HBQ.out⟩
                  · have hcn : C ≤ 0 := by omega
                    have HF := Lib.hid (HBN.out.trans ((if_neg hc0).trans (if_neg hcp)))
                    clear hc0 hcp
                    go_wp2
                    exact ⟨MRel.next HP.out HQ.out HF.out HBQ.out, by simp [intOf]; omega⟩
            · have hn : (A != 0) = true := by simpa using hz2
              have he : (A == 0) = false := by simpa using hz2
              have HF : Hid (bloE none b = A) := Lib.hid (by rw [HE.out, drop_at HP.out, bloE_err _ _ _ (by rw [HS.out]; exact hz2)]; exact HS.out)
              clear hz2 hk HE hf
              go_wp2_with (first
                | (go_at_call 49; refine HCK.out.mono ?_; rintro e w3 ⟨rfl, hb3⟩; have d3 := D2.out _ hb3)
                | (go_at_call 50; refine (HTM.out _ hb3).mono ?_; rintro e w4 ⟨rfl, hb4⟩))
              go_ret
              have hb5 := hb3.trans (hb4.mono hb3.size)
              exact ⟨ret_i64 (HM.out.trans HF.out).symm, HBR.out.trans (hb5.mono HBR.out.size)⟩
        · have hn : (E != 0) = true := by simpa using hz
          have he : (E == 0) = false := by simpa using hz
          have HS : Hid (serE p = E) := Lib.hid (by rw [serE_lab (by rw [← HLE.out]; exact hz)]; exact HLE.out.symm)
          have HF : Hid (bloE none b = E) := Lib.hid (by rw [HE.out, drop_at HP.out, bloE_err _ _ _ (by rw [HS.out]; exact hz)]; exact HS.out)
          clear hz hk HE hf
          go_wp2_with (go_at_call 49; refine HCK.out.mono ?_; rintro e w3 ⟨rfl, hb3⟩)
          go_ret
          exact ⟨ret_i64 (HM.out.trans HF.out).symm, HBR.out.trans (hb3.mono HBR.out.size)⟩
      · obtain rfl : k = hs.length := by have := HLN.out; omega
        have HF : Hid (bloE none b = 0) := Lib.hid (by rw [HE.out, HLN.out, List.drop_length]; unfold bloE; rfl)
        clear HE
        go_wp2
        go_ret
        exact ⟨ret_i64 (HM.out.trans HF.out).symm, hbr⟩
end Go.Proofs.YtnoodiibkchaaaaGreatDoor
