/-
  WALKS: the decoder's get, as one contract; xorval.Get.
-/
import Derived.Test.YtdniaingipoggaaDoorWXorE
namespace Go.Proofs.YtdniaingipoggaaDoor
open Go.RowKit

theorem readD_zero (n : Int) (r : List Bool) : readD 0 n r = stepB n r := by unfold readD; rw [if_pos rfl]
theorem readD_ne {e : Nat} (n : Int) (r : List Bool) (h : e ≠ 0) : readD e n r = (0, e, 0) := by unfold readD; rw [if_neg h]
theorem shl_nat {u T c : Nat} (hu : u < 2 ^ c) (h : c + T ≤ 64) : IntKind.u64.wrap ((u : Int) * 2 ^ T) = ((u * 2 ^ T : Nat) : Int) ∧ u * 2 ^ T < 18446744073709551616 := by
  have h1 : u * 2 ^ T < 2 ^ c * 2 ^ T := Nat.mul_lt_mul_of_pos_right hu (Nat.pow_pos (by decide))
  rw [← Nat.pow_add] at h1
  have h2 : 2 ^ (c + T) ≤ 2 ^ 64 := Nat.pow_le_pow_right (by decide) h
  have h3 : u * 2 ^ T < 18446744073709551616 := by omega
  refine ⟨?_, h3⟩
  have e : ((u * 2 ^ T : Nat) : Int) = (u : Int) * 2 ^ T := by rw [Int.natCast_mul, Int.natCast_pow]; rfl
  rw [← e]
  exact IntWalk.u64_in _ (by omega)
theorem GetD.of {base p : Nat} {v : Value} {bs : List Nat} {D last : Nat} {w : World} {x e i' : Nat} {s' : Nat × Nat} {x2 e2 i2 : Nat} {s2 : Nat × Nat} {e' : Ending} {w' : World} (h : GetD base p v bs D last w x e i' s' e' w') (he : e = e2) (hi : i' = i2) (hx : e = 0 → x = x2 ∧ s' = s2) :
    GetD base p v bs D last w x2 e2 i2 s2 e' w' := by
  obtain ⟨y, l2, s3, h1, h2, h3, h4⟩ := h
  subst he; subst hi
  exact ⟨y, l2, s3, h1, fun h0 => by obtain ⟨rfl, rfl⟩ := hx h0; exact h2 h0, h3, h4⟩
theorem sum_form (a b c : Nat) : a + b + c = a + (b + c) := Nat.add_assoc a b c
section
variable (base p : Nat) (v : Value) (bs : List Nat) (i D last : Nat) (s : Nat × Nat) (w : World)
theorem dget_any (h : DS w base p v bs i D last s 0) (hl : bs.length ≤ 1099511627776) (hi : i ≤ 8 * bs.length) (hs : okWin s) (hla : last < 18446744073709551616) (hT : TabZ w) (hbp : 1 < base) (hbD : 1 < D)
    (x e m : Nat) (s' : Nat × Nat) (hg : getX s ((unpackB bs).drop i) = (x, e, m, s')) :
    Calls Tryd.prog 54 #[.pointer (some ⟨D, 0, none⟩)] w (GetD base p v bs D last w x e (i + m) s') := by
  have hrl : ∀ j, ((unpackB bs).drop j).length = 8 * bs.length - j := fun j => rest_length' bs j
  cases hb : (unpackB bs).drop i with
  | nil =>
    rw [hb] at hg
    simp only [getX, Prod.mk.injEq] at hg
    obtain ⟨rfl, rfl, rfl, rfl⟩ := hg
    exact dget_same base p v bs i D last s w 3 0 h hl hi (by rw [readD_zero, hb]; rfl)
  | cons b0 r =>
    obtain ⟨hd1, hi1⟩ := drop_next hb
    have hr1 : readD 0 ((1 : Nat) : Int) ((unpackB bs).drop i) = (b0.toNat, 0, 1) := by rw [readD_zero, hb]; exact stepB_one_cons _ _
    cases b0 with
    | false =>
      rw [hb] at hg
      simp only [getX, Prod.mk.injEq] at hg
      obtain ⟨rfl, rfl, rfl, rfl⟩ := hg
      exact dget_same base p v bs i D last s w 0 1 h hl hi hr1
    | true =>
      cases hr : r with
      | nil =>
        subst hr
        rw [hb] at hg
        simp only [getX, Prod.mk.injEq] at hg
        obtain ⟨rfl, rfl, rfl, rfl⟩ := hg
        have hr2 : readD 0 ((1 : Nat) : Int) ((unpackB bs).drop (i + 1)) = (0, 3, 0) := by rw [readD_zero, hd1]; rfl
        rcases hs with hw | hs
        · exact dget_none base p v bs i D last s w 3 0 3 h hl hi1 hr1 hr2 hw rfl (by decide)
        · exact dget_stop0 base p v bs i D last s w 3 0 3 h hl hi1 hr1 hr2 hs rfl (by decide)
      | cons b1 r2 =>
        subst hr
        obtain ⟨hd2, hi2⟩ := drop_next hd1
        have hr2 : readD 0 ((1 : Nat) : Int) ((unpackB bs).drop (i + 1)) = (b1.toNat, 0, 1) := by rw [readD_zero, hd1]; exact stepB_one_cons _ _
        have hl2 := hrl (i + 1 + 1)
        rw [hd2] at hl2
        cases b1 with
        | false =>
          rw [hb] at hg
          simp only [getX] at hg
          split at hg
          · rename_i hw
            simp only [Prod.mk.injEq] at hg
            obtain ⟨rfl, rfl, rfl, rfl⟩ := hg
            exact (dget_none base p v bs i D last s w 0 1 8 h hl hi1 hr1 hr2 hw rfl (by decide))
          · rename_i hw
            have hs' : s.1 + s.2 ≤ 63 := hs.resolve_left hw
            by_cases hsh : r2.length < 64 - s.1 - s.2
            · rw [if_pos hsh] at hg
              simp only [Prod.mk.injEq] at hg
              obtain ⟨rfl, rfl, rfl, rfl⟩ := hg
              exact dget_go0 base p v bs i D last s w 1 0 3 0 0 3 s.2 false h hl hi1 hr1 hr2 hs' rfl hi2 (by rw [readD_zero, hd2]; exact stepB_eof _ _ (by omega) hsh) hla (by decide) (by simp [IntKind.wrap_u64]) rfl rfl
            · rw [if_neg hsh] at hg
              have hr5 : readD 0 ((64 - s.1 - s.2 : Nat) : Int) ((unpackB bs).drop (i + 1 + 1)) = (bitsNat (r2.take (64 - s.1 - s.2)), 0, 64 - s.1 - s.2) := by rw [readD_zero, hd2]; exact stepB_in _ _ (by omega) (by omega)
              have hu : bitsNat (r2.take (64 - s.1 - s.2)) < 2 ^ (64 - s.1 - s.2) := bitsNat_lt' (List.length_take_le _ _)
              obtain ⟨u, huu⟩ : ∃ u, u = bitsNat (r2.take (64 - s.1 - s.2)) := ⟨_, rfl⟩
              rw [← huu] at hg hr5 hu
              obtain ⟨q1, q2⟩ := shl_nat (T := s.2) hu (by omega)
              by_cases h0 : u = 0
              · rw [if_pos h0] at hg
                simp only [Prod.mk.injEq] at hg
                obtain ⟨rfl, rfl, rfl, rfl⟩ := hg
                subst h0
                refine (dget_go0 base p v bs i D last s w 1 0 0 _ 0 8 s.2 false h hl hi1 hr1 hr2 hs' rfl hi2 hr5 hla (by decide) (by simp [IntKind.wrap_u64]) rfl rfl).mono fun e' w' hq => hq.of rfl (by omega) (fun h => by cases h)
              · rw [if_neg h0] at hg
                simp only [Prod.mk.injEq] at hg
                obtain ⟨rfl, rfl, rfl, rfl⟩ := hg
                have hx0 : u * 2 ^ s.2 ≠ 0 := Nat.mul_ne_zero h0 (Nat.ne_of_gt (Nat.pow_pos (by decide)))
                refine (dget_go0 base p v bs i D last s w 1 u 0 _ (u * 2 ^ s.2) 0 s.2 true h hl hi1 hr1 hr2 hs' rfl hi2 hr5 hla q2 q1 (by simp only [bne_iff_ne, ne_eq]; omega) rfl).mono fun e' w' hq => hq.of rfl (by omega) (fun _ => ⟨rfl, rfl⟩)
        | true =>
          rw [hb] at hg
          simp only [getX] at hg
          have h6 : (2 : Nat) ^ 6 = 64 := by decide
          have ha64 : bitsNat (r2.take 6) < 2 ^ 6 := bitsNat_lt' (List.length_take_le _ _)
          have hy64 : bitsNat ((r2.drop 6).take 6) < 2 ^ 6 := bitsNat_lt' (List.length_take_le _ _)
          by_cases hl6 : r2.length < 6
          · rw [if_pos hl6] at hg
            simp only [Prod.mk.injEq] at hg
            obtain ⟨rfl, rfl, rfl, rfl⟩ := hg
            refine (dget_stop1 base p v bs i D last s w 1 0 3 0 0 3 0 1 3 h hl hi1 hr1 hr2 hi2 (by rw [readD_zero, hd2]; exact stepB_eof 6 _ (by decide) hl6) (by decide) hi2 (readD_ne _ _ (by decide)) (by decide) rfl rfl (by decide)).mono fun e' w' hq => hq.of rfl (by omega) (fun h => by cases h)
          · rw [if_neg hl6] at hg
            have hr3 : readD 0 ((6 : Nat) : Int) ((unpackB bs).drop (i + 1 + 1)) = (bitsNat (r2.take 6), 0, 6) := by rw [readD_zero, hd2]; exact stepB_in 6 _ (by decide) (by omega)
            have hd3 : (unpackB bs).drop (i + 1 + 1 + 6) = r2.drop 6 := by rw [← List.drop_drop, hd2]
            by_cases hl12 : r2.length < 12
            · rw [if_pos hl12] at hg
              simp only [Prod.mk.injEq] at hg
              obtain ⟨rfl, rfl, rfl, rfl⟩ := hg
              refine (dget_stop1 base p v bs i D last s w 1 (bitsNat (r2.take 6)) 0 6 0 3 0 1 3 h hl hi1 hr1 hr2 hi2 hr3 (by omega) (by omega) (by rw [readD_zero, hd3]; exact stepB_eof 6 _ (by decide) (by rw [List.length_drop]; omega)) (by decide) rfl rfl (by decide)).mono fun e' w' hq => hq.of rfl (by omega) (fun h => by cases h)
            · rw [if_neg hl12] at hg
              have hr4 : readD 0 ((6 : Nat) : Int) ((unpackB bs).drop (i + 1 + 1 + 6)) = (bitsNat ((r2.drop 6).take 6), 0, 6) := by rw [readD_zero, hd3]; exact stepB_in 6 _ (by decide) (by rw [List.length_drop]; omega)
              obtain ⟨a, haa⟩ : ∃ a, a = bitsNat (r2.take 6) := ⟨_, rfl⟩
              obtain ⟨y, hyy⟩ : ∃ y, y = bitsNat ((r2.drop 6).take 6) := ⟨_, rfl⟩
              rw [← haa] at hg hr3 ha64
              rw [← hyy] at hg hr4 hy64
              by_cases hay : 63 < a + y
              · rw [if_pos hay] at hg
                simp only [Prod.mk.injEq] at hg
                obtain ⟨rfl, rfl, rfl, rfl⟩ := hg
                have hck : checkE 0 (decide (a + (y + 1) ≤ 64)) = 8 := by unfold checkE; rw [if_pos ⟨rfl, by simp; omega⟩]
                refine (dget_stop1 base p v bs i D last s w 1 a 0 6 y 0 6 (y + 1) 8 h hl hi1 hr1 hr2 hi2 hr3 (by omega) (by omega) hr4 (by omega) rfl hck (by decide)).mono fun e' w' hq => hq.of rfl (by omega) (fun h => by cases h)
              · rw [if_neg hay] at hg
                have hck : checkE 0 (decide (a + (y + 1) ≤ 64)) = 0 := by
                  unfold checkE
                  rw [if_neg]
                  rintro ⟨_, h2⟩
                  simp at h2
                  omega
                have hiP : i + 1 + 1 + 6 + 6 ≤ 8 * bs.length := by omega
                have hd5 : (unpackB bs).drop (i + 1 + 1 + 6 + 6) = r2.drop 12 := by
                  rw [show i + 1 + 1 + 6 + 6 = (i + 1 + 1) + 12 by omega, ← List.drop_drop, hd2]
                by_cases hsh : r2.length < 13 + y
                · rw [if_pos hsh] at hg
                  simp only [Prod.mk.injEq] at hg
                  obtain ⟨rfl, rfl, rfl, rfl⟩ := hg
                  refine (dget_go1a base p v bs i D last s w 1 a 0 6 y 0 6 (y + 1) (63 - a - y) 0 3 0 0 3 false h hl hi1 hr1 hr2 hi2 hr3 (by omega) (by omega) hr4 (by omega) rfl hck (by omega) rfl hiP (by rw [readD_zero, hd5]; exact stepB_eof _ _ (by omega) (by rw [List.length_drop]; omega)) hla (by decide) (by simp [IntKind.wrap_u64]) rfl rfl (by decide)).mono fun e' w' hq => hq.of rfl (by omega) (fun h => by cases h)
                · rw [if_neg hsh] at hg
                  have hr5 : readD 0 ((y + 1 : Nat) : Int) ((unpackB bs).drop (i + 1 + 1 + 6 + 6)) = (bitsNat ((r2.drop 12).take (y + 1)), 0, y + 1) := by rw [readD_zero, hd5]; exact stepB_in _ _ (by omega) (by rw [List.length_drop]; omega)
                  rw [show 1 + y = y + 1 by omega] at hg
                  have hu : bitsNat ((r2.drop 12).take (y + 1)) < 2 ^ (y + 1) := bitsNat_lt' (List.length_take_le _ _)
                  obtain ⟨u, huu⟩ : ∃ u, u = bitsNat ((r2.drop 12).take (y + 1)) := ⟨_, rfl⟩
                  rw [← huu] at hg hr5 hu
                  obtain ⟨q1, q2⟩ := shl_nat (T := 63 - a - y) hu (by omega)
                  by_cases h0 : u = 0
                  · rw [if_pos h0] at hg
                    simp only [Prod.mk.injEq] at hg
                    obtain ⟨rfl, rfl, rfl, rfl⟩ := hg
                    subst h0
                    refine (dget_go1a base p v bs i D last s w 1 a 0 6 y 0 6 (y + 1) (63 - a - y) 0 0 _ 0 8 false h hl hi1 hr1 hr2 hi2 hr3 (by omega) (by omega) hr4 (by omega) rfl hck (by omega) rfl hiP hr5 hla (by decide) (by simp [IntKind.wrap_u64]) rfl rfl (by decide)).mono fun e' w' hq => hq.of rfl (by omega) (fun h => by cases h)
                  · rw [if_neg h0] at hg
                    obtain ⟨X, hXX⟩ : ∃ X, X = u * 2 ^ (63 - a - y) := ⟨_, rfl⟩
                    rw [← hXX] at hg q1 q2
                    have hx0 : X ≠ 0 := by rw [hXX]; exact Nat.mul_ne_zero h0 (Nat.ne_of_gt (Nat.pow_pos (by decide)))
                    have hok : ((X : Int) != 0) = true := by simp only [bne_iff_ne, ne_eq]; omega
                    have hw := fun e6 hc => dget_go1b base p v bs i D last s w 1 a 0 6 y 0 6 (y + 1) (63 - a - y) u 0 (y + 1) X e6 true h hl hi1 hr1 hr2 hi2 hr3 (by omega) (by omega) hr4 (by omega) rfl hck (by omega) rfl hiP hr5 hla q2 q1 hok rfl hx0 hT hbp hbD hs hc
                    by_cases hc : lz X ≠ a ∨ tz X ≠ 63 - a - y ∨ fitsX s X = true
                    · rw [if_pos hc] at hg
                      simp only [Prod.mk.injEq] at hg
                      obtain ⟨rfl, rfl, rfl, rfl⟩ := hg
                      refine (hw 8 ?_).mono fun e' w' hq => hq.of rfl (by omega) (fun h => by cases h)
                      by_cases e1 : a = lz X ∧ 63 - a - y = tz X
                      · refine .inr (.inl ⟨e1.1, e1.2, ?_, rfl⟩)
                        rcases hc with hc | hc | hc
                        · exact absurd e1.1.symm hc
                        · exact absurd e1.2.symm hc
                        · exact hc
                      · have hlt := lz_tz q2 hx0
                        exact .inr (.inr ⟨fun h2 => e1 ⟨h2.1, by omega⟩, rfl⟩)
                    · rw [if_neg hc] at hg
                      simp only [Prod.mk.injEq] at hg
                      obtain ⟨rfl, rfl, rfl, rfl⟩ := hg
                      simp only [not_or, Decidable.not_not, Bool.not_eq_true] at hc
                      exact (hw 0 (.inl ⟨hc.1.symm, hc.2.1.symm, hc.2.2, rfl⟩)).mono fun e' w' hq => hq.of rfl (by omega) (fun _ => ⟨rfl, rfl⟩)
end
end Go.Proofs.YtdniaingipoggaaDoor
