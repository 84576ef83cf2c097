/-
  PLAIN: times (chapter 5): what is read is what was written. No program in sight.
-/
import Derived.Test.YtdniaingipoggaaDoorPTimes
namespace Go.Proofs.YtdniaingipoggaaDoor
open Go.RowKit

theorem formB_sound (b : List Bool) : (formB b).1 ≤ 4 ∧ (formB b).2.2 ≤ b.length ∧ (formB b).2.2 ≤ 4 ∧ ((formB b).2.1 = 0 ∨ (formB b).2.1 = 3) ∧ ((formB b).2.1 = 0 → b.take (formB b).2.2 = fieldBits (fBits (formB b).1) (fLen (formB b).1) ∧ (formB b).2.2 = fLen (formB b).1) := by
  unfold formB
  split <;> simp [fLen] <;> decide
theorem formB_enc (k : Nat) (hk : k ≤ 4) (r : List Bool) : formB (fieldBits (fBits k) (fLen k) ++ r) = (k, 0, fLen k) := by
  have e0 : fieldBits (fBits 0) (fLen 0) = [false] := by decide
  have e1 : fieldBits (fBits 1) (fLen 1) = [true, false] := by decide
  have e2 : fieldBits (fBits 2) (fLen 2) = [true, true, false] := by decide
  have e3 : fieldBits (fBits 3) (fLen 3) = [true, true, true, false] := by decide
  have e4 : fieldBits (fBits 4) (fLen 4) = [true, true, true, true] := by decide
  have hc : k = 0 ∨ k = 1 ∨ k = 2 ∨ k = 3 ∨ k = 4 := by omega
  rcases hc with rfl | rfl | rfl | rfl | rfl
  · rw [e0]; rfl
  · rw [e1]; rfl
  · rw [e2]; rfl
  · rw [e3]; rfl
  · rw [e4]; rfl
theorem changeB_err (b : List Bool) : (changeB b).2.2 ≤ b.length ∧ ((changeB b).2.1 = 0 ∨ (changeB b).2.1 = 3 ∨ (changeB b).2.1 = 8) := by
  obtain ⟨h1, h2, h3, h4, h5⟩ := formB_sound b
  unfold changeB
  split
  · exact ⟨h2, by rcases h4 with h | h <;> simp [h]⟩
  · split
    · exact ⟨h2, .inr (.inl rfl)⟩
    · split
      · exact ⟨by simp only; omega, .inr (.inr rfl)⟩
      · exact ⟨by simp only; omega, .inl rfl⟩
theorem fieldBits_mod (X Y n : Nat) (h : X % 2 ^ n = Y % 2 ^ n) : fieldBits X n = fieldBits Y n := by
  unfold fieldBits
  refine List.map_congr_left fun i hi => ?_
  have hi' := List.mem_range.1 hi
  have e : ∀ Z, Z.testBit (n - 1 - i) = (Z % 2 ^ n).testBit (n - 1 - i) := fun Z => by
    rw [Nat.testBit_mod_two_pow]
    simp [show n - 1 - i < n by omega]
  rw [e X, e Y, h]
theorem changeB_sound {b : List Bool} {x : Int} {m : Nat} (h : changeB b = (x, 0, m)) : b.take m = encChange x ∧ inI x ∧ m ≤ b.length := by
  obtain ⟨h1, h2, h3, h4, h5⟩ := formB_sound b
  unfold changeB at h
  obtain ⟨k, hk⟩ : ∃ k, k = (formB b).1 := ⟨_, rfl⟩
  obtain ⟨q, hq⟩ : ∃ q, q = (formB b).2.2 := ⟨_, rfl⟩
  rw [← hk, ← hq] at h
  rw [← hk] at h1
  rw [← hq] at h2 h3
  rw [← hk, ← hq] at h5
  split at h
  · rename_i he
    simp only [Prod.mk.injEq] at h
    exact absurd h.2.1 he
  · rename_i he
    have he0 : (formB b).2.1 = 0 := by simpa using he
    obtain ⟨ht, hl⟩ := h5 he0
    split at h
    · simp at h
    · split at h
      · simp at h
      · rename_i hlen hform
        simp only [Prod.mk.injEq, true_and] at h
        obtain ⟨rfl, rfl⟩ := h
        have hin := ext_in (bitsNat ((b.drop q).take (fWidth k))) k h1
        refine ⟨?_, hin, by omega⟩
        have hf : formI (ext (bitsNat ((b.drop q).take (fWidth k))) (fWidth k)) = k := Decidable.not_not.1 hform
        unfold encChange
        rw [hf, List.take_add, ht]
        congr 1
        have hu := U_ext (bitsNat ((b.drop q).take (fWidth k))) k h1
        rw [fieldBits_mod _ _ _ hu]
        have hb := bits_inv ((b.drop q).take (fWidth k))
        rw [List.length_take, List.length_drop, Nat.min_eq_left (by omega)] at hb
        exact hb.symm
theorem changeB_enc (x : Int) (hx : inI x) (r : List Bool) : changeB (encChange x ++ r) = (x, 0, (encChange x).length) := by
  have hk := formI_le x
  obtain ⟨k, hkk⟩ : ∃ k, k = formI x := ⟨_, rfl⟩
  have he : (ext (U x) (fWidth k) = x) := (ext_eq x hx k (by omega)).2 (by omega)
  have hfb : formB (encChange x ++ r) = (k, 0, fLen k) := by
    unfold encChange
    rw [← hkk, List.append_assoc]
    exact formB_enc k (by omega) _
  have hl := encChange_length x
  rw [← hkk] at hl
  have hd : ((encChange x ++ r).drop (fLen k)).take (fWidth k) = fieldBits (U x) (fWidth k) := by
    unfold encChange
    rw [← hkk, List.append_assoc, List.drop_left' (by rw [fieldBits_length]), List.take_left' (by rw [fieldBits_length])]
  have hb : ext (bitsNat (((encChange x ++ r).drop (fLen k)).take (fWidth k))) (fWidth k) = x := by
    rw [hd, bitsNat_field, ext_mod, he]
  unfold changeB
  rw [hfb]
  simp only [hb]
  rw [if_neg (by simp), if_neg (by rw [List.length_append, hl]; omega), if_neg (by simp [hkk]), hl]
theorem decT_sound : ∀ (n : Nat) (t d : Int) (b : List Bool) (ts : List Int) (r : List Bool), inI t → inI d → decT n t d b = (0, ts, r) → b = encChanges (chgF d t ts) ++ r ∧ ts.length = n ∧ ∀ s ∈ ts, inI s := by
  intro n
  induction n with
  | zero =>
    intro t d b ts r _ _ h
    simp only [decT, Prod.mk.injEq, true_and] at h
    obtain ⟨rfl, rfl⟩ := h
    exact ⟨rfl, rfl, by simp⟩
  | succ n ih =>
    intro t d b ts r ht hd h
    obtain ⟨⟨x, e, m⟩, hc⟩ : ∃ c, changeB b = c := ⟨_, rfl⟩
    rw [decT, hc] at h
    simp only at h
    split at h
    · rename_i he; simp only [Prod.mk.injEq] at h; exact absurd h.1 he
    · rename_i he
      have he0 : e = 0 := by simpa using he
      subst he0
      obtain ⟨c1, c2, c3⟩ := changeB_sound hc
      obtain ⟨⟨e', ts', r'⟩, hq⟩ : ∃ q, decT n (W (t + W (d + x))) (W (d + x)) (b.drop m) = q := ⟨_, rfl⟩
      rw [hq] at h
      simp only [Prod.mk.injEq] at h
      obtain ⟨rfl, rfl, rfl⟩ := h
      obtain ⟨i1, i2, i3⟩ := ih _ _ _ _ _ (W_in _) (W_in _) hq
      have a1 : W (W (t + W (d + x)) - t) = W (d + x) := by simp only [W_eq]; unfold inI at *; omega
      have a2 : W (W (d + x) - d) = x := by simp only [W_eq]; unfold inI at *; omega
      refine ⟨?_, by simp [i2], ?_⟩
      · simp only [chgF, a1, a2, encChanges, List.flatMap_cons, List.append_assoc]
        rw [← c1]
        have : (chgF (W (d + x)) (W (t + W (d + x))) ts').flatMap encChange ++ r' = b.drop m := i1.symm
        rw [this, List.take_append_drop]
      · intro s hs
        rcases List.mem_cons.1 hs with rfl | hs
        · exact W_in _
        · exact i3 s hs
theorem decT_complete (pad : List Bool) : ∀ (ts : List Int) (t d : Int), inI t → inI d → (∀ s ∈ ts, inI s) → decT ts.length t d (encChanges (chgF d t ts) ++ pad) = (0, ts, pad) := by
  intro ts
  induction ts with
  | nil => intro t d _ _ _; rfl
  | cons s ts ih =>
    intro t d ht hd hs
    have hsI := hs s (by simp)
    have a1 : W (d + W (W (s - t) - d)) = W (s - t) := by simp only [W_eq]; unfold inI at *; omega
    have a2 : W (t + W (s - t)) = s := by simp only [W_eq]; unfold inI at *; omega
    have hb : encChanges (chgF d t (s :: ts)) ++ pad = encChange (W (W (s - t) - d)) ++ (encChanges (chgF (W (s - t)) s ts) ++ pad) := by simp [chgF, encChanges]
    rw [List.length_cons, decT, hb, changeB_enc _ (W_in _)]
    simp only
    rw [if_neg (by simp), a1, a2, List.drop_left, ih s (W (s - t)) hsI (W_in _) (fun u hu => hs u (by simp [hu]))]
theorem dec5_packed (l : List Int) (hX : ∀ x ∈ l, inI x) : dec5 l.length ((unpackB (packed (enc5 l))).drop 0) = (0, l, (unpackB (packed (enc5 l))).drop (enc5 l).length) := by
  obtain ⟨L, hL⟩ : ∃ L, L = enc5 l := ⟨_, rfl⟩
  rw [← hL]
  have h1 := bitsFrom_packed L 0 L.length (by omega)
  unfold bitsFrom at h1
  rw [List.drop_zero, List.drop_zero, List.take_length] at h1
  have h2 : unpackB (packed L) = L ++ (unpackB (packed L)).drop L.length := by
    have := List.take_append_drop L.length (unpackB (packed L))
    rw [h1] at this
    exact this.symm
  rw [List.drop_zero]
  obtain ⟨pad, hpad⟩ : ∃ pad, pad = (unpackB (packed L)).drop L.length := ⟨_, rfl⟩
  rw [← hpad] at h2 ⊢
  rw [h2]
  subst hL
  clear h1 h2 hpad
  cases l with
  | nil => simp [dec5, enc5]
  | cons t r =>
    have ht := hX t (by simp)
    have e1 : (enc5 (t :: r) ++ pad).take 64 = fieldBits (U t) 64 := by simp only [enc5, List.append_assoc]; rw [List.take_left' (by rw [fieldBits_length])]
    have e2 : (enc5 (t :: r) ++ pad).drop 64 = encChanges (chgF 0 t r) ++ pad := by simp only [enc5, List.append_assoc]; rw [List.drop_left' (by rw [fieldBits_length])]
    have e3 : W (bitsNat ((enc5 (t :: r) ++ pad).take 64)) = t := by
      rw [e1, bitsNat_field, Nat.mod_eq_of_lt (U_lt t), W_U ht]
    have hl : ¬ (enc5 (t :: r) ++ pad).length < 64 := by simp only [enc5, List.length_append, fieldBits_length]; omega
    unfold dec5
    rw [if_neg (by simp), if_neg hl, e3, e2, List.length_cons, Nat.add_sub_cancel, decT_complete pad r t 0 ht (by unfold inI; omega) (fun s hs => hX s (by simp [hs]))]
    simp
theorem dec5_sound {n : Nat} {b : List Bool} {vs : List Int} {r : List Bool} (h : dec5 n b = (0, vs, r)) : b = enc5 vs ++ r ∧ vs.length = n := by
  unfold dec5 at h
  split at h
  · rename_i h0
    simp only [Prod.mk.injEq, true_and] at h
    obtain ⟨rfl, rfl⟩ := h
    exact ⟨rfl, h0.symm⟩
  · split at h
    · simp at h
    · rename_i hn hl
      obtain ⟨⟨e, ts, r'⟩, hq⟩ : ∃ q, decT (n - 1) (W (bitsNat (b.take 64))) 0 (b.drop 64) = q := ⟨_, rfl⟩
      rw [hq] at h
      simp only [Prod.mk.injEq] at h
      obtain ⟨rfl, h2, rfl⟩ := h
      rw [if_pos rfl] at h2
      subst h2
      obtain ⟨i1, i2, i3⟩ := decT_sound _ _ _ _ _ _ (W_in _) (by unfold inI; omega) hq
      refine ⟨?_, by simp only [List.length_cons]; omega⟩
      simp only [enc5, List.append_assoc]
      rw [← i1]
      have hb := bits_inv (b.take 64)
      rw [List.length_take, Nat.min_eq_left (by omega)] at hb
      have hlt := bitsNat_lt (b.take 64)
      rw [List.length_take, Nat.min_eq_left (by omega)] at hlt
      rw [U_W _ hlt, hb, List.take_append_drop]
theorem dec5_bad {n : Nat} {b : List Bool} (h : (dec5 n b).1 ≠ 0) : (dec5 n b).2.1 = [] := by
  unfold dec5 at *
  split
  · rfl
  · split
    · rfl
    · rename_i hn hl
      rw [if_neg hn, if_neg hl] at h
      simp only at h ⊢
      rw [if_neg h]
theorem dec5_lt {n : Nat} {b : List Bool} {vs : List Int} {r : List Bool} (h : dec5 n b = (0, vs, r)) : ∀ x ∈ vs, inI x := by
  unfold dec5 at h
  split at h
  · simp only [Prod.mk.injEq, true_and] at h
    obtain ⟨rfl, rfl⟩ := h
    simp
  · split at h
    · simp at h
    · obtain ⟨⟨e, ts, r'⟩, hq⟩ : ∃ q, decT (n - 1) (W (bitsNat (b.take 64))) 0 (b.drop 64) = q := ⟨_, rfl⟩
      rw [hq] at h
      simp only [Prod.mk.injEq] at h
      obtain ⟨rfl, h2, rfl⟩ := h
      rw [if_pos rfl] at h2
      subst h2
      obtain ⟨i1, i2, i3⟩ := decT_sound _ _ _ _ _ _ (W_in _) (by unfold inI; omega) hq
      intro x hx
      rcases List.mem_cons.1 hx with rfl | hx
      · exact W_in _
      · exact i3 x hx
end Go.Proofs.YtdniaingipoggaaDoor
