/-
  PLAIN: blocks of one's own in memory: what a step of Import does to them. No walk here.
-/
import Derived.Test.YtnoodiibkchaaaaGreatDoorPArc3
import Derived.OneCell
namespace Go.Proofs.YtnoodiibkchaaaaGreatDoor
open Go.RowKit

theorem row_set {w : World} {base n k : Nat} {e : TypeId} {v : Value} {xs : List Value} (h : w.ownsRow base e k v n xs) {g : Nat} (hg : v.ownBlock = some g) (i : Nat) (u : Value) :
    (w.setCell ⟨g, i, none⟩ u).ownsRow base e k v n (xs.set i u) := by
  refine ⟨by rw [List.length_set]; exact h.1, ?_⟩
  rcases h.2 with ⟨rfl, _⟩ | ⟨g', cap, cur, rfl, hb, hgg, hn, hc, hcs, htk⟩
  · simp [Value.ownBlock] at hg
  · simp only [Value.ownBlock, Option.some.injEq] at hg
    subst hg
    have h1 := heap_setCell_same w g' i _ _ u hgg
    refine .inr ⟨g', cap, _, rfl, hb, h1, hn, hc, by simpa using hcs, ?_⟩
    rw [Array.toList_setIfInBounds, List.take_set, htk]
/-- a block of one's own: the series' row, and under each header the labels' and the samples' rows -/
structure Own (B : Nat) (w : World) (v : Value) (hs : List Hdr) (b : List Ser) : Prop where
  len : hs.length = b.length
  row : w.ownsRow B 53 2 v hs.length (hdrC hs)
  lab : ∀ (i : Nat) (h : Hdr) (x : Ser), hs[i]? = some h → b[i]? = some x → w.ownsRow B 46 2 h.lv x.1.length (labC x.1)
  smp : ∀ (i : Nat) (h : Hdr) (x : Ser), hs[i]? = some h → b[i]? = some x → w.ownsRow B 56 2 h.sv x.2.length (smpC x.2)
  sep : ∀ (i j : Nat) (h h' : Hdr), i ≠ j → hs[i]? = some h → hs[j]? = some h' → ∀ g, h.sv.ownBlock = some g → h'.sv.ownBlock ≠ some g
theorem Own.nil (B : Nat) (w : World) : Own B w (.slice none 0 0) [] [] :=
  ⟨rfl, World.ownsRow_nil _ _ _ _, fun i h x hh => by simp at hh, fun i h x hh => by simp at hh, fun i j h h' _ hh => by simp at hh⟩
theorem Own.below {B : Nat} {a b' : World} {v : Value} {hs : List Hdr} {b : List Ser} (h : Own B a v hs b) (hb : Below a.heap.size a b') : Own B b' v hs b :=
  ⟨h.len, row_below h.row hb, fun i x y h1 h2 => row_below (h.lab i x y h1 h2) hb, fun i x y h1 h2 => row_below (h.smp i x y h1 h2) hb, h.sep⟩
theorem smpC_length (l : List Smp) : (smpC l).length = l.length * 2 := cells2_length _ _ l
theorem rdS_row {w : World} {base : Nat} {v : Value} {n : Nat} {l : List Smp} (h : w.ownsRow base 56 2 v n (smpC l)) : RdS w v l := by
  have h2 := rd_row h
  have : n = l.length := by have := h.1; rw [smpC_length] at this; omega
  subst this
  exact h2
theorem Own.rd {B : Nat} {w : World} {v : Value} {hs : List Hdr} {b : List Ser} (h : Own B w v hs b) : RdB w v hs b :=
  ⟨h.len, rd_row h.row, fun i x y h1 h2 => ⟨rdL_row (h.lab i x y h1 h2), rdS_row (h.smp i x y h1 h2)⟩⟩
/-- rows of two element types lie in two blocks -/
theorem own_ne {w : World} {B B' n m k k' : Nat} {e e' : TypeId} {v v' : Value} {xs ys : List Value} (h : w.ownsRow B e k v n xs) (h' : w.ownsRow B' e' k' v' m ys) (hne : e ≠ e') {g : Nat} (hg : v.ownBlock = some g) : v'.ownBlock ≠ some g := by
  intro hg'
  obtain ⟨c, hc⟩ := row_type h hg
  obtain ⟨c', hc'⟩ := row_type h' hg'
  exact ne_of_types hc hc' hne rfl
/-- what an append to one row leaves of another -/
theorem row_grown {w w' : World} {B n k : Nat} {e : TypeId} {v u : Value} {xs : List Value} (h : w.ownsRow B e k v n xs) (hg : w.grownBy w' u.ownBlock) (hne : ∀ g, v.ownBlock = some g → u.ownBlock ≠ some g) : w'.ownsRow B e k v n xs :=
  ((Keeps.refl (fun k => u.ownBlock = some k) w).grown hg (fun _ _ e => e)).row h (fun g hv hs => hne g hv hs)
theorem hdrC_snoc (hs : List Hdr) (h : Hdr) : hdrC (hs ++ [h]) = hdrC hs ++ [h.lv, h.sv] := cells2_snoc _ _ _ _
theorem hdrC_length (l : List Hdr) : (hdrC l).length = l.length * 2 := cells2_length _ _ l
theorem smpC_snoc (l : List Smp) (x : Smp) : smpC (l ++ [x]) = smpC l ++ [.int .i64 x.1, .int .u64 x.2] := cells2_snoc _ _ _ _
theorem snoc_at {α : Type} {l : List α} {x y : α} {i : Nat} (h : (l ++ [x])[i]? = some y) : (i < l.length ∧ l[i]? = some y) ∨ (i = l.length ∧ y = x) := by
  rcases Nat.lt_trichotomy i l.length with hi | hi | hi
  · rw [List.getElem?_append_left hi] at h; exact .inl ⟨hi, h⟩
  · subst hi; simp at h; exact .inr ⟨rfl, h.symm⟩
  · rw [List.getElem?_eq_none (by simp; omega)] at h; cases h
/-- one series more -/
theorem Own.push {B : Nat} {a w' : World} {v v' : Value} {hs : List Hdr} {b : List Ser} {l : List Lab} {la : Option Addr} {lc : Nat} (h : Own B a v hs b) (hl : a.ownsRow B 46 2 (.slice la l.length lc) l.length (labC l))
    (hr : w'.ownsRow B 53 2 v' (hs.length + 1) (hdrC hs ++ [.slice la l.length lc, .slice none 0 0])) (hg : a.grownBy w' v.ownBlock) :
    Own B w' v' (hs ++ [⟨la, l.length, lc, none, 0, 0⟩]) (b ++ [(l, [])]) := by
  refine ⟨by simp [h.len], by rw [List.length_append, hdrC_snoc]; exact hr, ?_, ?_, ?_⟩
  · intro i x y h1 h2
    rcases snoc_at h1 with ⟨hi, h1⟩ | ⟨hi, rfl⟩
    · rcases snoc_at h2 with ⟨_, h2⟩ | ⟨hj, _⟩
      · have hh := h.lab i x y h1 h2
        exact row_grown hh hg (fun g hgv => own_ne hh h.row (by decide) hgv)
      · have := h.len; omega
    · rcases snoc_at h2 with ⟨hj, h2⟩ | ⟨_, rfl⟩
      · have := h.len; omega
      · exact row_grown hl hg (fun g hgv => own_ne hl h.row (by decide) hgv)
  · intro i x y h1 h2
    rcases snoc_at h1 with ⟨hi, h1⟩ | ⟨hi, rfl⟩
    · rcases snoc_at h2 with ⟨_, h2⟩ | ⟨hj, _⟩
      · have hh := h.smp i x y h1 h2
        exact row_grown hh hg (fun g hgv => own_ne hh h.row (by decide) hgv)
      · have := h.len; omega
    · rcases snoc_at h2 with ⟨hj, h2⟩ | ⟨_, rfl⟩
      · have := h.len; omega
      · exact World.ownsRow_nil _ _ _ _
  · intro i j x y hij h1 h2 g hgx hgy
    rcases snoc_at h1 with ⟨hi, h1⟩ | ⟨hi, rfl⟩
    · rcases snoc_at h2 with ⟨hj, h2⟩ | ⟨hj, rfl⟩
      · exact h.sep i j x y hij h1 h2 g hgx hgy
      · simp [Hdr.sv, Value.ownBlock] at hgy
    · simp [Hdr.sv, Value.ownBlock] at hgx
/-- one sample more in the last series -/
theorem Own.add {B : Nat} {a w1 : World} {v sv' : Value} {hs0 : List Hdr} {h0 : Hdr} {b0 : List Ser} {x0 : Ser} {y : Smp} {G : Nat} (h : Own B a v (hs0 ++ [h0]) (b0 ++ [x0])) (hG : v.ownBlock = some G)
    (hr : w1.ownsRow B 56 2 sv' (x0.2.length + 1) (smpC x0.2 ++ [.int .i64 y.1, .int .u64 y.2])) (hg : a.grownBy w1 h0.sv.ownBlock) (hn : ∀ g, sv'.ownBlock = some g → h0.sv.ownBlock = some g ∨ a.heap.size ≤ g)
    (sa : Option Addr) (sc : Nat) (hsv : sv' = .slice sa (x0.2.length + 1) sc) :
    Own B (w1.setCell ⟨G, hs0.length * 2 + 1, none⟩ sv') v (hs0 ++ [⟨h0.la, h0.ln, h0.lc, sa, x0.2.length + 1, sc⟩]) (b0 ++ [(x0.1, x0.2 ++ [y])]) := by
  have hlen : hs0.length = b0.length := by have := h.len; simp at this; omega
  have hlast : (hs0 ++ [h0])[hs0.length]? = some h0 := by simp
  have hlastb : (b0 ++ [x0])[hs0.length]? = some x0 := by rw [hlen]; simp
  have hs_last := h.smp _ _ _ hlast hlastb
  have hl_last := h.lab _ _ _ hlast hlastb
  have hser1 := row_grown h.row hg (fun g hv => own_ne h.row hs_last (by decide) hv)
  have hset : ∀ {k n : Nat} {e : TypeId} {u : Value} {xs : List Value}, w1.ownsRow B e k u n xs → e ≠ 53 → (w1.setCell ⟨G, hs0.length * 2 + 1, none⟩ sv').ownsRow B e k u n xs := fun hh hne =>
    ownsRow_setCell_other hh (fun hu => own_ne hh hser1 hne hu hG) _
  have hother : ∀ (i : Nat) (x : Hdr) (z : Ser), hs0[i]? = some x → b0[i]? = some z → i < hs0.length → w1.ownsRow B 46 2 x.lv z.1.length (labC z.1) ∧ w1.ownsRow B 56 2 x.sv z.2.length (smpC z.2) := fun i x z h1 h2 hi => by
    have e1 : (hs0 ++ [h0])[i]? = some x := by rw [List.getElem?_append_left hi]; exact h1
    have e2 : (b0 ++ [x0])[i]? = some z := by rw [List.getElem?_append_left (by omega)]; exact h2
    refine ⟨row_grown (h.lab _ _ _ e1 e2) hg (fun g hv => own_ne (h.lab _ _ _ e1 e2) hs_last (by decide) hv), row_grown (h.smp _ _ _ e1 e2) hg (fun g hv => h.sep _ _ _ _ (by omega) e1 hlast g hv)⟩
  refine ⟨by simp [hlen], ?_, ?_, ?_, ?_⟩
  · have h2 := row_set hser1 hG (hs0.length * 2 + 1) sv'
    rw [hdrC_snoc] at h2
    rw [List.length_append, hdrC_snoc]
    rw [List.length_append] at h2
    have e : (hdrC hs0 ++ [h0.lv, h0.sv]).set (hs0.length * 2 + 1) sv' = hdrC hs0 ++ [h0.lv, sv'] := by
      rw [List.set_append_right _ _ (by rw [hdrC_length]; omega), hdrC_length, show hs0.length * 2 + 1 - hs0.length * 2 = 1 by omega]
      rfl
    rw [e] at h2
    subst hsv
    exact h2
  · intro i x z h1 h2
    rcases snoc_at h1 with ⟨hi, h1⟩ | ⟨hi, rfl⟩
    · rcases snoc_at h2 with ⟨_, h2⟩ | ⟨hj, _⟩
      · exact hset (hother i x z h1 h2 hi).1 (by decide)
      · omega
    · rcases snoc_at h2 with ⟨hj, h2⟩ | ⟨_, rfl⟩
      · omega
      · exact hset (row_grown hl_last hg (fun g hv => own_ne hl_last hs_last (by decide) hv)) (by decide)
  · intro i x z h1 h2
    rcases snoc_at h1 with ⟨hi, h1⟩ | ⟨hi, rfl⟩
    · rcases snoc_at h2 with ⟨_, h2⟩ | ⟨hj, _⟩
      · exact hset (hother i x z h1 h2 hi).2 (by decide)
      · omega
    · rcases snoc_at h2 with ⟨hj, h2⟩ | ⟨_, rfl⟩
      · omega
      · have h3 := hset hr (by decide)
        rw [smpC_snoc, List.length_append]
        subst hsv
        exact h3
  · intro i j x z hij h1 h2 g hgx hgz
    have hnew : ∀ (k : Nat) (x : Hdr), k < hs0.length → hs0[k]? = some x → ∀ g, x.sv.ownBlock = some g → sv'.ownBlock ≠ some g := fun k x hk hx g hgx hgn => by
      have e1 : (hs0 ++ [h0])[k]? = some x := by rw [List.getElem?_append_left hk]; exact hx
      obtain ⟨z, hz⟩ : ∃ z, b0[k]? = some z := ⟨b0[k], by simp [show k < b0.length by omega]⟩
      have e2 : (b0 ++ [x0])[k]? = some z := by rw [List.getElem?_append_left (by omega)]; exact hz
      rcases hn g hgn with h' | h'
      · exact h.sep _ _ _ _ (by omega) e1 hlast g hgx h'
      · have := ((h.smp _ _ _ e1 e2).lt g hgx).2; omega
    rcases snoc_at h1 with ⟨hi, h1⟩ | ⟨hi, rfl⟩
    · rcases snoc_at h2 with ⟨hj, h2⟩ | ⟨hj, rfl⟩
      · have e1 : (hs0 ++ [h0])[i]? = some x := by rw [List.getElem?_append_left hi]; exact h1
        have e2 : (hs0 ++ [h0])[j]? = some z := by rw [List.getElem?_append_left hj]; exact h2
        exact h.sep i j x z hij e1 e2 g hgx hgz
      · subst hsv; exact hnew i x hi h1 g hgx hgz
    · rcases snoc_at h2 with ⟨hj, h2⟩ | ⟨hj, rfl⟩
      · subst hsv; exact hnew j z hj h2 g hgz hgx
      · omega
/-- where Import stands: a text's lines up to a place, and the block so far -/
def ImpRel (t : ByteArray) (B : Nat) (v : Value) (a : Nat) (w : World) : Prop :=
  ∃ (f : Nat) (hs : List Hdr) (b : List Ser), Own B w v hs b ∧ bloT b = cut t 0 a ∧ impGo t (t.size + 1) 0 [] = impGo t f a b ∧ t.size + 1 ≤ a + f
theorem cut_to {t : ByteArray} {a e : Nat} (h : a ≤ e) (he : e < t.size) (h10 : bAt t e = 10) : cut t 0 a ++ cut (t.extract a e) 0 (t.extract a e).size ++ [10] = cut t 0 (e + 1) := by
  have hx : t.extract a e = strOf (cut t a (e - a)) := by
    have := cut_strOf t a (e - a) (by omega)
    rwa [show a + (e - a) = e by omega] at this
  have hc : cut (t.extract a e) 0 (t.extract a e).size = cut t a (e - a) := by
    have := cut_strOf_all (cut t a (e - a)) (cut_lt _ _ _)
    rw [hx, strOf_size]
    exact this
  rw [hc, show e + 1 = a + ((e - a) + 1) by omega, cut_add, cut_add, Nat.zero_add, show a + (e - a) = e by omega, show cut t e 1 = [10] by rw [← h10]; simp [cut], List.append_assoc]
theorem imp_next {t : ByteArray} {f a e : Nat} {b b' : List Ser} (hlt : a < t.size) (hn : nlAt t (t.size + 1) a = some e) (hs : stepB b (t.extract a e) = some b') (hf : t.size + 1 ≤ a + f) (hb : bloT b = cut t 0 a) (hi : impGo t (t.size + 1) 0 [] = impGo t f a b) :
    ∃ f', bloT b' = cut t 0 (e + 1) ∧ impGo t (t.size + 1) 0 [] = impGo t f' (e + 1) b' ∧ t.size + 1 ≤ e + 1 + f' := by
  obtain ⟨g, rfl⟩ : ∃ g, f = g + 1 := ⟨f - 1, by omega⟩
  obtain ⟨n1, n2, n3, _⟩ := nlAt_spec t _ a e hn
  refine ⟨g, ?_, ?_, by omega⟩
  · rw [stepB_text hs, hb, cut_to n1 n2 n3]
  · rw [hi, impGo, if_pos hlt, hn]
    simp only
    rw [hs]
theorem imp_bad {t : ByteArray} {f a : Nat} {b : List Ser} (hlt : a < t.size) (h : nlAt t (t.size + 1) a = none ∨ ∃ e, nlAt t (t.size + 1) a = some e ∧ stepB b (t.extract a e) = none) (hf : t.size + 1 ≤ a + f) (hi : impGo t (t.size + 1) 0 [] = impGo t f a b) : impV t = ([], a, 24) := by
  obtain ⟨g, rfl⟩ : ∃ g, f = g + 1 := ⟨f - 1, by omega⟩
  have : impGo t (g + 1) a b = .inr a := by
    rw [impGo, if_pos hlt]
    rcases h with h | ⟨e, h1, h2⟩
    · rw [h]
    · rw [h1]; simp only; rw [h2]
  unfold impV
  rw [hi, this]
theorem imp_end {t : ByteArray} {f a : Nat} {b : List Ser} (hge : ¬ a < t.size) (hf : t.size + 1 ≤ a + f) (ha : a ≤ t.size) (hi : impGo t (t.size + 1) 0 [] = impGo t f a b) : impV t = if modE b ≠ 0 then ([], t.size, modE b) else (b, t.size, 0) := by
  obtain ⟨g, rfl⟩ : ∃ g, f = g + 1 := ⟨f - 1, by omega⟩
  unfold impV
  rw [hi, impGo, if_neg hge]
theorem blo_bounds {t : ByteArray} {a : Nat} {b : List Ser} (h : bloT b = cut t 0 a) (ha : a ≤ 1099511627776) : b.length ≤ a ∧ samplesN b ≤ a ∧ ∀ x ∈ b, Fit x ∧ x.2.length ≤ a := by
  obtain ⟨h1, h2⟩ := bloT_ge b
  rw [h, cut_length] at h1 h2
  refine ⟨by omega, by omega, fun x hx => ?_⟩
  have h3 := h2 x hx
  have h4 := labsT_ge x.1
  have h5 := smpsT_ge x.2
  exact ⟨⟨by omega, by omega⟩, by omega⟩
theorem stepB_fit {b b' : List Ser} {s : ByteArray} (h : stepB b s = some b') (hf : ∀ x ∈ b, ∀ y ∈ x.2, FitT y) : ∀ x ∈ b', ∀ y ∈ x.2, FitT y := by
  unfold stepB at h
  cases h1 : hdV s with
  | some l =>
    rw [h1] at h
    simp only [Option.some.injEq] at h
    subst h
    intro x hx y hy
    rcases List.mem_append.1 hx with hx | hx
    · exact hf x hx y hy
    · simp at hx; subst hx; cases hy
  | none =>
    rw [h1] at h
    simp only at h
    cases h2 : smpV s with
    | none => rw [h2] at h; cases h
    | some z =>
      rw [h2] at h
      simp only at h
      split at h
      · cases h
      · rename_i hb
        simp only [Option.some.injEq] at h
        subst h
        obtain ⟨b0, x0, rfl⟩ : ∃ b0 y, b = b0 ++ [y] := ⟨b.dropLast, b.getLast hb, (List.dropLast_concat_getLast hb).symm⟩
        rw [addS_snoc]
        intro x hx y hy
        rcases List.mem_append.1 hx with hx | hx
        · exact hf x (by simp [hx]) y hy
        · simp at hx
          subst hx
          rcases List.mem_append.1 hy with hy | hy
          · exact hf x0 (by simp) y hy
          · simp at hy; subst hy; exact (smp_canon h2).2
theorem impGo_fit (t : ByteArray) : ∀ f a b b', (∀ x ∈ b, ∀ y ∈ x.2, FitT y) → impGo t f a b = .inl b' → ∀ x ∈ b', ∀ y ∈ x.2, FitT y
  | 0, _, _, _, _, h => by cases h
  | f + 1, a, b, b', hf, h => by
    rw [impGo] at h
    split at h
    · cases h1 : nlAt t (t.size + 1) a with
      | none => rw [h1] at h; cases h
      | some e =>
        rw [h1] at h
        simp only at h
        cases h2 : stepB b (t.extract a e) with
        | none => rw [h2] at h; cases h
        | some b1 =>
          rw [h2] at h
          simp only at h
          exact impGo_fit t f (e + 1) b1 b' (stepB_fit h2 hf) h
    · simp only [Sum.inl.injEq] at h
      subst h
      exact hf
/-- what Import answers, in memory -/
def ImpR (t : ByteArray) (B : Nat) (e : Ending) (w : World) : Prop :=
  ∃ (v : Value) (hs : List Hdr) (b : List Ser) (a : Nat) (c : Int), impV t = (b, a, c) ∧ e = .returned (.tuple #[v, .int .i64 (a : Nat), .int .i64 c]) ∧ Own B w v hs b
end Go.Proofs.YtnoodiibkchaaaaGreatDoor
