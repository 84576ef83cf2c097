/-
  PLAIN: chapter 23: heads, samples and texts of blocks: what is written, what is read, and that the one inverts the other. No walk here.
  PLAIN: chapter 23: samples' lines, whole texts: reading and writing. No walk here.
-/
import Derived.Test.YtnoodiibkchaaaaGreatDoorXMem
import Derived.Test.YtnoodiibkchaaaaGreatDoorPEsc2
import Derived.Test.YtnoodiibkchaaaaGreatDoorPNum4
import Derived.Test.YtnoodiibkchaaaaGreatDoorWEscH
namespace Go.Proofs.YtnoodiibkchaaaaGreatDoor

theorem strOf_inj {a b : List Nat} (ha : ∀ c ∈ a, c < 256) (hb : ∀ c ∈ b, c < 256) (h : strOf a = strOf b) : a = b := by
  have h1 : u8L a = u8L b := by rw [← strOf_list, ← strOf_list, h]
  rw [← nums_u8L a ha, ← nums_u8L b hb, h1]
theorem cut_strOf_all (L : List Nat) (h : ∀ c ∈ L, c < 256) : cut (strOf L) 0 L.length = L := by
  have h1 := strOf_all (strOf L)
  rw [strOf_size] at h1
  exact strOf_inj (cut_lt _ _ _) h h1
theorem cut_split {t : ByteArray} {a n : Nat} {A B : List Nat} (h : cut t a n = A ++ B) : cut t a A.length = A ∧ cut t (a + A.length) (n - A.length) = B ∧ A.length + B.length = n := by
  have hl : n = A.length + B.length := by rw [← cut_length t a n, h, List.length_append]
  rw [hl, cut_add] at h
  obtain ⟨h1, h2⟩ := List.append_inj h (cut_length t a A.length)
  exact ⟨h1, by rw [show n - A.length = B.length by omega]; exact h2, hl.symm⟩
theorem cut_first {t : ByteArray} {a n c : Nat} {B : List Nat} (h : cut t a n = c :: B) : bAt t a = c ∧ cut t (a + 1) (n - 1) = B ∧ B.length + 1 = n := by
  obtain ⟨m, rfl⟩ : ∃ m, n = m + 1 := ⟨n - 1, by have := congrArg List.length h; rw [cut_length] at this; simp at this; omega⟩
  rw [cut_cons] at h
  simp only [List.cons.injEq] at h
  refine ⟨h.1, by simpa using h.2, ?_⟩
  have := congrArg List.length h.2
  rw [cut_length] at this
  omega
/-- a piece of a text, by its bytes -/
theorem extract_of_cut {t : ByteArray} {a : Nat} {L : List Nat} (h : cut t a L.length = L) (hs : a + L.length ≤ t.size) : t.extract a (a + L.length) = strOf L := by
  rw [cut_strOf t a _ hs, h]

theorem unq_spec {t : ByteArray} {a e : Nat} {x : List Nat} (h : unqV t a = some (x, e)) : a + 2 ≤ e ∧ e ≤ t.size ∧ cut t a (e - a) = quoteL (strOf x) := by
  unfold unqV at h
  split at h
  · rename_i h0
    cases hs : scan t (t.size + 1) (a + 1) with
    | none => rw [hs] at h; cases h
    | some p =>
      obtain ⟨y, q⟩ := p
      rw [hs] at h
      simp only [Option.bind_some] at h
      split at h
      · rename_i hq
        simp only [Option.some.injEq, Prod.mk.injEq] at h
        obtain ⟨rfl, rfl⟩ := h
        obtain ⟨b1, b2, b3⟩ := scan_bd t _ _ _ _ hs
        refine ⟨by omega, by omega, ?_⟩
        have e1 : t.extract a (q + 1) = strOf (cut t a (q + 1 - a)) := by
          have := cut_strOf t a (q + 1 - a) (by omega)
          rwa [show a + (q + 1 - a) = q + 1 by omega] at this
        rw [e1] at hq
        exact (strOf_inj (quoteL_lt _) (cut_lt _ _ _) hq).symm
      · cases h
  · cases h
theorem unq_at (t : ByteArray) (a : Nat) (s : ByteArray) (hs : a + (quoteL s).length ≤ t.size) (hc : cut t a (quoteL s).length = quoteL s) : unqV t a = some (cut s 0 s.size, a + (quoteL s).length) := by
  have h := unqV_quote (t.extract 0 a) s (t.extract (a + (quoteL s).length) t.size)
  have e : t.extract 0 a ++ strOf (quoteL s) ++ t.extract (a + (quoteL s).length) t.size = t := by
    rw [← extract_of_cut hc hs, ByteArray.extract_append_extract, show min 0 a = 0 by omega, show max a (a + (quoteL s).length) = a + (quoteL s).length by omega, ByteArray.extract_append_extract, show min 0 (a + (quoteL s).length) = 0 by omega, show max (a + (quoteL s).length) t.size = t.size by omega]
    exact ByteArray.extract_zero_size
  have e2 : (t.extract 0 a).size = a := by rw [ByteArray.size_extract]; omega
  rw [e, e2] at h
  exact h

/-- one label's text -/
def labT (x : Lab) : List Nat := quoteL x.1 ++ 61 :: quoteL x.2
/-- labels' texts, commas between -/
def labsT : List Lab → List Nat
  | [] => []
  | [x] => labT x
  | x :: y :: r => labT x ++ 44 :: labsT (y :: r)
def headL (l : List Lab) : List Nat := 123 :: (labsT l ++ [125])
/-- the label at an offset, and the offset after it -/
def lblV (t : ByteArray) (a : Nat) : Option (Lab × Nat) :=
  (unqV t a).bind fun p => if p.2 < t.size ∧ bAt t p.2 = 61 then (unqV t (p.2 + 1)).map fun q => ((strOf p.1, strOf q.1), q.2) else none
def hdGo (t : ByteArray) : Nat → Nat → Option (List Lab)
  | 0, _ => none
  | f + 1, a => (lblV t a).bind fun p => if p.2 + 1 = t.size ∧ bAt t p.2 = 125 then some [p.1] else if p.2 < t.size ∧ bAt t p.2 = 44 then (hdGo t f (p.2 + 1)).map fun r => p.1 :: r else none
/-- the labels of a line -/
def hdV (t : ByteArray) : Option (List Lab) := if t = strOf [123, 125] then some [] else if 0 < t.size ∧ bAt t 0 = 123 then hdGo t (t.size + 1) 1 else none

theorem lbl_spec {t : ByteArray} {a e : Nat} {x : Lab} (h : lblV t a = some (x, e)) : a + 5 ≤ e ∧ e ≤ t.size ∧ cut t a (e - a) = labT x := by
  unfold lblV at h
  cases h1 : unqV t a with
  | none => rw [h1] at h; cases h
  | some p =>
    obtain ⟨y, q⟩ := p
    rw [h1] at h
    simp only [Option.bind_some] at h
    split at h
    · rename_i hq
      cases h2 : unqV t (q + 1) with
      | none => rw [h2] at h; cases h
      | some p2 =>
        obtain ⟨z, r⟩ := p2
        rw [h2] at h
        simp only [Option.map_some, Option.some.injEq, Prod.mk.injEq] at h
        obtain ⟨rfl, rfl⟩ := h
        obtain ⟨a1, a2, a3⟩ := unq_spec h1
        obtain ⟨b1, b2, b3⟩ := unq_spec h2
        refine ⟨by omega, b2, ?_⟩
        rw [show r - a = (q - a) + (1 + (r - (q + 1))) by omega, cut_add, a3, cut_add, show a + (q - a) = q by omega, b3]
        have : cut t q 1 = [61] := by rw [← hq.2]; simp [cut]
        rw [this]
        rfl
    · cases h
theorem lbl_at (t : ByteArray) (a : Nat) (x : Lab) (hs : a + (labT x).length ≤ t.size) (hc : cut t a (labT x).length = labT x) : lblV t a = some (x, a + (labT x).length) := by
  have hl : (labT x).length = (quoteL x.1).length + ((quoteL x.2).length + 1) := by simp [labT]
  unfold labT at hc
  obtain ⟨h1, h2, h3⟩ := cut_split hc
  obtain ⟨g1, g2, g3⟩ := cut_first h2
  have e1 := unq_at t a x.1 (by omega) h1
  have e2 := unq_at t (a + (quoteL x.1).length + 1) x.2 (by omega) (by
    have e : (quoteL x.1 ++ 61 :: quoteL x.2).length - (quoteL x.1).length - 1 = (quoteL x.2).length := by rw [List.length_append, List.length_cons]; omega
    rw [e] at g2
    exact g2)
  unfold lblV
  rw [e1, Option.bind_some, if_pos ⟨by omega, g1⟩, e2, Option.map_some, strOf_all, strOf_all, hl]
  simp only [Option.some.injEq, Prod.mk.injEq, true_and]
  omega
theorem labT_length (x : Lab) : 5 ≤ (labT x).length := by
  simp [labT, quoteL]; omega
theorem labsT_cons (x : Lab) (r : List Lab) : labsT (x :: r) = labT x ++ (if r = [] then [] else 44 :: labsT r) := by
  cases r with
  | nil => simp [labsT]
  | cons y r => simp [labsT]
theorem hdGo_spec (t : ByteArray) : ∀ f a l, a ≤ t.size → hdGo t f a = some l → l ≠ [] ∧ cut t a (t.size - a) = labsT l ++ [125]
  | 0, a, l, _, h => by cases h
  | f + 1, a, l, ha, h => by
    rw [hdGo] at h
    cases h1 : lblV t a with
    | none => rw [h1] at h; cases h
    | some p =>
      obtain ⟨x, e⟩ := p
      obtain ⟨b1, b2, b3⟩ := lbl_spec h1
      rw [h1, Option.bind_some] at h
      simp only at h
      split at h
      · rename_i hc
        simp only [Option.some.injEq] at h
        subst h
        refine ⟨by simp, ?_⟩
        rw [show t.size - a = (e - a) + 1 by omega, cut_add, b3, show a + (e - a) = e by omega]
        have : cut t e 1 = [125] := by rw [← hc.2]; simp [cut]
        rw [this]
        rfl
      · split at h
        · rename_i hc
          cases h2 : hdGo t f (e + 1) with
          | none => rw [h2] at h; cases h
          | some r =>
            rw [h2, Option.map_some, Option.some.injEq] at h
            subst h
            obtain ⟨c1, c2⟩ := hdGo_spec t f (e + 1) r (by omega) h2
            refine ⟨by simp, ?_⟩
            rw [labsT_cons, if_neg c1, show t.size - a = (e - a) + (1 + (t.size - (e + 1))) by omega, cut_add, b3, show a + (e - a) = e by omega, cut_add, c2]
            have : cut t e 1 = [44] := by rw [← hc.2]; simp [cut]
            rw [this]
            simp
        · cases h
theorem hdGo_at (t : ByteArray) : ∀ (l : List Lab) f a, l ≠ [] → l.length ≤ f → a ≤ t.size → cut t a (t.size - a) = labsT l ++ [125] → hdGo t f a = some l
  | [], _, _, h, _, _, _ => absurd rfl h
  | x :: r, 0, _, _, h, _, _ => by simp at h
  | x :: r, f + 1, a, _, hf, ha, h => by
    rw [labsT_cons, List.append_assoc] at h
    obtain ⟨h1, h2, h3⟩ := cut_split h
    rw [hdGo, lbl_at t a x (by omega) h1, Option.bind_some]
    simp only
    by_cases hr : r = []
    · subst hr
      rw [if_pos rfl, List.nil_append] at h2 h3
      obtain ⟨g1, g2, g3⟩ := cut_first h2
      simp at h3 g3
      rw [if_pos ⟨by omega, g1⟩]
    · rw [if_neg hr, List.cons_append] at h2 h3
      obtain ⟨g1, g2, g3⟩ := cut_first h2
      simp at h3
      rw [if_neg (by rw [g1]; simp), if_pos ⟨by omega, g1⟩, hdGo_at t r f (a + (labT x).length + 1) hr (by simp at hf; omega) (by omega) (by
        rw [← g2]; congr 1; omega)]
      rfl
theorem labT_lt (x : Lab) : ∀ c ∈ labT x, c < 256 := by
  intro c hc
  simp only [labT, List.mem_append, List.mem_cons] at hc
  rcases hc with h | h | h
  · exact quoteL_lt _ c h
  · omega
  · exact quoteL_lt _ c h
theorem labsT_lt : ∀ l : List Lab, ∀ c ∈ labsT l, c < 256
  | [] => by simp [labsT]
  | x :: r => by
    intro c hc
    rw [labsT_cons, List.mem_append] at hc
    rcases hc with h | h
    · exact labT_lt x c h
    · split at h
      · cases h
      · rcases List.mem_cons.1 h with h | h
        · omega
        · exact labsT_lt r c h
theorem headL_lt (l : List Lab) : ∀ c ∈ headL l, c < 256 := by
  intro c hc
  simp only [headL, List.mem_cons, List.mem_append, List.not_mem_nil, or_false] at hc
  rcases hc with h | h | h
  · omega
  · exact labsT_lt l c h
  · omega
theorem labsT_ge : ∀ l : List Lab, 5 * l.length ≤ (labsT l).length
  | [] => by simp
  | x :: r => by
    have := labT_length x
    have := labsT_ge r
    rw [labsT_cons, List.length_append, List.length_cons]
    split
    · rename_i h; subst h; simp; omega
    · simp; omega
/-- a line that is read is the head of its labels -/
theorem hd_canon {t : ByteArray} {l : List Lab} (h : hdV t = some l) : t = strOf (headL l) := by
  unfold hdV at h
  split at h
  · rename_i e
    simp only [Option.some.injEq] at h
    subst h
    exact e
  · split at h
    · rename_i h0
      obtain ⟨_, h1⟩ := hdGo_spec t _ 1 l (by omega) h
      have h2 : cut t 0 t.size = headL l := by
        obtain ⟨n, hn⟩ : ∃ n, t.size = n + 1 := ⟨t.size - 1, by omega⟩
        rw [hn, Nat.add_sub_cancel] at h1
        rw [hn, cut_cons, h0.2, h1]
        rfl
      rw [← h2, strOf_all]
    · cases h
/-- a head reads as its labels -/
theorem hd_round (l : List Lab) : hdV (strOf (headL l)) = some l := by
  unfold hdV
  by_cases hl : l = []
  · subst hl
    rw [show headL [] = [123, 125] from rfl, if_pos rfl]
  · have hlen : 5 ≤ (labsT l).length := by
      have := labsT_ge l
      have : 1 ≤ l.length := by cases l with | nil => exact absurd rfl hl | cons _ _ => simp
      omega
    have hsz : (strOf (headL l)).size = (labsT l).length + 2 := by rw [strOf_size]; simp [headL]
    have hc := cut_strOf_all (headL l) (headL_lt l)
    rw [← strOf_size (headL l)] at hc
    have hc2 : cut (strOf (headL l)) 0 (strOf (headL l)).size = 123 :: (labsT l ++ [125]) := hc
    obtain ⟨g1, g2, g3⟩ := cut_first hc2
    rw [if_neg, if_pos ⟨by omega, g1⟩]
    · exact hdGo_at _ l _ 1 hl (by have := labsT_ge l; omega) (by omega) g2
    · intro e
      have : (strOf (headL l)).size = 2 := by rw [e]; rfl
      omega
end Go.Proofs.YtnoodiibkchaaaaGreatDoor
namespace Go.Proofs.YtnoodiibkchaaaaGreatDoor

def itoaN (n : Int) : List Nat := (Lib.itoa n).map UInt8.toNat
theorem u8L_nums (l : List UInt8) : u8L (l.map UInt8.toNat) = l := by
  unfold u8L
  rw [List.map_map]
  have : l.map (UInt8.ofNat ∘ UInt8.toNat) = l.map id := List.map_congr_left fun c _ => by simp
  rw [this, List.map_id]
theorem itoaN_u8 (n : Int) : u8L (itoaN n) = Lib.itoa n := u8L_nums _
theorem strOf_itoa (n : Int) : (⟨(Lib.itoa n).toArray⟩ : ByteArray) = strOf (itoaN n) := by unfold strOf; rw [itoaN_u8]
theorem itoaN_lt (n : Int) : ∀ c ∈ itoaN n, c < 256 := by
  intro c hc
  obtain ⟨x, _, rfl⟩ := List.mem_map.1 hc
  exact x.toNat_lt
/-- is a number of 64 bits with a sign, a word -/
def FitT (x : Smp) : Prop := (-9223372036854775808 ≤ x.1 ∧ x.1 ≤ 9223372036854775807) ∧ 0 ≤ x.2 ∧ x.2 < 18446744073709551616
/-- one sample's line -/
def smpT (x : Smp) : List Nat := itoaN x.1 ++ 32 :: hexTail x.2.toNat 16
/-- the sample of a line -/
def smpV (t : ByteArray) : Option Smp :=
  (intV t 0).bind fun p => if p.2 < t.size ∧ bAt t p.2 = 32 then (wordV t (p.2 + 1)).bind fun q => if q.2 = t.size then some (p.1, (q.1 : Int)) else none else none
theorem int_spec {t : ByteArray} {v : Int} {e : Nat} (h : intV t 0 = some (v, e)) : e ≤ t.size ∧ cut t 0 e = itoaN v ∧ -9223372036854775808 ≤ v ∧ v ≤ 9223372036854775807 := by
  have hb : -9223372036854775808 ≤ v ∧ v ≤ 9223372036854775807 := by
    unfold intV at h
    cases h1 : intS (sgn t 0) (cut t (fromOf t 0) (endOf t 0 - fromOf t 0)) with
    | none => rw [h1] at h; cases h
    | some y =>
      rw [h1, Option.map_some] at h
      simp only [Option.some.injEq, Prod.mk.injEq] at h
      obtain ⟨rfl, rfl⟩ := h
      unfold intS at h1
      repeat' split at h1
      all_goals first
        | (simp only [Option.some.injEq] at h1; subst h1; omega)
        | cases h1
  rw [intV_parsed t 0 (Nat.zero_le _)] at h
  cases h1 : parsed (t.extract 0 (endOf t 0)).data.toList with
  | none => rw [h1] at h; cases h
  | some y =>
    rw [h1, Option.map_some] at h
    simp only [Option.some.injEq, Prod.mk.injEq] at h
    obtain ⟨rfl, rfl⟩ := h
    have hle : endOf t 0 ≤ t.size := by
      have hf := from_le t 0 (Nat.zero_le _)
      exact (digEnd_spec t (t.size + 1) (fromOf t 0) hf.2).2.1
    refine ⟨hle, ?_, hb⟩
    unfold parsed at h1
    split at h1
    · split at h1
      · rename_i v hv he
        simp only [Option.some.injEq] at h1
        subst h1
        have e2 := cut_data t 0 (endOf t 0) (by omega)
        rw [Nat.zero_add] at e2
        unfold itoaN
        rw [he, e2, nums_u8L _ (cut_lt _ _ _)]
      · cases h1
    · cases h1
theorem hexTail_lt (x k : Nat) : ∀ c ∈ hexTail x k, 48 ≤ c ∧ c < 128 := by
  intro c hc
  obtain ⟨j, _, rfl⟩ := List.mem_map.1 hc
  have := Nat.mod_lt (x / 16 ^ (k - 1 - j)) (show 0 < 16 by decide)
  unfold hexB
  split <;> omega
theorem word_spec {t : ByteArray} {a v e : Nat} (h : wordV t a = some (v, e)) : e = a + 16 ∧ e ≤ t.size ∧ cut t a 16 = hexTail v 16 ∧ v < 18446744073709551616 := by
  unfold wordV at h
  split at h
  · rename_i hx
    simp only [Option.some.injEq, Prod.mk.injEq] at h
    obtain ⟨rfl, rfl⟩ := h
    obtain ⟨h1, h2⟩ := (hexOk_iff t a).1 hx
    exact ⟨rfl, h1, (hexTail_acc t a 16 h2).symm, hexAcc_lt t a 16⟩
  · cases h
theorem smpT_lt (x : Smp) : ∀ c ∈ smpT x, c < 256 := by
  intro c hc
  simp only [smpT, List.mem_append, List.mem_cons] at hc
  rcases hc with h | h | h
  · exact itoaN_lt _ c h
  · omega
  · have := hexTail_lt _ _ c h; omega
theorem smp_canon {t : ByteArray} {x : Smp} (h : smpV t = some x) : t = strOf (smpT x) ∧ FitT x := by
  unfold smpV at h
  cases h1 : intV t 0 with
  | none => rw [h1] at h; cases h
  | some p =>
    obtain ⟨v, e⟩ := p
    rw [h1, Option.bind_some] at h
    simp only at h
    split at h
    · rename_i hq
      cases h2 : wordV t (e + 1) with
      | none => rw [h2] at h; cases h
      | some q =>
        obtain ⟨u, e2⟩ := q
        rw [h2, Option.bind_some] at h
        simp only at h
        split at h
        · rename_i he
          simp only [Option.some.injEq] at h
          subst h
          obtain ⟨a1, a2, a3, a4⟩ := int_spec h1
          obtain ⟨b1, b2, b3, b4⟩ := word_spec h2
          refine ⟨?_, ⟨a3, a4⟩, by simp, by show (u : Int) < _; omega⟩
          have hc : cut t 0 t.size = smpT (v, (u : Int)) := by
            rw [show t.size = e + (1 + 16) by omega, cut_add, a2, Nat.zero_add, cut_add, b3, show cut t e 1 = [32] by rw [← hq.2]; simp [cut]]
            rfl
          rw [← hc, strOf_all]
        · cases h
    · cases h
/-- a byte of a text made of known bytes -/
theorem bAt_strOf (L : List Nat) (h : ∀ c ∈ L, c < 256) (k c : Nat) (hc : L[k]? = some c) : bAt (strOf L) k = c := by
  obtain ⟨hk, e⟩ := List.getElem?_eq_some_iff.1 hc
  have h2 := cut_strOf_all L h
  have h3 := congrArg (·[k]?) h2
  try simp only at h3
  rw [hc] at h3
  simp only [cut, List.getElem?_map, List.getElem?_range hk, Option.map_some, Option.some.injEq, Nat.zero_add] at h3
  exact h3
theorem smp_round (x : Smp) (hx : FitT x) : smpV (strOf (smpT x)) = some x := by
  obtain ⟨v, u⟩ := x
  obtain ⟨⟨h1, h2⟩, h3, h4⟩ := hx
  obtain ⟨u, rfl⟩ : ∃ n : Nat, u = n := ⟨u.toNat, by simp at h3 ⊢; omega⟩
  have hu : u < 18446744073709551616 := by simp at h4; omega
  obtain ⟨neg, D, e1, e2, e3⟩ := intS_dec v h1 h2
  have hD : ∀ c ∈ signed neg D, c < 256 := by
    intro c hc
    unfold signed at hc
    split at hc
    · rcases List.mem_cons.1 hc with h | h
      · omega
      · have := e2 c h; omega
    · have := e2 c hc; omega
  have hN : itoaN v = signed neg D := by unfold itoaN; rw [e1, nums_u8L _ hD]
  have hT : smpT (v, (u : Int)) = signed neg D ++ 32 :: hexTail u 16 := by unfold smpT; rw [hN]; rfl
  have hlt := smpT_lt (v, (u : Int))
  rw [hT] at hlt ⊢
  have i1 := intV_dec (strOf (signed neg D ++ 32 :: hexTail u 16)) neg D v (u8L (hexTail u 16)) e2 e3 (by rw [strOf_list, u8L_append]; rfl)
  obtain ⟨m, hm⟩ : ∃ m, m = (signed neg D).length := ⟨_, rfl⟩
  have hsz : (strOf (signed neg D ++ 32 :: hexTail u 16)).size = m + 17 := by rw [strOf_size, List.length_append, List.length_cons, hexTail_length, hm]
  have hsp := bAt_strOf _ hlt m 32 (by rw [List.getElem?_append_right (by omega), hm, Nat.sub_self]; rfl)
  have hdg : ∀ j, j < 16 → bAt (strOf (signed neg D ++ 32 :: hexTail u 16)) (m + 1 + j) = hexB (u / 16 ^ (15 - j) % 16) := fun j hj => by
    refine bAt_strOf _ hlt _ _ ?_
    rw [List.getElem?_append_right (by omega), ← hm, show m + 1 + j - m = j + 1 by omega, List.getElem?_cons_succ]
    unfold hexTail
    rw [List.getElem?_map, List.getElem?_range hj]
    rfl
  generalize strOf (signed neg D ++ 32 :: hexTail u 16) = T at *
  have hok : hexOk T (m + 1) = true := (hexOk_iff T (m + 1)).2 ⟨by omega, fun j hj => by
    rw [hdg j hj, digitI_hexB _ (Nat.mod_lt _ (by decide))]; omega⟩
  have hac := hexAcc_tail T (m + 1) u (by omega) hdg 16 (by omega)
  unfold smpV
  rw [i1, ← hm, Option.bind_some]
  try simp only
  rw [if_pos ⟨by omega, hsp⟩]
  unfold wordV
  rw [if_pos hok, Option.bind_some]
  try simp only
  rw [if_pos (by omega), hac]
  simp
/-- a sample's line is no head: it begins with a digit or a sign -/
theorem smp_nohead (x : Smp) (hx : FitT x) : hdV (strOf (smpT x)) = none := by
  obtain ⟨v, u⟩ := x
  obtain ⟨⟨h1, h2⟩, _⟩ := hx
  obtain ⟨neg, D, e1, e2, e3⟩ := intS_dec v h1 h2
  have hne : D ≠ [] := by
    rintro rfl
    rw [show intS neg [] = none from by unfold intS; rw [if_pos (.inl rfl)]] at e3
    cases e3
  have hD : ∀ c ∈ signed neg D, c < 256 := by
    intro c hc
    unfold signed at hc
    split at hc
    · rcases List.mem_cons.1 hc with h | h
      · omega
      · have := e2 c h; omega
    · have := e2 c hc; omega
  have hN : itoaN v = signed neg D := by unfold itoaN; rw [e1, nums_u8L _ hD]
  obtain ⟨c, r, hs, hc⟩ : ∃ c r, signed neg D = c :: r ∧ c ≠ 123 := by
    cases neg with
    | true => exact ⟨45, D, rfl, by decide⟩
    | false =>
      cases D with
      | nil => exact absurd rfl hne
      | cons d D => exact ⟨d, D, rfl, by have := e2.head; omega⟩
  have hlt := smpT_lt (v, u)
  have h0 : bAt (strOf (smpT (v, u))) 0 = c := bAt_strOf _ hlt 0 c (by unfold smpT; rw [hN, hs]; rfl)
  unfold hdV
  rw [if_neg, if_neg]
  · rintro ⟨_, h⟩
    rw [h0] at h
    exact hc h
  · intro e
    rw [e] at h0
    exact hc (h0.symm.trans (by decide))
theorem smp_noNl (x : Smp) (hx : FitT x) : 10 ∉ smpT x := by
  obtain ⟨v, u⟩ := x
  obtain ⟨⟨h1, h2⟩, _⟩ := hx
  obtain ⟨neg, D, e1, e2, e3⟩ := intS_dec v h1 h2
  have hD : ∀ c ∈ signed neg D, c < 256 ∧ c ≠ 10 := by
    intro c hc
    unfold signed at hc
    split at hc
    · rcases List.mem_cons.1 hc with h | h
      · omega
      · have := e2 c h; omega
    · have := e2 c hc; omega
  have hN : itoaN v = signed neg D := by unfold itoaN; rw [e1, nums_u8L _ (fun c hc => (hD c hc).1)]
  intro h
  simp only [smpT, List.mem_append, List.mem_cons] at h
  rcases h with h | h | h
  · rw [hN] at h
    exact (hD _ h).2 rfl
  · cases h
  · have := hexTail_lt _ _ _ h; omega
theorem quoteL_noNl (s : ByteArray) : 10 ∉ quoteL s := by
  intro h
  simp only [quoteL, List.mem_cons, List.mem_append, List.cons_append, List.not_mem_nil, or_false] at h
  rcases h with h | h | h
  · cases h
  · exact quoteFrom_noNl s _ _ h
  · cases h
theorem labsT_noNl : ∀ l : List Lab, 10 ∉ labsT l
  | [] => by simp [labsT]
  | x :: r => by
    have ih := labsT_noNl r
    have h1 := quoteL_noNl x.1
    have h2 := quoteL_noNl x.2
    rw [labsT_cons]
    simp only [labT, List.mem_append, List.mem_cons, not_or]
    refine ⟨⟨h1, by decide, h2⟩, ?_⟩
    split
    · simp
    · simp only [List.mem_cons, not_or]
      exact ⟨by decide, ih⟩
theorem headL_noNl (l : List Lab) : 10 ∉ headL l := by
  simp only [headL, List.mem_cons, List.mem_append, not_or, List.not_mem_nil]
  exact ⟨by decide, labsT_noNl l, by decide, not_false⟩
/-- the lines of samples -/
def smpsT (l : List Smp) : List Nat := l.flatMap fun s => smpT s ++ [10]
def serT (x : Ser) : List Nat := headL x.1 ++ 10 :: smpsT x.2
/-- the text of a block -/
def bloT (b : List Ser) : List Nat := b.flatMap serT
/-- one sample more in the last series -/
def addS : List Ser → Smp → List Ser
  | [], _ => []
  | [y], x => [(y.1, y.2 ++ [x])]
  | y :: z :: r, x => y :: addS (z :: r) x
theorem addS_snoc (b : List Ser) (y : Ser) (x : Smp) : addS (b ++ [y]) x = b ++ [(y.1, y.2 ++ [x])] := by
  induction b with
  | nil => rfl
  | cons z r ih =>
    cases r with
    | nil => rfl
    | cons u v => simp only [List.cons_append, addS] at ih ⊢; rw [ih]
/-- what a line does to a block -/
def stepB (b : List Ser) (s : ByteArray) : Option (List Ser) :=
  match hdV s with
  | some l => some (b ++ [(l, [])])
  | none => match smpV s with
    | some x => if b = [] then none else some (addS b x)
    | none => none
/-- the place of the next newline -/
def nlAt (t : ByteArray) : Nat → Nat → Option Nat
  | 0, _ => none
  | f + 1, k => if k < t.size then (if bAt t k = 10 then some k else nlAt t f (k + 1)) else none
/-- the lines of a text from a place on: the block, or the place of the line that is none -/
def impGo (t : ByteArray) : Nat → Nat → List Ser → List Ser ⊕ Nat
  | 0, a, _ => .inr a
  | f + 1, a, b => if a < t.size then (match nlAt t (t.size + 1) a with
      | none => .inr a
      | some e => match stepB b (t.extract a e) with
        | none => .inr a
        | some b' => impGo t f (e + 1) b') else .inl b
/-- what Import answers: the block, the offset, the error -/
def impV (t : ByteArray) : List Ser × Nat × Int :=
  match impGo t (t.size + 1) 0 [] with
  | .inr a => ([], a, 24)
  | .inl b => if modE b ≠ 0 then ([], t.size, modE b) else (b, t.size, 0)
theorem nlAt_spec (t : ByteArray) : ∀ f k e, nlAt t f k = some e → k ≤ e ∧ e < t.size ∧ bAt t e = 10 ∧ ∀ j, k ≤ j → j < e → bAt t j ≠ 10
  | 0, _, _, h => by cases h
  | f + 1, k, e, h => by
    rw [nlAt] at h
    split at h
    · rename_i hk
      split at h
      · rename_i h10
        simp only [Option.some.injEq] at h
        subst h
        exact ⟨Nat.le_refl _, hk, h10, fun j h1 h2 => by omega⟩
      · rename_i h10
        obtain ⟨a1, a2, a3, a4⟩ := nlAt_spec t f (k + 1) e h
        refine ⟨by omega, a2, a3, fun j h1 h2 => ?_⟩
        by_cases hj : j = k
        · rw [hj]; exact h10
        · exact a4 j (by omega) h2
    · cases h
theorem nlAt_none (t : ByteArray) : ∀ f k, t.size + 1 ≤ k + f → nlAt t f k = none → ∀ j, k ≤ j → j < t.size → bAt t j ≠ 10
  | 0, k, h, _, j, h1, h2 => by omega
  | f + 1, k, h, hn, j, h1, h2 => by
    rw [nlAt] at hn
    split at hn
    · split at hn
      · cases hn
      · rename_i h10
        by_cases hj : j = k
        · rw [hj]; exact h10
        · exact nlAt_none t f (k + 1) (by omega) hn j (by omega) h2
    · omega
theorem nlAt_run (t : ByteArray) : ∀ (m f k : Nat), t.size + 1 ≤ k + f → k + m < t.size → (∀ j, j < m → bAt t (k + j) ≠ 10) → bAt t (k + m) = 10 → nlAt t f k = some (k + m)
  | _, 0, k, hf, hs, _, _ => by omega
  | 0, f + 1, k, hf, hs, _, h => by rw [nlAt, if_pos (by omega), if_pos (by simpa using h)]; rfl
  | m + 1, f + 1, k, hf, hs, h, h2 => by
    rw [nlAt, if_pos (by omega), if_neg (by simpa using h 0 (by omega)), nlAt_run t m f (k + 1) (by omega) (by omega) (fun j hj => by have := h (j + 1) (by omega); rw [show k + 1 + j = k + (j + 1) by omega]; exact this) (by rw [show k + 1 + m = k + (m + 1) by omega]; exact h2)]
    congr 1
    omega
theorem bloT_snoc (b : List Ser) (x : Ser) : bloT (b ++ [x]) = bloT b ++ serT x := by simp [bloT]
/-- a step adds the line's text -/
theorem stepB_text {b b' : List Ser} {s : ByteArray} (h : stepB b s = some b') : bloT b' = bloT b ++ cut s 0 s.size ++ [10] := by
  unfold stepB at h
  cases h1 : hdV s with
  | some l =>
    rw [h1] at h
    simp only [Option.some.injEq] at h
    subst h
    have e := hd_canon h1
    have e2 := cut_strOf_all (headL l) (headL_lt l)
    rw [← strOf_size (headL l), ← e] at e2
    rw [bloT_snoc, e2]
    simp [serT, smpsT]
  | none =>
    rw [h1] at h
    simp only at h
    cases h2 : smpV s with
    | none => rw [h2] at h; cases h
    | some x =>
      rw [h2] at h
      simp only at h
      split at h
      · cases h
      · rename_i hb
        simp only [Option.some.injEq] at h
        subst h
        have e := (smp_canon h2).1
        have e2 := cut_strOf_all (smpT x) (smpT_lt x)
        rw [← strOf_size (smpT x), ← e] at e2
        obtain ⟨b0, y, rfl⟩ : ∃ b0 y, b = b0 ++ [y] := ⟨b.dropLast, b.getLast hb, (List.dropLast_concat_getLast hb).symm⟩
        rw [addS_snoc, bloT_snoc, bloT_snoc, e2]
        simp [serT, smpsT]
/-- a text that is read is the text of its block -/
theorem impGo_text (t : ByteArray) : ∀ f a b b', a ≤ t.size → impGo t f a b = .inl b' → bloT b' = bloT b ++ cut t a (t.size - a)
  | 0, _, _, _, _, h => by cases h
  | f + 1, a, b, b', ha, h => by
    rw [impGo] at h
    split at h
    · rename_i hlt
      cases h1 : nlAt t (t.size + 1) a with
      | none => rw [h1] at h; cases h
      | some e =>
        rw [h1] at h
        simp only at h
        cases h2 : stepB b (t.extract a e) with
        | none => rw [h2] at h; cases h
        | some b1 =>
          rw [h2] at h
          simp only at h
          obtain ⟨n1, n2, n3, n4⟩ := nlAt_spec t _ a e h1
          have i := impGo_text t f (e + 1) b1 b' (by omega) h
          have s := stepB_text h2
          have hx : t.extract a e = strOf (cut t a (e - a)) := by
            have := cut_strOf t a (e - a) (by omega)
            rwa [show a + (e - a) = e by omega] at this
          have hc : cut (t.extract a e) 0 (t.extract a e).size = cut t a (e - a) := by
            have := cut_strOf_all (cut t a (e - a)) (cut_lt _ _ _)
            rw [hx, strOf_size]
            exact this
          rw [i, s, hc, show t.size - a = (e - a) + (1 + (t.size - (e + 1))) by omega, cut_add, show a + (e - a) = e by omega, cut_add, show cut t e 1 = [10] by rw [← n3]; simp [cut]]
          simp [List.append_assoc]
    · simp only [Sum.inl.injEq] at h
      subst h
      rw [show t.size - a = 0 by omega]
      simp [cut]
theorem impV_text {t : ByteArray} {b : List Ser} {a : Nat} (h : impV t = (b, a, 0)) : t = strOf (bloT b) ∧ modE b = 0 ∧ a = t.size := by
  unfold impV at h
  cases h1 : impGo t (t.size + 1) 0 [] with
  | inr x => rw [h1] at h; simp at h
  | inl b1 =>
    rw [h1] at h
    simp only at h
    split at h
    · rename_i hm
      simp only [Prod.mk.injEq] at h
      exact absurd h.2.2 hm
    · rename_i hm
      simp only [Prod.mk.injEq] at h
      obtain ⟨rfl, rfl, _⟩ := h
      have := impGo_text t _ 0 [] b1 (Nat.zero_le _) h1
      rw [show bloT [] = [] from rfl, List.nil_append, Nat.sub_zero] at this
      refine ⟨by rw [this, strOf_all], by simpa using hm, rfl⟩
/-- one line at the head of what is left -/
theorem line_at {t : ByteArray} {a : Nat} {L R : List Nat} (ha : a ≤ t.size) (h : cut t a (t.size - a) = L ++ 10 :: R) (hL : 10 ∉ L) :
    a < t.size ∧ nlAt t (t.size + 1) a = some (a + L.length) ∧ t.extract a (a + L.length) = strOf L ∧ a + L.length + 1 ≤ t.size ∧ cut t (a + L.length + 1) (t.size - (a + L.length + 1)) = R := by
  obtain ⟨h1, h2, h3⟩ := cut_split h
  obtain ⟨g1, g2, g3⟩ := cut_first h2
  simp at h3
  refine ⟨by omega, ?_, extract_of_cut h1 (by omega), by omega, by rw [← g2]; congr 1; omega⟩
  refine nlAt_run t L.length _ a (by omega) (by omega) (fun j hj e => ?_) g1
  have : (cut t a L.length)[j]? = some (bAt t (a + j)) := by
    unfold cut
    rw [List.getElem?_map, List.getElem?_range hj]
    rfl
  rw [h1, e] at this
  exact hL (List.mem_of_getElem? this)
theorem imp_smps (t : ByteArray) (b : List Ser) (l : List Lab) : ∀ (xs : List Smp) (ys : List Smp) (f a : Nat) (R : List Nat), (∀ x ∈ xs, FitT x) → a ≤ t.size → t.size + 1 ≤ a + f → cut t a (t.size - a) = smpsT xs ++ R →
    ∃ f' a', a' ≤ t.size ∧ t.size + 1 ≤ a' + f' ∧ cut t a' (t.size - a') = R ∧ impGo t f a (b ++ [(l, ys)]) = impGo t f' a' (b ++ [(l, ys ++ xs)])
  | [], ys, f, a, R, _, ha, hf, h => ⟨f, a, ha, hf, by simpa [smpsT] using h, by simp⟩
  | x :: xs, ys, f, a, R, hx, ha, hf, h => by
    have h' : cut t a (t.size - a) = smpT x ++ 10 :: (smpsT xs ++ R) := by rw [h]; simp [smpsT]
    obtain ⟨l1, l2, l3, l4, l5⟩ := line_at ha h' (smp_noNl x (hx x (by simp)))
    obtain ⟨g, rfl⟩ : ∃ g, f = g + 1 := ⟨f - 1, by omega⟩
    obtain ⟨f', a', q1, q2, q3, q4⟩ := imp_smps t b l xs (ys ++ [x]) g (a + (smpT x).length + 1) R (fun y hy => hx y (by simp [hy])) l4 (by omega) l5
    refine ⟨f', a', q1, q2, q3, ?_⟩
    rw [impGo, if_pos l1, l2]
    simp only
    have hst : stepB (b ++ [(l, ys)]) (t.extract a (a + (smpT x).length)) = some (b ++ [(l, ys ++ [x])]) := by
      unfold stepB
      rw [l3, smp_nohead x (hx x (by simp)), smp_round x (hx x (by simp))]
      simp only
      rw [if_neg (by simp), addS_snoc]
    rw [hst]
    simp only
    rw [q4, List.append_assoc]
    rfl
theorem imp_sers (t : ByteArray) : ∀ (cs b : List Ser) (f a : Nat), (∀ x ∈ cs, ∀ y ∈ x.2, FitT y) → a ≤ t.size → t.size + 1 ≤ a + f → cut t a (t.size - a) = bloT cs → impGo t f a b = .inl (b ++ cs)
  | [], b, f, a, _, ha, hf, h => by
    have : t.size - a = 0 := by have := congrArg List.length h; rw [cut_length] at this; simpa [bloT] using this
    obtain ⟨g, rfl⟩ : ∃ g, f = g + 1 := ⟨f - 1, by omega⟩
    rw [impGo, if_neg (by omega), List.append_nil]
  | c :: cs, b, f, a, hc, ha, hf, h => by
    have h' : cut t a (t.size - a) = headL c.1 ++ 10 :: (smpsT c.2 ++ bloT cs) := by rw [h]; simp [bloT, serT]
    obtain ⟨l1, l2, l3, l4, l5⟩ := line_at ha h' (headL_noNl c.1)
    obtain ⟨g, rfl⟩ : ∃ g, f = g + 1 := ⟨f - 1, by omega⟩
    obtain ⟨f', a', q1, q2, q3, q4⟩ := imp_smps t b c.1 c.2 [] g (a + (headL c.1).length + 1) (bloT cs) (hc c (by simp)) l4 (by omega) l5
    rw [impGo, if_pos l1, l2]
    simp only
    have hst : stepB b (t.extract a (a + (headL c.1).length)) = some (b ++ [(c.1, [])]) := by
      unfold stepB
      rw [l3, hd_round]
    rw [hst]
    simp only
    rw [q4, imp_sers t cs _ f' a' (fun x hx => hc x (by simp [hx])) q1 q2 q3]
    simp
theorem smpsT_lt (l : List Smp) : ∀ c ∈ smpsT l, c < 256 := by
  intro c hc
  simp only [smpsT, List.mem_flatMap, List.mem_append, List.mem_singleton] at hc
  obtain ⟨x, _, h | h⟩ := hc
  · exact smpT_lt x c h
  · omega
theorem bloT_lt (b : List Ser) : ∀ c ∈ bloT b, c < 256 := by
  intro c hc
  simp only [bloT, List.mem_flatMap, serT, List.mem_append, List.mem_cons] at hc
  obtain ⟨x, _, h | h | h⟩ := hc
  · exact headL_lt _ c h
  · omega
  · exact smpsT_lt _ c h
/-- Import inverts Export -/
theorem impV_round (b : List Ser) (hb : ∀ x ∈ b, ∀ y ∈ x.2, FitT y) (hm : modE b = 0) : impV (strOf (bloT b)) = (b, (bloT b).length, 0) := by
  have hc := cut_strOf_all (bloT b) (bloT_lt b)
  have h := imp_sers (strOf (bloT b)) b [] ((strOf (bloT b)).size + 1) 0 hb (Nat.zero_le _) (by omega) (by rw [Nat.sub_zero, strOf_size]; exact hc)
  unfold impV
  rw [h]
  simp only [List.nil_append]
  rw [if_neg (by simpa using hm), strOf_size]
/-- the newlines of a text -/
def nls (l : List Nat) : Nat := l.countP (· == 10)
theorem nls_none (l : List Nat) (h : 10 ∉ l) : nls l = 0 := by
  unfold nls
  rw [List.countP_eq_zero]
  intro c hc e
  simp at e
  subst e
  exact h hc
theorem nls_append (a b : List Nat) : nls (a ++ b) = nls a + nls b := List.countP_append
theorem nls_smps : ∀ l : List Smp, (∀ y ∈ l, FitT y) → nls (smpsT l) = l.length
  | [], _ => rfl
  | x :: r, h => by
    have ih := nls_smps r (fun y hy => h y (by simp [hy]))
    have e : smpsT (x :: r) = smpT x ++ ([10] ++ smpsT r) := by simp [smpsT]
    rw [e, nls_append, nls_append, nls_none _ (smp_noNl x (h x (by simp))), ih, show nls [10] = 1 from rfl, List.length_cons]
    omega
theorem nls_bloT : ∀ b : List Ser, (∀ x ∈ b, ∀ y ∈ x.2, FitT y) → nls (bloT b) = b.length + samplesN b
  | [], _ => rfl
  | x :: r, h => by
    have ih := nls_bloT r (fun y hy => h y (by simp [hy]))
    have e : bloT (x :: r) = headL x.1 ++ ([10] ++ (smpsT x.2 ++ bloT r)) := by simp [bloT, serT]
    rw [e, nls_append, nls_append, nls_append, nls_none _ (headL_noNl _), ih, nls_smps _ (h x (by simp)), show nls [10] = 1 from rfl, List.length_cons, samplesN]
    omega
end Go.Proofs.YtnoodiibkchaaaaGreatDoor
