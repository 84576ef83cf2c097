/-
  PLAIN: chapter 22: what Quote writes (over the model's own Utf8.decode), what Unquote reads, and that the one inverts the other. No program in sight.
-/
import Derived.Stop.FmtQuoteTie
import Derived.Laws.RangeAny
namespace Go.Proofs.YtnoodiibkchaaaaGreatDoor

/-- byte k of a string, as a number -/
def bAt (s : ByteArray) (k : Nat) : Nat := (s.get! k).toNat
theorem bAt_eq (s : ByteArray) (k : Nat) : (s.get! k).toNat = bAt s k := rfl
theorem bAt_lt (s : ByteArray) (k : Nat) : bAt s k < 256 := (s.get! k).toNat_lt
/-- the three ways of a rune: one ASCII byte; one byte that is no rune; two to four bytes, each 128 or more -/
theorem decode_ways (s : ByteArray) (pos : Nat) (_h : pos < s.size) :
    (bAt s pos < 128 ∧ Utf8.decode s pos = (bAt s pos, 1)) ∨ (128 ≤ bAt s pos ∧ Utf8.decode s pos = (65533, 1)) ∨
    (128 ≤ bAt s pos ∧ 128 ≤ (Utf8.decode s pos).1 ∧ 2 ≤ (Utf8.decode s pos).2 ∧ pos + (Utf8.decode s pos).2 ≤ s.size ∧ ∀ j, j < (Utf8.decode s pos).2 → 128 ≤ bAt s (pos + j)) := by
  have hz : pos + 0 = pos := rfl
  by_cases ha : bAt s pos < 128
  · exact .inl ⟨ha, by simp only [Utf8.decode, bAt_eq, hz, ha, if_true]⟩
  · refine .inr ?_
    simp only [Utf8.decode, bAt_eq, hz, ha, if_false]
    have hj4 : ∀ j, j < 4 → j = 0 ∨ j = 1 ∨ j = 2 ∨ j = 3 := by omega
    repeat' split
    all_goals simp only [Bool.and_eq_true, decide_eq_true_eq, beq_iff_eq, Utf8.runeError] at *
    all_goals first
      | (left; exact ⟨by omega, by first | rfl | trivial⟩)
      | (right
         refine ⟨by omega, by omega, by omega, by omega, fun j hj => ?_⟩
         rcases hj4 j (Nat.lt_of_lt_of_le hj (by decide)) with rfl | rfl | rfl | rfl <;> (try simp only [hz]) <;> omega)

/-- a hexadecimal digit's byte -/
def hexB (n : Nat) : Nat := if n < 10 then 48 + n else 87 + n
/-- the bytes of s from place a on, n of them -/
def cut (s : ByteArray) (a n : Nat) : List Nat := (List.range n).map fun j => bAt s (a + j)
/-- what Quote writes for the rune at pos -/
def piece (s : ByteArray) (pos : Nat) : List Nat :=
  let c := (Utf8.decode s pos).1
  let n := (Utf8.decode s pos).2
  if c = 34 then [92, 34] else if c = 92 then [92, 92] else if c = 10 then [92, 110]
  else if c < 32 ∨ c = 127 ∨ (c = 65533 ∧ n = 1) then [92, 120, hexB (bAt s pos / 16), hexB (bAt s pos % 16)]
  else cut s pos n
def quoteFrom (s : ByteArray) : Nat → Nat → List Nat
  | 0, _ => []
  | f + 1, pos => if pos < s.size then piece s pos ++ quoteFrom s f (pos + (Utf8.decode s pos).2) else []
def quoteL (s : ByteArray) : List Nat := 34 :: quoteFrom s s.size 0 ++ [34]

/-- a digit's value -/
def unhex (c : Nat) : Option Nat := if 48 ≤ c ∧ c ≤ 57 then some (c - 48) else if 97 ≤ c ∧ c ≤ 102 then some (c - 87) else none
theorem unhex_hexB : ∀ n, n < 16 → unhex (hexB n) = some n := by decide
/-- one form at the head of a text that is not empty: its bytes, and what follows -/
def oneL : List Nat → Option (Nat × List Nat)
  | [] => none
  | c :: t => if c ≠ 92 then some (c, t) else
    match t with
    | [] => none
    | d :: t => if d = 34 then some (34, t) else if d = 92 then some (92, t) else if d = 110 then some (10, t) else if d ≠ 120 then none else
      match t with
      | a :: b :: t => match unhex a, unhex b with
        | some x, some y => some (16 * x + y, t)
        | _, _ => none
      | _ => none
/-- the forms up to the closing mark: the bytes, and what stands from the mark on -/
def unqL : Nat → List Nat → Option (List Nat × List Nat)
  | 0, _ => none
  | _ + 1, [] => none
  | f + 1, c :: t => if c = 34 then some ([], c :: t) else
    match oneL (c :: t) with
    | none => none
    | some (x, r) => (unqL f r).map fun p => (x :: p.1, p.2)
/-- plain bytes are read one by one -/
theorem unqL_plain (l : List Nat) (f : Nat) (r : List Nat) (h : ∀ c ∈ l, c ≠ 34 ∧ c ≠ 92) : unqL (f + l.length) (l ++ r) = (unqL f r).map fun p => (l ++ p.1, p.2) := by
  induction l with
  | nil => simp
  | cons c l ih =>
    have hc := h c (by simp)
    rw [List.length_cons, ← Nat.add_assoc, List.cons_append, unqL, if_neg hc.1]
    simp only [oneL, if_pos hc.2]
    rw [ih (fun c hc => h c (by simp [hc]))]
    cases unqL f r <;> rfl
/-- a form is read back as the bytes it was written for -/
theorem unqL_piece (s : ByteArray) (pos : Nat) (h : pos < s.size) (f : Nat) (r : List Nat) (hf : (Utf8.decode s pos).2 ≤ f) :
    ∃ f', f' + (Utf8.decode s pos).2 = f ∧ unqL f (piece s pos ++ r) = (unqL f' r).map fun p => (cut s pos (Utf8.decode s pos).2 ++ p.1, p.2) := by
  have hb := bAt_lt s pos
  have hx1 := unhex_hexB (bAt s pos / 16) (by omega)
  have hx2 := unhex_hexB (bAt s pos % 16) (by omega)
  have hxs : 16 * (bAt s pos / 16) + bAt s pos % 16 = bAt s pos := by omega
  rcases decode_ways s pos h with ⟨ha, e⟩ | ⟨ha, e⟩ | ⟨ha, hc, hn, hle, hall⟩
  · obtain ⟨f, rfl⟩ : ∃ g, f = g + 1 := ⟨f - 1, by rw [e] at hf; simp at hf; omega⟩
    refine ⟨f, by rw [e], ?_⟩
    simp only [piece, e]
    have hcut : cut s pos 1 = [bAt s pos] := by simp [cut]
    rw [hcut]
    by_cases h1 : bAt s pos = 34
    · rw [if_pos h1, h1]; simp [unqL, oneL]
    rw [if_neg h1]
    by_cases h2 : bAt s pos = 92
    · rw [if_pos h2, h2]; simp [unqL, oneL]
    rw [if_neg h2]
    by_cases h3 : bAt s pos = 10
    · rw [if_pos h3, h3]; simp [unqL, oneL]
    rw [if_neg h3]
    by_cases h4 : bAt s pos < 32 ∨ bAt s pos = 127 ∨ (bAt s pos = 65533 ∧ True)
    · rw [if_pos h4]
      simp [unqL, oneL, hx1, hx2, hxs]
    · rw [if_neg h4]
      have := unqL_plain [bAt s pos] f r (by simp; omega)
      simpa using this
  · obtain ⟨f, rfl⟩ : ∃ g, f = g + 1 := ⟨f - 1, by rw [e] at hf; simp at hf; omega⟩
    refine ⟨f, by rw [e], ?_⟩
    simp only [piece, e]
    have hcut : cut s pos 1 = [bAt s pos] := by simp [cut]
    rw [hcut, if_neg (by decide), if_neg (by decide), if_neg (by decide), if_pos (by decide)]
    simp [unqL, oneL, hx1, hx2, hxs]
  · obtain ⟨n, hnn⟩ : ∃ n, n = (Utf8.decode s pos).2 := ⟨_, rfl⟩
    refine ⟨f - n, by omega, ?_⟩
    simp only [piece]
    rw [if_neg (by omega), if_neg (by omega), if_neg (by omega), if_neg (by omega), ← hnn]
    have hlen : (cut s pos n).length = n := by simp [cut]
    have := unqL_plain (cut s pos n) (f - n) r (by
      intro c hc
      simp only [cut, List.mem_map, List.mem_range] at hc
      obtain ⟨j, hj, rfl⟩ := hc
      have := hall j (by omega)
      omega)
    rw [hlen, Nat.sub_add_cancel (by omega)] at this
    exact this
theorem cut_add (s : ByteArray) (a m n : Nat) : cut s a (m + n) = cut s a m ++ cut s (a + m) n := by
  simp only [cut, List.range_add, List.map_append, List.map_map]
  congr 1
  apply List.map_congr_left
  intro j _
  simp [Nat.add_assoc]
theorem width_pos (s : ByteArray) (pos : Nat) (h : pos < s.size) : 1 ≤ (Utf8.decode s pos).2 ∧ pos + (Utf8.decode s pos).2 ≤ s.size := by
  rcases decode_ways s pos h with ⟨_, e⟩ | ⟨_, e⟩ | ⟨_, _, hn, hle, _⟩
  · rw [e]; exact ⟨Nat.le_refl _, h⟩
  · rw [e]; exact ⟨Nat.le_refl _, h⟩
  · omega
/-- what Quote wrote reads back, whatever follows -/
theorem unqL_quote (s : ByteArray) (r : List Nat) : ∀ (k pos f : Nat), pos ≤ s.size → s.size ≤ pos + k → s.size + 1 ≤ pos + f →
    unqL f (quoteFrom s k pos ++ 34 :: r) = some (cut s pos (s.size - pos), 34 :: r) := by
  intro k
  induction k with
  | zero =>
    intro pos f h1 h2 h3
    obtain ⟨f, rfl⟩ : ∃ g, f = g + 1 := ⟨f - 1, by omega⟩
    rw [show s.size - pos = 0 by omega]
    simp [quoteFrom, unqL, cut]
  | succ k ih =>
    intro pos f h1 h2 h3
    by_cases h : pos < s.size
    · obtain ⟨w1, w2⟩ := width_pos s pos h
      obtain ⟨f', hf', he⟩ := unqL_piece s pos h f (quoteFrom s k (pos + (Utf8.decode s pos).2) ++ 34 :: r) (by omega)
      rw [quoteFrom, if_pos h, List.append_assoc, he, ih (pos + (Utf8.decode s pos).2) f' w2 (by omega) (by omega)]
      rw [show s.size - pos = (Utf8.decode s pos).2 + (s.size - (pos + (Utf8.decode s pos).2)) by omega, cut_add]
      rfl
    · obtain ⟨f, rfl⟩ : ∃ g, f = g + 1 := ⟨f - 1, by omega⟩
      rw [quoteFrom, if_neg h, show s.size - pos = 0 by omega]
      simp [unqL, cut]
/-- no newline is written -/
theorem piece_noNl (s : ByteArray) (pos : Nat) (h : pos < s.size) : 10 ∉ piece s pos := by
  have hb := bAt_lt s pos
  have hh : ∀ n, n < 16 → hexB n ≠ 10 := by decide
  have h1 := hh (bAt s pos / 16) (by omega)
  have h2 := hh (bAt s pos % 16) (by omega)
  simp only [piece]
  rcases decode_ways s pos h with ⟨ha, e⟩ | ⟨ha, e⟩ | ⟨ha, hc, hn, hle, hall⟩
  · simp only [e]
    have hcut : cut s pos 1 = [bAt s pos] := by simp [cut]
    repeat' split
    all_goals simp [hcut]
    all_goals omega
  · simp only [e]
    rw [if_neg (by decide), if_neg (by decide), if_neg (by decide), if_pos (by decide)]
    simp
    omega
  · rw [if_neg (by omega), if_neg (by omega), if_neg (by omega), if_neg (by omega)]
    intro hm
    simp only [cut, List.mem_map, List.mem_range] at hm
    obtain ⟨j, hj, hx⟩ := hm
    have := hall j hj
    omega
theorem quoteFrom_noNl (s : ByteArray) : ∀ k pos, 10 ∉ quoteFrom s k pos
  | 0, _ => by simp [quoteFrom]
  | k + 1, pos => by
    rw [quoteFrom]
    split
    · rename_i h
      rw [List.mem_append]
      exact fun e => e.elim (piece_noNl s pos h) (quoteFrom_noNl s k _)
    · simp
end Go.Proofs.YtnoodiibkchaaaaGreatDoor
