/-
  PLAIN: decimal numbers as texts: what strconv's reading and writing at base 10 say of a sign and digits.
  PLAIN: a decimal number that is written as Go writes it: what reading and writing it back say, and what the reference says.
  PLAIN: a decimal number in a text, by position.
-/
import Derived.Test.YtnoodiibkchaaaaGreatDoorWEscB
import Derived.Lib.ParseIntB
import Derived.Lib.ItoaNum
import Derived.Test.YtnoodiibkchaaaaGreatDoorPEsc2
namespace Go.Proofs.YtnoodiibkchaaaaGreatDoor

/-- every byte is a decimal digit -/
def Digs (D : List Nat) : Prop := ∀ c ∈ D, 48 ≤ c ∧ c ≤ 57
theorem Digs.tail {c : Nat} {D : List Nat} (h : Digs (c :: D)) : Digs D := fun x hx => h x (List.mem_cons_of_mem _ hx)
theorem Digs.head {c : Nat} {D : List Nat} (h : Digs (c :: D)) : 48 ≤ c ∧ c ≤ 57 := h c (by simp)
/-- what digits spell behind what the digits before them spell -/
def valL (acc : Nat) (D : List Nat) : Nat := D.foldl (fun a c => a * 10 + (c - 48)) acc
theorem valL_nil (acc : Nat) : valL acc [] = acc := rfl
theorem valL_cons (acc c : Nat) (r : List Nat) : valL acc (c :: r) = valL (acc * 10 + (c - 48)) r := by simp only [valL, List.foldl_cons]
theorem valL_ge (D : List Nat) : ∀ acc, acc ≤ valL acc D := by
  induction D with
  | nil => intro acc; exact Nat.le_refl _
  | cons c r ih => intro acc; rw [valL_cons]; have := ih (acc * 10 + (c - 48)); omega
theorem valL_snoc (D : List Nat) (d : Nat) : ∀ acc, valL acc (D ++ [d]) = valL acc D * 10 + (d - 48) := by
  induction D with
  | nil => intro acc; rfl
  | cons c r ih => intro acc; rw [List.cons_append, valL_cons, valL_cons]; exact ih _
theorem valL_lt (D : List Nat) (h : Digs D) : ∀ acc, valL acc D < (acc + 1) * 10 ^ D.length := by
  induction D with
  | nil => intro acc; simp [valL_nil]
  | cons c r ih =>
    intro acc
    rw [valL_cons, List.length_cons, Nat.pow_succ]
    have h1 := ih h.tail (acc * 10 + (c - 48))
    have h2 := h.head
    have h3 : (acc * 10 + (c - 48) + 1) * 10 ^ r.length ≤ (acc + 1) * (10 ^ r.length * 10) := by
      rw [Nat.mul_comm (10 ^ r.length) 10, ← Nat.mul_assoc]
      exact Nat.mul_le_mul_right _ (by omega)
    omega
theorem valL_lo (D : List Nat) : ∀ acc, acc * 10 ^ D.length ≤ valL acc D := by
  induction D with
  | nil => intro acc; simp [valL_nil]
  | cons c r ih =>
    intro acc
    rw [valL_cons, List.length_cons, Nat.pow_succ]
    have h1 := ih (acc * 10 + (c - 48))
    have h3 : acc * (10 ^ r.length * 10) ≤ (acc * 10 + (c - 48)) * 10 ^ r.length := by
      rw [Nat.mul_comm (10 ^ r.length) 10, ← Nat.mul_assoc]
      exact Nat.mul_le_mul_right _ (by omega)
    omega
theorem ofNat_toNat' (c : Nat) (h : c < 256) : (UInt8.ofNat c).toNat = c := by rw [UInt8.toNat_ofNat']; omega
theorem parseM_dig (M : Nat) (hM : M ≤ 18446744073709551615) (D : List Nat) (h : Digs D) : ∀ acc, acc ≤ M → Lib.parseUintM M acc (u8L D) = if valL acc D ≤ M then .ok (valL acc D) else .range := by
  induction D with
  | nil => intro acc ha; simp [u8L, Lib.parseUintM, valL_nil, ha]
  | cons c r ih =>
    intro acc ha
    have hc := h.head
    have hg := valL_ge r (acc * 10 + (c - 48))
    show Lib.parseUintM M acc (UInt8.ofNat c :: u8L r) = _
    rw [Lib.parseUintM, ofNat_toNat' c (by omega), if_pos hc, valL_cons]
    by_cases h1 : 1844674407370955162 ≤ acc
    · rw [if_pos h1, if_neg (by omega)]
    · rw [if_neg h1]
      by_cases h2 : M < acc * 10 + (c - 48)
      · rw [if_pos h2, if_neg (by omega)]
      · rw [if_neg h2, ih h.tail _ (by omega)]
theorem parseU_dig (D : List Nat) (hne : D ≠ []) (h : Digs D) : Lib.parseUintB 64 (u8L D) = if valL 0 D ≤ 18446744073709551615 then .ok (valL 0 D) else .range := by
  unfold Lib.parseUintB
  rw [if_neg (by cases D; exact absurd rfl hne; simp [u8L])]
  exact parseM_dig _ (by decide) D h 0 (Nat.zero_le _)
/-- the text of a sign and digits -/
def signed (neg : Bool) (D : List Nat) : List Nat := if neg then 45 :: D else D
theorem parseI_pos (D : List Nat) (hne : D ≠ []) (h : Digs D) : Lib.parseIntB 64 (u8L D) = if valL 0 D < 9223372036854775808 then .ok (valL 0 D : Int) else .range := by
  cases D with
  | nil => exact absurd rfl hne
  | cons c r =>
    have hc := h.head
    have e := ofNat_toNat' c (by omega)
    have hp := parseU_dig (c :: r) hne h
    show Lib.parseIntB 64 (UInt8.ofNat c :: u8L r) = _
    unfold Lib.parseIntB
    simp only [e]
    rw [if_neg (by omega)]
    have hp' : Lib.parseUintB 64 (UInt8.ofNat c :: u8L r) = _ := hp
    rw [hp']
    by_cases h1 : valL 0 (c :: r) ≤ 18446744073709551615
    · rw [if_pos h1]
      simp only
      by_cases h2 : valL 0 (c :: r) < 9223372036854775808
      · rw [if_neg (by have : (2 : Nat) ^ (64 - 1) = 9223372036854775808 := by decide
                       omega), if_neg (by omega), if_neg (by omega), if_pos h2]
      · rw [if_pos ⟨by omega, by have : (2 : Nat) ^ (64 - 1) = 9223372036854775808 := by decide
                                 omega⟩, if_neg h2]
    · rw [if_neg h1, if_neg (by omega)]
theorem parseI_neg (D : List Nat) (hne : D ≠ []) (h : Digs D) : Lib.parseIntB 64 (u8L (45 :: D)) = if valL 0 D ≤ 9223372036854775808 then .ok (-(valL 0 D : Int)) else .range := by
  have hp := parseU_dig D hne h
  show Lib.parseIntB 64 (UInt8.ofNat 45 :: u8L D) = _
  unfold Lib.parseIntB
  have e := ofNat_toNat' 45 (by decide)
  simp only [e]
  rw [if_pos (.inr trivial), hp]
  have hpow : (2 : Nat) ^ (64 - 1) = 9223372036854775808 := by decide
  by_cases h1 : valL 0 D ≤ 18446744073709551615
  · rw [if_pos h1]
    simp only
    by_cases h2 : valL 0 D ≤ 9223372036854775808
    · rw [if_neg (fun h => h.1 trivial), if_neg (by omega), if_pos trivial, if_pos h2]
    · rw [if_neg (fun h => h.1 trivial), if_pos ⟨trivial, by omega⟩, if_neg h2]
  · rw [if_neg h1, if_neg (by omega)]
theorem parseI_none (neg : Bool) : ∀ v, Lib.parseIntB 64 (u8L (signed neg [])) ≠ .ok v := by
  intro v
  cases neg
  · exact fun h => by cases h
  · exact fun h => by cases h
/-- digits as Go writes them: no leading zero -/
theorem dec_canon : ∀ (n : Nat) (D : List Nat), D.length = n → D ≠ [] → Digs D → (D.length = 1 ∨ D.headD 0 ≠ 48) → Lib.decDigits (valL 0 D) = u8L D := by
  intro n
  induction n with
  | zero => intro D hl hne; exact absurd (List.eq_nil_of_length_eq_zero hl) hne
  | succ n ih =>
    intro D hl hne hd hc
    rcases List.eq_nil_or_concat D with h | ⟨D', d, rfl⟩
    · exact absurd h hne
    · have hdd : 48 ≤ d ∧ d ≤ 57 := hd d (by simp)
      have hd' : Digs D' := fun c hc => hd c (by simp [hc])
      rw [List.concat_eq_append, valL_snoc]
      by_cases he : D' = []
      · subst he
        rw [Lib.decDigits, dif_pos (by rw [valL_nil]; omega)]
        rw [List.nil_append, show valL 0 [] * 10 + (d - 48) = d - 48 by rw [valL_nil]; omega]
        show [UInt8.ofNat (48 + (d - 48))] = [UInt8.ofNat d]
        rw [show 48 + (d - 48) = d by omega]
      · obtain ⟨c, r, rfl⟩ : ∃ c r, D' = c :: r := by
          cases D' with
          | nil => exact absurd rfl he
          | cons c r => exact ⟨c, r, rfl⟩
        have hcc := hd'.head
        have h48 : c ≠ 48 := by
          rcases hc with h | h
          · simp at h
          · simpa using h
        have hv : 1 ≤ valL 0 (c :: r) := by
          have := valL_ge r (0 * 10 + (c - 48))
          rw [valL_cons]
          omega
        have hi := ih (c :: r) (by simpa using hl) (by simp) hd' (.inr (by simpa using h48))
        rw [Lib.decDigits, dif_neg (by omega), show (valL 0 (c :: r) * 10 + (d - 48)) / 10 = valL 0 (c :: r) by omega, hi, show (valL 0 (c :: r) * 10 + (d - 48)) % 10 = d - 48 by omega, u8L_append]
        congr 1
        show [UInt8.ofNat (48 + (d - 48))] = [UInt8.ofNat d]
        rw [show 48 + (d - 48) = d by omega]
theorem dec_head : ∀ (u : Nat), 10 ≤ u → ∃ c d r, Lib.decDigits u = c :: d :: r ∧ c.toNat ≠ 48 := by
  intro u
  induction u using Nat.strongRecOn with
  | _ u ih =>
    intro h
    rw [Lib.decDigits, dif_neg (by omega)]
    by_cases h2 : u / 10 < 10
    · rw [Lib.decDigits, dif_pos h2]
      refine ⟨_, _, _, rfl, ?_⟩
      rw [ofNat_toNat' _ (by omega)]
      omega
    · obtain ⟨c, d, r, e, hc⟩ := ih (u / 10) (by omega) (by omega)
      rw [e]
      exact ⟨c, d, r ++ [UInt8.ofNat (48 + u % 10)], rfl, hc⟩
theorem dec_not (D : List Nat) (h1 : 1 < D.length) (h2 : D.headD 0 = 48) (u : Nat) : Lib.decDigits u ≠ u8L D := by
  intro e
  by_cases hu : u < 10
  · rw [Lib.decDigits, dif_pos hu] at e
    have := congrArg List.length e
    rw [u8L_length] at this
    simp at this; omega
  · obtain ⟨c, d, r, e2, hc⟩ := dec_head u (by omega)
    rw [e2] at e
    cases D with
    | nil => simp at h1
    | cons x t =>
      simp only [List.headD_cons] at h2
      subst h2
      have := (List.cons.inj e).1
      rw [this] at hc
      exact hc (ofNat_toNat' 48 (by decide))
theorem dec_pos (u : Nat) : ∃ c r, Lib.decDigits u = c :: r ∧ 48 ≤ c.toNat ∧ c.toNat ≤ 57 := by
  induction u using Nat.strongRecOn with
  | _ u ih =>
    rw [Lib.decDigits]
    by_cases h : u < 10
    · rw [dif_pos h]
      exact ⟨_, _, rfl, by rw [ofNat_toNat' _ (by omega)]; omega, by rw [ofNat_toNat' _ (by omega)]; omega⟩
    · rw [dif_neg h]
      obtain ⟨c, r, e, hc⟩ := ih (u / 10) (by omega)
      rw [e]
      exact ⟨c, _, rfl, hc⟩
end Go.Proofs.YtnoodiibkchaaaaGreatDoor
namespace Go.Proofs.YtnoodiibkchaaaaGreatDoor

/-- the reference's answer -/
def intS (neg : Bool) (D : List Nat) : Option Int :=
  if D.length = 0 ∨ 19 < D.length ∨ (D.headD 0 = 48 ∧ (1 < D.length ∨ neg = true)) then none
  else if neg = true then (if valL 0 D ≤ 9223372036854775808 then some (-(valL 0 D : Int)) else none)
  else if valL 0 D < 9223372036854775808 then some (valL 0 D : Int) else none
/-- the program's answer: read, written back, compared -/
def parsed (l : List UInt8) : Option Int :=
  match Lib.parseIntB 64 l with
  | .ok v => if Lib.itoa v = l then some v else none
  | _ => none
theorem parsed_ok {l : List UInt8} {v : Int} (h : Lib.parseIntB 64 l = .ok v) : parsed l = if Lib.itoa v = l then some v else none := by
  unfold parsed; rw [h]
theorem parsed_none {l : List UInt8} (h : ∀ v, Lib.parseIntB 64 l ≠ .ok v) : parsed l = none := by
  unfold parsed
  split
  · rename_i v hv; exact absurd hv (h v)
  · rfl
theorem long_val (D : List Nat) (hd : Digs D) (hl : 19 < D.length) (hh : D.headD 0 ≠ 48) : 10000000000000000000 ≤ valL 0 D := by
  cases D with
  | nil => simp at hl
  | cons c r =>
    have hc := hd.head
    simp only [List.headD_cons] at hh
    have h1 := valL_lo r (0 * 10 + (c - 48))
    rw [valL_cons]
    have h2 : 10 ^ 19 ≤ 10 ^ r.length := Nat.pow_le_pow_right (by decide) (by simp only [List.length_cons] at hl; omega)
    have h3 : 10 ^ r.length ≤ (0 * 10 + (c - 48)) * 10 ^ r.length := Nat.le_mul_of_pos_left _ (by omega)
    have h4 : (10 : Nat) ^ 19 = 10000000000000000000 := by decide
    omega
theorem itoa_pos (v : Nat) : Lib.itoa (v : Int) = Lib.decDigits v := by
  unfold Lib.itoa
  rw [if_neg (by omega)]
  simp
theorem itoa_neg (v : Nat) (h : 1 ≤ v) : Lib.itoa (-(v : Int)) = 45 :: Lib.decDigits v := by
  unfold Lib.itoa
  rw [if_pos (by omega)]
  simp
theorem not_sign (v : Nat) (l : List UInt8) : Lib.decDigits v ≠ 45 :: l := by
  intro e
  obtain ⟨c, r, e2, h1, h2⟩ := dec_pos v
  rw [e2] at e
  have := (List.cons.inj e).1
  rw [this] at h1
  have e3 : (45 : UInt8).toNat = 45 := rfl
  omega
theorem parsed_eq (neg : Bool) (D : List Nat) (hd : Digs D) : parsed (u8L (signed neg D)) = intS neg D := by
  by_cases hne : D = []
  · subst hne
    rw [parsed_none (parseI_none neg)]
    unfold intS
    rw [if_pos (.inl rfl)]
  have hlen : 0 < D.length := by cases D; exact absurd rfl hne; simp
  cases neg with
  | false =>
    have hp := parseI_pos D hne hd
    show parsed (u8L D) = _
    by_cases hv : valL 0 D < 9223372036854775808
    · rw [if_pos hv] at hp
      rw [parsed_ok hp, itoa_pos]
      by_cases hc : D.length = 1 ∨ D.headD 0 ≠ 48
      · rw [if_pos (dec_canon _ D rfl hne hd hc)]
        have hl : ¬ 19 < D.length := fun hl => by
          have hh : D.headD 0 ≠ 48 := by rcases hc with h | h; omega; exact h
          have := long_val D hd hl hh
          omega
        unfold intS
        rw [if_neg (by
          rintro (h | h | ⟨h, h2⟩)
          · omega
          · exact hl h
          · rcases hc with h3 | h3
            · rcases h2 with h4 | h4
              · omega
              · cases h4
            · exact h3 h), if_neg (by decide), if_pos hv]
      · rw [if_neg (dec_not D (by omega) (by omega) _)]
        unfold intS
        rw [if_pos (.inr (.inr ⟨by omega, .inl (by omega)⟩))]
    · rw [if_neg hv] at hp
      rw [parsed_none (by intro v e; rw [hp] at e; cases e)]
      unfold intS
      split
      · rfl
      · first | rfl | rw [if_neg (by decide), if_neg hv]
  | true =>
    have hp := parseI_neg D hne hd
    have e45 : u8L (45 :: D) = 45 :: u8L D := rfl
    show parsed (u8L (45 :: D)) = _
    rw [e45] at hp ⊢
    by_cases hv : valL 0 D ≤ 9223372036854775808
    · rw [if_pos hv] at hp
      rw [parsed_ok hp]
      by_cases h0 : valL 0 D = 0
      · rw [h0, show (-((0 : Nat) : Int)) = ((0 : Nat) : Int) by rfl, itoa_pos, if_neg (not_sign 0 (u8L D))]
        have h48 : D.headD 0 = 48 := by
          cases D with
          | nil => exact absurd rfl hne
          | cons c r =>
            have hc := hd.head
            rw [valL_cons] at h0
            have := valL_ge r (0 * 10 + (c - 48))
            simp only [List.headD_cons]
            omega
        unfold intS
        rw [if_pos (.inr (.inr ⟨h48, .inr rfl⟩))]
      · rw [itoa_neg _ (by omega)]
        by_cases hc : D.headD 0 ≠ 48
        · have e := dec_canon _ D rfl hne hd (.inr hc)
          rw [e, if_pos rfl]
          have hl : ¬ 19 < D.length := fun hl => by
            have := long_val D hd hl hc
            omega
          unfold intS
          rw [if_neg (by
            rintro (h | h | ⟨h, h2⟩)
            · omega
            · exact hl h
            · exact hc h), if_pos rfl, if_pos hv]
        · have h48 : D.headD 0 = 48 := by omega
          by_cases h1 : D.length = 1
          · exfalso
            cases D with
            | nil => exact hne rfl
            | cons c r =>
              have hr : r = [] := List.eq_nil_of_length_eq_zero (by simpa using h1)
              subst hr
              simp only [List.headD_cons] at h48
              rw [valL_cons, valL_nil, h48] at h0
              exact h0 rfl
          · rw [if_neg (fun e => dec_not D (by omega) h48 _ (List.cons.inj e).2)]
            unfold intS
            rw [if_pos (.inr (.inr ⟨h48, .inr rfl⟩))]
    · rw [if_neg hv] at hp
      rw [parsed_none (by intro v e; rw [hp] at e; cases e)]
      unfold intS
      split
      · rfl
      · first | rfl | rw [if_pos rfl, if_neg hv]
end Go.Proofs.YtnoodiibkchaaaaGreatDoor
namespace Go.Proofs.YtnoodiibkchaaaaGreatDoor

/-- where the digits from a position on end -/
def digEnd (t : ByteArray) : Nat → Nat → Nat
  | 0, k => k
  | f + 1, k => if k < t.size ∧ 48 ≤ bAt t k ∧ bAt t k ≤ 57 then digEnd t f (k + 1) else k
theorem digEnd_next (t : ByteArray) (f k : Nat) (hf : t.size + 1 ≤ k + f) (h : k < t.size ∧ 48 ≤ bAt t k ∧ bAt t k ≤ 57) : ∃ f', digEnd t f k = digEnd t f' (k + 1) ∧ t.size + 1 ≤ k + 1 + f' := by
  obtain ⟨f, rfl⟩ : ∃ g, f = g + 1 := ⟨f - 1, by omega⟩
  exact ⟨f, by rw [digEnd, if_pos h], by omega⟩
theorem digEnd_stop (t : ByteArray) (f k : Nat) (h : ¬ (k < t.size ∧ 48 ≤ bAt t k ∧ bAt t k ≤ 57)) : digEnd t f k = k := by
  cases f with
  | zero => rfl
  | succ f => rw [digEnd, if_neg h]
theorem digEnd_spec (t : ByteArray) : ∀ f k, k ≤ t.size → k ≤ digEnd t f k ∧ digEnd t f k ≤ t.size ∧ ∀ j, k ≤ j → j < digEnd t f k → 48 ≤ bAt t j ∧ bAt t j ≤ 57
  | 0, k, h => ⟨Nat.le_refl _, h, fun j h1 h2 => absurd h1 (Nat.not_le.2 h2)⟩
  | f + 1, k, h => by
    by_cases hc : k < t.size ∧ 48 ≤ bAt t k ∧ bAt t k ≤ 57
    · obtain ⟨h1, h2, h3⟩ := digEnd_spec t f (k + 1) (by omega)
      rw [digEnd, if_pos hc]
      refine ⟨by omega, h2, fun j hj hlt => ?_⟩
      by_cases hjk : j = k
      · subst hjk; exact hc.2
      · exact h3 j (by omega) hlt
    · rw [digEnd, if_neg hc]
      exact ⟨Nat.le_refl _, h, fun j h1 h2 => absurd h1 (Nat.not_le.2 h2)⟩
theorem cut_digs (t : ByteArray) (k n : Nat) (h : ∀ j, k ≤ j → j < k + n → 48 ≤ bAt t j ∧ bAt t j ≤ 57) : Digs (cut t k n) := by
  intro c hc
  simp only [cut, List.mem_map, List.mem_range] at hc
  obtain ⟨j, hj, rfl⟩ := hc
  exact h _ (by omega) (by omega)
theorem cut_length (t : ByteArray) (k n : Nat) : (cut t k n).length = n := by simp [cut]
theorem cut_snoc (t : ByteArray) (k n : Nat) : cut t k (n + 1) = cut t k n ++ [bAt t (k + n)] := by
  rw [cut_add t k n 1]
  simp [cut]
theorem cut_cons (t : ByteArray) (k n : Nat) : cut t k (n + 1) = bAt t k :: cut t (k + 1) n := by
  rw [Nat.add_comm n 1, cut_add t k 1 n]
  simp [cut]
/-- is there a sign at the offset? -/
def sgn (t : ByteArray) (a : Nat) : Bool := decide (a < t.size ∧ bAt t a = 45)
def fromOf (t : ByteArray) (a : Nat) : Nat := if sgn t a = true then a + 1 else a
def endOf (t : ByteArray) (a : Nat) : Nat := digEnd t (t.size + 1) (fromOf t a)
/-- what Int answers at an offset of the text -/
def intV (t : ByteArray) (a : Nat) : Option (Int × Nat) := (intS (sgn t a) (cut t (fromOf t a) (endOf t a - fromOf t a))).map fun v => (v, endOf t a)
def intR : Option (Int × Nat) → Value
  | some p => .tuple #[.int .i64 p.1, .int .i64 ((p.2 : Nat) : Int), .int .i64 0]
  | none => .tuple #[.int .i64 0, .int .i64 0, .int .i64 24]
theorem from_le (t : ByteArray) (a : Nat) (h : a ≤ t.size) : a ≤ fromOf t a ∧ fromOf t a ≤ t.size := by
  unfold fromOf sgn
  by_cases hc : a < t.size ∧ bAt t a = 45
  · rw [if_pos (by simpa using hc)]; omega
  · rw [if_neg (by simpa using hc)]; omega
theorem text_of (t : ByteArray) (a : Nat) (h : a ≤ t.size) : (t.extract a (endOf t a)).data.toList = u8L (signed (sgn t a) (cut t (fromOf t a) (endOf t a - fromOf t a))) := by
  have hf := from_le t a h
  obtain ⟨h1, h2, _⟩ := digEnd_spec t (t.size + 1) (fromOf t a) hf.2
  have e : a + (endOf t a - a) = endOf t a := by unfold endOf; omega
  have hc := cut_data t a (endOf t a - a) (by unfold endOf; omega)
  rw [e] at hc
  rw [hc]
  congr 1
  unfold fromOf at hf ⊢
  by_cases hs : sgn t a = true
  · rw [if_pos hs] at hf ⊢
    rw [hs]
    have hb : bAt t a = 45 := by
      unfold sgn at hs
      exact (of_decide_eq_true hs).2
    have e2 : endOf t a - a = (endOf t a - (a + 1)) + 1 := by
      unfold endOf fromOf
      rw [if_pos hs]
      unfold fromOf at h1
      rw [if_pos hs] at h1
      omega
    rw [e2, cut_cons, hb]
    rfl
  · rw [if_neg hs]
    have hs' : sgn t a = false := by simpa using hs
    rw [hs']
    rfl
theorem digs_of (t : ByteArray) (a : Nat) (h : a ≤ t.size) : Digs (cut t (fromOf t a) (endOf t a - fromOf t a)) := by
  have hf := from_le t a h
  obtain ⟨h1, h2, h3⟩ := digEnd_spec t (t.size + 1) (fromOf t a) hf.2
  refine cut_digs _ _ _ fun j hj hlt => h3 j hj ?_
  unfold endOf at hlt
  omega
theorem intV_parsed (t : ByteArray) (a : Nat) (h : a ≤ t.size) : intV t a = (parsed (t.extract a (endOf t a)).data.toList).map fun v => (v, endOf t a) := by
  rw [text_of t a h, parsed_eq _ _ (digs_of t a h)]
  rfl
end Go.Proofs.YtnoodiibkchaaaaGreatDoor
