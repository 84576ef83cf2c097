/-
  PLAIN: a decimal number that is written as Go writes it: what reading and writing it back say, and what the reference says.
-/
import Derived.Test.YtgleiicielmnmaaDoorPNum
namespace Go.Proofs.YtgleiicielmnmaaDoor

/-- the reference's answer -/
def intS (neg : Bool) (D : List Nat) : Option Int :=
  if D.length = 0 ∨ 19 < D.length ∨ (D.headD 0 = 48 ∧ (1 < D.length ∨ neg = true)) then none
  else if neg = true then (if valL 0 D ≤ 9223372036854775808 then some (-(valL 0 D : Int)) else none)
  else if valL 0 D < 9223372036854775808 then some (valL 0 D : Int) else none
/-- the program's answer: read, written back, compared -/
def parsed (l : List UInt8) : Option Int :=
  match Lib.parseIntB 64 l with
  | .ok v => if Lib.itoa v = l then some v else none
  | _ => none
theorem parsed_ok {l : List UInt8} {v : Int} (h : Lib.parseIntB 64 l = .ok v) : parsed l = if Lib.itoa v = l then some v else none := by
  unfold parsed; rw [h]
theorem parsed_none {l : List UInt8} (h : ∀ v, Lib.parseIntB 64 l ≠ .ok v) : parsed l = none := by
  unfold parsed
  split
  · rename_i v hv; exact absurd hv (h v)
  · rfl
theorem long_val (D : List Nat) (hd : Digs D) (hl : 19 < D.length) (hh : D.headD 0 ≠ 48) : 10000000000000000000 ≤ valL 0 D := by
  cases D with
  | nil => simp at hl
  | cons c r =>
    have hc := hd.head
    simp only [List.headD_cons] at hh
    have h1 := valL_lo r (0 * 10 + (c - 48))
    rw [valL_cons]
    have h2 : 10 ^ 19 ≤ 10 ^ r.length := Nat.pow_le_pow_right (by decide) (by simp only [List.length_cons] at hl; omega)
    have h3 : 10 ^ r.length ≤ (0 * 10 + (c - 48)) * 10 ^ r.length := Nat.le_mul_of_pos_left _ (by omega)
    have h4 : (10 : Nat) ^ 19 = 10000000000000000000 := by decide
    omega
theorem itoa_pos (v : Nat) : Lib.itoa (v : Int) = Lib.decDigits v := by
  unfold Lib.itoa
  rw [if_neg (by omega)]
  simp
theorem itoa_neg (v : Nat) (h : 1 ≤ v) : Lib.itoa (-(v : Int)) = 45 :: Lib.decDigits v := by
  unfold Lib.itoa
  rw [if_pos (by omega)]
  simp
theorem not_sign (v : Nat) (l : List UInt8) : Lib.decDigits v ≠ 45 :: l := by
  intro e
  obtain ⟨c, r, e2, h1, h2⟩ := dec_pos v
  rw [e2] at e
  have := (List.cons.inj e).1
  rw [this] at h1
  have e3 : (45 : UInt8).toNat = 45 := rfl
  omega
theorem parsed_eq (neg : Bool) (D : List Nat) (hd : Digs D) : parsed (u8L (signed neg D)) = intS neg D := by
  by_cases hne : D = []
  · subst hne
    rw [parsed_none (parseI_none neg)]
    unfold intS
    rw [if_pos (.inl rfl)]
  have hlen : 0 < D.length := by cases D; exact absurd rfl hne; simp
  cases neg with
  | false =>
    have hp := parseI_pos D hne hd
    show parsed (u8L D) = _
    by_cases hv : valL 0 D < 9223372036854775808
    · rw [if_pos hv] at hp
      rw [parsed_ok hp, itoa_pos]
      by_cases hc : D.length = 1 ∨ D.headD 0 ≠ 48
      · rw [if_pos (dec_canon _ D rfl hne hd hc)]
        have hl : ¬ 19 < D.length := fun hl => by
          have hh : D.headD 0 ≠ 48 := by rcases hc with h | h; omega; exact h
          have := long_val D hd hl hh
          omega
        unfold intS
        rw [if_neg (by
          rintro (h | h | ⟨h, h2⟩)
          · omega
          · exact hl h
          · rcases hc with h3 | h3
            · rcases h2 with h4 | h4
              · omega
              · cases h4
            · exact h3 h), if_neg (by decide), if_pos hv]
      · rw [if_neg (dec_not D (by omega) (by omega) _)]
        unfold intS
        rw [if_pos (.inr (.inr ⟨by omega, .inl (by omega)⟩))]
    · rw [if_neg hv] at hp
      rw [parsed_none (by intro v e; rw [hp] at e; cases e)]
      unfold intS
      split
      · rfl
      · first | rfl | rw [if_neg (by decide), if_neg hv]
  | true =>
    have hp := parseI_neg D hne hd
    have e45 : u8L (45 :: D) = 45 :: u8L D := rfl
    show parsed (u8L (45 :: D)) = _
    rw [e45] at hp ⊢
    by_cases hv : valL 0 D ≤ 9223372036854775808
    · rw [if_pos hv] at hp
      rw [parsed_ok hp]
      by_cases h0 : valL 0 D = 0
      · rw [h0, show (-((0 : Nat) : Int)) = ((0 : Nat) : Int) by rfl, itoa_pos, if_neg (not_sign 0 (u8L D))]
        have h48 : D.headD 0 = 48 := by
          cases D with
          | nil => exact absurd rfl hne
          | cons c r =>
            have hc := hd.head
            rw [valL_cons] at h0
            have := valL_ge r (0 * 10 + (c - 48))
            simp only [List.headD_cons]
            omega
        unfold intS
        rw [if_pos (.inr (.inr ⟨h48, .inr rfl⟩))]
      · rw [itoa_neg _ (by omega)]
        by_cases hc : D.headD 0 ≠ 48
        · have e := dec_canon _ D rfl hne hd (.inr hc)
          rw [e, if_pos rfl]
          have hl : ¬ 19 < D.length := fun hl => by
            have := long_val D hd hl hc
            omega
          unfold intS
          rw [if_neg (by
            rintro (h | h | ⟨h, h2⟩)
            · omega
            · exact hl h
            · exact hc h), if_pos rfl, if_pos hv]
        · have h48 : D.headD 0 = 48 := by omega
          by_cases h1 : D.length = 1
          · exfalso
            cases D with
            | nil => exact hne rfl
            | cons c r =>
              have hr : r = [] := List.eq_nil_of_length_eq_zero (by simpa using h1)
              subst hr
              simp only [List.headD_cons] at h48
              rw [valL_cons, valL_nil, h48] at h0
              exact h0 rfl
          · rw [if_neg (fun e => dec_not D (by omega) h48 _ (List.cons.inj e).2)]
            unfold intS
            rw [if_pos (.inr (.inr ⟨h48, .inr rfl⟩))]
    · rw [if_neg hv] at hp
      rw [parsed_none (by intro v e; rw [hp] at e; cases e)]
      unfold intS
      split
      · rfl
      · first | rfl | rw [if_pos rfl, if_neg hv]
end Go.Proofs.YtgleiicielmnmaaDoor
