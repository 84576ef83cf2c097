/-
  PLAIN: chapter 23: small blocks have short texts; newlines by bytes. No walk here.
-/
import Derived.Test.YtnoodiibkchaaaaGreatDoorPArc3
import Derived.Test.YtnoodiibkchaaaaGreatDoorXAB
import Derived.Lib.Bytealg
namespace Go.Proofs.YtnoodiibkchaaaaGreatDoor

theorem labsT_le (K : Nat) : ∀ l : List Lab, (∀ x ∈ l, x.1.size ≤ K ∧ x.2.size ≤ K) → (labsT l).length ≤ l.length * (8 * K + 6)
  | [], _ => by simp [labsT]
  | [x], h => by
    have h1 := quoteL_le x.1
    have h2 := quoteL_le x.2
    have h3 := h x (by simp)
    simp only [labsT, labT, List.length_append, List.length_cons, List.length_nil]
    omega
  | x :: y :: r, h => by
    have ih := labsT_le K (y :: r) (fun z hz => h z (by simp only [List.mem_cons] at hz ⊢; exact .inr hz))
    have h1 := quoteL_le x.1
    have h2 := quoteL_le x.2
    have h3 := h x (by simp)
    simp only [labsT, labT, List.length_append, List.length_cons] at ih ⊢
    have e : (r.length + 1 + 1) * (8 * K + 6) = (r.length + 1) * (8 * K + 6) + (8 * K + 6) := by rw [Nat.add_mul (r.length + 1) 1, Nat.one_mul]
    omega
theorem short_sizes {l : List Lab} (h : Short l) : ∀ x ∈ l, x.1.size ≤ 20000 ∧ x.2.size ≤ 20000 := fun x hx =>
  ⟨h x.1 (by unfold strsL; exact List.mem_flatMap.2 ⟨x, hx, by simp⟩), h x.2 (by unfold strsL; exact List.mem_flatMap.2 ⟨x, hx, by simp⟩)⟩
theorem smpT_le (x : Smp) (h : FitT x) : (smpT x).length ≤ 37 := by
  have := itoaN_len x.1 h.1.1 h.1.2
  simp [smpT, hexTail_length]
  omega
theorem smpsT_le : ∀ l : List Smp, (∀ y ∈ l, FitT y) → (smpsT l).length ≤ l.length * 38
  | [], _ => by simp [smpsT]
  | x :: r, h => by
    have ih := smpsT_le r (fun y hy => h y (by simp [hy]))
    have h1 := smpT_le x (h x (by simp))
    have e : smpsT (x :: r) = smpT x ++ ([10] ++ smpsT r) := by simp [smpsT]
    rw [e, List.length_append, List.length_append, List.length_cons]
    simp only [List.length_cons, List.length_nil]
    omega
theorem bloT_le : ∀ b : List Ser, (∀ x ∈ b, x.1.length ≤ 200 ∧ x.2.length ≤ 3000 ∧ Short x.1 ∧ ∀ y ∈ x.2, FitT y) → (bloT b).length ≤ b.length * 40000000
  | [], _ => by simp [bloT]
  | x :: r, h => by
    have ih := bloT_le r (fun y hy => h y (by simp [hy]))
    obtain ⟨h1, h2, h3, h4⟩ := h x (by simp)
    have e : (bloT (x :: r)).length = (serT x).length + (bloT r).length := by simp [bloT]
    have e2 := serT_len x
    have e3 := labsT_le 20000 x.1 (short_sizes h3)
    have e4 := smpsT_le x.2 h4
    have e5 : x.1.length * (8 * 20000 + 6) ≤ 200 * (8 * 20000 + 6) := Nat.mul_le_mul_right _ h1
    rw [e, List.length_cons]
    omega
theorem ok_of {b : List Ser} (h : Small b) (hs : ∀ x ∈ b, Short x.1) (hf : ∀ x ∈ b, ∀ y ∈ x.2, FitT y) : Ok b := by
  refine ⟨?_, hf⟩
  have h1 := bloT_le b (fun x hx => ⟨(h.2 x hx).1, (h.2 x hx).2, hs x hx, hf x hx⟩)
  have h2 := h.1
  omega
theorem count_nls (L : List Nat) (h : ∀ c ∈ L, c < 256) : Lib.countByte (strOf L).data.toList 10 = nls L := by
  unfold Lib.countByte nls
  rw [show (strOf L).data.toList = u8L L from strOf_list L]
  induction L with
  | nil => rfl
  | cons c r ih =>
    have ih' := ih (fun x hx => h x (by simp [hx]))
    have hc := h c (by simp)
    have e : u8L (c :: r) = UInt8.ofNat c :: u8L r := rfl
    rw [e, List.count_cons, List.countP_cons, ih']
    have : (UInt8.ofNat c == 10) = (c == 10) := by
      rw [Bool.eq_iff_iff]
      simp only [beq_iff_eq]
      constructor
      · intro h2
        have := congrArg UInt8.toNat h2
        simp at this
        omega
      · rintro rfl; rfl
    rw [this]
/-- strings' sizes together -/
def sumS : List ByteArray → Nat
  | [] => 0
  | s :: r => s.size + sumS r
theorem sumS_append (a b : List ByteArray) : sumS (a ++ b) = sumS a + sumS b := by
  induction a with
  | nil => simp [sumS]
  | cons x r ih => simp only [List.cons_append, sumS, ih]; omega
theorem sumS_take {l : List ByteArray} {k : Nat} {s : ByteArray} (h : l[k]? = some s) : sumS (l.take (k + 1)) = sumS (l.take k) + s.size := by
  rw [List.take_add_one, h, sumS_append]
  simp [sumS]
theorem sumS_mem {l : List ByteArray} {s : ByteArray} (h : s ∈ l) : s.size ≤ sumS l := by
  induction l with
  | nil => cases h
  | cons x r ih =>
    rcases List.mem_cons.1 h with rfl | h
    · simp only [sumS]; omega
    · have := ih h; simp only [sumS]; omega
theorem heads_fit {l : List Lab} (h : (strsL l).length ≤ 40) (hs : sumS (strsL l) ≤ 20000) : (labsT l).length ≤ 1099511627776 ∧ l.length ≤ 20 ∧ (headL l).length ≤ 1099511627776 := by
  rw [strsL_length] at h
  have h1 := labsT_le 20000 l (fun x hx => ⟨Nat.le_trans (sumS_mem (show x.1 ∈ strsL l from List.mem_flatMap.2 ⟨x, hx, by simp⟩)) hs, Nat.le_trans (sumS_mem (show x.2 ∈ strsL l from List.mem_flatMap.2 ⟨x, hx, by simp⟩)) hs⟩)
  have h2 : l.length * (8 * 20000 + 6) ≤ 20 * (8 * 20000 + 6) := Nat.mul_le_mul_right _ (by omega)
  have h3 : (headL l).length = (labsT l).length + 2 := by simp [headL]
  omega
end Go.Proofs.YtnoodiibkchaaaaGreatDoor
