/-
  PLAIN: chapter 23: lengths of texts; what Export answers. No walk here.
-/
import Derived.Test.YtnoodiibkchaaaaGreatDoorXArc
import Derived.Test.YtnoodiibkchaaaaGreatDoorWArcG
namespace Go.Proofs.YtnoodiibkchaaaaGreatDoor

theorem itoaN_len (n : Int) (h0 : -9223372036854775808 ≤ n) (h1 : n ≤ 9223372036854775807) : (itoaN n).length ≤ 20 := by
  unfold itoaN
  rw [List.length_map]
  by_cases h : 0 ≤ n
  · obtain ⟨u, rfl⟩ : ∃ u : Nat, n = u := ⟨n.toNat, by omega⟩
    rw [itoa_pos]
    have := dec_len u (by omega)
    omega
  · obtain ⟨u, hu⟩ : ∃ u : Nat, n = -(u : Int) := ⟨n.natAbs, by omega⟩
    subst hu
    rw [itoa_neg u (by omega), List.length_cons]
    have := dec_len u (by omega)
    omega
theorem smpT_len (x : Smp) : 17 ≤ (smpT x).length := by
  simp [smpT, hexTail_length]
theorem smpsT_ge : ∀ l : List Smp, l.length ≤ (smpsT l).length
  | [] => by simp
  | x :: r => by
    have ih := smpsT_ge r
    have e : smpsT (x :: r) = smpT x ++ ([10] ++ smpsT r) := by simp [smpsT]
    rw [e, List.length_append, List.length_append, List.length_cons]
    simp
    omega
theorem serT_len (x : Ser) : (serT x).length = (labsT x.1).length + 3 + (smpsT x.2).length := by
  simp [serT, headL]; omega
theorem bloT_ge : ∀ b : List Ser, b.length + samplesN b ≤ (bloT b).length ∧ ∀ x ∈ b, (labsT x.1).length ≤ (bloT b).length ∧ (smpsT x.2).length ≤ (bloT b).length
  | [] => by simp [samplesN]
  | x :: r => by
    obtain ⟨ih1, ih2⟩ := bloT_ge r
    have e : (bloT (x :: r)).length = (serT x).length + (bloT r).length := by simp [bloT]
    have e2 := serT_len x
    have e3 := smpsT_ge x.2
    rw [e, List.length_cons, samplesN]
    refine ⟨by omega, fun y hy => ?_⟩
    rcases List.mem_cons.1 hy with rfl | hy
    · omega
    · have := ih2 y hy; omega
theorem bloT_take (b : List Ser) (k : Nat) : (bloT (b.take k)).length ≤ (bloT b).length := by
  have : bloT b = bloT (b.take k) ++ bloT (b.drop k) := by
    unfold bloT
    rw [← List.flatMap_append, List.take_append_drop]
  rw [this, List.length_append]; omega
theorem bloT_next {b : List Ser} {k : Nat} {x : Ser} (h : b[k]? = some x) : bloT (b.take (k + 1)) = bloT (b.take k) ++ (headL x.1 ++ [10] ++ smpsT x.2) := by
  rw [List.take_add_one, h]
  simp [bloT, serT]
theorem smpsT_next {l : List Smp} {k : Nat} {x : Smp} (h : l[k]? = some x) : smpsT (l.take (k + 1)) = smpsT (l.take k) ++ (smpT x ++ [10]) := by
  rw [List.take_add_one, h]
  simp [smpsT]
theorem smpsT_take (l : List Smp) (k : Nat) : (smpsT (l.take k)).length ≤ (smpsT l).length := by
  have : smpsT l = smpsT (l.take k) ++ smpsT (l.drop k) := by
    unfold smpsT
    rw [← List.flatMap_append, List.take_append_drop]
  rw [this, List.length_append]; omega
/-- what Export answers -/
def expV (b : List Ser) : Value := if modE b ≠ 0 then .tuple #[.string { data := #[] }, .int .i64 (modE b)] else .tuple #[.string (strOf (bloT b)), .int .i64 0]
/-- a block whose text is not too long -/
structure Ok (b : List Ser) : Prop where
  len : (bloT b).length ≤ 1099511627776
  fit : ∀ x ∈ b, ∀ y ∈ x.2, FitT y
theorem Ok.lens {b : List Ser} (h : Ok b) : b.length ≤ 1099511627776 ∧ samplesN b ≤ 1099511627776 ∧ ∀ x ∈ b, Fit x ∧ (labsT x.1).length ≤ 1099511627776 ∧ (smpsT x.2).length ≤ 1099511627776 := by
  obtain ⟨h1, h2⟩ := bloT_ge b
  have hl := h.len
  refine ⟨by omega, by omega, fun x hx => ?_⟩
  have h3 := h2 x hx
  have h4 := labsT_ge x.1
  have h5 := smpsT_ge x.2
  exact ⟨⟨by omega, by omega⟩, by omega, by omega⟩
theorem Ok.part {b : List Ser} (h : Ok b) {k : Nat} {x : Ser} (hx : b[k]? = some x) (j : Nat) : (bloT (b.take k) ++ (headL x.1 ++ [10] ++ smpsT (x.2.take j))).length ≤ 1099511627776 := by
  have h1 := bloT_take b (k + 1)
  rw [bloT_next hx] at h1
  have h2 := smpsT_take x.2 j
  have h3 := h.len
  rw [List.length_append, List.length_append] at h1 ⊢
  omega
theorem smp_str (y1 : Int) (u : Nat) : (⟨(Lib.itoa y1).toArray⟩ : ByteArray) ++ { data := #[32] } ++ strOf (hexTail u 16) ++ { data := #[10] } = strOf (smpT (y1, (u : Int)) ++ [10]) := by
  rw [strOf_itoa, show ({ data := #[32] } : ByteArray) = strOf [32] from rfl, show ({ data := #[10] } : ByteArray) = strOf [10] from rfl, strOf_append, strOf_append, strOf_append]
  simp [smpT]
theorem itoa_size (n : Int) (h0 : -9223372036854775808 ≤ n) (h1 : n ≤ 9223372036854775807) : (⟨(Lib.itoa n).toArray⟩ : ByteArray).size ≤ 20 := by
  rw [strOf_itoa, strOf_size]; exact itoaN_len n h0 h1
end Go.Proofs.YtnoodiibkchaaaaGreatDoor
