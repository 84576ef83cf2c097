/-
  PLAIN and joined: chapter 7's codec in the form that the laws' walks take (enc7, dec7).
-/
import Derived.Test.YtdniaingipoggaaWLaw07a
namespace Go.Proofs.Ytdniaingipoggaa
open Go.RowKit

theorem madeBools (n : Nat) : (madeCells (Value.bool false).cells (n * 1)).toList = bools (List.replicate n false) := by
  apply List.ext_getElem?
  intro i
  simp only [madeCells, bools, Value.cells, Nat.mul_one]
  by_cases h : i < n
  · simp [h, Nat.mod_one]
  · simp [h]
theorem fieldBits_zero (n : Nat) : fieldBits 0 n = List.replicate n false := by
  unfold fieldBits
  apply List.ext_getElem?
  intro i
  by_cases h : i < n
  · simp [h]
  · simp [h]
/-- the length of a row is a length -/
theorem row_shape_le {w : World} {base : Nat} {e : TypeId} {size : Nat} {v : Value} {n : Nat} {xs : List Value} (h : w.ownsRow base e size v n xs) : n ≤ maxLen := by
  rcases h.2 with ⟨_, rfl⟩ | ⟨g, cap, cur, rfl, hb, hgg, hcap, hm, _⟩
  · exact Nat.zero_le _
  · omega
theorem Holds.keepsS {a b : World} {v : Value} {xs : List Value} {P : Nat} (h : Holds a v xs) (k : Keeps (fun k => k = P) a b) (hne : xs ≠ [] → ∃ g, v.ownBlock = some g ∧ g ≠ P) : Holds b v xs := by
  by_cases hx : xs = []
  · obtain ⟨ad, cap, hv, hc, _⟩ := h
    exact ⟨ad, cap, hv, hc, .inl hx⟩
  · obtain ⟨g, hg, hgp⟩ := hne hx
    exact h.keeps k (fun g' hg' e => by rw [hg] at hg'; simp only [Option.some.injEq] at hg'; omega)

theorem rget_lt : ∀ (f n : Nat) (last : Nat × Nat) (b : List Bool), ∀ p ∈ (rget f n last b).2.1, p.1 ≤ 18446744073709551615 := by
  intro f
  induction f with
  | zero => intro n last b p hp; simp [rget] at hp
  | succ f ih =>
    intro n last b p hp
    by_cases h0 : n = 0
    · rw [rget_done _ _ _ _ h0] at hp; simp at hp
    · obtain ⟨⟨x, c, e, m⟩, hg⟩ : ∃ g, getB b = g := ⟨_, rfl⟩
      have hb := getB_bounds hg
      rw [rget_getB f n last b h0 hg] at hp
      split at hp
      · simp at hp
      · split at hp
        · simp at hp
        · simp only [after, List.singleton_append, List.mem_cons] at hp
          rcases hp with rfl | hp
          · exact hb.1
          · exact ih _ _ _ p hp
def enc7 (l : List Nat) : List Bool := encRuns (runsOf l)
def dec7 (n : Nat) (b : List Bool) : Nat × List Nat × List Bool := ((rget n n (0, 128) b).1, getVals (rget n n (0, 128) b), (rget n n (0, 128) b).2.2)
theorem enc7_length (l : List Nat) : (enc7 l).length ≤ 71 * l.length := by
  unfold enc7; rw [encRuns_length]; have := runsOf_length l; omega
theorem dec7_packed (l : List Nat) (hX : ∀ x ∈ l, x ≤ 18446744073709551615) : dec7 l.length ((unpackB (packed (enc7 l))).drop 0) = (0, l, (unpackB (packed (enc7 l))).drop (enc7 l).length) := by
  unfold dec7 enc7
  rw [rget_packed l hX]
  simp only [getVals, if_true, joinOf_runsOf]
theorem dec7_sound {n : Nat} {b : List Bool} {vs : List Nat} {r : List Bool} (h : dec7 n b = (0, vs, r)) : b = enc7 vs ++ r ∧ vs.length = n := by
  unfold dec7 at h
  obtain ⟨⟨e, rs, r'⟩, hq⟩ : ∃ q, rget n n (0, 128) b = q := ⟨_, rfl⟩
  rw [hq] at h
  simp only [Prod.mk.injEq] at h
  obtain ⟨rfl, rfl, rfl⟩ := h
  obtain ⟨h1, h2, h3⟩ := rget_sound n n (0, 128) b rs r' (Nat.le_refl _) hq
  simp only [getVals, if_true]
  exact ⟨by unfold enc7; rw [runsOf_joinOf rs h3]; exact h1, h2⟩
theorem dec7_bad {n : Nat} {b : List Bool} (h : (dec7 n b).1 ≠ 0) : (dec7 n b).2.1 = [] := by
  unfold dec7 at *
  exact getVals_bad h
theorem dec7_lt {n : Nat} {b : List Bool} {vs : List Nat} {r : List Bool} (h : dec7 n b = (0, vs, r)) : ∀ x ∈ vs, x ≤ 18446744073709551615 := by
  unfold dec7 at h
  obtain ⟨⟨e, rs, r'⟩, hq⟩ : ∃ q, rget n n (0, 128) b = q := ⟨_, rfl⟩
  rw [hq] at h
  simp only [Prod.mk.injEq] at h
  obtain ⟨rfl, rfl, rfl⟩ := h
  have hr := rget_lt n n (0, 128) b
  rw [hq] at hr
  simp only [getVals, if_true]
  intro x hx
  simp only [joinOf, List.mem_flatMap] at hx
  obtain ⟨p, hp, hx⟩ := hx
  have := List.eq_of_mem_replicate hx
  subst this
  exact hr p hp
theorem row_cap {w : World} {base : Nat} {e : TypeId} {size : Nat} {a : Option Addr} {n cap : Nat} {xs : List Value} (h : w.ownsRow base e size (.slice a n cap) n xs) : n ≤ cap := by
  rcases h.2 with ⟨hv, rfl⟩ | ⟨g, cap', cur, hv, hb, hgg, hcap, hm, _⟩
  · exact Nat.zero_le _
  · simp only [Value.slice.injEq] at hv; omega
theorem run_to_all {P : Program} (w : World) (t e : TypeId) (ht : P.underlying t = some (.slice e)) {i : TypeInfo} (hi : P.info? e = some i) (hz : i.size = 1) {a : Option Addr} {len cap : Nat} {xs : List Value} (h : Holds w (.slice a len cap) xs) (k : IntKind) (hi' : Nat) (h1 : hi' ≤ xs.length) :
    ∃ a2 cap2, (∀ w, (Instr.sliceAt t (.slice a len cap) none (some (.int k (hi' : Nat))) none).run P w = .ok (.slice a2 hi' cap2) w) ∧ Holds w (.slice a2 hi' cap2) (xs.take hi') := by
  obtain ⟨a2, cap2, e1, e2, e3⟩ := sliced_holds w h 0 hi' (Nat.zero_le _) h1
  rw [Nat.sub_zero] at e1 e2 e3
  rw [List.drop_zero] at e2
  have hcap : hi' ≤ cap := by
    obtain ⟨ad, cap', hv, hc, _⟩ := h
    simp only [Value.slice.injEq] at hv
    omega
  refine ⟨a2, cap2, fun w' => ?_, e2⟩
  have hel : P.elem t = e := by simp [Program.elem, ht]
  have ht' : P.underlying t = some (.slice (P.elem t)) := by rw [hel]; exact ht
  rw [run_sliceAt_slice (P := P) w' t _ _ _ _ ht', run_slice_h (P := P) w' t a len cap ht' k hi' (by omega) (by omega), hel]
  simp [sizeOf, typeInfo, hi, hz, e1, Result.andThen]
theorem put7_any (base p : Nat) (v0 v : Value) (bits : List Bool) (l : List Nat) (w : World) (hW : IsW w base p v0 bits) (hb0 : base ≤ w.heap.size) (hbits : bits.length ≤ 1000000000) (hl : l.length ≤ 1000000000) (hX : ∀ x ∈ l, x ≤ 18446744073709551615)
    (h : Holds w v (u64s l)) (hap : ∀ k, ownH v l k → ¬ foot p v0 k) :
    Calls Try.prog 56 #[.pointer (some ⟨p, 0, none⟩), v] w fun e w' => e = .returned (.int .i64 0) ∧ Wrote base p v0 (bits ++ enc7 l) w w' := put_any base p v0 v bits l w hW hb0 hbits hl hX h hap
theorem get7_any (base p : Nat) (v : Value) (bs : List Nat) (i n : Nat) (w : World) (h : IsR w base p v bs i) (hl : bs.length ≤ 1099511627776) (hi : i ≤ 8 * bs.length) (hn : n ≤ 1000000000) :
    Calls Try.prog 52 #[.pointer (some ⟨p, 0, none⟩), .int .i64 n] w fun e w' => ∃ v', e = .returned (.tuple #[v', .int .i64 (((dec7 n ((unpackB bs).drop i)).1 : Nat) : Int)]) ∧
      w'.ownsRow w.heap.size 35 1 v' (dec7 n ((unpackB bs).drop i)).2.1.length (u64s (dec7 n ((unpackB bs).drop i)).2.1) ∧
      (∃ i', i' ≤ 8 * bs.length ∧ IsR w' base p v bs i' ∧ (dec7 n ((unpackB bs).drop i)).2.2 = (unpackB bs).drop i') ∧ Keeps (fun k => k = p) w w' := get_any base p v bs i n w h hl hi hn
theorem size7_any (v : Value) (l : List Nat) (w : World) (hl : l.length ≤ 1099511627776) (h : Holds w v (u64s l)) :
    Calls Try.prog 57 #[v] w fun e w' => e = .returned (.int .i64 (((enc7 l).length : Nat) : Int)) ∧ Keeps (fun _ => False) w w' := by
  unfold enc7; rw [encRuns_length]; exact size_any v l w hl h
theorem rput7_any (base : Nat) (v0 v : Value) (l0 : List Bool) (l : List Nat) (w : World) (h0 : w.ownsRow base 4 1 v0 (bools l0).length (bools l0)) (hl0 : l0.length ≤ 1000000000) (hb0 : base ≤ w.heap.size)
    (hl : l.length ≤ 1000000000) (hX : ∀ x ∈ l, x ≤ 18446744073709551615) (h : Holds w v (u64s l)) :
    Calls Try.prog 54 #[v0, v] w fun e w' => ∃ v', e = .returned v' ∧ RowTo 4 base v0 w v' (bools (l0 ++ enc7 l)) w' := ref7Put_any base v0 v l0 l w h0 hl0 hb0 hl hX h
theorem rget7_any (p : Nat) (vq : Value) (b0 : List Bool) (n : Nat) (w : World) (h : IsQ w p vq b0) (hv : ∀ g, vq.ownBlock = some g → g < w.heap.size) (hn : n ≤ 1000000000) :
    Calls Try.prog 53 #[.pointer (some ⟨p, 0, none⟩), .int .i64 n] w fun e w' => ∃ v', e = .returned (.tuple #[v', .int .i64 (((dec7 n b0).1 : Nat) : Int)]) ∧
      w'.ownsRow w.heap.size 35 1 v' (dec7 n b0).2.1.length (u64s (dec7 n b0).2.1) ∧
      (∃ vq', IsQ w' p vq' (dec7 n b0).2.2 ∧ ∀ g, vq'.ownBlock = some g → vq.ownBlock = some g) ∧ Keeps (fun k => k = p) w w' := ref7Get_any p vq b0 n w h hv hn
end Go.Proofs.Ytdniaingipoggaa
