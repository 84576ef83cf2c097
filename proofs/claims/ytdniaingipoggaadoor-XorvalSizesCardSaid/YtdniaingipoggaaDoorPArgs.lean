/-
  PLAIN: arguments of a law, opened: slices of integers, of structs with two fields. After the guide's block on slices of structs.
-/
import Derived.Test.YtdniaingipoggaaDoorPRead
import Derived.WalkKit
import Derived.ProofKit
import Derived.OpenShut
import Derived.Deep.Slices
import Derived.Deep.Fields
import Derived.ChangeSame
import Derived.Lib.SmallJoins
namespace Go.Proofs.YtdniaingipoggaaDoor
open Go.ChangeShapes Go.WideShapes Go.Deep Go.RowKit

theorem Keeps.belowAll {a b : World} (h : Keeps (fun _ => False) a b) : Below a.heap.size a b := h.below (Nat.le_refl _) (fun _ _ hf => hf.elim)
theorem list_of_forall {α : Type} {P : Nat → α → Prop} : ∀ n, (∀ i, i < n → ∃ x, P i x) → ∃ l : List α, l.length = n ∧ ∀ i x, l[i]? = some x → P i x
  | 0, _ => ⟨[], rfl, by simp⟩
  | n + 1, h => by
    obtain ⟨l, hl, hp⟩ := list_of_forall n (fun i hi => h i (by omega))
    obtain ⟨x, hx⟩ := h n (by omega)
    refine ⟨l ++ [x], by simp [hl], fun i y hi => ?_⟩
    rcases Nat.lt_or_ge i n with h1 | h1
    · rw [List.getElem?_append_left (by omega)] at hi; exact hp i y hi
    · rw [List.getElem?_append_right (by omega)] at hi
      rcases Nat.lt_or_ge (i - l.length) 1 with h2 | h2
      · have h3 : i = n := by omega
        subst h3
        rw [show i - l.length = 0 by omega] at hi
        simp only [List.getElem?_cons_zero, Option.some.injEq] at hi
        subst hi; exact hx
      · rw [List.getElem?_eq_none (by simpa using h2)] at hi; cases hi

section
variable {H : Type} {enc : TypeId × Value → H} {P : Program} {w : World} {base : Nat} {spare : Nat → Bool} {held : Bool}
theorem open_slice_fields {t e : TypeId} {fs : Array Field} {fuel : Nat} {cs : List Value} {x : DataW H × List MemPlace} (ht : P.underlying t = some (.slice e)) (he : P.underlying e = some (.struct fs))
    (hone : oneCellFields P fs = true) (hC : P.cellsOf e = fs.size) (h : DataW.trod enc P w base spare held fuel t cs = some x) :
    (cs = [.slice none 0 0] ∧ x = (.nil, [])) ∨
    ∃ (a : Addr) (len cap m : Nat) (D : Nat → DataW H) (Pl : Nat → List MemPlace), cs = [.slice (some a) len cap] ∧ base ≤ a.block ∧ len ≤ cap ∧ cap ≤ maxLen ∧ m = (if spare a.block then cap else len) ∧
      x = (.slice ((List.range len).map D) ((List.range (m - len)).map fun j => D (len + j)), MemPlace.row a (m * fs.size) ++ (List.range m).flatMap Pl) ∧
      ∀ i, i < m → ∃ (ys : List (DataW H × List MemPlace)) (n : Nat), D i = .agg (ys.map (·.1)) ∧ Pl i = ys.flatMap (·.2) ∧ ys.length = fs.size ∧
        ∀ (j : Nat) (f : Field), fs[j]? = some f → ∃ (v : Value) (y : DataW H × List MemPlace), w.cell? (a.add (i * fs.size + j)) = some v ∧ ys[j]? = some y ∧ DataW.trod enc P w base spare held n f.type [v] = some y := by
  rcases open_slice ht h with h0 | ⟨a, len, cap, m, n, D, Pl, hcs, hb, hl, hm, hmm, hx, hi⟩
  · exact .inl h0
  · refine .inr ⟨a, len, cap, m, D, Pl, hcs, hb, hl, hm, hmm, by rw [hC] at hx; exact hx, fun i him => ?_⟩
    obtain ⟨cs', hc, ht'⟩ := hi i him
    rw [hC] at hc
    obtain ⟨ys, n', hn', hy, hlen, hyl, hf⟩ := DataW.trod_struct he ht'
    obtain ⟨_, hcl, hat⟩ := World.cells?_some hc
    simp only [Prod.mk.injEq] at hy
    refine ⟨ys, n', hy.1, hy.2, hyl, fun j f hj => ?_⟩
    obtain ⟨ho, hk⟩ := hone_of hone j f hj
    have hjl : j < fs.size := (Array.getElem?_eq_some_iff.1 hj).1
    have hcell := hat j hjl
    have hv : cs'[j]? = some (cs'[j]'(by omega)) := List.getElem?_eq_getElem (by omega)
    have h1 := hf j f hj
    rw [ho, hk] at h1
    have hone' : (cs'.drop j).take 1 = [cs'[j]'(by omega)] := by
      rw [List.drop_eq_getElem_cons (by omega)]
      rfl
    rw [hone'] at h1
    have hys : ys[j]? = some (ys[j]'(by omega)) := List.getElem?_eq_getElem (by omega)
    refine ⟨_, _, ?_, hys, h1.trans hys⟩
    rw [← Go.Deep.add_add, hcell, hv]

/-- a slice of structs of two integers: the cells of each element -/
theorem open_pairs {t e : TypeId} {f0 f1 : Field} {k0 k1 : IntKind} {fuel : Nat} {cs : List Value} {x : DataW H × List MemPlace} (ht : P.underlying t = some (.slice e)) (he : P.underlying e = some (.struct #[f0, f1]))
    (hone : oneCellFields P #[f0, f1] = true) (hC : P.cellsOf e = 2) (h0 : P.underlying f0.type = some (.int k0)) (h1 : P.underlying f1.type = some (.int k1)) (hs : ∀ b, spare b = true) (h : DataW.trod enc P w base spare held fuel t cs = some x) :
    ∃ (a : Option Addr) (len cap : Nat) (xs : List (Int × Int)), cs = [.slice a len cap] ∧ xs.length = len ∧ (xs = [] ∨ ∃ b off, a = some ⟨b, off, none⟩ ∧ b < w.heap.size ∧
      ∀ i p, xs[i]? = some p → w.cell? ⟨b, off + i * 2, none⟩ = some (.int k0 p.1) ∧ w.cell? ⟨b, off + i * 2 + 1, none⟩ = some (.int k1 p.2) ∧ (Lit.int k0 p.1).wf = true ∧ (Lit.int k1 p.2).wf = true) := by
  rcases open_slice_fields ht he hone hC h with ⟨rfl, _⟩ | ⟨a, len, cap, m, D, Pl, rfl, hb, hl, hm, hmm, hx, hi⟩
  · exact ⟨none, 0, 0, [], rfl, rfl, .inl rfl⟩
  · rw [hs, if_pos rfl] at hmm
    have key : ∀ i, i < len → ∃ p : Int × Int, w.cell? (a.add (i * 2)) = some (.int k0 p.1) ∧ w.cell? (a.add (i * 2 + 1)) = some (.int k1 p.2) ∧ (Lit.int k0 p.1).wf = true ∧ (Lit.int k1 p.2).wf = true := by
      intro i hil
      obtain ⟨ys, n, hD, hPl, hyl, hf⟩ := hi i (by omega)
      obtain ⟨v0, y0, hc0, hy0, ht0⟩ := hf 0 f0 rfl
      obtain ⟨v1, y1, hc1, hy1, ht1⟩ := hf 1 f1 rfl
      obtain ⟨a0, e0, _, w0⟩ := DataW.trod_int h0 ht0
      obtain ⟨a1, e1, _, w1⟩ := DataW.trod_int h1 ht1
      simp at e0 e1
      subst e0 e1
      exact ⟨(a0, a1), by simpa using hc0, by simpa using hc1, w0, w1⟩
    obtain ⟨xs, hxl, hxs⟩ := list_of_forall len key
    refine ⟨some a, len, cap, xs, rfl, hxl, ?_⟩
    cases hx0 : xs with
    | nil => exact .inl rfl
    | cons q qs =>
      have hq := hxs 0 q (by rw [hx0]; rfl)
      obtain ⟨b, off, spot⟩ := a
      have hspot : spot = none := by simpa [Addr.add] using World.cell?_spot hq.1
      subst hspot
      rw [addr_add] at hq
      refine .inr ⟨b, off, rfl, World.block_lt_of_cell? w _ hq.1, fun i p hp => ?_⟩
      rw [← hx0] at hp
      have := hxs i p hp
      rw [addr_add, addr_add] at this
      simpa [Nat.add_assoc] using this
/-- a pair of integers by value -/
theorem open_arr2 {t e : TypeId} {k : IntKind} {r : Reach} {b0 : Nat} {v : Value} {d : DataW H} {p : List MemPlace} (ht : P.underlying t = some (.array 2 e)) (he : P.underlying e = some (.int k)) (hce : P.cellsOf e = 1) (hct : P.cellsOf t = 2)
    (hv : Value.okWide P w r b0 t v) (h : DataW.Trod enc P w base spare held t v d p) : ∃ a b : Int, v = .agg #[.int k a, .int k b] ∧ (Lit.int k a).wf = true ∧ (Lit.int k b).wf = true := by
  unfold Value.okWide at hv
  rw [ht] at hv
  obtain ⟨cs, rfl, hsz, _⟩ := hv
  rw [hct] at hsz
  obtain ⟨c0, c1, rfl⟩ := Joins.array2 hsz
  obtain ⟨fuel, hf⟩ := h
  obtain ⟨xs, m, _, _, _, hl, hi⟩ := DataW.trod_array ht hf
  have h0 := hi 0 (by decide)
  have h1 := hi 1 (by decide)
  simp only [hce, Value.cells] at h0 h1
  obtain ⟨y0, hy0⟩ : ∃ y, xs[0]? = some y := ⟨xs[0], by simp [hl]⟩
  obtain ⟨y1, hy1⟩ : ∃ y, xs[1]? = some y := ⟨xs[1], by simp [hl]⟩
  rw [hy0] at h0
  rw [hy1] at h1
  obtain ⟨a, ea, _, wa⟩ := DataW.trod_int he h0
  obtain ⟨b, eb, _, wb⟩ := DataW.trod_int he h1
  simp at ea eb
  subst ea eb
  exact ⟨a, b, rfl, wa, wb⟩
theorem wf_u8 {a : Int} (h : (Lit.int .u8 a).wf = true) : ∃ n : Nat, a = n ∧ n ≤ 255 := by
  have := bounds_u8 h
  exact ⟨a.toNat, by omega, by omega⟩
theorem wf_u16 {a : Int} (h : (Lit.int .u16 a).wf = true) : ∃ n : Nat, a = n ∧ n ≤ 65535 := by
  have := bounds_u16 h
  exact ⟨a.toNat, by omega, by omega⟩
theorem wf_u64 {a : Int} (h : (Lit.int .u64 a).wf = true) : ∃ n : Nat, a = n ∧ n ≤ 18446744073709551615 := by
  have := bounds_u64 h
  exact ⟨a.toNat, by omega, by omega⟩
theorem wf_i64 {a : Int} (h : (Lit.int .i64 a).wf = true) : -9223372036854775808 ≤ a ∧ a ≤ 9223372036854775807 := bounds_i64 h
/-- a slice of integers reads as their list -/
theorem open_list {t e : TypeId} {k : IntKind} {a0 : Option Addr} {len0 cap0 : Nat} {d : DataW H} {p : List MemPlace} (ht : P.underlying t = some (.slice e)) (he : P.underlying e = some (.int k)) (hce : P.cellsOf e = 1) (hs : ∀ b, spare b = true)
    (h : DataW.Trod enc P w base spare held t (.slice a0 len0 cap0) d p) : ∃ xs : List Int, Holds w (.slice a0 len0 cap0) (xs.map (Value.int k)) ∧ (∀ x ∈ xs, (Lit.int k x).wf = true) := by
  obtain ⟨fuel, hf⟩ := h
  rcases open_ints ht he hce hf with ⟨hcs, _⟩ | ⟨x, l, c, zs, hcs, _, hl, hm, hz, _, hcell, hwz⟩
  · simp [Value.cells] at hcs
    obtain ⟨rfl, rfl, rfl⟩ := hcs
    exact ⟨[], ⟨none, 0, rfl, Nat.le_refl _, .inl rfl⟩, by simp⟩
  · simp [Value.cells] at hcs
    obtain ⟨rfl, rfl, rfl⟩ := hcs
    rw [hs, if_pos rfl] at hz
    have hzl : (zs.take len0).length = len0 := by rw [List.length_take]; omega
    refine ⟨zs.take len0, ⟨some x, cap0, by rw [List.length_map, hzl], by rw [List.length_map, hzl]; exact hl, ?_⟩, fun y hy => hwz y (List.mem_of_mem_take hy)⟩
    cases h0 : zs.take len0 with
    | nil => exact .inl rfl
    | cons q qs =>
      right
      have hpos : 0 < len0 := by rw [← hzl, h0]; simp
      have h00 := hcell 0 (by omega)
      obtain ⟨b, off, spot⟩ := x
      have hspot : spot = none := by simpa [Addr.add] using World.cell?_spot h00
      subst hspot
      refine ⟨b, off, rfl, fun j u hj => ?_⟩
      rw [← h0, List.getElem?_map, List.getElem?_take] at hj
      split at hj
      · rename_i hjl
        have := hcell j (by omega)
        rw [addr_add] at this
        rw [this]
        have hjz : j < zs.length := by omega
        rw [List.getElem?_eq_getElem hjz] at hj
        simp only [Option.map_some, Option.some.injEq] at hj
        rw [← hj]
        simp [List.getD_eq_getElem?_getD, hjz]
      · cases hj
theorem open_bytes {t e : TypeId} {a0 : Option Addr} {len0 cap0 : Nat} {d : DataW H} {p : List MemPlace} (ht : P.underlying t = some (.slice e)) (he : P.underlying e = some (.int .u8)) (hce : P.cellsOf e = 1) (hs : ∀ b, spare b = true)
    (h : DataW.Trod enc P w base spare held t (.slice a0 len0 cap0) d p) : ∃ l : List Nat, Holds w (.slice a0 len0 cap0) (u8s l) ∧ (∀ c ∈ l, c < 256) := by
  obtain ⟨xs, h1, h2⟩ := open_list ht he hce hs h
  refine ⟨xs.map Int.toNat, ?_, ?_⟩
  · have e : u8s (xs.map Int.toNat) = xs.map (Value.int .u8) := by
      unfold u8s
      rw [List.map_map]
      refine List.map_congr_left fun x hx => ?_
      have := bounds_u8 (h2 x hx)
      simp only [Function.comp]
      congr 1; omega
    rw [e]; exact h1
  · intro c hc
    simp only [List.mem_map] at hc
    obtain ⟨x, hx, rfl⟩ := hc
    have := bounds_u8 (h2 x hx)
    omega
def u64s (l : List Nat) : List Value := l.map fun c => .int .u64 ((c : Nat) : Int)
theorem u64s_length (l : List Nat) : (u64s l).length = l.length := by simp [u64s]
def i64s (l : List Int) : List Value := l.map (Value.int .i64)
theorem i64s_length (l : List Int) : (i64s l).length = l.length := by simp [i64s]
theorem open_words {t e : TypeId} {a0 : Option Addr} {len0 cap0 : Nat} {d : DataW H} {p : List MemPlace} (ht : P.underlying t = some (.slice e)) (he : P.underlying e = some (.int .u64)) (hce : P.cellsOf e = 1) (hs : ∀ b, spare b = true)
    (h : DataW.Trod enc P w base spare held t (.slice a0 len0 cap0) d p) : ∃ l : List Nat, Holds w (.slice a0 len0 cap0) (u64s l) ∧ (∀ c ∈ l, c ≤ 18446744073709551615) := by
  obtain ⟨xs, h1, h2⟩ := open_list ht he hce hs h
  refine ⟨xs.map Int.toNat, ?_, ?_⟩
  · have e : u64s (xs.map Int.toNat) = xs.map (Value.int .u64) := by
      unfold u64s
      rw [List.map_map]
      refine List.map_congr_left fun x hx => ?_
      have := bounds_u64 (h2 x hx)
      simp only [Function.comp]
      congr 1; omega
    rw [e]; exact h1
  · intro c hc
    simp only [List.mem_map] at hc
    obtain ⟨x, hx, rfl⟩ := hc
    have := bounds_u64 (h2 x hx)
    omega
theorem open_longs {t e : TypeId} {a0 : Option Addr} {len0 cap0 : Nat} {d : DataW H} {p : List MemPlace} (ht : P.underlying t = some (.slice e)) (he : P.underlying e = some (.int .i64)) (hce : P.cellsOf e = 1) (hs : ∀ b, spare b = true)
    (h : DataW.Trod enc P w base spare held t (.slice a0 len0 cap0) d p) : ∃ l : List Int, Holds w (.slice a0 len0 cap0) (i64s l) ∧ (∀ c ∈ l, -9223372036854775808 ≤ c ∧ c ≤ 9223372036854775807) := by
  obtain ⟨xs, h1, h2⟩ := open_list ht he hce hs h
  exact ⟨xs, h1, fun c hc => bounds_i64 (h2 c hc)⟩
end
end Go.Proofs.YtdniaingipoggaaDoor
