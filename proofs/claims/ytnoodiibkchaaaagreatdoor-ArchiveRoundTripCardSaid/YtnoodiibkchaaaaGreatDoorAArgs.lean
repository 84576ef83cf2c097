/-
  PLAIN: arguments of chapter 23's laws, opened: slices of labels, of samples, of series. After the guide's block on slices of structs.
-/
import Derived.Test.YtnoodiibkchaaaaGreatDoorPFits
import Derived.Deep.Slices
import Derived.Deep.Fields
import Derived.ChangeSame
import Derived.SizedLaws
import Derived.OpenShut
namespace Go.Proofs.YtnoodiibkchaaaaGreatDoor
open Go.ChangeShapes Go.WideShapes Go.Deep Go.RowKit

theorem list_of_forallA {α : Type} {P : Nat → α → Prop} : ∀ n, (∀ i, i < n → ∃ x, P i x) → ∃ l : List α, l.length = n ∧ ∀ i x, l[i]? = some x → P i x
  | 0, _ => ⟨[], rfl, by simp⟩
  | n + 1, h => by
    obtain ⟨l, hl, hp⟩ := list_of_forallA n (fun i hi => h i (by omega))
    obtain ⟨x, hx⟩ := h n (by omega)
    refine ⟨l ++ [x], by simp [hl], fun i y hi => ?_⟩
    rcases Nat.lt_or_ge i n with h1 | h1
    · rw [List.getElem?_append_left (by omega)] at hi; exact hp i y hi
    · rw [List.getElem?_append_right (by omega)] at hi
      rcases Nat.lt_or_ge (i - l.length) 1 with h2 | h2
      · have h3 : i = n := by omega
        subst h3
        rw [show i - l.length = 0 by omega] at hi
        simp only [List.getElem?_cons_zero, Option.some.injEq] at hi
        subst hi; exact hx
      · rw [List.getElem?_eq_none (by simpa using h2)] at hi; cases hi
theorem addr_addA (b off k : Nat) : (⟨b, off, none⟩ : Addr).add k = ⟨b, off + k, none⟩ := by unfold Addr.add; split <;> simp_all
theorem weights_all {H : Type} {P : Program} {e : TypeId} : ∀ {l : List (DataW H)} {d : DataW H}, d ∈ l → ∀ n ∈ d.weights P e, n ∈ DataW.weightsAll P e l
  | [], _, h, _, _ => by cases h
  | x :: r, d, h, n, hn => by
    rw [DataW.weightsAll, List.mem_append]
    rcases List.mem_cons.1 h with rfl | h
    · exact .inl hn
    · exact .inr (weights_all h n hn)
section
variable {H : Type} {enc : TypeId × Value → H} {P : Program} {w : World} {base : Nat} {spare : Nat → Bool} {held : Bool}
theorem open_sliceA {t e : TypeId} {fs : Array Field} {fuel : Nat} {cs : List Value} {x : DataW H × List MemPlace} (ht : P.underlying t = some (.slice e)) (he : P.underlying e = some (.struct fs))
    (hone : oneCellFields P fs = true) (hC : P.cellsOf e = fs.size) (h : DataW.trod enc P w base spare held fuel t cs = some x) :
    (cs = [.slice none 0 0] ∧ x = (.nil, [])) ∨
    ∃ (a : Addr) (len cap m : Nat) (D : Nat → DataW H) (Pl : Nat → List MemPlace), cs = [.slice (some a) len cap] ∧ len ≤ cap ∧ m = (if spare a.block then cap else len) ∧
      x = (.slice ((List.range len).map D) ((List.range (m - len)).map fun j => D (len + j)), MemPlace.row a (m * fs.size) ++ (List.range m).flatMap Pl) ∧
      ∀ i, i < m → ∃ (ys : List (DataW H × List MemPlace)) (n : Nat), D i = .agg (ys.map (·.1)) ∧ ys.length = fs.size ∧
        ∀ (j : Nat) (f : Field), fs[j]? = some f → ∃ (v : Value) (y : DataW H × List MemPlace), w.cell? (a.add (i * fs.size + j)) = some v ∧ ys[j]? = some y ∧ DataW.trod enc P w base spare held n f.type [v] = some y := by
  rcases open_slice ht h with h0 | ⟨a, len, cap, m, n, D, Pl, hcs, hb, hl, hm, hmm, hx, hi⟩
  · exact .inl h0
  · refine .inr ⟨a, len, cap, m, D, Pl, hcs, hl, hmm, by rw [hC] at hx; exact hx, fun i him => ?_⟩
    obtain ⟨cs', hc, ht'⟩ := hi i him
    rw [hC] at hc
    obtain ⟨ys, n', hn', hy, hlen, hyl, hf⟩ := DataW.trod_struct he ht'
    obtain ⟨_, hcl, hat⟩ := World.cells?_some hc
    simp only [Prod.mk.injEq] at hy
    refine ⟨ys, n', hy.1, hyl, fun j f hj => ?_⟩
    obtain ⟨ho, hk⟩ := hone_of hone j f hj
    have hjl : j < fs.size := (Array.getElem?_eq_some_iff.1 hj).1
    have hcell := hat j hjl
    have hv : cs'[j]? = some (cs'[j]'(by omega)) := List.getElem?_eq_getElem (by omega)
    have h1 := hf j f hj
    rw [ho, hk] at h1
    have hone' : (cs'.drop j).take 1 = [cs'[j]'(by omega)] := by
      rw [List.drop_eq_getElem_cons (by omega)]
      rfl
    rw [hone'] at h1
    have hys : ys[j]? = some (ys[j]'(by omega)) := List.getElem?_eq_getElem (by omega)
    refine ⟨_, _, ?_, hys, h1.trans hys⟩
    rw [← Go.Deep.add_add, hcell, hv]
/-- elements of two cells each, known one by one, read together -/
theorem rd2_of {α : Type} {f g : α → Value} {Q : Nat → α → Prop} {a : Addr} {len cap : Nat} (hl : len ≤ cap) (h : ∀ i, i < len → ∃ p : α, w.cell? (a.add (i * 2)) = some (f p) ∧ w.cell? (a.add (i * 2 + 1)) = some (g p) ∧ Q i p) :
    ∃ l : List α, l.length = len ∧ Rd 2 w (.slice (some a) l.length cap) l.length (cells2 f g l) ∧ ∀ i p, l[i]? = some p → Q i p := by
  obtain ⟨l, hll, hp⟩ := list_of_forallA len h
  refine ⟨l, hll, ⟨by rw [cells2_length], _, _, rfl, by omega, ?_⟩, fun i p hi => (hp i p hi).2.2⟩
  by_cases h0 : l.length = 0
  · exact .inl h0
  · right
    obtain ⟨q, hq⟩ := at_some (l := l) (k := 0) (by omega)
    have hq' := hp 0 q hq
    obtain ⟨b, off, spot⟩ := a
    have hspot : spot = none := by simpa [Addr.add] using World.cell?_spot hq'.1
    subst hspot
    refine ⟨b, off, rfl, fun j u hj => ?_⟩
    have hjl := (List.getElem?_eq_some_iff.1 hj).1
    rw [cells2_length] at hjl
    obtain ⟨y, hy⟩ := at_some (l := l) (k := j / 2) (by omega)
    obtain ⟨c1, c2, _⟩ := hp _ y hy
    obtain ⟨g1, g2⟩ := cells2_get f g l _ y hy
    rw [addr_addA] at c1 c2
    rcases Nat.mod_two_eq_zero_or_one j with h2 | h2
    · have e : j / 2 * 2 = j := by omega
      rw [e] at c1 g1
      rw [g1] at hj
      rw [← Option.some.inj hj]; exact c1
    · have e : j / 2 * 2 + 1 = j := by omega
      rw [e] at c2 g2
      rw [g2] at hj
      rw [← Option.some.inj hj]; exact c2
end
section
variable {H : Type} {enc : TypeId × Value → H} {w : World} {base : Nat} {spare : Nat → Bool} {held : Bool} {fuel : Nat}
theorem cells_label : Tryz.prog.cellsOf 46 = 2 := by kernel_rfl
theorem cells_sample : Tryz.prog.cellsOf 56 = 2 := by kernel_rfl
theorem cells_series : Tryz.prog.cellsOf 53 = 2 := by kernel_rfl
theorem bytes_label : Tryz.prog.bytesOf 46 = 32 := by kernel_rfl
theorem bytes_series : Tryz.prog.bytesOf 53 = 48 := by kernel_rfl
theorem open_labels {cs : List Value} {x : DataW H × List MemPlace} (hs : ∀ b, spare b = true) (h : DataW.trod enc Tryz.prog w base spare held fuel 37 cs = some x) :
    ∃ (ad : Option Addr) (cap : Nat) (l : List Lab), cs = [.slice ad l.length cap] ∧ RdL w (.slice ad l.length cap) l ∧ ∀ B, (∀ n ∈ x.1.weights Tryz.prog 37, n ≤ B) → l.length * 32 ≤ B := by
  rcases open_sliceA Tryz.underlying37 Tryz.underlying46 (by kernel_rfl) cells_label h with ⟨rfl, _⟩ | ⟨a, len, cap, m, D, Pl, rfl, hl, hmm, hx, hi⟩
  · exact ⟨none, 0, [], rfl, Rd.nil _ _, fun B _ => by simp⟩
  · rw [hs, if_pos rfl] at hmm
    obtain ⟨l, hll, hrd, _⟩ := rd2_of (w := w) (f := labF) (g := labG) (Q := fun _ _ => True) (a := a) hl (fun i hil => by
      obtain ⟨ys, n, hD, hyl, hf⟩ := hi i (by omega)
      obtain ⟨v0, y0, hc0, hy0, ht0⟩ := hf 0 _ rfl
      obtain ⟨v1, y1, hc1, hy1, ht1⟩ := hf 1 _ rfl
      obtain ⟨a0, e0, _, w0⟩ := DataW.trod_string Tryz.underlying9 ht0
      obtain ⟨a1, e1, _, w1⟩ := DataW.trod_string Tryz.underlying9 ht1
      simp at e0 e1
      subst e0 e1
      exact ⟨(a0, a1), by simpa [labF] using hc0, by simpa [labG] using hc1, trivial⟩)
    subst hll
    refine ⟨_, cap, l, rfl, hrd, fun B hB => ?_⟩
    have := hB ((((List.range l.length).map D).length + ((List.range (m - l.length)).map fun j => D (l.length + j)).length) * Tryz.prog.bytesOf 46) (by
      rw [hx]
      simp only [DataW.weights, Tryz.underlying37]
      exact List.mem_cons_self)
    rw [bytes_label, List.length_map, List.length_range] at this
    exact Nat.le_trans (Nat.mul_le_mul_right 32 (Nat.le_add_right _ _)) this
theorem open_samples {cs : List Value} {x : DataW H × List MemPlace} (hs : ∀ b, spare b = true) (h : DataW.trod enc Tryz.prog w base spare held fuel 51 cs = some x) :
    ∃ (ad : Option Addr) (cap : Nat) (l : List Smp), cs = [.slice ad l.length cap] ∧ RdS w (.slice ad l.length cap) l ∧ ∀ y ∈ l, FitT y := by
  rcases open_sliceA Tryz.underlying51 Tryz.underlying56 (by kernel_rfl) cells_sample h with ⟨rfl, _⟩ | ⟨a, len, cap, m, D, Pl, rfl, hl, hmm, hx, hi⟩
  · exact ⟨none, 0, [], rfl, Rd.nil _ _, by simp⟩
  · rw [hs, if_pos rfl] at hmm
    obtain ⟨l, hll, hrd, hQ⟩ := rd2_of (w := w) (f := smpF) (g := smpG) (Q := fun _ p => FitT p) (a := a) hl (fun i hil => by
      obtain ⟨ys, n, hD, hyl, hf⟩ := hi i (by omega)
      obtain ⟨v0, y0, hc0, hy0, ht0⟩ := hf 0 _ rfl
      obtain ⟨v1, y1, hc1, hy1, ht1⟩ := hf 1 _ rfl
      obtain ⟨a0, e0, _, w0⟩ := DataW.trod_int Tryz.underlying2 ht0
      obtain ⟨a1, e1, _, w1⟩ := DataW.trod_int Tryz.underlying54 ht1
      simp at e0 e1
      subst e0 e1
      have b1 := bounds_u64 w1
      exact ⟨(a0, a1), by simpa [smpF] using hc0, by simpa [smpG] using hc1, bounds_i64 w0, by simp only; omega, by simp only; omega⟩)
    subst hll
    refine ⟨_, cap, l, rfl, hrd, fun y hy => ?_⟩
    obtain ⟨j, hj, e⟩ := List.getElem_of_mem hy
    exact hQ j y (by rw [List.getElem?_eq_getElem hj, e])
theorem open_series {cs : List Value} {x : DataW H × List MemPlace} (hs : ∀ b, spare b = true) (h : DataW.trod enc Tryz.prog w base spare held fuel 22 cs = some x) :
    ∃ (ad : Option Addr) (cap : Nat) (hs : List Hdr) (b : List Ser), cs = [.slice ad b.length cap] ∧ RdB w (.slice ad b.length cap) hs b ∧ (∀ x ∈ b, ∀ y ∈ x.2, FitT y) ∧
      ∀ B, (∀ n ∈ x.1.weights Tryz.prog 22, n ≤ B) → b.length * 48 ≤ B ∧ ∀ x ∈ b, x.1.length * 32 ≤ B := by
  rcases open_sliceA Tryz.underlying22 Tryz.underlying53 (by kernel_rfl) cells_series h with ⟨rfl, _⟩ | ⟨a, len, cap, m, D, Pl, rfl, hl, hmm, hx, hi⟩
  · exact ⟨none, 0, [], [], rfl, ⟨rfl, Rd.nil _ _, fun i h x h1 => by simp at h1⟩, by simp, fun B _ => ⟨by simp, by simp⟩⟩
  · rw [hs, if_pos rfl] at hmm
    obtain ⟨l, hll, hrd, hQ⟩ := rd2_of (w := w) (f := fun p : Hdr × Ser => p.1.lv) (g := fun p => p.1.sv) (Q := fun i p => SerOk w p.1 p.2 ∧ (∀ y ∈ p.2.2, FitT y) ∧ ∀ B, (∀ n ∈ (D i).weights Tryz.prog 53, n ≤ B) → p.2.1.length * 32 ≤ B) (a := a) hl (fun i hil => by
      obtain ⟨ys, n, hD, hyl, hf⟩ := hi i (by omega)
      obtain ⟨v0, y0, hc0, hy0, ht0⟩ := hf 0 _ rfl
      obtain ⟨v1, y1, hc1, hy1, ht1⟩ := hf 1 _ rfl
      obtain ⟨la, lc, l, e0, r0, z0⟩ := open_labels hs ht0
      obtain ⟨sa, sc, s, e1, r1, z1⟩ := open_samples hs ht1
      simp only [List.cons.injEq, and_true] at e0 e1
      subst e0 e1
      refine ⟨(⟨la, l.length, lc, sa, s.length, sc⟩, (l, s)), by simpa [Hdr.lv] using hc0, by simpa [Hdr.sv] using hc1, ⟨r0, r1⟩, z1, fun B hB => z0 B (fun n hn => hB n ?_)⟩
      rw [hD]
      simp only [DataW.weights, Tryz.underlying53]
      obtain ⟨k0, k1, rfl⟩ : ∃ k0 k1, ys = [k0, k1] := by
        match ys, hyl with
        | [k0, k1], _ => exact ⟨k0, k1, rfl⟩
      simp only [List.getElem?_cons_zero, Option.some.injEq] at hy0
      subst hy0
      simp only [List.map_cons, DataW.weightsEach, List.mem_append]
      exact .inl hn)
    subst hll
    refine ⟨some a, cap, l.map (·.1), l.map (·.2), by simp, ⟨by simp, ?_, fun i h x h1 h2 => ?_⟩, fun x hx' => ?_, fun B hB => ⟨?_, fun x hx' => ?_⟩⟩
    · have e : hdrC (l.map (·.1)) = cells2 (fun p : Hdr × Ser => p.1.lv) (fun p => p.1.sv) l := by simp [hdrC, cells2, List.flatMap_map]
      unfold RdH
      rw [e, List.length_map, List.length_map]
      exact hrd
    · rw [List.getElem?_map] at h1 h2
      cases hp : l[i]? with
      | none => rw [hp] at h1; cases h1
      | some p =>
        rw [hp] at h1 h2
        simp only [Option.map_some, Option.some.injEq] at h1 h2
        subst h1 h2
        exact (hQ i p hp).1
    · obtain ⟨p, hp, rfl⟩ := List.mem_map.1 hx'
      obtain ⟨j, hj, e⟩ := List.getElem_of_mem hp
      exact (hQ j p (by rw [List.getElem?_eq_getElem hj, e])).2.1
    · have := hB ((((List.range l.length).map D).length + ((List.range (m - l.length)).map fun j => D (l.length + j)).length) * Tryz.prog.bytesOf 53) (by
        rw [hx]
        simp only [DataW.weights, Tryz.underlying22]
        exact List.mem_cons_self)
      rw [bytes_series, List.length_map, List.length_range] at this
      rw [List.length_map]
      exact Nat.le_trans (Nat.mul_le_mul_right 48 (Nat.le_add_right _ _)) this
    · obtain ⟨p, hp, rfl⟩ := List.mem_map.1 hx'
      obtain ⟨j, hj, e⟩ := List.getElem_of_mem hp
      refine (hQ j p (by rw [List.getElem?_eq_getElem hj, e])).2.2 B (fun n hn => hB n ?_)
      rw [hx]
      simp only [DataW.weights, Tryz.underlying22, List.mem_cons, List.mem_append]
      exact .inr (.inl (weights_all (List.mem_map.2 ⟨j, by simpa using hj, rfl⟩) n hn))
end
end Go.Proofs.YtnoodiibkchaaaaGreatDoor
