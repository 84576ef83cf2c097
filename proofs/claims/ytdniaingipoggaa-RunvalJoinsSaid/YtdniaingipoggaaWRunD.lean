/-
  WALKS: runval.Join.
-/
import Derived.Test.YtdniaingipoggaaWRunC
import Derived.WalkSpells
import Derived.WalkLawsBesides
namespace Go.Proofs.Ytdniaingipoggaa
open Go.RowKit

/-- a slice that reads as pairs (a word, a number), two cells each -/
def HoldsP (w : World) (v : Value) (fs : List (Nat × Int)) : Prop :=
  ∃ a cap, v = .slice a fs.length cap ∧ (fs = [] ∨ ∃ b off, a = some ⟨b, off, none⟩ ∧
    ∀ i X N, fs[i]? = some (X, N) → w.cell? ⟨b, off + i * 2, none⟩ = some (.int .u64 (X : Nat)) ∧ w.cell? ⟨b, off + i * 2 + 1, none⟩ = some (.int .i64 N))
theorem HoldsP.keeps {S : Nat → Prop} {a b : World} {v : Value} {fs : List (Nat × Int)} (h : HoldsP a v fs) (k : Keeps S a b) (hS : ∀ g, v.ownBlock = some g → ¬ S g) : HoldsP b v fs := by
  obtain ⟨ad, cap, rfl, h | ⟨bl, off, rfl, hc⟩⟩ := h
  · exact ⟨ad, cap, rfl, .inl h⟩
  · exact ⟨_, cap, rfl, .inr ⟨bl, off, rfl, fun i X N hi => ⟨k.cell (hc i X N hi).1 (hS bl rfl), k.cell (hc i X N hi).2 (hS bl rfl)⟩⟩⟩
def intRuns (rs : List (Nat × Nat)) : List (Nat × Int) := rs.map fun p => (p.1, (p.2 : Int))
theorem intRuns_length (rs : List (Nat × Nat)) : (intRuns rs).length = rs.length := by simp [intRuns]
theorem runCells_get (rs : List (Nat × Nat)) (i : Nat) (p : Nat × Nat) (h : rs[i]? = some p) : (runCells rs)[i * 2]? = some (.int .u64 ((p.1 : Nat) : Int)) ∧ (runCells rs)[i * 2 + 1]? = some (.int .i64 ((p.2 : Nat) : Int)) := by
  induction rs generalizing i with
  | nil => simp at h
  | cons q rs ih =>
    cases i with
    | zero => simp only [List.getElem?_cons_zero, Option.some.injEq] at h; subst h; simp [runCells]
    | succ i =>
      simp only [List.getElem?_cons_succ] at h
      have := ih i h
      have e1 : (i + 1) * 2 = i * 2 + 2 := by omega
      simpa [runCells, e1] using this
theorem holdsP_row {w : World} {base : Nat} {v : Value} {rs : List (Nat × Nat)} (h : w.ownsRow base 82 2 v rs.length (runCells rs)) : HoldsP w v (intRuns rs) := by
  rcases h.2 with ⟨rfl, h0⟩ | ⟨g, cap, cur, rfl, hb, hgg, hcap, _, hcs, htk⟩
  · have : rs = [] := List.eq_nil_of_length_eq_zero h0
    subst this
    exact ⟨none, 0, rfl, .inl rfl⟩
  · refine ⟨some ⟨g, 0, none⟩, cap, by rw [intRuns_length], .inr ⟨g, 0, rfl, fun i X N hi => ?_⟩⟩
    simp only [intRuns, List.getElem?_map, Option.map_eq_some_iff] at hi
    obtain ⟨p, hp, hpe⟩ := hi
    simp only [Prod.mk.injEq] at hpe
    obtain ⟨rfl, rfl⟩ := hpe
    obtain ⟨c1, c2⟩ := runCells_get rs i p hp
    rw [Nat.zero_add]
    exact ⟨take_cell hgg htk c1, take_cell hgg htk c2⟩
/-- what Join returns -/
def joinI (fs : List (Nat × Int)) : List Nat := fs.flatMap fun p => if p.2 ≤ 128 then List.replicate p.2.toNat p.1 else []
theorem joinI_snoc (fs : List (Nat × Int)) (p : Nat × Int) : joinI (fs ++ [p]) = joinI fs ++ (if p.2 ≤ 128 then List.replicate p.2.toNat p.1 else []) := by simp [joinI]
theorem joinI_length (fs : List (Nat × Int)) : (joinI fs).length ≤ 128 * fs.length := by
  induction fs with
  | nil => simp [joinI]
  | cons p fs ih =>
    simp only [joinI, List.flatMap_cons, List.length_append, List.length_cons] at ih ⊢
    split
    · simp only [List.length_replicate]; omega
    · simp only [List.length_nil]; omega
theorem joinI_intRuns (rs : List (Nat × Nat)) (h : ∀ p ∈ rs, p.2 ≤ 128) : joinI (intRuns rs) = joinOf rs := by
  induction rs with
  | nil => rfl
  | cons p rs ih =>
    have := h p (by simp)
    simp only [joinI, intRuns, joinOf, List.map_cons, List.flatMap_cons] at ih ⊢
    rw [if_pos (by omega), ih (fun q hq => h q (by simp [hq]))]
    simp
theorem take_snoc_pair {fs : List (Nat × Int)} {k : Nat} {f : Nat × Int} (h : fs[k]? = some f) : fs.take (k + 1) = fs.take k ++ [f] := by
  rw [List.take_add_one, h]; rfl
theorem infoU64 : (Try.prog.info? 35).map (fun i => (i.zero, i.size, i.bytes)) = some (some (.int .u64 0), 1, 8) := by kernel_rfl

set_option maxRecDepth 100000 in
set_option maxHeartbeats 1000000 in
theorem join_any (v : Value) (fs : List (Nat × Int)) (w : World) (h : HoldsP w v fs) (hl : fs.length ≤ 1000000000) :
    Calls Try.prog 51 #[v] w fun e w' => ∃ v', e = .returned v' ∧ w'.ownsRow w.heap.size 35 1 v' (joinI fs).length (u64s (joinI fs)) ∧ Keeps (fun _ => False) w w' := by
  obtain ⟨i0, hi, hz0, hz1, hz2⟩ := info_parts infoU64
  have HH := Lib.hid h
  obtain ⟨ad, cap, rfl, hcells⟩ := h
  have HC := Lib.hid hcells
  clear hcells
  go_enter Try.func51, Try.ntmps51
  go_wp2
  go_loopw [3, 8] (fun o c wr => ∃ (k : Nat) (v1 : Value), k ≤ fs.length ∧ o = v1 ∧ c = .int .i64 k ∧ wr.ownsRow w.heap.size 35 1 v1 (joinI (fs.take k)).length (u64s (joinI (fs.take k))) ∧ Keeps (fun _ => False) w wr) (fun _ c wr => fs.length - (intOf c).toNat)
  case atStart => exact ⟨0, _, by omega, rfl, rfl, World.ownsRow_nil _ _ _ _, Keeps.refl _ _⟩
  case round =>
    obtain ⟨k, v1, hk, rfl, rfl, hrow, hkw⟩ := hrel
    by_cases hlt : k < fs.length
    · obtain ⟨⟨X, N⟩, hfk⟩ : ∃ f, fs[k]? = some f := ⟨fs[k], by simp [hlt]⟩
      obtain ⟨b, off, rfl, hc1, hc2⟩ : ∃ b off, ad = some ⟨b, off, none⟩ ∧ wr.cell? ⟨b, off + k * 2, none⟩ = some (.int .u64 (X : Nat)) ∧ wr.cell? ⟨b, off + k * 2 + 1, none⟩ = some (.int .i64 N) := by
        rcases HC.out with h0 | ⟨b, off, h1, h3⟩
        · simp [h0] at hlt
        · obtain ⟨c1, c2⟩ := h3 k X N hfk
          exact ⟨b, off, h1, hkw.cell c1 (fun h => h), hkw.cell c2 (fun h => h)⟩
      have hacc : joinI (fs.take (k + 1)) = joinI (fs.take k) ++ (if N ≤ 128 then List.replicate N.toNat X else []) := by rw [take_snoc_pair hfk, joinI_snoc]
      have hle := joinI_length (fs.take k)
      have htk : (fs.take k).length ≤ 1000000000 := Nat.le_trans (List.length_take_le _ _) (by omega)
      generalize joinI (fs.take k) = acc at *
      have Hacc := Lib.hid hacc; have Hfk := Lib.hid hfk; have Hrow := Lib.hid hrow; have Hkw := Lib.hid hkw
      clear hacc hfk hrow hkw
      by_cases hN : N ≤ 128
      · rw [if_pos hN] at Hacc
        obtain ⟨wd, hwd⟩ : ∃ wd, wd = wr.alloc (.cells #[.int .u64 (X : Nat), .int .i64 N] 82) := ⟨_, rfl⟩
        have hD : wd.heap[wr.heap.size]? = some (.cells #[.int .u64 (X : Nat), .int .i64 N] 82 (0, 0)) := by rw [hwd]; exact heap_alloc_new _ _
        have hkd : ∀ S, Keeps S wr wd := fun S => by rw [hwd]; exact (Keeps.refl S wr).alloc _
        have hkw2 : Keeps (fun _ => False) w wd := Hkw.out.trans (hkd (fun _ => False)) (fun _ _ h => h)
        have hrow2 := (hkd (fun _ => False)).row Hrow.out (fun _ _ h => h)
        have hN' : ¬ 128 < N := by omega
        have hws : w.heap.size ≤ wr.heap.size := Hkw.out.size
        have HD := Lib.hid hD; have HWD := Lib.hid hwd; have HKW2 := Lib.hid hkw2; have HROW2 := Lib.hid hrow2
        clear hD hwd hkw2 hrow2 hkd
        go_wp2
        rw [← HWD.out]
        obtain ⟨D, hDe⟩ : ∃ D, D = wr.heap.size := ⟨_, rfl⟩
        rw [← hDe] at HD ⊢
        have HDe := Lib.hid hDe
        clear hDe hc1 hc2
        go_loopw [3, 17] (fun o c wq => ∃ (j : Nat) (v2 : Value), j ≤ N.toNat ∧ o = v2 ∧ c = .int .i64 j ∧ wq.ownsRow w.heap.size 35 1 v2 (acc ++ List.replicate j X).length (u64s (acc ++ List.replicate j X)) ∧ Keeps (fun _ => False) w wq ∧ wq.heap[D]? = some (.cells #[.int .u64 (X : Nat), .int .i64 N] 82 (0, 0))) (fun _ c wq => N.toNat - (intOf c).toNat)
        case atStart => exact ⟨0, _, by omega, rfl, rfl, by simpa using HROW2.out, HKW2.out, HD.out⟩
        case round =>
          obtain ⟨j, v2, hj, rfl, rfl, hrow, hkq, hDq⟩ := hrel
          by_cases hjn : j < N.toNat
          · have hjN : (j : Int) < N := by omega
            have hd0 : wr.cell? ⟨D, 0, none⟩ = some (.int .u64 (X : Nat)) := by rw [cell_of_row _ _ _ _ _ _ hDq]; rfl
            have hlen : (acc ++ List.replicate j X).length ≤ 128000000128 := by rw [List.length_append, List.length_replicate]; omega
            have hb1 : w.heap.size ≤ wr.heap.size := hkq.size
            have hrep : acc ++ List.replicate (j + 1) X = (acc ++ List.replicate j X) ++ [X] := by rw [List.replicate_succ', List.append_assoc]
            generalize acc ++ List.replicate j X = cur at *
            obtain ⟨ad2, cap2, rfl⟩ := row_slice hrow
            have HR := Lib.hid hrow; have HKQ := Lib.hid hkq; have HDQ := Lib.hid hDq; have HREP := Lib.hid hrep
            clear hkq hDq hrep
            go_wp2_with (at_builtin; refine wpList_append_new _ rfl _ _ 76 rfl w.heap.size 35 i0 (.int .u64 0) 1 8 Try.underlying76 hi hz0 hz1 hz2 rfl (by decide) _ _ _ rfl (hrow.alloc _) ⟨wr.heap.size, 0, none⟩ 1 1 [.int .u64 (X : Nat)] rfl rfl ?c1 ?c2 ?c3 ?c4 ?c5 ?_)
            case c1 => exact cell_one_new _ _ _
            case c2 => simp [Value.oneCell']
            case c3 => unfold maxLen; omega
            case c4 => omega
            case c5 => simp; omega
            intro v' w1 hown' hgrow hnew
            have k1 : Keeps (own (.slice ad2 cur.length cap2)) wr w1 := ((Keeps.refl (own _) wr).alloc _).grown hgrow (fun k _ e => e)
            have hkw1 : Keeps (fun _ => False) w w1 := HKQ.out.trans k1 (fun k hk e => by have := (HR.out.lt k e).1; omega)
            have hD1 := k1.heap HDQ.out (fun e => by
              obtain ⟨c', hc'⟩ := row_type HR.out e
              exact ne_of_types hc' HDQ.out (by decide) rfl)
            have F1 := Lib.hid hkw1; have F2 := Lib.hid hD1; have F3 := Lib.hid hown'
            clear hkw1 hD1 hown' hgrow hnew k1 hrow hd0
            go_wp2
            refine ⟨⟨j + 1, v', by omega, rfl, by go_num, ?_, F1.out, F2.out⟩, by simp [intOf]; omega⟩
            rw [HREP.out]
            have := F3.out
            simpa [u64s] using this
          · have hjN : ¬ (j : Int) < N := by omega
            have ej : j = N.toNat := by omega
            rw [ej] at hrow
            rw [← Hacc.out] at hrow
            have HR := Lib.hid hrow; have HKQ := Lib.hid hkq
            clear hrow hkq hDq
            go_wp2
            exact ⟨⟨k + 1, _, by omega, rfl, by go_num, HR.out, HKQ.out⟩, by simp [intOf]; omega⟩
      · rw [if_neg hN, List.append_nil] at Hacc
        have hN' : 128 < N := by omega
        go_wp2
        exact ⟨⟨k + 1, _, by omega, rfl, by go_num, by rw [Hacc.out]; exact Hrow.out.alloc _, Hkw.out.alloc _⟩, by simp [intOf]; omega⟩
    · obtain rfl : k = fs.length := by omega
      rw [List.take_length] at hrow
      go_wp2
      go_ret
      exact ⟨_, rfl, hrow, hkw⟩
end Go.Proofs.Ytdniaingipoggaa
