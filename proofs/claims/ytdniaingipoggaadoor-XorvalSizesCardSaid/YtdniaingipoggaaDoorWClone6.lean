/-
  WALKS: slices.Clone of words.
-/
import Derived.Test.YtdniaingipoggaaDoorPArgs
import Derived.Deep.LoopGhost
import Derived.Test.YtdniaingipoggaaDoorPTimes3
import Derived.Test.YtdniaingipoggaaDoorPQuiet
import Derived.Test.YtdniaingipoggaaDoorWSlices
import Derived.Test.YtdniaingipoggaaDoorWRepeat
namespace Go.Proofs.YtdniaingipoggaaDoor
open Go.RowKit

set_option maxRecDepth 100000 in
set_option maxHeartbeats 400000 in
theorem cloneWords_none (n c : Nat) (w : World) : Calls Tryd.prog 41 #[.slice none n c] w fun e w' => e = .returned (.slice none 0 0) ∧ w = w' := by
  have hn := fun (w : World) n c => Lib.run_eql_slice_nil (P := Tryd.prog) w 58 48 none n c 0 0 Tryd.underlying58
  go_enter Tryd.func41, Tryd.ntmps41
  go_wp2
  go_ret
  exact ⟨rfl, rfl⟩
set_option maxRecDepth 100000 in
set_option maxHeartbeats 400000 in
theorem cloneWords_some (a : Addr) (len cap : Nat) (xs : List Value) (w : World) (h : Holds w (.slice (some a) len cap) xs) (hx : xs.length ≤ 1000000000000) (hone : ∀ u ∈ xs, u.oneCell' = true) :
    Calls Tryd.prog 41 #[.slice (some a) len cap] w fun e w' => ∃ v, e = .returned v ∧ w'.ownsRow w.heap.size 48 1 v xs.length xs ∧ Keeps (fun _ => False) w w' := by
  obtain ⟨i0, hi, hz0, hz1, hz2⟩ := info_parts infoU64
  have hn := fun (w : World) n c => Lib.run_eql_slice_nil (P := Tryd.prog) w 58 48 (some a) n c 0 0 Tryd.underlying58
  go_enter Tryd.func41, Tryd.ntmps41
  obtain ⟨hlen, hnews⟩ := h.source
  go_wp2_with (at_builtin; refine wpList_append_new _ rfl _ _ 58 rfl w.heap.size 48 i0 (.int .u64 0) 1 8 Tryd.underlying58 hi hz0 hz1 hz2 rfl (by decide) _ 0 [] rfl (World.ownsRow_lit w #[] 0 (Nat.le_refl _) (by decide) rfl) a len cap xs rfl ?c1 ?c2 ?c3 ?c4 ?c5 ?c6 ?_)
  case c1 => omega
  case c2 =>
    intro j u hj
    rw [cell_alloc_old _ _ (World.block_lt_of_cell? w _ (hnews j u hj))]
    exact hnews j u hj
  case c3 => exact hone
  case c4 => unfold maxLen; omega
  case c5 => omega
  case c6 => simp
  intro v' w1 hown' hgrow hnew
  go_wp2
  go_ret
  exact ⟨v', rfl, by rw [hlen]; exact hown', ((Keeps.refl (fun _ => False) w).alloc _).grown hgrow (fun k hk e => by simp [Value.ownBlock] at e; omega)⟩
theorem cloneWords_any (v : Value) (l : List Nat) (w : World) (h : Holds w v (u64s l)) (hx : l.length ≤ 1000000000000) :
    Calls Tryd.prog 41 #[v] w fun e w' => ∃ v', e = .returned v' ∧ w'.ownsRow w.heap.size 48 1 v' l.length (u64s l) ∧ Keeps (fun _ => False) w w' := by
  have h0 := h
  obtain ⟨ad, cap, rfl, hc, h⟩ := h
  cases ad with
  | none =>
    have hl : l = [] := by
      rcases h with h | ⟨b, off, hb, _⟩
      · cases l <;> simp_all [u64s]
      · cases hb
    subst hl
    refine (cloneWords_none _ _ w).mono ?_
    rintro e w' ⟨rfl, rfl⟩
    exact ⟨_, rfl, World.ownsRow_nil _ _ _ _, Keeps.refl _ _⟩
  | some a =>
    refine (cloneWords_some a _ cap (u64s l) w h0 (by rw [u64s_length]; exact hx) (u64s_one l)).mono ?_
    rintro e w' ⟨v, rfl, h1, h2⟩
    rw [u64s_length] at h1
    exact ⟨v, rfl, h1, h2⟩
/-- a slice from place k on, as the walk spells it -/
theorem Holds.tail {w : World} {g n c : Nat} {xs : List Value} (h : Holds w (.slice (some ⟨g, 0, none⟩) n c) xs) (k : Nat) (hk : k ≤ n) :
    Holds w (.slice (if c = k then some ⟨g, 0, none⟩ else some ⟨g, k, none⟩) (n - k) (c - k)) (xs.drop k) := by
  obtain ⟨ad, cap', hv, hc, hcells⟩ := h
  simp only [Value.slice.injEq] at hv
  obtain ⟨rfl, rfl, rfl⟩ := hv
  have hl : (xs.drop k).length = xs.length - k := by rw [List.length_drop]
  refine ⟨_, c - k, by rw [hl], by rw [hl]; omega, ?_⟩
  by_cases hck : c = k
  · exact .inl (List.eq_nil_of_length_eq_zero (by omega))
  · rw [if_neg hck]
    rcases hcells with h | ⟨b, off, hb, h⟩
    · subst h; exact .inl (by simp)
    · simp only [Option.some.injEq, Addr.mk.injEq] at hb
      obtain ⟨rfl, rfl, -⟩ := hb
      refine .inr ⟨g, k, rfl, fun j u hj => ?_⟩
      rw [List.getElem?_drop] at hj
      have := h (k + j) u hj
      rwa [Nat.zero_add] at this
end Go.Proofs.YtdniaingipoggaaDoor
