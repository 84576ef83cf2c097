/-
  WALKS: slices.Clone of bytes, bytes.Equal, (*Writer).Bytes.
-/
import Derived.Test.YtdniaingipoggaaDoorPRead
import Derived.Test.YtdniaingipoggaaDoorWBits
import Derived.WalkKit
import Derived.WalkSpells
import Derived.WalkLawsBesides
import Derived.Lib.Hide
namespace Go.Proofs.YtdniaingipoggaaDoor
open Go.RowKit

/-- a slice as the source of an append -/
theorem Holds.source {w : World} {a : Addr} {len cap : Nat} {xs : List Value} (h : Holds w (.slice (some a) len cap) xs) : xs.length = len ∧ ∀ j u, xs[j]? = some u → w.cell? (a.add j) = some u := by
  obtain ⟨ad, cap', hv, hc, h | ⟨bl, off, rfl, hcell⟩⟩ := h
  · simp only [Value.slice.injEq] at hv
    exact ⟨hv.2.1.symm, by subst h; simp⟩
  · simp only [Value.slice.injEq, Option.some.injEq] at hv
    obtain ⟨rfl, h1, _⟩ := hv
    exact ⟨h1.symm, fun j u hj => by rw [addr_add]; exact hcell j u hj⟩
theorem cell_alloc_old (w : World) (o : Obj) {p : Addr} (h : p.block < w.heap.size) : (w.alloc o).cell? p = w.cell? p :=
  World.cell?_of_block (Below.heap_alloc w o p.block h)
theorem u8s_one (l : List Nat) : ∀ u ∈ u8s l, u.oneCell' = true := by
  intro u hu
  simp only [u8s, List.mem_map] at hu
  obtain ⟨c, _, rfl⟩ := hu
  rfl
set_option maxHeartbeats 400000 in
theorem bytesEqual_any (v v' : Value) (l l' : List Nat) (w : World) (h : Holds w v (u8s l)) (h' : Holds w v' (u8s l')) (hl : ∀ c ∈ l, c < 256) (hl' : ∀ c ∈ l', c < 256) :
    Calls Tryd.prog 29 #[v, v'] w fun e w' => e = .returned (.bool (decide (l = l'))) ∧ w = w' := by
  have h1 := run_convert_holds (P := Tryd.prog) w 22 5 Tryd.underlying22 Tryd.underlying5 v l h 9 Tryd.underlying9
  have h2 := run_convert_holds (P := Tryd.prog) w 22 5 Tryd.underlying22 Tryd.underlying5 v' l' h' 9 Tryd.underlying9
  have h3 := bytesOf_inj hl hl'
  clear h h'
  go_enter Tryd.func29, Tryd.ntmps29
  go_wp2
  go_ret
  exact ⟨rfl, rfl⟩

set_option maxRecDepth 100000 in
set_option maxHeartbeats 400000 in
theorem cloneBytes_none (n c : Nat) (w : World) : Calls Tryd.prog 43 #[.slice none n c] w fun e w' => e = .returned (.slice none 0 0) ∧ w = w' := by
  have hn := fun (w : World) n c => Lib.run_eql_slice_nil (P := Tryd.prog) w 22 5 none n c 0 0 Tryd.underlying22
  go_enter Tryd.func43, Tryd.ntmps43
  go_wp2
  go_ret
  exact ⟨rfl, rfl⟩
set_option maxRecDepth 100000 in
set_option maxHeartbeats 400000 in
theorem cloneBytes_some (a : Addr) (len cap : Nat) (xs : List Value) (w : World) (h : Holds w (.slice (some a) len cap) xs) (hx : xs.length ≤ 140737488351232) (hone : ∀ u ∈ xs, u.oneCell' = true) :
    Calls Tryd.prog 43 #[.slice (some a) len cap] w fun e w' => ∃ v, e = .returned v ∧ w'.ownsRow w.heap.size 5 1 v xs.length xs ∧ Keeps (fun _ => False) w w' := by
  obtain ⟨i0, hi, hz0, hz1, hz2⟩ := info_parts infoU8
  have hn := fun (w : World) n c => Lib.run_eql_slice_nil (P := Tryd.prog) w 22 5 (some a) n c 0 0 Tryd.underlying22
  go_enter Tryd.func43, Tryd.ntmps43
  obtain ⟨hlen, hnews⟩ := h.source
  go_wp2_with (at_builtin; refine wpList_append_new _ rfl _ _ 22 rfl w.heap.size 5 i0 (.int .u8 0) 1 1 Tryd.underlying22 hi hz0 hz1 hz2 rfl (by decide) _ 0 [] rfl (World.ownsRow_lit w #[] 0 (Nat.le_refl _) (by decide) rfl) a len cap xs rfl ?c1 ?c2 ?c3 ?c4 ?c5 ?c6 ?_)
  case c1 => omega
  case c2 =>
    intro j u hj
    rw [cell_alloc_old _ _ (World.block_lt_of_cell? w _ (hnews j u hj))]
    exact hnews j u hj
  case c3 => exact hone
  case c4 => unfold maxLen; omega
  case c5 => omega
  case c6 => simp
  intro v' w1 hown' hgrow hnew
  go_wp2
  go_ret
  exact ⟨v', rfl, by rw [hlen]; exact hown', ((Keeps.refl (fun _ => False) w).alloc _).grown hgrow (fun k hk e => by simp [Value.ownBlock] at e; omega)⟩

/-- a slice that reads as bytes is cloned into memory of its own -/
theorem cloneBytes_any (v : Value) (l : List Nat) (w : World) (h : Holds w v (u8s l)) (hx : l.length ≤ 140737488351232) :
    Calls Tryd.prog 43 #[v] w fun e w' => ∃ v', e = .returned v' ∧ w'.ownsRow w.heap.size 5 1 v' l.length (u8s l) ∧ Keeps (fun _ => False) w w' := by
  have h0 := h
  obtain ⟨ad, cap, rfl, hc, h⟩ := h
  cases ad with
  | none =>
    have hl : l = [] := by
      rcases h with h | ⟨b, off, hb, _⟩
      · cases l <;> simp_all [u8s]
      · cases hb
    subst hl
    refine (cloneBytes_none 0 cap w).mono ?_
    rintro e w' ⟨rfl, rfl⟩
    exact ⟨_, rfl, World.ownsRow_nil _ _ _ _, Keeps.refl _ _⟩
  | some a =>
    refine (cloneBytes_some a _ cap (u8s l) w h0 (by rw [u8s_length]; exact hx) (u8s_one l)).mono ?_
    rintro e w' ⟨v, rfl, h1, h2⟩
    rw [u8s_length] at h1
    exact ⟨v, rfl, h1, h2⟩

set_option maxHeartbeats 400000 in
theorem wbytes_any (base p : Nat) (v : Value) (l : List Bool) (w : World) (h : IsW w base p v l) (hl : l.length ≤ 1099511627776) :
    Calls Tryd.prog 30 #[.pointer (some ⟨p, 0, none⟩)] w fun e w' => ∃ v', e = .returned v' ∧ w'.ownsRow w.heap.size 5 1 v' (packed l).length (u8s (packed l)) ∧ Keeps (fun _ => False) w w' := by
  have hc := h.cell0
  have hh := holds_row h.row
  go_enter Tryd.func30, Tryd.ntmps30
  go_wp2_with (go_at_call 43; refine (cloneBytes_any v (packed l) _ hh (by rw [packed_length]; omega)).mono ?_; rintro e w' ⟨v', rfl, h1, h2⟩)
  go_ret
  exact ⟨v', rfl, h1, h2⟩
set_option maxHeartbeats 400000 in
theorem wbytes_nil (w : World) : Calls Tryd.prog 30 #[.pointer none] w fun e w' => e = .returned (.slice none 0 0) ∧ w = w' := by
  go_enter Tryd.func30, Tryd.ntmps30
  go_wp2
  go_ret
  exact ⟨rfl, rfl⟩
end Go.Proofs.YtdniaingipoggaaDoor
