/-
  WALKS: tsblockref01.Unpack, (*Reader).Bits (the first seat's WRef01b without End; made by extract.py).
-/
import Derived.Test.YtdniaingipoggaaDoorDHelp
import Derived.Test.YtdniaingipoggaaDoorWReader
import Derived.Test.YtdniaingipoggaaDoorWRef01
import Derived.Test.YtdniaingipoggaaDoorWPack
namespace Go.Proofs.YtdniaingipoggaaDoor
open Go.RowKit
theorem unpackB_snoc (l : List Nat) (c : Nat) : unpackB (l ++ [c]) = unpackB l ++ fieldBits c 8 := by
  unfold unpackB fieldBits
  rw [List.length_append, List.length_singleton, Nat.mul_add, List.range_add, List.map_append, List.map_map]
  congr 1
  · refine List.map_congr_left fun i hi => ?_
    rw [List.mem_range] at hi
    have h8 : i / 8 < l.length := by omega
    unfold rbit
    rw [List.getD_eq_getElem?_getD, List.getD_eq_getElem?_getD, List.getElem?_append_left h8]
  · refine List.map_congr_left fun i hi => ?_
    rw [List.mem_range] at hi
    have e1 : (8 * l.length + i) / 8 = l.length := by omega
    have e2 : (8 * l.length + i) % 8 = i := by omega
    simp only [Function.comp, rbit, e1, e2]
    rw [List.getD_eq_getElem?_getD, List.getElem?_append_right (Nat.le_refl _)]
    simp
theorem unpackB_take (l : List Nat) (i : Nat) (h : i < l.length) : unpackB (l.take (i + 1)) = unpackB (l.take i) ++ fieldBits (l.getD i 0) 8 := by
  rw [List.take_add_one, List.getElem?_eq_getElem h, List.getD_eq_getElem?_getD, List.getElem?_eq_getElem h]
  exact unpackB_snoc _ _
set_option maxRecDepth 100000 in
set_option maxHeartbeats 1000000 in
theorem refUnpack_any (v : Value) (l : List Nat) (w : World) (h : Holds w v (u8s l)) (hb : ∀ c ∈ l, c < 256) (hl : l.length ≤ 137438953472) :
    Calls Tryd.prog 19 #[v] w fun e w' => ∃ v', e = .returned v' ∧ RowTo 4 w.heap.size (.slice none 0 0) w v' (bools (unpackB l)) w' := by
  have HH := Lib.hid h; have HB := Lib.hid hb
  obtain ⟨ad, cap, rfl, hc, hcells⟩ := h
  rw [u8s_length] at hc ⊢ HH
  clear hcells hb
  go_enter Tryd.func19, Tryd.ntmps19
  go_wp2
  go_loopw [3, 4] (fun o i wr => ∃ (j : Nat) (v1 : Value), j ≤ l.length ∧ o = v1 ∧ i = .int .i64 (j : Nat) ∧ RowTo 4 w.heap.size (.slice none 0 0) w v1 (bools (unpackB (l.take j))) wr) (fun _ i wr => l.length - (intOf i).toNat)
  case atStart => exact ⟨0, _, by omega, rfl, rfl, RowTo.refl (World.ownsRow_nil _ _ _ _)⟩
  case round =>
    obtain ⟨j, v1, hj, rfl, rfl, hR⟩ := hrel
    by_cases hlt : j < l.length
    · have HR := Lib.hid hR
      obtain ⟨b, off, cap', hv, hcell⟩ := HH.out.index (j := j) (u := .int .u8 ((l.getD j 0 : Nat) : Int)) (by simp [u8s, hlt, List.getD_eq_getElem?_getD])
      simp only [Value.slice.injEq] at hv
      obtain ⟨rfl, -, rfl⟩ := hv
      have hcell' : wr.cell? ⟨b, off + j, none⟩ = some (.int .u8 ((l.getD j 0 : Nat) : Int)) := hR.keeps.cell hcell (by simp [own, Value.ownBlock])
      have hc256 : l.getD j 0 < 256 := by
        rw [List.getD_eq_getElem?_getD, List.getElem?_eq_getElem hlt]; exact HB.out _ (List.getElem_mem hlt)
      have hun := unpackB_take l j hlt
      have hlen : (unpackB (l.take j)).length ≤ 1099511627776 := by rw [unpackB_length, List.length_take]; omega
      have HU := Lib.hid hun
      clear hR hcell hun
      generalize unpackB (l.take j) = xs at *
      generalize l.getD j 0 = c at *
      go_wp2_with fail
      refine (refWrite_any w.heap.size _ xs c 8 wr HR.out.row (by omega) (by omega) hlen HR.out.keeps.size).mono ?_
      rintro e w2 ⟨v2, rfl, h2⟩
      have H2 := Lib.hid (HR.out.trans h2)
      clear h2
      go_wp2
      refine ⟨⟨j + 1, _, by omega, rfl, by go_num, by rw [HU.out]; exact H2.out⟩, by simp [intOf]; omega⟩
    · have ej : j = l.length := by omega
      rw [ej, List.take_length] at hR
      go_wp2
      go_ret
      exact ⟨_, rfl, hR⟩
/-- the reference's Reader, of the bits l -/
structure IsQ (w : World) (p : Nat) (v : Value) (l : List Bool) : Prop where
  blk : w.heap[p]? = some (.cells #[v] 35 (0, 0))
  holds : Holds w v (bools l)
  ne : ∀ g, v.ownBlock = some g → g ≠ p
theorem IsQ.keeps {S : Nat → Prop} {a b : World} {p : Nat} {v : Value} {l : List Bool} (h : IsQ a p v l) (k : Keeps S a b) (hp : ¬ S p) (hv : ∀ g, v.ownBlock = some g → ¬ S g) : IsQ b p v l :=
  ⟨k.heap h.blk hp, h.holds.keeps k hv, h.ne⟩
theorem IsQ.cell0 {a : World} {p : Nat} {v : Value} {l : List Bool} (h : IsQ a p v l) : a.cell? ⟨p, 0, none⟩ = some v := by rw [cell_of_row a p 0 _ _ _ h.blk]; rfl
theorem IsQ.free {a : World} {p : Nat} {v : Value} {l : List Bool} (h : IsQ a p v l) : a.frozen? ⟨p, 0, none⟩ = false := frozen_of_row a p 0 _ _ h.blk
theorem IsQ.set {a : World} {p : Nat} {v v' : Value} {l l' : List Bool} (h : IsQ a p v l) (hh : Holds a v' (bools l')) (hn : ∀ g, v'.ownBlock = some g → v.ownBlock = some g) : IsQ (a.setCell ⟨p, 0, none⟩ v') p v' l' := by
  have hs := heap_setCell_same a p 0 _ _ v' h.blk
  have k : Keeps (fun k => k = p) a (a.setCell ⟨p, 0, none⟩ v') := (Keeps.refl (fun k => k = p) a).setCell (p := ⟨p, 0, none⟩) (fun _ => rfl) _
  exact ⟨by simpa using hs, hh.keeps k (fun g hg e => h.ne g (hn g hg) e), fun g hg => h.ne g (hn g hg)⟩
set_option maxHeartbeats 400000 in
theorem qbits_bad (p : Nat) (n : Int) (w : World) (h : n < 0 ∨ 64 < n) : Calls Tryd.prog 47 #[.pointer (some ⟨p, 0, none⟩), .int .i64 n] w fun e w' => e = .returned (.tuple #[.int .u64 0, .int .i64 2]) ∧ w = w' := by
  rcases h with h | h
  · go_enter Tryd.func47, Tryd.ntmps47
    go_wp2
    go_ret2
    exact ⟨rfl, rfl⟩
  · have h' : ¬ n < 0 := by omega
    go_enter Tryd.func47, Tryd.ntmps47
    go_wp2
    go_ret2
    exact ⟨rfl, rfl⟩
set_option maxHeartbeats 400000 in
theorem qbits_eof (p : Nat) (v : Value) (l : List Bool) (N : Nat) (w : World) (h : IsQ w p v l) (hN : N ≤ 64) (he : l.length < N) :
    Calls Tryd.prog 47 #[.pointer (some ⟨p, 0, none⟩), .int .i64 N] w fun e w' => e = .returned (.tuple #[.int .u64 0, .int .i64 3]) ∧ w = w' := by
  have hz1' : ¬ (N : Int) < 0 := by omega
  have hz2' : ¬ 64 < (N : Int) := by omega
  have hc0 := h.cell0
  obtain ⟨ad, cap, rfl, hc, hcells⟩ := h.holds
  rw [bools_length] at hc hc0
  have he' : (l.length : Int) < N := by omega
  clear hcells h
  go_enter Tryd.func47, Tryd.ntmps47
  go_wp2
  go_ret2
  exact ⟨rfl, rfl⟩
set_option maxRecDepth 100000 in
set_option maxHeartbeats 1000000 in
theorem qbits_any (p : Nat) (v : Value) (l : List Bool) (N : Nat) (w : World) (h : IsQ w p v l) (hN : N ≤ 64) (he : N ≤ l.length) :
    Calls Tryd.prog 47 #[.pointer (some ⟨p, 0, none⟩), .int .i64 N] w fun e w' => e = .returned (.tuple #[.int .u64 ((bitsNat (l.take N) : Nat) : Int), .int .i64 0]) ∧ (∃ v', IsQ w' p v' (l.drop N) ∧ (∀ g, v'.ownBlock = some g → v.ownBlock = some g)) ∧ Keeps (fun k => k = p) w w' := by
  obtain ⟨i0, hi, hz0, hz1, hz2⟩ := info_parts infoBool
  have hz1' : ¬ (N : Int) < 0 := by omega
  have hz2' : ¬ 64 < (N : Int) := by omega
  have HQ := Lib.hid h
  have hc0 := h.cell0; have hf0 := h.free
  have hh := h.holds
  clear h
  obtain ⟨ad, cap, rfl, hc, hcells⟩ := hh
  rw [bools_length] at hc hc0 HQ ⊢
  clear hcells
  have hh := HQ.out.holds
  obtain ⟨a2, cap2, hsl, hh2, hown2⟩ := run_from (P := Tryd.prog) w 32 4 Tryd.underlying32 hi hz1 hh .i64 N (by rw [bools_length]; exact he)
  rw [bools_length] at hsl hh2 hown2
  have e1 : (bools l).drop N = bools (l.drop N) := by simp [bools]
  rw [e1] at hh2
  have he' : ¬ (l.length : Int) < N := by omega
  have HH := Lib.hid hh; have HH2 := Lib.hid hh2; have HO := Lib.hid hown2
  clear hh hh2 e1 hown2
  go_enter Tryd.func47, Tryd.ntmps47
  go_wp2
  go_loop [6, 7] (fun x c => ∃ k : Nat, k ≤ N ∧ c = .int .i64 k ∧ x = .int .u64 ((bitsNat (l.take k) : Nat) : Int)) (fun _ c => N - (intOf c).toNat)
  case atStart => exact ⟨0, by omega, rfl, rfl⟩
  case round =>
    obtain ⟨k, hk, rfl, rfl⟩ := hrel
    by_cases hlt : k < N
    · have hkl : k < l.length := by omega
      obtain ⟨b, off, cap', hv, hcell⟩ := HH.out.index (j := k) (u := .bool (l.getD k false)) (by simp [bools, hkl, List.getD_eq_getElem?_getD])
      simp only [Value.slice.injEq] at hv
      obtain ⟨rfl, -, rfl⟩ := hv
      have hsucc : bitsNat (l.take (k + 1)) = bitsNat (l.take k) * 2 + (l.getD k false).toNat := by
        rw [List.take_add_one, List.getElem?_eq_getElem hkl, List.getD_eq_getElem?_getD, List.getElem?_eq_getElem hkl]
        exact bitsNat_snoc _ _
      have hb := bitsNat_lt (l.take k)
      rw [List.length_take, Nat.min_eq_left (by omega)] at hb
      have hp : 2 ^ k ≤ 2 ^ 63 := Nat.pow_le_pow_right (by decide) (by omega)
      have HS := Lib.hid hsucc
      generalize bitsNat (l.take k) = x at *
      have hy1 : IntKind.u64.wrap ((x : Int) * 2) = ((x * 2 : Nat) : Int) := by rw [IntWalk.u64_in _ (by omega)]; omega
      have hy2 : IntKind.u64.wrap (((x * 2 : Nat) : Int) + 1) = ((x * 2 + 1 : Nat) : Int) := by rw [IntWalk.u64_in _ (by omega)]; omega
      have hy3 : IntKind.u64.wrap ((x : Int) * 2 + 1) = ((x * 2 + 1 : Nat) : Int) := by rw [IntWalk.u64_in _ (by omega)]; omega
      clear hsucc hb hp
      cases hbit : l.getD k false with
      | true =>
        rw [hbit] at hcell HS
        go_wp2
        exact ⟨⟨k + 1, by omega, by go_num, by rw [HS.out]; rfl⟩, by simp [intOf]; omega⟩
      | false =>
        rw [hbit] at hcell HS
        go_wp2
        exact ⟨⟨k + 1, by omega, by go_num, by rw [HS.out]; rfl⟩, by simp [intOf]; omega⟩
    · obtain rfl : k = N := by omega
      go_wp2
      go_ret2
      exact ⟨rfl, ⟨_, HQ.out.set HH2.out HO.out, HO.out⟩, (Keeps.refl (fun k => k = p) w).setCell (p := ⟨p, 0, none⟩) (fun _ => rfl) _⟩
theorem qbits_all (p : Nat) (v : Value) (l : List Bool) (n : Int) (w : World) (h : IsQ w p v l) :
    Calls Tryd.prog 47 #[.pointer (some ⟨p, 0, none⟩), .int .i64 n] w fun e w' => e = .returned (.tuple #[.int .u64 (((stepB n l).1 : Nat) : Int), .int .i64 (((stepB n l).2.1 : Nat) : Int)]) ∧
      (∃ v', IsQ w' p v' (l.drop (stepB n l).2.2) ∧ (∀ g, v'.ownBlock = some g → v.ownBlock = some g)) ∧ Keeps (fun k => k = p) w w' := by
  by_cases hn : n < 0 ∨ 64 < n
  · have e : stepB n l = (0, 2, 0) := by unfold stepB; rw [if_pos hn]
    rw [e]
    refine (qbits_bad p n w hn).mono ?_
    rintro e w' ⟨rfl, rfl⟩
    exact ⟨rfl, ⟨v, h, fun _ hg => hg⟩, Keeps.refl _ _⟩
  · obtain ⟨N, rfl⟩ : ∃ N : Nat, n = N := ⟨n.toNat, by omega⟩
    by_cases hN : l.length < N
    · have e : stepB (N : Int) l = (0, 3, 0) := by unfold stepB; rw [if_neg hn, if_pos (by omega)]
      rw [e]
      refine (qbits_eof p v l N w h (by omega) hN).mono ?_
      rintro e w' ⟨rfl, rfl⟩
      exact ⟨rfl, ⟨v, h, fun _ hg => hg⟩, Keeps.refl _ _⟩
    · have e : stepB (N : Int) l = (bitsNat (l.take N), 0, N) := by unfold stepB; rw [if_neg hn, if_neg (by omega)]; rfl
      rw [e]
      exact qbits_any p v l N w h (by omega) (by omega)
end Go.Proofs.YtdniaingipoggaaDoor
