/-
  WALKS: math/bits.Mul at one, slices.Repeat of one word.
-/
import Derived.Test.YtdniaingipoggaaDoorPArgs
import Derived.Test.YtdniaingipoggaaDoorDHelp
import Derived.WalkSpells
import Derived.WalkLawsBesides
import Derived.Deep.RegionHeld3
import Derived.Deep.DrawnRows
import Derived.Laws.CopyOwn
namespace Go.Proofs.YtdniaingipoggaaDoor
open Go.RowKit
attribute [local go_sem ↓] Go.wp_at_zero Go.wp_at_succ

theorem Keeps.of_belowAll {a b : World} (h : Below a.heap.size a b) : Keeps (fun _ => False) a b := ⟨h.os, h.tape, h.output, h.size, fun k hk _ => h.block k hk⟩
set_option maxHeartbeats 1000000 in
theorem mul64_one (n : Nat) (w : World) (hn : n ≤ 1000000000) : Calls Tryd.prog 72 #[.int .u64 1, .int .u64 n] w fun e w' => e = .returned (.tuple #[.int .u64 0, .int .u64 n]) ∧ w = w' := by
  have a1 : bits .and .u64 ((n : Nat) : Int) 4294967295 = (n : Int) := by
    rw [show (4294967295 : Int) = ((4294967295 : Nat) : Int) from rfl, u64_and_nat _ _ (by omega) (by decide)]
    congr 1
    have := Nat.and_two_pow_sub_one_eq_mod n 32
    simp only [show 2 ^ 32 - 1 = 4294967295 from rfl] at this
    rw [this]; omega
  have a2 : (n : Int) / 4294967296 = 0 := by omega
  have b1 : bits .and .u64 1 4294967295 = 1 := by decide
  have b2 : bits .and .u64 0 4294967295 = 0 := by decide
  have b3 : IntKind.u64.wrap (n : Int) = n := IntWalk.u64_in _ (by omega)
  have b4 : IntKind.u64.wrap 0 = 0 := rfl
  go_enter Tryd.func72, Tryd.ntmps72
  go_wp2
  go_ret2
  exact ⟨by simp, rfl⟩
set_option maxHeartbeats 400000 in
theorem mul_one' (n : Nat) (w : World) (hn : n ≤ 1000000000) : Calls Tryd.prog 61 #[.int .u64 1, .int .u64 n] w fun e w' => e = .returned (.tuple #[.int .u64 0, .int .u64 n]) ∧ w = w' := by
  go_enter Tryd.func61, Tryd.ntmps61
  go_wp2_with fail
  refine (mul64_one n w hn).mono ?_
  rintro e w1 ⟨rfl, rfl⟩
  go_wp2
  go_ret2
  exact ⟨rfl, rfl⟩
theorem below_drew {B : Nat} {a b : World} (h : Below B a b) : Below B a b.drew := ⟨h.os, h.tape, h.output, h.size, h.block⟩
theorem madeWords (n : Nat) : (madeCells #[Value.int .u64 0] n).toList = u64s (List.replicate n 0) := by
  apply List.ext_getElem?
  intro i
  simp only [madeCells, u64s]
  by_cases h : i < n
  · simp [h, Nat.mod_one]
  · simp [h]
/-- m words x, then zeros -/
def part (N m x : Nat) : List Value := u64s (List.replicate m x ++ List.replicate (N - m) 0)
theorem part_length (N m x : Nat) (h : m ≤ N) : (part N m x).length = N := by simp [part, u64s]; omega
theorem part_get (N m x j : Nat) (h : j < m) : (part N m x)[j]? = some (.int .u64 (x : Nat)) := by
  simp [part, u64s, List.getElem?_append_left, h]
theorem part_cell {w : World} {g N m k x : Nat} (h : w.heap[g]? = some (.cells (part N m x).toArray 48 (0, 0))) (hk : k ≤ m) : ∀ (j : Nat) (v : Value), (u64s (List.replicate k x))[j]? = some v → w.drew.cell? ((⟨g, 0, none⟩ : Addr).add j) = some v := by
  intro j v hj
  have hjk : j < k := by have := (List.getElem?_eq_some_iff.1 hj).1; simpa [u64s] using this
  have hv : v = .int .u64 (x : Nat) := by simp [u64s, hjk] at hj; exact hj.symm
  rw [hv, addr_add, Nat.zero_add]
  show w.cell? _ = _
  rw [cell_of_row _ _ _ _ _ _ h, List.getElem?_toArray]
  exact part_get N m x j (by omega)
theorem part_splice (N m k x : Nat) (h : m + k ≤ N) : splice (part N m x) m (u64s (List.replicate k x)) = part N (m + k) x := by
  unfold splice part
  apply List.ext_getElem?
  intro i
  have hl : (u64s (List.replicate m x ++ List.replicate (N - m) 0)).length = N := by simp [u64s]; omega
  simp only [u64s, List.getElem?_append, List.getElem?_take, List.getElem?_drop, List.length_take, List.length_map, List.length_append, List.length_replicate, List.getElem?_map, List.getElem?_replicate]
  have e1 : min m (m + (N - m)) = m := by omega
  rw [e1]
  rcases Nat.lt_or_ge i m with h1 | h1
  · simp [h1, show i < m + k by omega]
  · rcases Nat.lt_or_ge i (m + k) with h2 | h2
    · simp [show ¬ i < m by omega, h2, show i - m < k by omega]
    · by_cases h3 : i < N
      · simp [show ¬ i < m by omega, show ¬ i < m + k by omega, show ¬ i - m < k by omega, show ¬ m + k + (i - m - k) < m by omega, show m + k + (i - m - k) - m < N - m by omega, show i - (m + k) < N - (m + k) by omega]
      · simp [show ¬ i < m by omega, show ¬ i < m + k by omega, show ¬ i - m < k by omega, show ¬ m + k + (i - m - k) < m by omega, show ¬ m + k + (i - m - k) - m < N - m by omega, show ¬ i - (m + k) < N - (m + k) by omega]
theorem u64s_one (l : List Nat) : ∀ u ∈ u64s l, u.oneCell' = true := by
  intro u hu
  simp only [u64s, List.mem_map] at hu
  obtain ⟨c, _, rfl⟩ := hu
  rfl
theorem row_of_part {w : World} {base g N x : Nat} (hb : base ≤ g) (hN : N ≤ maxLen) (h : w.heap[g]? = some (.cells (part N N x).toArray 48 (0, 0))) : w.ownsRow base 48 1 (.slice (some ⟨g, 0, none⟩) N N) N (u64s (List.replicate N x)) := by
  have e : part N N x = u64s (List.replicate N x) := by simp [part]
  rw [e] at h
  refine ⟨by simp [u64s], .inr ⟨g, N, _, rfl, hb, h, Nat.le_refl _, hN, by simp [u64s], ?_⟩⟩
  simp [u64s]

set_option maxRecDepth 100000 in
set_option maxHeartbeats 2000000 in
theorem repeat_any (ad : Option Addr) (cap x N : Nat) (w : World) (h : Holds w (.slice ad 1 cap) (u64s [x])) (hN : N ≤ 1000000) :
    Calls Tryd.prog 42 #[.slice ad 1 cap, .int .i64 N] w fun e w' => ∃ v', e = .returned v' ∧ w'.ownsRow w.heap.size 48 1 v' N (u64s (List.replicate N x)) ∧ Keeps (fun _ => False) w w' := by
  obtain ⟨i0, hi, hz0, hz1, hz2⟩ := info_parts infoU64
  have hsz : (Tryd.prog.info? 48).map (·.size) = some 1 := by rw [hi]; simp [hz1]
  obtain ⟨b, off, _, hv, hcx⟩ := h.index (j := 0) (u := .int .u64 (x : Nat)) rfl
  simp only [Value.slice.injEq] at hv
  obtain ⟨rfl, -, -⟩ := hv
  clear h
  have n1 : ¬ (N : Int) < 0 := by omega
  have n2 : IntKind.u64.wrap (N : Int) = N := wrap_u64 N (by omega)
  have n3 : IntKind.i64.wrap (N : Int) = N := wrap_nat N (by omega)
  have n4 : decide ((9223372036854775807 : Int) < N) = false := by simp; omega
  go_enter Tryd.func42, Tryd.ntmps42
  go_wp2_with (first | (go_at_call 61; refine (mul_one' N _ (by omega)).mono ?_; rintro e w1 ⟨rfl, rfl⟩) | (at_make; refine wpList_make_full _ rfl _ _ 58 rfl w.heap.size 48 i0 (.int .u64 0) 1 Tryd.underlying58 hi hz0 hz1 .i64 .i64 _ _ N rfl rfl rfl rfl ?c1 ?c2 ?c3 ?_))
  case c1 => rw [hz2]; omega
  case c2 => unfold maxLen; omega
  case c3 => exact Nat.le_refl _
  intro w1 hr1 hg1
  have hmk := madeWords N
  have hk1 : Keeps (fun _ => False) w w1 := (Keeps.refl (fun _ => False) w).grown hg1 (fun k hk e => by cases e)
  have hblk : w1.heap[w.heap.size]? = some (.cells (part N 0 x).toArray 48 (0, 0)) := by
    rcases hr1.2 with ⟨hv, _⟩ | ⟨g, cp, cur, hv, hb, hgg, hcap, hm, hcs, htk⟩
    · cases hv
    · simp only [Value.slice.injEq, Option.some.injEq, Addr.mk.injEq] at hv
      obtain ⟨⟨rfl, -, -⟩, -, rfl⟩ := hv
      have e1 : cur.toList = part N 0 x := by
        have h1 : cur.toList.take (N * 1) = cur.toList := List.take_of_length_le (by simp; omega)
        rw [h1] at htk
        rw [htk]
        simp only [part, List.replicate_zero, List.nil_append, Nat.sub_zero]
        have := hmk
        simpa using this
      rw [hgg, ← e1]
  have hcx1 := hk1.cell hcx (fun h => h)
  obtain ⟨g, hg⟩ : ∃ g, g = w.heap.size := ⟨_, rfl⟩
  rw [← hg] at hblk ⊢
  have HG := Lib.hid hg; have HK1 := Lib.hid hk1.belowAll; have HBLK := Lib.hid hblk
  clear hr1 hg1 hmk hk1 hblk hg hcx
  by_cases hN0 : N = 0
  · go_wp2_with (refine wpList_copy_splice rfl (.tmp 31) (.tmp 32) 58 58 rfl 48 Tryd.underlying58 hsz _ _ _ _ _ _ (by rfl) (by rfl) g 0 (part N 0 x) 48 HBLK.out [] ?d1 ?d2 ?d3 (by simp) w.heap.size w HK1.out (by rw [HG.out]; exact Nat.le_refl _) ?_)
    case d1 => show 0 = Nat.min 1 N; rw [hN0]; rfl
    case d3 => simp
    intro w2 hg2 hb2
    have hgg : w2.heap[g]? = some (.cells (part 0 0 x).toArray 48 (0, 0)) := by
      have h1 := hg2.out
      rw [show splice (part 0 0 x) 0 [] = part 0 0 x by simp [splice]] at h1
      exact h1
    have HN0 := Lib.hid hN0
    have HGG := Lib.hid hgg; have HB2 := Lib.hid hb2
    have e0 : goInt (([] : List Value).length) = .int .i64 0 := rfl
    clear hg2 hb2 hgg
    go_wp2
    clear hN0
    go_loopw [8] (fun t8 wr => t8 = .int .i64 0 ∧ wr = w2) (fun _ _ => 0)
    case atStart => exact ⟨rfl, rfl⟩
    case round =>
      obtain ⟨rfl, rfl⟩ := hrel
      go_wp2
      go_ret
      refine ⟨_, rfl, ?_, Keeps.of_belowAll HB2.out⟩
      rw [HN0.out]
      exact row_of_part (by rw [HG.out]; exact Nat.le_refl _) (by unfold maxLen; omega) HGG.out
  · go_wp2_with (refine wpList_copy_splice rfl (.tmp 31) (.tmp 32) 58 58 rfl 48 Tryd.underlying58 hsz _ _ _ _ _ _ (by rfl) (by rfl) g 0 (part N 0 x) 48 HBLK.out (u64s [x]) ?f1 ?f2 ?f3 (u64s_one _) w.heap.size w HK1.out (by rw [HG.out]; exact Nat.le_refl _) ?_)
    case f1 =>
      show (1 : Nat) = Nat.min 1 N
      exact (Nat.min_eq_left (by omega)).symm
    case f2 =>
      intro _ j v hj
      cases j with
      | zero => simp only [u64s, List.map_cons, List.map_nil, List.getElem?_cons_zero, Option.some.injEq] at hj; subst hj; exact hcx1
      | succ j => simp [u64s] at hj
    case f3 => rw [part_length _ _ _ (by omega)]; simp [u64s]; omega
    intro w2 hg2 hb2
    have hg3 : w2.heap[g]? = some (.cells (part N 1 x).toArray 48 (0, 0)) := by
      have h1 := hg2.out
      rw [show u64s [x] = u64s (List.replicate 1 x) from rfl, part_splice N 0 1 x (by omega)] at h1
      exact h1
    have HG3 := Lib.hid hg3; have HB2 := Lib.hid hb2
    clear hg2 hb2 hg3 hcx1
    have e1 : (u64s [x]).length = 1 := rfl
    go_wp2
    clear e1
    go_loopw [8] (fun t8 wr => ∃ m : Nat, 1 ≤ m ∧ m ≤ N ∧ t8 = .int .i64 m ∧ wr.heap[g]? = some (.cells (part N m x).toArray 48 (0, 0)) ∧ Below w.heap.size w wr) (fun t8 _ => N - (intOf t8).toNat)
    case atStart => exact ⟨1, by omega, by omega, by rfl, HG3.out, HB2.out⟩
    case round =>
      obtain ⟨m, hm1, hmN, rfl, hgm, hbm⟩ := hrel
      have HGM := Lib.hid hgm; have HBM := Lib.hid hbm
      clear hgm hbm
      by_cases hlt : m < N
      · have hlt' : (m : Int) < N := by omega
        have o1 : (0 : Int) ≤ m := by omega
        have o2 : (m : Int) ≤ N := by omega
        obtain ⟨k, hk⟩ : ∃ k, k = min m (N - m) := ⟨_, rfl⟩
        have hkm : k ≤ m := by rw [hk]; exact Nat.min_le_left _ _
        have hkN : m + k ≤ N := by have := Nat.min_le_right m (N - m); rw [← hk] at this; omega
        have hk1 : 1 ≤ k := by rw [hk]; exact Nat.le_min.2 ⟨hm1, by omega⟩
        have hNm : ¬ N = m := by omega
        have hul : (u64s (List.replicate k x)).length = k := by rw [u64s_length, List.length_replicate]
        have hwk : IntKind.i64.wrap ((m : Int) + k) = ((m + k : Nat) : Int) := by rw [IntWalk.i64_in _ (by omega)]; omega
        have hgi : goInt k = .int .i64 (k : Nat) := rfl
        have HKK := Lib.hid hk
        clear hk
        go_wp2_with fail
        go_region_held3 (fun _ => True) (trivial) ((refine step_copy_splice rfl (.tmp 41) (.tmp 44) 58 58 rfl 48 Tryd.underlying58 hsz _ _ _ _ _ _ (by rfl) (by rfl) g m (part N m x) 48 (by exact HGM.out) (u64s (List.replicate k x)) (by rw [u64s_length, List.length_replicate, HKK.out]) (fun _ => ⟨by simp, _, rfl, part_cell HGM.out hkm⟩) (by rw [part_length _ _ _ hmN, u64s_length, List.length_replicate]; exact hkN) (u64s_one _) w.heap.size w (below_drew HBM.out) (by rw [HG.out]; exact Nat.le_refl _) ?_; intro w4 hg4 hb4; have HG4 := Lib.hid hg4; have HB4 := Lib.hid hb4; clear hg4 hb4))
        go_wp2
        refine ⟨⟨m + k, by omega, hkN, by simp, ?_, HB4.out⟩, by simp [intOf]; omega⟩
        have h1 := HG4.out.out
        rw [part_splice N m k x hkN] at h1
        exact h1
      · have hmN' : m = N := by omega
        have hlt' : ¬ (m : Int) < N := by omega
        have hgg := HGM.out
        rw [hmN'] at hgg
        have HGG := Lib.hid hgg
        clear hgg
        go_wp2
        go_ret
        exact ⟨_, rfl, row_of_part (by rw [HG.out]; exact Nat.le_refl _) (by unfold maxLen; omega) HGG.out, Keeps.of_belowAll HBM.out⟩
end Go.Proofs.YtdniaingipoggaaDoor
