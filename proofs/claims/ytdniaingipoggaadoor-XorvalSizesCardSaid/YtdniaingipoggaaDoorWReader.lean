/-
  WALKS: bitio.NewReader, (*Reader).Left, (*cursor).bit, (*Reader).Bits, (*Reader).End.
-/
import Derived.Test.YtdniaingipoggaaDoorPRdr
import Derived.Test.YtdniaingipoggaaDoorWSlices
import Derived.WalkKit
import Derived.WalkSpells
import Derived.WalkLawsBesides
import Derived.Lib.Hide
import Derived.Deep.QuietTactic
import Derived.BigQuiet
namespace Go.Proofs.YtdniaingipoggaaDoor
open Go.RowKit

theorem ret_int {k : IntKind} {a b : Int} (h : a = b) : Ending.returned (.int k a) = .returned (.int k b) := by rw [h]
theorem row_slice {w : World} {base : Nat} {e : TypeId} {size : Nat} {v : Value} {n : Nat} {xs : List Value} (h : w.ownsRow base e size v n xs) : ∃ ad cap, v = .slice ad n cap := by
  rcases h.2 with ⟨rfl, h0⟩ | ⟨g, cap, cur, rfl, _⟩
  · exact ⟨none, 0, by rw [h0]⟩
  · exact ⟨_, cap, rfl⟩
set_option maxHeartbeats 400000 in
theorem newReader_any (base : Nat) (v : Value) (l : List Nat) (w : World) (h : Holds w v (u8s l)) (hx : l.length ≤ 140737488351232) (hb : ∀ c ∈ l, c < 256) (hbase : base ≤ w.heap.size) :
    Calls Tryd.prog 16 #[v] w fun e w' => ∃ q v', e = .returned (.pointer (some ⟨q, 0, none⟩)) ∧ w.heap.size ≤ q ∧ IsR w' base q v' l 0 ∧ (∀ g, v'.ownBlock = some g → w.heap.size ≤ g) ∧ Keeps (fun _ => False) w w' := by
  go_enter Tryd.func16, Tryd.ntmps16
  go_wp2_with (go_at_call 43; refine (cloneBytes_any v l _ h hx).mono ?_; rintro e w1 ⟨v', rfl, h1, h2⟩; obtain ⟨ad, cap, rfl⟩ := row_slice h1)
  go_ret
  have hs := h2.size
  refine ⟨w1.heap.size, _, rfl, hs, ⟨heap_alloc_new _ _, ?_, by omega, hb⟩, fun g hg => (h1.lt g hg).1, h2.alloc _⟩
  exact row_base (h1.alloc _) (fun g hg => Nat.le_trans hbase (h1.lt g hg).1)

set_option maxHeartbeats 400000 in
theorem left_any (base p : Nat) (v : Value) (bs : List Nat) (i : Nat) (w : World) (h : IsR w base p v bs i) (hl : bs.length ≤ 140737488351232) (hi : i ≤ 8 * bs.length) :
    Calls Tryd.prog 18 #[.pointer (some ⟨p, 0, none⟩)] w fun e w' => e = .returned (.int .i64 ((8 * bs.length - i : Nat) : Int)) ∧ ∃ n, w' = w.drewN n := by
  obtain ⟨ad, cap, rfl⟩ := h.shape
  have hc0 := h.cell0
  have hc1 := h.cell1
  have hw1 : IntKind.i64.wrap (8 * (bs.length : Int)) = 8 * bs.length := IntWalk.i64_in _ (by omega)
  have Hi := Lib.hid hi
  clear h hi
  go_enter Tryd.func18, Tryd.ntmps18
  go_wp2
  go_quiet (fail)
  go_wp2
  go_ret
  exact ⟨ret_int (by have := Hi.out; show wrap64 (8 * (bs.length : Int) - i) = _; rw [IntWalk.wrap64_in _ (by omega)]; omega), nq, rfl⟩
set_option maxHeartbeats 400000 in
theorem left_nil (w : World) : Calls Tryd.prog 18 #[.pointer none] w fun e w' => e = .returned (.int .i64 0) ∧ w = w' := by
  go_enter Tryd.func18, Tryd.ntmps18
  go_wp2
  go_ret
  exact ⟨rfl, rfl⟩

set_option maxHeartbeats 400000 in
theorem bit_any (base p : Nat) (v : Value) (bs : List Nat) (i j : Nat) (w : World) (h : IsR w base p v bs i) (hj : j < 8 * bs.length) (hl : bs.length ≤ 140737488351232) :
    Calls Tryd.prog 52 #[.pointer (some ⟨p, 0, none⟩), .int .i64 j] w fun e w' => e = .returned (.int .u64 (((rbit bs j).toNat : Nat) : Int)) ∧ w' = w := by
  obtain ⟨b, off, cap, rfl, hcell, hlt⟩ := h.byte (j := j / 8) (by omega)
  have hc0 := h.cell0
  have hr : rbit bs j = (bs.getD (j / 8) 0).testBit (7 - j % 8) := rfl
  have ht := testBit_toNat (bs.getD (j / 8) 0) (7 - j % 8)
  rw [← hr] at ht
  generalize bs.getD (j / 8) 0 = c at *
  obtain ⟨q, hq⟩ : ∃ q, q = j / 8 := ⟨_, rfl⟩
  obtain ⟨t, ht'⟩ : ∃ t, t = 7 - j % 8 := ⟨_, rfl⟩
  rw [← hq] at hcell
  rw [← ht'] at ht
  have hd : (j : Int) / 8 = q := by omega
  have hdt : (j : Int).tdiv 8 = q := by rw [Int.tdiv_eq_ediv_of_nonneg (by omega)]; omega
  have hm1 : (7 : Int) - (j : Int) % 8 = t := by omega
  have hm2 : (7 : Int) - (j : Int).tmod 8 = t := by rw [Int.tmod_eq_emod_of_nonneg (by omega)]; omega
  have hqb : (q : Int) < bs.length := by omega
  have ht7 : t ≤ 7 := by omega
  obtain ⟨d, hd1⟩ : ∃ d, d = c / 2 ^ t := ⟨_, rfl⟩
  have hd2 : (c : Int) / 2 ^ t = d := by rw [hd1]; simp
  have hd3 : d < 256 := by rw [hd1]; exact Nat.lt_of_le_of_lt (Nat.div_le_self _ _) hlt
  have hand := and_one_u64 d (by omega)
  rw [← hd1] at ht
  rw [ht] at hand
  clear h hr hq ht' ht hd1 hj
  generalize (rbit bs j).toNat = r at *
  go_enter Tryd.func52, Tryd.ntmps52
  go_wp2
  go_ret
  exact ⟨rfl, rfl⟩

theorem IsR.drewN {a : World} {base p : Nat} {v : Value} {bs : List Nat} {i : Nat} (h : IsR a base p v bs i) (n : Nat) : IsR (a.drewN n) base p v bs i := ⟨h.blk, h.row, h.base, h.bytes⟩
theorem IsR.drew {a : World} {base p : Nat} {v : Value} {bs : List Nat} {i : Nat} (h : IsR a base p v bs i) : IsR a.drew base p v bs i := ⟨h.blk, h.row, h.base, h.bytes⟩
theorem Keeps.drewN {S : Nat → Prop} {a b : World} (h : Keeps S a b) (n : Nat) : Keeps S a (b.drewN n) := ⟨h.os, h.tape, h.output, h.size, h.block⟩

set_option maxHeartbeats 400000 in
theorem rbits_nil (n : Int) (w : World) : Calls Tryd.prog 44 #[.pointer none, .int .i64 n] w fun e w' => e = .returned (.tuple #[.int .u64 0, .int .i64 1]) ∧ w = w' := by
  go_enter Tryd.func44, Tryd.ntmps44
  go_wp2
  go_ret2
  exact ⟨rfl, rfl⟩
set_option maxHeartbeats 400000 in
theorem rbits_bad (p : Nat) (n : Int) (w : World) (h : n < 0 ∨ 64 < n) : Calls Tryd.prog 44 #[.pointer (some ⟨p, 0, none⟩), .int .i64 n] w fun e w' => e = .returned (.tuple #[.int .u64 0, .int .i64 2]) ∧ w = w' := by
  rcases h with h | h
  · go_enter Tryd.func44, Tryd.ntmps44
    go_wp2
    go_ret2
    exact ⟨rfl, rfl⟩
  · have h' : ¬ n < 0 := by omega
    go_enter Tryd.func44, Tryd.ntmps44
    go_wp2
    go_ret2
    exact ⟨rfl, rfl⟩
set_option maxHeartbeats 400000 in
theorem rbits_eof (base p : Nat) (v : Value) (bs : List Nat) (i N : Nat) (w : World) (h : IsR w base p v bs i) (hl : bs.length ≤ 140737488351232) (hi : i ≤ 8 * bs.length) (hN : N ≤ 64) (he : 8 * bs.length < i + N) :
    Calls Tryd.prog 44 #[.pointer (some ⟨p, 0, none⟩), .int .i64 N] w fun e w' => e = .returned (.tuple #[.int .u64 0, .int .i64 3]) ∧ ∃ n, w' = w.drewN n := by
  have hz1' : ¬ (N : Int) < 0 := by omega
  have hz2' : ¬ 64 < (N : Int) := by omega
  have he' : ((8 * bs.length - i : Nat) : Int) < N := by omega
  go_enter Tryd.func44, Tryd.ntmps44
  go_wp2_with (go_at_call 18; refine (left_any base p v bs i _ h hl hi).mono ?_; rintro e w1 ⟨rfl, nq, rfl⟩)
  go_ret2
  exact ⟨rfl, nq, rfl⟩

set_option maxRecDepth 100000 in
set_option maxHeartbeats 1000000 in
theorem rbits_any (base p : Nat) (v : Value) (bs : List Nat) (i N : Nat) (w : World) (h : IsR w base p v bs i) (hl : bs.length ≤ 140737488351232) (hN : N ≤ 64) (he : i + N ≤ 8 * bs.length) :
    Calls Tryd.prog 44 #[.pointer (some ⟨p, 0, none⟩), .int .i64 N] w fun e w' => e = .returned (.tuple #[.int .u64 ((bitsNat (bitsFrom bs i N) : Nat) : Int), .int .i64 0]) ∧ IsR w' base p v bs (i + N) ∧ Keeps (fun k => k = p) w w' := by
  have hz1' : ¬ (N : Int) < 0 := by omega
  have hz2' : ¬ 64 < (N : Int) := by omega
  have he' : ¬ ((8 * bs.length - i : Nat) : Int) < N := by omega
  go_enter Tryd.func44, Tryd.ntmps44
  go_wp2_with (go_at_call 18; refine (left_any base p v bs i _ h hl (by omega)).mono ?_; rintro e w1 ⟨rfl, nq, rfl⟩)
  go_loopw [6, 23] (fun x c wr => ∃ k : Nat, k ≤ N ∧ c = .int .i64 k ∧ x = .int .u64 ((bitsNat (bitsFrom bs i k) : Nat) : Int) ∧ IsR wr base p v bs (i + k) ∧ Keeps (fun k => k = p) w wr) (fun _ c wr => N - (intOf c).toNat)
  case atStart => exact ⟨0, by omega, rfl, by rw [bitsFrom_zero]; rfl, h.drewN _, (Keeps.refl _ _).drewN _⟩
  case round =>
    obtain ⟨k, hk, rfl, rfl, hR, hK⟩ := hrel
    by_cases hlt : k < N
    · have hsucc := bitsFrom_succ bs i k (by omega)
      have hb := bitsFrom_lt bs i k
      have hp : 2 ^ k ≤ 2 ^ 63 := Nat.pow_le_pow_right (by decide) (by omega)
      have hn : bitsNat (bitsFrom bs i (k + 1)) = bitsNat (bitsFrom bs i k) * 2 + (rbit bs (i + k)).toNat := by rw [hsucc, bitsNat_snoc]
      generalize bitsNat (bitsFrom bs i k) = x at *
      have hbt := bool_toNat_le (rbit bs (i + k))
      have hor := or_bit_u64 x (rbit bs (i + k)) (by omega)
      have hx63 : x < 9223372036854775808 := by omega
      obtain ⟨y, hy⟩ : ∃ y, y = x * 2 := ⟨_, rfl⟩
      rw [← hy] at hor
      have hy1 : IntKind.u64.wrap ((x : Int) * 2) = y := by rw [IntWalk.u64_in _ (by omega)]; omega
      have hc0 := hR.cell1
      have hf0 := hR.free 1
      obtain ⟨a, ha⟩ : ∃ a, a = i + k := ⟨_, rfl⟩
      rw [← ha] at hR hor hc0 hbt hn
      have hbit := fun n => bit_any base p v bs a a (wr.drewN n) (hR.drewN n) (by omega) hl
      obtain ⟨z, hz⟩ : ∃ z, z = y + (rbit bs a).toNat := ⟨_, rfl⟩
      have hor' : bits .or .u64 (y : Int) (((rbit bs a).toNat : Nat) : Int) = (z : Int) := by rw [hor, hz, hy]
      have hn' : bitsNat (bitsFrom bs i (k + 1)) = z := by rw [hn, hz, hy]
      have hwa : IntKind.i64.wrap ((a : Int) + 1) = a + 1 := IntWalk.i64_in _ (by omega)
      have Hn := Lib.hid hn'; have Ha := Lib.hid ha; have HR := Lib.hid hR; have HK := Lib.hid hK
      clear hn hsucc hy hz hor hn' ha hR hK hp hb
      generalize (rbit bs a).toNat = r at *
      go_wp2
      go_quiet ((go_at_call 52; exact Calls.quiet_of_same (hbit _)))
      go_wp2
      refine ⟨⟨k + 1, by omega, by go_num, by rw [Hn.out], ?_, ?_⟩, by simp [intOf]; omega⟩
      · rw [show i + (k + 1) = a + 1 by rw [Ha.out]; omega]
        exact (HR.out.drewN nq).step
      · exact (HK.out.drewN nq).setCell (p := ⟨p, 1, none⟩) (fun _ => rfl) _
    · obtain rfl : k = N := by omega
      go_wp2
      go_ret2
      exact ⟨rfl, hR, hK⟩

set_option maxHeartbeats 400000 in
theorem rend_nil (w : World) : Calls Tryd.prog 33 #[.pointer none] w fun e w' => e = .returned (.int .i64 1) ∧ w = w' := by
  go_enter Tryd.func33, Tryd.ntmps33
  go_wp2
  go_ret
  exact ⟨rfl, rfl⟩
/-- what End answers of the bits that remain -/
def endOf (rest : List Bool) : Nat := if 8 ≤ rest.length then 4 else if rest.any id then 4 else 0
theorem endOf_long (bs : List Nat) (i : Nat) (h : i + 8 ≤ 8 * bs.length) : endOf ((unpackB bs).drop i) = 4 := by
  unfold endOf; rw [if_pos]; simp [unpackB_length]; omega
theorem endOf_bit (bs : List Nat) (i k : Nat) (h : i + k < 8 * bs.length) (hb : rbit bs (i + k) = true) : endOf ((unpackB bs).drop i) = 4 := by
  unfold endOf
  split
  · rfl
  · rw [if_pos]
    rw [List.any_eq_true]
    refine ⟨true, ?_, rfl⟩
    have : ((unpackB bs).drop i)[k]? = some true := by rw [List.getElem?_drop, unpackB_get bs _ h, hb]
    exact List.mem_of_getElem? this
theorem endOf_none (bs : List Nat) (i : Nat) (h : 8 * bs.length < i + 8) (hb : ∀ k, i + k < 8 * bs.length → rbit bs (i + k) = false) : endOf ((unpackB bs).drop i) = 0 := by
  unfold endOf
  rw [if_neg (by simp [unpackB_length]; omega), if_neg]
  rw [List.any_eq_true]
  rintro ⟨x, hx, ht⟩
  obtain ⟨k, hk⟩ := List.getElem?_of_mem hx
  rw [List.getElem?_drop] at hk
  by_cases hl : i + k < 8 * bs.length
  · rw [unpackB_get bs _ hl, hb k hl] at hk
    simp only [Option.some.injEq] at hk
    subst hk
    cases ht
  · rw [List.getElem?_eq_none (by rw [unpackB_length]; omega)] at hk
    cases hk

set_option maxRecDepth 100000 in
set_option maxHeartbeats 1000000 in
theorem rend_any (base p : Nat) (v : Value) (bs : List Nat) (i : Nat) (w : World) (h : IsR w base p v bs i) (hl : bs.length ≤ 140737488351232) (hi : i ≤ 8 * bs.length) :
    Calls Tryd.prog 33 #[.pointer (some ⟨p, 0, none⟩)] w fun e w' => e = .returned (.int .i64 ((endOf ((unpackB bs).drop i) : Nat) : Int)) ∧ ∃ n, w' = w.drewN n := by
  obtain ⟨m, hm⟩ : ∃ m, m = 8 * bs.length - i := ⟨_, rfl⟩
  by_cases h8 : 8 ≤ m
  · have he := endOf_long bs i (by omega)
    have Hm := Lib.hid hm
    have h8' : (8 : Int) ≤ m := by omega
    have HE := Lib.hid he
    clear he hm
    go_enter Tryd.func33, Tryd.ntmps33
    go_wp2_with (go_at_call 18; refine (left_any base p v bs i _ h hl hi).mono ?_; rw [← Hm.out]; rintro e w1 ⟨rfl, nq, rfl⟩)
    go_ret
    exact ⟨by rw [HE.out]; rfl, nq, rfl⟩
  · have Hm := Lib.hid hm
    have h8' : ¬ (8 : Int) ≤ m := by omega
    clear hm
    go_enter Tryd.func33, Tryd.ntmps33
    go_wp2_with (go_at_call 18; refine (left_any base p v bs i _ h hl hi).mono ?_; rw [← Hm.out]; rintro e w1 ⟨rfl, nq, rfl⟩)
    go_loopw [12] (fun c wr => ∃ k : Nat, k ≤ m ∧ c = .int .i64 k ∧ (∀ k', k' < k → rbit bs (i + k') = false) ∧ ∃ n, wr = w.drewN n) (fun c wr => m - (intOf c).toNat)
    case atStart => exact ⟨0, by omega, rfl, fun k' hk' => by omega, nq, rfl⟩
    case round =>
      obtain ⟨k, hk, rfl, hall, n1, hwr⟩ := hrel
      have h : IsR wr base p v bs i := by rw [hwr]; exact h.drewN _
      have Hwr := Lib.hid hwr
      clear hwr
      have Hall := Lib.hid hall
      clear hall
      by_cases hlt : k < m
      · have hc1 := h.cell1
        have hj : i + k < 8 * bs.length := by have := Hm.out; omega
        have hbit := fun n => bit_any base p v bs i (i + k) (wr.drewN n) (h.drewN n) hj hl
        have hwa : IntKind.i64.wrap ((i : Int) + k) = ((i + k : Nat) : Int) := by rw [IntWalk.i64_in _ (by omega)]; omega
        obtain ⟨a, ha⟩ : ∃ a, a = i + k := ⟨_, rfl⟩
        rw [← ha] at hbit hwa hj
        have hia : (i : Int) + k = a := by omega
        have hwa2 : IntKind.i64.wrap (a : Int) = a := wrap_nat _ (by omega)
        have Ha := Lib.hid ha
        have H := Lib.hid h
        clear ha h
        cases hb : rbit bs a
        · have hb' : (rbit bs a).toNat = 0 := by rw [hb]; rfl
          rw [hb'] at hbit
          have Hb := Lib.hid hb
          clear hb hb'
          go_wp2
          go_quiet ((go_at_call 52; exact Calls.quiet_of_same (hbit _)))
          go_wp2
          refine ⟨⟨k + 1, by omega, by go_num, fun k' hk' => ?_, n1 + nq, by rw [Hwr.out, World.drewN_drewN]⟩, by simp [intOf]; omega⟩
          rcases Nat.lt_or_ge k' k with h1 | h1
          · exact Hall.out k' h1
          · obtain rfl : k' = k := by omega
            rw [← Ha.out]; exact Hb.out
        · have hb' : (rbit bs a).toNat = 1 := by rw [hb]; rfl
          rw [hb'] at hbit
          have he := endOf_bit bs i k (by rw [← Ha.out]; exact hj) (by rw [← Ha.out]; exact hb)
          have HE := Lib.hid he
          clear hb hb' he
          go_wp2
          go_quiet ((go_at_call 52; exact Calls.quiet_of_same (hbit _)))
          go_wp2
          go_ret
          exact ⟨by rw [HE.out]; rfl, n1 + nq, by rw [Hwr.out, World.drewN_drewN]⟩
      · have he := endOf_none bs i (by have := Hm.out; omega) (fun k' hk' => Hall.out k' (by have := Hm.out; omega))
        have HE := Lib.hid he
        clear he
        go_wp2
        go_ret
        exact ⟨by rw [HE.out]; rfl, n1, Hwr.out⟩
end Go.Proofs.YtdniaingipoggaaDoor
