/-
  Lemmas on which LTopChunks rests, packed out of the texts PRdr WReader PRange2 DRound PTimes PApp2 PArgs WRef01 WLen64 WPack WEqual; each for all arguments under the hypotheses it names.
-/
import Derived.Test.YtfpcgcbehdogjaaGreatDoorT01
import Derived.Deep.QuietTactic
import Derived.BigQuiet
import Derived.IntWalk
import Derived.Laws.Bits64
import Derived.ProofKit
import Derived.OpenShut
import Derived.Deep.Slices
import Derived.Deep.Fields
import Derived.ChangeSame
import Derived.Lib.SmallJoins
import Derived.Lib.Strings
import Derived.Lib.Slices
import Derived.Lib.Small
import Derived.Lib.Walk
import Derived.Lib.BitFns
import Derived.Lib.Tables
import Derived.Deep.Light
namespace Go.Proofs.YtfpcgcbehdogjaaGreatDoor
section
open Go.RowKit
def rbit (bs : List Nat) (i : Nat) : Bool := (bs.getD (i / 8) 0).testBit (7 - i % 8)
def qad (bs : List Nat) : List Bool := (List.range (8 * bs.length)).map (rbit bs)
theorem qaz (bs : List Nat) : (qad bs).length = 8 * bs.length := by simp [qad]
theorem unpackB_get (bs : List Nat) (i : Nat) (h : i < 8 * bs.length) : (qad bs)[i]? = some (rbit bs i) := by simp [qad, h]
def qae (l : List Bool) : Nat := l.foldl (fun x b => x * 2 + b.toNat) 0
theorem bitsNat_nil : qae [] = 0 := rfl
theorem qdg (l : List Bool) (b : Bool) : qae (l ++ [b]) = qae l * 2 + b.toNat := by simp [qae]
theorem snoc_cases {α : Type} (l : List α) : l = [] ∨ ∃ l' x, l = l' ++ [x] := by
 rcases List.eq_nil_or_concat l with h | ⟨l', x, h⟩
 · exact .inl h
 · exact .inr ⟨l', x, by simpa using h⟩
theorem qcw (l : List Bool) : qae l < 2 ^ l.length := by
 have key : ∀ (n : Nat) (l : List Bool), l.length = n → qae l < 2 ^ n := by
  intro n
  induction n with
  | zero => intro l hl; simp [List.eq_nil_of_length_eq_zero hl, qae]
  | succ n ih =>
    intro l hl
    rcases snoc_cases l with rfl | ⟨l', b, rfl⟩
    · simp at hl
    · have := ih l' (by simpa using hl)
      rw [qdg, Nat.pow_succ]
      cases b <;> simp <;> omega
 exact key _ l rfl
def qaw (bs : List Nat) (i n : Nat) : List Bool := ((qad bs).drop i).take n
theorem bitsFrom_zero (bs : List Nat) (i : Nat) : qaw bs i 0 = [] := by simp [qaw]
theorem bitsFrom_succ (bs : List Nat) (i n : Nat) (h : i + n < 8 * bs.length) : qaw bs i (n + 1) = qaw bs i n ++ [rbit bs (i + n)] := by
 unfold qaw
 rw [List.take_add_one, List.getElem?_drop, unpackB_get bs _ h]; rfl
theorem bitsFrom_lt (bs : List Nat) (i n : Nat) : qae (qaw bs i n) < 2 ^ n := by
 have h := qcw (qaw bs i n)
 have h2 : (qaw bs i n).length ≤ n := List.length_take_le _ _
 exact Nat.lt_of_lt_of_le h (Nat.pow_le_pow_right (by decide) h2)
theorem or_bit_u64 (x : Nat) (b : Bool) (h : x * 2 + b.toNat < 18446744073709551616) : bits .or .u64 ((x * 2 : Nat) : Int) ((b.toNat : Nat) : Int) = ((x * 2 + b.toNat : Nat) : Int) := by
 rw [u64_or_nat _ _ (by omega) (by cases b <;> simp)]
 congr 1
 have := nat_join 1 (x * 2) b.toNat (by omega) (by cases b <;> simp)
 exact this
theorem and_one_u64 (x : Nat) (h : x < 18446744073709551616) : bits .and .u64 ((x : Nat) : Int) 1 = ((x % 2 : Nat) : Int) := by
 rw [show (1 : Int) = ((1 : Nat) : Int) from rfl, u64_and_nat _ _ h (by decide)]
 congr 1
 exact Nat.and_one_is_mod x
theorem testBit_toNat (c t : Nat) : (c / 2 ^ t) % 2 = (c.testBit t).toNat := by
 rw [Nat.testBit_eq_decide_div_mod_eq]
 rcases Nat.mod_two_eq_zero_or_one (c / 2 ^ t) with h | h <;> simp [h]
structure IsR (w : World) (base p : Nat) (v : Value) (bs : List Nat) (i : Nat) : Prop where
 blk : w.heap[p]? = some (.cells #[v, .int .i64 (i : Nat)] 113 (0, 0))
 row : w.ownsRow base 5 1 v bs.length (u8s bs)
 base : base ≤ p
 bytes : ∀ c ∈ bs, c < 256
theorem IsR.keeps {S : Nat → Prop} {a b : World} {base p : Nat} {v : Value} {bs : List Nat} {i : Nat} (h : IsR a base p v bs i) (k : Keeps S a b) (hp : ¬ S p) (hv : ∀ g, v.ownBlock = some g → ¬ S g) : IsR b base p v bs i :=
 ⟨k.heap h.blk hp, k.row h.row hv, h.base, h.bytes⟩
theorem IsR.lt {a : World} {base p : Nat} {v : Value} {bs : List Nat} {i : Nat} (h : IsR a base p v bs i) : p < a.heap.size := (Array.getElem?_eq_some_iff.1 h.blk).1
theorem IsR.own_lt {a : World} {base p : Nat} {v : Value} {bs : List Nat} {i : Nat} (h : IsR a base p v bs i) {g : Nat} (hg : v.ownBlock = some g) : g < a.heap.size := (h.row.lt g hg).2
theorem IsR.cell0 {a : World} {base p : Nat} {v : Value} {bs : List Nat} {i : Nat} (h : IsR a base p v bs i) : a.cell? ⟨p, 0, none⟩ = some v := by rw [cell_of_row a p 0 _ _ _ h.blk]; rfl
theorem IsR.cell1 {a : World} {base p : Nat} {v : Value} {bs : List Nat} {i : Nat} (h : IsR a base p v bs i) : a.cell? ⟨p, 1, none⟩ = some (.int .i64 (i : Nat)) := by rw [cell_of_row a p 1 _ _ _ h.blk]; rfl
theorem IsR.free {a : World} {base p : Nat} {v : Value} {bs : List Nat} {i : Nat} (h : IsR a base p v bs i) (j : Nat) : a.frozen? ⟨p, j, none⟩ = false := frozen_of_row a p j _ _ h.blk
theorem IsR.shape {a : World} {base p : Nat} {v : Value} {bs : List Nat} {i : Nat} (h : IsR a base p v bs i) : ∃ ad cap, v = .slice ad bs.length cap := by
 obtain ⟨ad, cap, hv, _⟩ := qaq h.row
 exact ⟨ad, cap, by rw [hv, qac]⟩
theorem IsR.byte {a : World} {base p : Nat} {v : Value} {bs : List Nat} {i : Nat} (h : IsR a base p v bs i) {j : Nat} (hj : j < bs.length) :
 ∃ b off cap, v = .slice (some ⟨b, off, none⟩) bs.length cap ∧ a.cell? ⟨b, off + j, none⟩ = some (.int .u8 ((bs.getD j 0 : Nat) : Int)) ∧ bs.getD j 0 < 256 := by
 obtain ⟨ad, cap, rfl, hc, h' | ⟨bl, off, rfl, hcell⟩⟩ := qaq h.row
 · have : bs = [] := by cases bs <;> simp_all [u8s]
   subst this; simp at hj
 · refine ⟨bl, off, cap, by rw [qac], hcell j _ (by simp [u8s, hj, List.getD_eq_getElem?_getD]), ?_⟩
   have e : bs.getD j 0 = bs[j] := by simp [List.getD_eq_getElem?_getD, hj]
   rw [e]; exact h.bytes _ (List.getElem_mem hj)
theorem IsR.step {a : World} {base p : Nat} {v : Value} {bs : List Nat} {i : Nat} (h : IsR a base p v bs i) : IsR (a.setCell ⟨p, 1, none⟩ (.int .i64 ((i : Int) + 1))) base p v bs (i + 1) := by
 have hs := heap_setCell_same a p 1 _ _ (.int .i64 ((i : Int) + 1)) h.blk
 refine ⟨by simpa using hs, ?_, h.base, h.bytes⟩
 have k : Keeps (fun k => k = p) a (a.setCell ⟨p, 1, none⟩ (.int .i64 ((i : Int) + 1))) := (Keeps.refl (fun k => k = p) a).setCell (p := ⟨p, 1, none⟩) (fun _ => rfl) _
 refine k.row h.row (fun g hg e => ?_)
 obtain ⟨c, hc⟩ := qaj h.row hg
 exact qag hc h.blk (by decide) e
end
section
set_option maxHeartbeats 1000000
set_option maxRecDepth 100000
open Go.RowKit
theorem ret_int {k : IntKind} {a b : Int} (h : a = b) : Ending.returned (.int k a) = .returned (.int k b) := by rw [h]
theorem qaf {w : World} {base : Nat} {e : TypeId} {size : Nat} {v : Value} {n : Nat} {xs : List Value} (h : w.ownsRow base e size v n xs) : ∃ ad cap, v = .slice ad n cap := by
 rcases h.2 with ⟨rfl, h0⟩ | ⟨g, cap, cur, rfl, _⟩
 · exact ⟨none, 0, by rw [h0]⟩
 · exact ⟨_, cap, rfl⟩
theorem newReader_any (base : Nat) (v : Value) (l : List Nat) (w : World) (h : Holds w v (u8s l)) (hx : l.length ≤ 140737488351232) (hb : ∀ c ∈ l, c < 256) (hbase : base ≤ w.heap.size) :
 Calls Tryz.prog 26 #[v] w fun e w' => ∃ q v', e = .returned (.pointer (some ⟨q, 0, none⟩)) ∧ w.heap.size ≤ q ∧ IsR w' base q v' l 0 ∧ (∀ g, v'.ownBlock = some g → w.heap.size ≤ g) ∧ Keeps (fun _ => False) w w' := by
 go_enter Tryz.func26, Tryz.ntmps26
 go_wp2_with (go_at_call 52; refine (qbp v l _ h hx).mono ?_; rintro e w1 ⟨v', rfl, h1, h2⟩; obtain ⟨ad, cap, rfl⟩ := qaf h1)
 go_ret
 have hs := h2.size
 refine ⟨w1.heap.size, _, rfl, hs, ⟨heap_alloc_new _ _, ?_, by omega, hb⟩, fun g hg => (h1.lt g hg).1, h2.alloc _⟩
 exact qam (h1.alloc _) (fun g hg => Nat.le_trans hbase (h1.lt g hg).1)
theorem left_any (base p : Nat) (v : Value) (bs : List Nat) (i : Nat) (w : World) (h : IsR w base p v bs i) (hl : bs.length ≤ 140737488351232) (hi : i ≤ 8 * bs.length) :
 Calls Tryz.prog 55 #[.pointer (some ⟨p, 0, none⟩)] w fun e w' => e = .returned (.int .i64 ((8 * bs.length - i : Nat) : Int)) ∧ ∃ n, w' = w.drewN n := by
 obtain ⟨ad, cap, rfl⟩ := h.shape
 have hc0 := h.cell0
 have hc1 := h.cell1
 have hw1 : IntKind.i64.wrap (8 * (bs.length : Int)) = 8 * bs.length := IntWalk.i64_in _ (by omega)
 have Hi := Hj hi
 clear h hi
 go_enter Tryz.func55, Tryz.ntmps55
 go_wp2
 go_quiet (fail)
 go_wp2
 go_ret
 exact ⟨ret_int (by have := Hi.out; show wrap64 (8 * (bs.length : Int) - i) = _; rw [IntWalk.wrap64_in _ (by omega)]; omega), nq, rfl⟩
theorem bit_any (base p : Nat) (v : Value) (bs : List Nat) (i j : Nat) (w : World) (h : IsR w base p v bs i) (hj : j < 8 * bs.length) (hl : bs.length ≤ 140737488351232) :
 Calls Tryz.prog 56 #[.pointer (some ⟨p, 0, none⟩), .int .i64 j] w fun e w' => e = .returned (.int .u64 (((rbit bs j).toNat : Nat) : Int)) ∧ w' = w := by
 obtain ⟨b, off, cap, rfl, hcell, hlt⟩ := h.byte (j := j / 8) (by omega)
 have hc0 := h.cell0
 have hr : rbit bs j = (bs.getD (j / 8) 0).testBit (7 - j % 8) := rfl
 have ht := testBit_toNat (bs.getD (j / 8) 0) (7 - j % 8)
 rw [← hr] at ht
 generalize bs.getD (j / 8) 0 = c at *
 obtain ⟨q, hq⟩ : ∃ q, q = j / 8 := ⟨_, rfl⟩
 obtain ⟨t, ht'⟩ : ∃ t, t = 7 - j % 8 := ⟨_, rfl⟩
 rw [← hq] at hcell
 rw [← ht'] at ht
 have hd : (j : Int) / 8 = q := by omega
 have hdt : (j : Int).tdiv 8 = q := by rw [Int.tdiv_eq_ediv_of_nonneg (by omega)]; omega
 have hm1 : (7 : Int) - (j : Int) % 8 = t := by omega
 have hm2 : (7 : Int) - (j : Int).tmod 8 = t := by rw [Int.tmod_eq_emod_of_nonneg (by omega)]; omega
 have hqb : (q : Int) < bs.length := by omega
 have ht7 : t ≤ 7 := by omega
 obtain ⟨d, hd1⟩ : ∃ d, d = c / 2 ^ t := ⟨_, rfl⟩
 have hd2 : (c : Int) / 2 ^ t = d := by rw [hd1]; simp
 have hd3 : d < 256 := by rw [hd1]; exact Nat.lt_of_le_of_lt (Nat.div_le_self _ _) hlt
 have hand := and_one_u64 d (by omega)
 rw [← hd1] at ht
 rw [ht] at hand
 clear h hr hq ht' ht hd1 hj
 generalize (rbit bs j).toNat = r at *
 go_enter Tryz.func56, Tryz.ntmps56
 go_wp2
 go_ret
 exact ⟨rfl, rfl⟩
theorem IsR.drewN {a : World} {base p : Nat} {v : Value} {bs : List Nat} {i : Nat} (h : IsR a base p v bs i) (n : Nat) : IsR (a.drewN n) base p v bs i := ⟨h.blk, h.row, h.base, h.bytes⟩
theorem Keeps.drewN {S : Nat → Prop} {a b : World} (h : Keeps S a b) (n : Nat) : Keeps S a (b.drewN n) := ⟨h.os, h.tape, h.output, h.size, h.block⟩
theorem rbits_bad (p : Nat) (n : Int) (w : World) (h : n < 0 ∨ 64 < n) : Calls Tryz.prog 53 #[.pointer (some ⟨p, 0, none⟩), .int .i64 n] w fun e w' => e = .returned (.tuple #[.int .u64 0, .int .i64 2]) ∧ w = w' := by
 rcases h with h | h
 · go_enter Tryz.func53, Tryz.ntmps53
   go_wp2
   go_ret2
   exact ⟨rfl, rfl⟩
 · have h' : ¬ n < 0 := by omega
   go_enter Tryz.func53, Tryz.ntmps53
   go_wp2
   go_ret2
   exact ⟨rfl, rfl⟩
theorem rbits_eof (base p : Nat) (v : Value) (bs : List Nat) (i N : Nat) (w : World) (h : IsR w base p v bs i) (hl : bs.length ≤ 140737488351232) (hi : i ≤ 8 * bs.length) (hN : N ≤ 64) (he : 8 * bs.length < i + N) :
 Calls Tryz.prog 53 #[.pointer (some ⟨p, 0, none⟩), .int .i64 N] w fun e w' => e = .returned (.tuple #[.int .u64 0, .int .i64 3]) ∧ ∃ n, w' = w.drewN n := by
 have hz1' : ¬ (N : Int) < 0 := by omega
 have hz2' : ¬ 64 < (N : Int) := by omega
 have he' : ((8 * bs.length - i : Nat) : Int) < N := by omega
 go_enter Tryz.func53, Tryz.ntmps53
 go_wp2_with (go_at_call 55; refine (left_any base p v bs i _ h hl hi).mono ?_; rintro e w1 ⟨rfl, nq, rfl⟩)
 go_ret2
 exact ⟨rfl, nq, rfl⟩
theorem rbits_any (base p : Nat) (v : Value) (bs : List Nat) (i N : Nat) (w : World) (h : IsR w base p v bs i) (hl : bs.length ≤ 140737488351232) (hN : N ≤ 64) (he : i + N ≤ 8 * bs.length) :
 Calls Tryz.prog 53 #[.pointer (some ⟨p, 0, none⟩), .int .i64 N] w fun e w' => e = .returned (.tuple #[.int .u64 ((qae (qaw bs i N) : Nat) : Int), .int .i64 0]) ∧ IsR w' base p v bs (i + N) ∧ Keeps (fun k => k = p) w w' := by
 have hz1' : ¬ (N : Int) < 0 := by omega
 have hz2' : ¬ 64 < (N : Int) := by omega
 have he' : ¬ ((8 * bs.length - i : Nat) : Int) < N := by omega
 go_enter Tryz.func53, Tryz.ntmps53
 go_wp2_with (go_at_call 55; refine (left_any base p v bs i _ h hl (by omega)).mono ?_; rintro e w1 ⟨rfl, nq, rfl⟩)
 go_loopw [6, 23] (fun x c wr => ∃ k : Nat, k ≤ N ∧ c = .int .i64 k ∧ x = .int .u64 ((qae (qaw bs i k) : Nat) : Int) ∧ IsR wr base p v bs (i + k) ∧ Keeps (fun k => k = p) w wr) (fun _ c wr => N - (intOf c).toNat)
 case atStart => exact ⟨0, by omega, rfl, by rw [bitsFrom_zero]; rfl, h.drewN _, (Keeps.refl _ _).drewN _⟩
 case round =>
  obtain ⟨k, hk, rfl, rfl, hR, hK⟩ := hrel
  by_cases hlt : k < N
  · have hsucc := bitsFrom_succ bs i k (by omega)
    have hb := bitsFrom_lt bs i k
    have hp : 2 ^ k ≤ 2 ^ 63 := Nat.pow_le_pow_right (by decide) (by omega)
    have hn : qae (qaw bs i (k + 1)) = qae (qaw bs i k) * 2 + (rbit bs (i + k)).toNat := by rw [hsucc, qdg]
    generalize qae (qaw bs i k) = x at *
    have hbt := bool_toNat_le (rbit bs (i + k))
    have hor := or_bit_u64 x (rbit bs (i + k)) (by omega)
    have hx63 : x < 9223372036854775808 := by omega
    obtain ⟨y, hy⟩ : ∃ y, y = x * 2 := ⟨_, rfl⟩
    rw [← hy] at hor
    have hy1 : IntKind.u64.wrap ((x : Int) * 2) = y := by rw [IntWalk.u64_in _ (by omega)]; omega
    have hc0 := hR.cell1
    have hf0 := hR.free 1
    obtain ⟨a, ha⟩ : ∃ a, a = i + k := ⟨_, rfl⟩
    rw [← ha] at hR hor hc0 hbt hn
    have hbit := fun n => bit_any base p v bs a a (wr.drewN n) (hR.drewN n) (by omega) hl
    obtain ⟨z, hz⟩ : ∃ z, z = y + (rbit bs a).toNat := ⟨_, rfl⟩
    have hor' : bits .or .u64 (y : Int) (((rbit bs a).toNat : Nat) : Int) = (z : Int) := by rw [hor, hz, hy]
    have hn' : qae (qaw bs i (k + 1)) = z := by rw [hn, hz, hy]
    have hwa : IntKind.i64.wrap ((a : Int) + 1) = a + 1 := IntWalk.i64_in _ (by omega)
    have Hn := Hj hn'; have Ha := Hj ha; have HR := Hj hR; have HK := Hj hK
    clear hn hsucc hy hz hor hn' ha hR hK hp hb
    generalize (rbit bs a).toNat = r at *
    go_wp2
    go_quiet ((go_at_call 56; exact Calls.quiet_of_same (hbit _)))
    go_wp2
    refine ⟨⟨k + 1, by omega, by go_num, by rw [Hn.out], ?_, ?_⟩, by simp [intOf]; omega⟩
    · rw [show i + (k + 1) = a + 1 by rw [Ha.out]; omega]
      exact (HR.out.drewN nq).step
    · exact (HK.out.drewN nq).setCell (p := ⟨p, 1, none⟩) (fun _ => rfl) _
  · obtain rfl : k = N := by omega
    go_wp2
    go_ret2
    exact ⟨rfl, hR, hK⟩
def endOf (rest : List Bool) : Nat := if 8 ≤ rest.length then 4 else if rest.any id then 4 else 0
theorem endOf_long (bs : List Nat) (i : Nat) (h : i + 8 ≤ 8 * bs.length) : endOf ((qad bs).drop i) = 4 := by
 unfold endOf; rw [if_pos]; simp [qaz]; omega
theorem endOf_bit (bs : List Nat) (i k : Nat) (h : i + k < 8 * bs.length) (hb : rbit bs (i + k) = true) : endOf ((qad bs).drop i) = 4 := by
 unfold endOf
 split
 · rfl
 · rw [if_pos]
   rw [List.any_eq_true]
   refine ⟨true, ?_, rfl⟩
   have : ((qad bs).drop i)[k]? = some true := by rw [List.getElem?_drop, unpackB_get bs _ h, hb]
   exact List.mem_of_getElem? this
theorem endOf_none (bs : List Nat) (i : Nat) (h : 8 * bs.length < i + 8) (hb : ∀ k, i + k < 8 * bs.length → rbit bs (i + k) = false) : endOf ((qad bs).drop i) = 0 := by
 unfold endOf
 rw [if_neg (by simp [qaz]; omega), if_neg]
 rw [List.any_eq_true]
 rintro ⟨x, hx, ht⟩
 obtain ⟨k, hk⟩ := List.getElem?_of_mem hx
 rw [List.getElem?_drop] at hk
 by_cases hl : i + k < 8 * bs.length
 · rw [unpackB_get bs _ hl, hb k hl] at hk
   simp only [Option.some.injEq] at hk
   subst hk
   cases ht
 · rw [List.getElem?_eq_none (by rw [qaz]; omega)] at hk
   cases hk
theorem rend_any (base p : Nat) (v : Value) (bs : List Nat) (i : Nat) (w : World) (h : IsR w base p v bs i) (hl : bs.length ≤ 140737488351232) (hi : i ≤ 8 * bs.length) :
 Calls Tryz.prog 28 #[.pointer (some ⟨p, 0, none⟩)] w fun e w' => e = .returned (.int .i64 ((endOf ((qad bs).drop i) : Nat) : Int)) ∧ ∃ n, w' = w.drewN n := by
 obtain ⟨m, hm⟩ : ∃ m, m = 8 * bs.length - i := ⟨_, rfl⟩
 by_cases h8 : 8 ≤ m
 · have he := endOf_long bs i (by omega)
   have Hm := Hj hm
   have h8' : (8 : Int) ≤ m := by omega
   have HE := Hj he
   clear he hm
   go_enter Tryz.func28, Tryz.ntmps28
   go_wp2_with (go_at_call 55; refine (left_any base p v bs i _ h hl hi).mono ?_; rw [← Hm.out]; rintro e w1 ⟨rfl, nq, rfl⟩)
   go_ret
   exact ⟨by rw [HE.out]; rfl, nq, rfl⟩
 · have Hm := Hj hm
   have h8' : ¬ (8 : Int) ≤ m := by omega
   clear hm
   go_enter Tryz.func28, Tryz.ntmps28
   go_wp2_with (go_at_call 55; refine (left_any base p v bs i _ h hl hi).mono ?_; rw [← Hm.out]; rintro e w1 ⟨rfl, nq, rfl⟩)
   go_loopw [12] (fun c wr => ∃ k : Nat, k ≤ m ∧ c = .int .i64 k ∧ (∀ k', k' < k → rbit bs (i + k') = false) ∧ ∃ n, wr = w.drewN n) (fun c wr => m - (intOf c).toNat)
   case atStart => exact ⟨0, by omega, rfl, fun k' hk' => by omega, nq, rfl⟩
   case round =>
    obtain ⟨k, hk, rfl, hall, n1, hwr⟩ := hrel
    have h : IsR wr base p v bs i := by rw [hwr]; exact h.drewN _
    have Hwr := Hj hwr
    clear hwr
    have Hall := Hj hall
    clear hall
    by_cases hlt : k < m
    · have hc1 := h.cell1
      have hj : i + k < 8 * bs.length := by have := Hm.out; omega
      have hbit := fun n => bit_any base p v bs i (i + k) (wr.drewN n) (h.drewN n) hj hl
      have hwa : IntKind.i64.wrap ((i : Int) + k) = ((i + k : Nat) : Int) := by rw [IntWalk.i64_in _ (by omega)]; omega
      obtain ⟨a, ha⟩ : ∃ a, a = i + k := ⟨_, rfl⟩
      rw [← ha] at hbit hwa hj
      have hia : (i : Int) + k = a := by omega
      have hwa2 : IntKind.i64.wrap (a : Int) = a := qbk _ (by omega)
      have Ha := Hj ha
      have H := Hj h
      clear ha h
      cases hb : rbit bs a
      · have hb' : (rbit bs a).toNat = 0 := by rw [hb]; rfl
        rw [hb'] at hbit
        have Hb := Hj hb
        clear hb hb'
        go_wp2
        go_quiet ((go_at_call 56; exact Calls.quiet_of_same (hbit _)))
        go_wp2
        refine ⟨⟨k + 1, by omega, by go_num, fun k' hk' => ?_, n1 + nq, by rw [Hwr.out, World.drewN_drewN]⟩, by simp [intOf]; omega⟩
        rcases Nat.lt_or_ge k' k with h1 | h1
        · exact Hall.out k' h1
        · obtain rfl : k' = k := by omega
          rw [← Ha.out]; exact Hb.out
      · have hb' : (rbit bs a).toNat = 1 := by rw [hb]; rfl
        rw [hb'] at hbit
        have he := endOf_bit bs i k (by rw [← Ha.out]; exact hj) (by rw [← Ha.out]; exact hb)
        have HE := Hj he
        clear hb hb' he
        go_wp2
        go_quiet ((go_at_call 56; exact Calls.quiet_of_same (hbit _)))
        go_wp2
        go_ret
        exact ⟨by rw [HE.out]; rfl, n1 + nq, by rw [Hwr.out, World.drewN_drewN]⟩
    · have he := endOf_none bs i (by have := Hm.out; omega) (fun k' hk' => Hall.out k' (by have := Hm.out; omega))
      have HE := Hj he
      clear he
      go_wp2
      go_ret
      exact ⟨by rw [HE.out]; rfl, n1, Hwr.out⟩
end
section
open Go.RowKit
def SeqR {α : Type} (P : Program) (g : Nat) (lb : Array Value) (encs : α → Array Value) (own tr : Nat → Prop) (S Sp : List α → Prop) (w : World) : Prop :=
 ∀ (l : Nat) (J Jx : List α → World → Prop) (W : World), Keeps (fun k => ¬ own k) w W →
  (∀ s A B, J s A → Keeps tr A B → J s B) → (∀ s A B, Jx s A → Keeps tr A B → Jx s B) →
  (∀ pre x W1, J pre W1 → Sp (pre ++ [x]) → YieldAt Fence.wide 0 P l (encs x) W1 fun e W' =>
    (e = .returned (.bool true) ∧ J (pre ++ [x]) W' ∧ Keeps (fun k => ¬ own k) W1 W') ∨ (e = .returned (.bool false) ∧ Jx (pre ++ [x]) W' ∧ Keeps (fun k => ¬ own k) W1 W')) →
  J [] W →
  CallsIn Fence.wide 0 P g (#[.func (.yield l) #[] #[]] ++ lb) W fun e W' => (∃ v, e = .returned v) ∧ ((∃ xs, S xs ∧ J xs W') ∨ (∃ pre, Sp pre ∧ Jx pre W'))
theorem SeqR.later {α : Type} {P : Program} {g : Nat} {lb : Array Value} {encs : α → Array Value} {own tr : Nat → Prop} {S Sp : List α → Prop} {w w' : World} (h : SeqR P g lb encs own tr S Sp w) (k : Keeps (fun k => ¬ own k) w w') : SeqR P g lb encs own tr S Sp w' :=
 fun l J Jx W hW => h l J Jx W (k.trans hW (fun _ _ h => h))
variable {P : Program}
theorem qbl {α : Type} {g : Operand} {ps : Array Tmp} {assign body : Code} {Q : Exit → Act → World → Prop} {a : Act} {w : World}
 {gf : Nat} {lb : Array Value} (hg : a.eval g = .func (.func gf) #[] lb) (eg : ∀ args w, (callFunc gf args).run P w = .ok (.enter gf args) w)
 {encs : α → Array Value} {own tr T : Nat → Prop} {S Sp : List α → Prop} (hseq : SeqR P gf lb encs own tr S Sp w) (hps : ∀ x, (encs x).size = ps.size)
 (htr : ∀ k, tr k → own k) (hown : ∀ k, own k → k < w.heap.size) (hT : ∀ k, T k → ¬ own k) (hT2 : ∀ k, T k → k < w.heap.size ∨ w.heap.size + 2 ≤ k)
 (I : List α → World → Prop) (Ix : Code → List α → World → Prop)
 (hI : ∀ s A B, I s A → Keeps (fun k => tr k ∨ k = w.heap.size ∨ k = w.heap.size + 1) A B → I s B)
 (hIx : ∀ c s A B, Ix c s A → Keeps (fun k => tr k ∨ k = w.heap.size ∨ k = w.heap.size + 1) A B → Ix c s B) (h0 : I [] w) (a₁ : α → Act)
 (hassign : ∀ (l : Nat) (x : α) (W : World) (K : Act → World → Prop), K (a₁ x) W →
   assign.wpIn (Fence.wide.inRound l) 0 P (Exit.then K (fun _ _ _ => False)) { tmps := (ps.zip (encs x)).foldl (fun t (p, v) => t.setIfInBounds p v) a.tmps, defers := [] } W)
 (hbody : ∀ (l : Nat) (pre : List α) (x : α) (W : World), I pre W → Sp (pre ++ [x]) → w.heap.size + 2 ≤ W.heap.size → body.wpIn (Fence.wide.inRound l) 0 P (bodyC T I Ix (pre ++ [x]) W) (a₁ x) W)
 (hdone : ∀ (D : Nat) (xs : List α) (W : World), S xs → I xs W → w.heap.size ≤ D → W.heap[D]? = some (.deferred (some [])) → Q .normal { a with defers := { target := .collected D, args := #[] } :: a.defers } W)
 (hstop : ∀ (D : Nat) (c : Code) (pre : List α) (W : World), Sp pre → Ix c pre W → w.heap.size ≤ D → W.heap[D]? = some (.deferred (some [])) → c.wpIn Fence.wide 0 P Q { a with defers := { target := .collected D, args := #[] } :: a.defers } W) :
 (Code.rangeFunc g ps assign body).wpIn Fence.wide 0 P Q a w := by
 refine wpIn_rangeFunc ?_
 intro fn hfn
 obtain ⟨rec, hrec⟩ : ∃ rec : LoopState → Option Code → Loop, rec = fun st pe => { state := st, pending := pe, fn, tmps := a.tmps, params := ps, assign, body, defers := w.heap.size } := ⟨_, rfl⟩
 obtain ⟨W1, hW1⟩ : ∃ W1, (w.alloc (.deferred (some []))).alloc (.loop (rec .ready none)) = W1 := ⟨_, rfl⟩
 have hL1 : W1.heap[w.heap.size + 1]? = some (.loop (rec .ready none)) := by
  rw [← hW1]; have := World.alloc_heap_new (w.alloc (.deferred (some []))) (.loop (rec .ready none)); rwa [World.size_alloc] at this
 have hK1 : W1.heap[w.heap.size]? = some (.deferred (some [])) := by
  rw [← hW1]; exact (Below.heap_alloc _ _ _ (by simp)).trans (World.alloc_heap_new w _)
 have hKW : ∀ S : Nat → Prop, Keeps S w W1 := fun S => by rw [← hW1]; exact ((Keeps.refl S w).alloc _).alloc _
 have hI1 : I [] W1 := hI _ _ _ h0 (hKW _)
 refine ⟨w.heap.size + 1, [{ target := .collected w.heap.size, args := #[] }], W1, { target := .fn (.func gf) lb, args := #[.func (.yield (w.heap.size + 1)) #[] #[]] }, W1, gf,
  #[.func (.yield (w.heap.size + 1)) #[] #[]] ++ lb, W1, ?_, ?_, ?_, ?_, (fun h => by cases h), ?_⟩
 · rw [← hW1, hrec]; exact run_enterLoop_outer _ _ _ _ _
 · simp only [resolve, hg]
   simp [go_sem]
 · intro f' _; exact trivial
 · simp [invoke, go_sem, eg]
 · have hDown : ¬ own w.heap.size := fun h => by have := hown _ h; omega
   have hLown : ¬ own (w.heap.size + 1) := fun h => by have := hown _ h; omega
   refine (hseq (w.heap.size + 1)
    (fun pre W => (I pre W ∧ w.heap.size + 2 ≤ W.heap.size) ∧ W.heap[w.heap.size + 1]? = some (.loop (rec .ready none)) ∧ W.heap[w.heap.size]? = some (.deferred (some [])))
    (fun pre W => ∃ c, Ix c pre W ∧ W.heap[w.heap.size + 1]? = some (.loop (rec .done (some c))) ∧ W.heap[w.heap.size]? = some (.deferred (some [])))
    W1 (hKW _)
    (fun s A B hs k => ⟨⟨hI s A B hs.1.1 (k.mono (fun _ _ h => .inl h)), Nat.le_trans hs.1.2 k.size⟩, k.heap hs.2.1 (fun h => hLown (htr _ h)), k.heap hs.2.2 (fun h => hDown (htr _ h))⟩)
    (fun s A B hs k => by
      obtain ⟨c, hc, hl, hk⟩ := hs
      exact ⟨c, hIx c s A B hc (k.mono (fun _ _ h => .inl h)), k.heap hl (fun h => hLown (htr _ h)), k.heap hk (fun h => hDown (htr _ h))⟩)
    ?_ ⟨⟨hI1, by have := (Array.getElem?_eq_some_iff.1 hL1).1; omega⟩, hL1, hK1⟩).mono ?_
   · rintro pre x W ⟨⟨hi, hsz⟩, hl, hk⟩ hsp
     have hlt : w.heap.size + 1 < W.heap.size := (Array.getElem?_eq_some_iff.1 hl).1
     have hy := run_yield (P := P) (args := encs x) hl (by rw [hrec]; exact hps x)
     rw [hrec] at hy
     refine ⟨fn, _, assign, body, hy, roundIn_of_wpIn hfn (hassign _ x W _ ⟨_, run_beginRound hl (by rw [hrec]), ?_⟩)⟩
     have hl2 : (W.putObj (w.heap.size + 1) (.loop { rec .ready none with state := .busy })).heap[w.heap.size + 1]? = some (.loop { rec .ready none with state := .busy }) := World.putObj_heap_same hlt
     have hk2 : (W.putObj (w.heap.size + 1) (.loop { rec .ready none with state := .busy })).heap[w.heap.size]? = some (.deferred (some [])) := (World.putObj_heap_other (by omega)).trans hk
     have hw2 : Keeps (fun k => ¬ own k) W (W.putObj (w.heap.size + 1) (.loop { rec .ready none with state := .busy })) := Keeps.putObj _ _ _ hLown
     have hi2 := hI _ _ _ hi (Keeps.putObj W (w.heap.size + 1) (.loop { rec .ready none with state := .busy }) (.inr (.inr rfl)))
     have hTn : ¬ T (w.heap.size + 1) := fun h => by rcases hT2 _ h with h | h <;> omega
     have hTd : ¬ T w.heap.size := fun h => by rcases hT2 _ h with h | h <;> omega
     refine wpIn_mono (hbody _ pre x _ hi2 hsp (by simpa using hsz)) ?_
     have fin : ∀ (jump : Option Code) (W3 : World), Keeps T (W.putObj (w.heap.size + 1) (.loop { rec .ready none with state := .busy })) W3 →
      (Instr.endRound (w.heap.size + 1) jump).run P W3 = .ok (.bool jump.isNone) (W3.putObj (w.heap.size + 1) (.loop (rec (if jump.isNone then .ready else .done) jump))) ∧
      w.heap.size + 2 ≤ W3.heap.size ∧
      (W3.putObj (w.heap.size + 1) (.loop (rec (if jump.isNone then .ready else .done) jump))).heap[w.heap.size + 1]? = some (.loop (rec (if jump.isNone then .ready else .done) jump)) ∧
      (W3.putObj (w.heap.size + 1) (.loop (rec (if jump.isNone then .ready else .done) jump))).heap[w.heap.size]? = some (.deferred (some [])) := fun jump W3 hk3 => by
      have hl3 := hk3.heap hl2 hTn
      have hr := run_endRound (P := P) jump hl3
      rw [hrec] at hr ⊢
      have hlt3 := (Array.getElem?_eq_some_iff.1 hl3).1
      exact ⟨hr, by omega, World.putObj_heap_same hlt3, (World.putObj_heap_other (by omega)).trans (hk3.heap hk2 hTd)⟩
     have put : ∀ (s : List α) (jump : Option Code) (W3 : World), I s W3 → I s (W3.putObj (w.heap.size + 1) (.loop (rec (if jump.isNone then .ready else .done) jump))) := fun s jump W3 h => hI _ _ _ h (Keeps.putObj _ _ _ (.inr (.inr rfl)))
     have putx : ∀ (c : Code) (s : List α) (jump : Option Code) (W3 : World), Ix c s W3 → Ix c s (W3.putObj (w.heap.size + 1) (.loop (rec (if jump.isNone then .ready else .done) jump))) := fun c s jump W3 h => hIx _ _ _ _ h (Keeps.putObj _ _ _ (.inr (.inr rfl)))
     rintro e a3 W3 hp
     cases e with
     | normal =>
       obtain ⟨hk3, hi3⟩ := hp
       obtain ⟨hr, hs3, hl4, hk4⟩ := fin none W3 hk3
       refine ⟨_, _, hr, .inl ⟨rfl, ⟨⟨put _ none _ hi3, by simpa using hs3⟩, hl4, hk4⟩, ?_⟩⟩
       exact (hw2.trans hk3 (fun k _ h => hT k h)).trans (Keeps.putObj (S := fun k => ¬ own k) _ _ _ hLown) (fun _ _ h => h)
     | ret =>
       obtain ⟨hk3, hi3⟩ := hp
       obtain ⟨hr, hs3, hl4, hk4⟩ := fin (some .ret) W3 hk3
       exact ⟨_, _, hr, .inr ⟨rfl, ⟨.ret, putx _ _ (some .ret) _ hi3, hl4, hk4⟩, (hw2.trans hk3 (fun k _ h => hT k h)).trans (Keeps.putObj (S := fun k => ¬ own k) _ _ _ hLown) (fun _ _ h => h)⟩⟩
     | exit id =>
       obtain ⟨hk3, hi3⟩ := hp
       obtain ⟨hr, hs3, hl4, hk4⟩ := fin (some (.exit id)) W3 hk3
       exact ⟨_, _, hr, .inr ⟨rfl, ⟨.exit id, putx _ _ (some (.exit id)) _ hi3, hl4, hk4⟩, (hw2.trans hk3 (fun k _ h => hT k h)).trans (Keeps.putObj (S := fun k => ¬ own k) _ _ _ hLown) (fun _ _ h => h)⟩⟩
     | goto t =>
       obtain ⟨hk3, hi3⟩ := hp
       obtain ⟨hr, hs3, hl4, hk4⟩ := fin (some (.goto t)) W3 hk3
       exact ⟨_, _, hr, .inr ⟨rfl, ⟨.goto t, putx _ _ (some (.goto t)) _ hi3, hl4, hk4⟩, (hw2.trans hk3 (fun k _ h => hT k h)).trans (Keeps.putObj (S := fun k => ¬ own k) _ _ _ hLown) (fun _ _ h => h)⟩⟩
     | panic ch => exact hp.elim
     | outgrown => exact hp.elim
   · rintro e W2 ⟨⟨v, rfl⟩, (⟨xs, hS, ⟨hi, _⟩, hl, hk⟩ | ⟨pre, hSp, c, hi, hl, hk⟩)⟩
     · exact ⟨none, _, by have := run_endLoop (P := P) hl (by rw [hrec]; simp); rw [hrec] at this; exact this, hdone _ xs _ hS (hI _ _ _ hi (Keeps.putObj _ _ _ (.inr (.inr rfl)))) (Nat.le_refl _) ((World.putObj_heap_other (by omega)).trans hk)⟩
     · exact ⟨some c, _, by have := run_endLoop (P := P) hl (by rw [hrec]; simp); rw [hrec] at this; exact this, hstop _ c pre _ hSp (hIx _ _ _ _ hi (Keeps.putObj _ _ _ (.inr (.inr rfl)))) (Nat.le_refl _) ((World.putObj_heap_other (by omega)).trans hk)⟩
theorem wpIn_rangeFunc_d {α : Type} {g : Operand} {ps : Array Tmp} {assign body : Code} {Q : Exit → Act → World → Prop} {a : Act} {w : World}
 {gf : Nat} {lb : Array Value} (hg : a.eval g = .func (.func gf) #[] lb) (eg : ∀ args w, (callFunc gf args).run P w = .ok (.enter gf args) w)
 {encs : α → Array Value} {own tr T : Nat → Prop} {S Sp : List α → Prop} (hseq : SeqR P gf lb encs own tr S Sp w) (hps : ∀ x, (encs x).size = ps.size)
 (htr : ∀ k, tr k → own k) (hown : ∀ k, own k → k < w.heap.size) (hT : ∀ k, T k → ¬ own k) (hT2 : ∀ k, T k → k < w.heap.size ∨ w.heap.size + 2 ≤ k)
 (I : List α → World → Prop) (Ix : Code → List α → World → Prop)
 (hI : ∀ s A B, I s A → Keeps (fun k => tr k ∨ k = w.heap.size ∨ k = w.heap.size + 1) A B → I s B)
 (hIx : ∀ c s A B, Ix c s A → Keeps (fun k => tr k ∨ k = w.heap.size ∨ k = w.heap.size + 1) A B → Ix c s B) (h0 : I [] w) (a₁ : α → Nat → Act) (cs : α → Array Value) (ty : TypeId)
 (hassign : ∀ (l : Nat) (x : α) (W : World) (K : Act → World → Prop), K (a₁ x W.heap.size) (W.alloc (.cells (cs x) ty)) →
   assign.wpIn (Fence.wide.inRound l) 0 P (Exit.then K (fun _ _ _ => False)) { tmps := (ps.zip (encs x)).foldl (fun t (p, v) => t.setIfInBounds p v) a.tmps, defers := [] } W)
 (hbody : ∀ (l D : Nat) (pre : List α) (x : α) (W : World), I pre W → Sp (pre ++ [x]) → w.heap.size + 2 ≤ W.heap.size → W.heap[D]? = some (.cells (cs x) ty (0, 0)) → w.heap.size + 2 ≤ D → body.wpIn (Fence.wide.inRound l) 0 P (bodyC T I Ix (pre ++ [x]) W) (a₁ x D) W)
 (hdone : ∀ (D : Nat) (xs : List α) (W : World), S xs → I xs W → w.heap.size ≤ D → W.heap[D]? = some (.deferred (some [])) → Q .normal { a with defers := { target := .collected D, args := #[] } :: a.defers } W)
 (hstop : ∀ (D : Nat) (c : Code) (pre : List α) (W : World), Sp pre → Ix c pre W → w.heap.size ≤ D → W.heap[D]? = some (.deferred (some [])) → c.wpIn Fence.wide 0 P Q { a with defers := { target := .collected D, args := #[] } :: a.defers } W) :
 (Code.rangeFunc g ps assign body).wpIn Fence.wide 0 P Q a w := by
 refine wpIn_rangeFunc ?_
 intro fn hfn
 obtain ⟨rec, hrec⟩ : ∃ rec : LoopState → Option Code → Loop, rec = fun st pe => { state := st, pending := pe, fn, tmps := a.tmps, params := ps, assign, body, defers := w.heap.size } := ⟨_, rfl⟩
 obtain ⟨W1, hW1⟩ : ∃ W1, (w.alloc (.deferred (some []))).alloc (.loop (rec .ready none)) = W1 := ⟨_, rfl⟩
 have hL1 : W1.heap[w.heap.size + 1]? = some (.loop (rec .ready none)) := by
  rw [← hW1]; have := World.alloc_heap_new (w.alloc (.deferred (some []))) (.loop (rec .ready none)); rwa [World.size_alloc] at this
 have hK1 : W1.heap[w.heap.size]? = some (.deferred (some [])) := by
  rw [← hW1]; exact (Below.heap_alloc _ _ _ (by simp)).trans (World.alloc_heap_new w _)
 have hKW : ∀ S : Nat → Prop, Keeps S w W1 := fun S => by rw [← hW1]; exact ((Keeps.refl S w).alloc _).alloc _
 have hI1 : I [] W1 := hI _ _ _ h0 (hKW _)
 refine ⟨w.heap.size + 1, [{ target := .collected w.heap.size, args := #[] }], W1, { target := .fn (.func gf) lb, args := #[.func (.yield (w.heap.size + 1)) #[] #[]] }, W1, gf,
  #[.func (.yield (w.heap.size + 1)) #[] #[]] ++ lb, W1, ?_, ?_, ?_, ?_, (fun h => by cases h), ?_⟩
 · rw [← hW1, hrec]; exact run_enterLoop_outer _ _ _ _ _
 · simp only [resolve, hg]
   simp [go_sem]
 · intro f' _; exact trivial
 · simp [invoke, go_sem, eg]
 · have hDown : ¬ own w.heap.size := fun h => by have := hown _ h; omega
   have hLown : ¬ own (w.heap.size + 1) := fun h => by have := hown _ h; omega
   refine (hseq (w.heap.size + 1)
    (fun pre W => (I pre W ∧ w.heap.size + 2 ≤ W.heap.size) ∧ W.heap[w.heap.size + 1]? = some (.loop (rec .ready none)) ∧ W.heap[w.heap.size]? = some (.deferred (some [])))
    (fun pre W => ∃ c, Ix c pre W ∧ W.heap[w.heap.size + 1]? = some (.loop (rec .done (some c))) ∧ W.heap[w.heap.size]? = some (.deferred (some [])))
    W1 (hKW _)
    (fun s A B hs k => ⟨⟨hI s A B hs.1.1 (k.mono (fun _ _ h => .inl h)), Nat.le_trans hs.1.2 k.size⟩, k.heap hs.2.1 (fun h => hLown (htr _ h)), k.heap hs.2.2 (fun h => hDown (htr _ h))⟩)
    (fun s A B hs k => by
      obtain ⟨c, hc, hl, hk⟩ := hs
      exact ⟨c, hIx c s A B hc (k.mono (fun _ _ h => .inl h)), k.heap hl (fun h => hLown (htr _ h)), k.heap hk (fun h => hDown (htr _ h))⟩)
    ?_ ⟨⟨hI1, by have := (Array.getElem?_eq_some_iff.1 hL1).1; omega⟩, hL1, hK1⟩).mono ?_
   · rintro pre x W ⟨⟨hi, hsz⟩, hl, hk⟩ hsp
     have hlt : w.heap.size + 1 < W.heap.size := (Array.getElem?_eq_some_iff.1 hl).1
     have hy := run_yield (P := P) (args := encs x) hl (by rw [hrec]; exact hps x)
     rw [hrec] at hy
     obtain ⟨WA, hWA⟩ : ∃ WA, WA = W.alloc (.cells (cs x) ty) := ⟨_, rfl⟩
     have hKA : ∀ S : Nat → Prop, Keeps S W WA := fun S => by rw [hWA]; exact (Keeps.refl S W).alloc _
     have hDA : WA.heap[W.heap.size]? = some (.cells (cs x) ty (0, 0)) := by rw [hWA]; exact heap_alloc_new _ _
     have hlA : WA.heap[w.heap.size + 1]? = some (.loop (rec .ready none)) := (hKA (fun _ => False)).heap hl (fun h => h)
     have hkA : WA.heap[w.heap.size]? = some (.deferred (some [])) := (hKA (fun _ => False)).heap hk (fun h => h)
     have hiA : I pre WA := hI _ _ _ hi (hKA _)
     refine ⟨fn, _, assign, body, hy, roundIn_of_wpIn hfn (hassign _ x W _ ⟨_, (by rw [← hWA]; exact run_beginRound hlA (by rw [hrec])), ?_⟩)⟩
     have hltA : w.heap.size + 1 < WA.heap.size := (Array.getElem?_eq_some_iff.1 hlA).1
     have hl2 : (WA.putObj (w.heap.size + 1) (.loop { rec .ready none with state := .busy })).heap[w.heap.size + 1]? = some (.loop { rec .ready none with state := .busy }) := World.putObj_heap_same hltA
     have hk2 : (WA.putObj (w.heap.size + 1) (.loop { rec .ready none with state := .busy })).heap[w.heap.size]? = some (.deferred (some [])) := (World.putObj_heap_other (by omega)).trans hkA
     have hw2 : Keeps (fun k => ¬ own k) W (WA.putObj (w.heap.size + 1) (.loop { rec .ready none with state := .busy })) := (hKA (fun k => ¬ own k)).trans (Keeps.putObj _ _ _ hLown) (fun _ _ h => h)
     have hi2 := hI _ _ _ hiA (Keeps.putObj WA (w.heap.size + 1) (.loop { rec .ready none with state := .busy }) (.inr (.inr rfl)))
     have hD2 : (WA.putObj (w.heap.size + 1) (.loop { rec .ready none with state := .busy })).heap[W.heap.size]? = some (.cells (cs x) ty (0, 0)) := (World.putObj_heap_other (by omega)).trans hDA
     have hTn : ¬ T (w.heap.size + 1) := fun h => by rcases hT2 _ h with h | h <;> omega
     have hTd : ¬ T w.heap.size := fun h => by rcases hT2 _ h with h | h <;> omega
     have hszA : w.heap.size + 2 ≤ (WA.putObj (w.heap.size + 1) (.loop { rec .ready none with state := .busy })).heap.size := by simp; omega
     refine wpIn_mono (hbody _ W.heap.size pre x _ hi2 hsp hszA hD2 (by omega)) ?_
     have fin : ∀ (jump : Option Code) (W3 : World), Keeps T (WA.putObj (w.heap.size + 1) (.loop { rec .ready none with state := .busy })) W3 →
      (Instr.endRound (w.heap.size + 1) jump).run P W3 = .ok (.bool jump.isNone) (W3.putObj (w.heap.size + 1) (.loop (rec (if jump.isNone then .ready else .done) jump))) ∧
      w.heap.size + 2 ≤ W3.heap.size ∧
      (W3.putObj (w.heap.size + 1) (.loop (rec (if jump.isNone then .ready else .done) jump))).heap[w.heap.size + 1]? = some (.loop (rec (if jump.isNone then .ready else .done) jump)) ∧
      (W3.putObj (w.heap.size + 1) (.loop (rec (if jump.isNone then .ready else .done) jump))).heap[w.heap.size]? = some (.deferred (some [])) := fun jump W3 hk3 => by
      have hl3 := hk3.heap hl2 hTn
      have hr := run_endRound (P := P) jump hl3
      rw [hrec] at hr ⊢
      have hlt3 := (Array.getElem?_eq_some_iff.1 hl3).1
      exact ⟨hr, by omega, World.putObj_heap_same hlt3, (World.putObj_heap_other (by omega)).trans (hk3.heap hk2 hTd)⟩
     have put : ∀ (s : List α) (jump : Option Code) (W3 : World), I s W3 → I s (W3.putObj (w.heap.size + 1) (.loop (rec (if jump.isNone then .ready else .done) jump))) := fun s jump W3 h => hI _ _ _ h (Keeps.putObj _ _ _ (.inr (.inr rfl)))
     have putx : ∀ (c : Code) (s : List α) (jump : Option Code) (W3 : World), Ix c s W3 → Ix c s (W3.putObj (w.heap.size + 1) (.loop (rec (if jump.isNone then .ready else .done) jump))) := fun c s jump W3 h => hIx _ _ _ _ h (Keeps.putObj _ _ _ (.inr (.inr rfl)))
     rintro e a3 W3 hp
     cases e with
     | normal =>
       obtain ⟨hk3, hi3⟩ := hp
       obtain ⟨hr, hs3, hl4, hk4⟩ := fin none W3 hk3
       refine ⟨_, _, hr, .inl ⟨rfl, ⟨⟨put _ none _ hi3, by simpa using hs3⟩, hl4, hk4⟩, ?_⟩⟩
       exact (hw2.trans hk3 (fun k _ h => hT k h)).trans (Keeps.putObj (S := fun k => ¬ own k) _ _ _ hLown) (fun _ _ h => h)
     | ret =>
       obtain ⟨hk3, hi3⟩ := hp
       obtain ⟨hr, hs3, hl4, hk4⟩ := fin (some .ret) W3 hk3
       exact ⟨_, _, hr, .inr ⟨rfl, ⟨.ret, putx _ _ (some .ret) _ hi3, hl4, hk4⟩, (hw2.trans hk3 (fun k _ h => hT k h)).trans (Keeps.putObj (S := fun k => ¬ own k) _ _ _ hLown) (fun _ _ h => h)⟩⟩
     | exit id =>
       obtain ⟨hk3, hi3⟩ := hp
       obtain ⟨hr, hs3, hl4, hk4⟩ := fin (some (.exit id)) W3 hk3
       exact ⟨_, _, hr, .inr ⟨rfl, ⟨.exit id, putx _ _ (some (.exit id)) _ hi3, hl4, hk4⟩, (hw2.trans hk3 (fun k _ h => hT k h)).trans (Keeps.putObj (S := fun k => ¬ own k) _ _ _ hLown) (fun _ _ h => h)⟩⟩
     | goto t =>
       obtain ⟨hk3, hi3⟩ := hp
       obtain ⟨hr, hs3, hl4, hk4⟩ := fin (some (.goto t)) W3 hk3
       exact ⟨_, _, hr, .inr ⟨rfl, ⟨.goto t, putx _ _ (some (.goto t)) _ hi3, hl4, hk4⟩, (hw2.trans hk3 (fun k _ h => hT k h)).trans (Keeps.putObj (S := fun k => ¬ own k) _ _ _ hLown) (fun _ _ h => h)⟩⟩
     | panic ch => exact hp.elim
     | outgrown => exact hp.elim
   · rintro e W2 ⟨⟨v, rfl⟩, (⟨xs, hS, ⟨hi, _⟩, hl, hk⟩ | ⟨pre, hSp, c, hi, hl, hk⟩)⟩
     · exact ⟨none, _, by have := run_endLoop (P := P) hl (by rw [hrec]; simp); rw [hrec] at this; exact this, hdone _ xs _ hS (hI _ _ _ hi (Keeps.putObj _ _ _ (.inr (.inr rfl)))) (Nat.le_refl _) ((World.putObj_heap_other (by omega)).trans hk)⟩
     · exact ⟨some c, _, by have := run_endLoop (P := P) hl (by rw [hrec]; simp); rw [hrec] at this; exact this, hstop _ c pre _ hSp (hIx _ _ _ _ hi (Keeps.putObj _ _ _ (.inr (.inr rfl)))) (Nat.le_refl _) ((World.putObj_heap_other (by omega)).trans hk)⟩
#print axioms wpIn_rangeFunc_d
end
section
open Go.RowKit
theorem byte_testBit : ∀ (b0 b1 b2 b3 b4 b5 b6 b7 : Bool) (r : Fin 8),
 (((((((b0.toNat * 2 + b1.toNat) * 2 + b2.toNat) * 2 + b3.toNat) * 2 + b4.toNat) * 2 + b5.toNat) * 2 + b6.toNat) * 2 + b7.toNat).testBit (7 - r.val) = [b0, b1, b2, b3, b4, b5, b6, b7].getD r.val false := by
 decide +kernel
theorem rbit_packed (L : List Bool) (i : Nat) (h : i < 8 * ((L.length + 7) / 8)) : rbit (packed L) i = L.getD i false := by
 unfold rbit
 rw [packed_getD L (i / 8) (by omega)]
 have hb := byte_testBit (L.getD (8 * (i / 8)) false) (L.getD (8 * (i / 8) + 1) false) (L.getD (8 * (i / 8) + 2) false) (L.getD (8 * (i / 8) + 3) false)
  (L.getD (8 * (i / 8) + 4) false) (L.getD (8 * (i / 8) + 5) false) (L.getD (8 * (i / 8) + 6) false) (L.getD (8 * (i / 8) + 7) false) ⟨i % 8, Nat.mod_lt _ (by decide)⟩
 unfold byteAt bitAt
 rw [hb]
 show List.getD _ (i % 8) false = _
 clear hb
 have hm : i % 8 < 8 := Nat.mod_lt _ (by decide)
 obtain ⟨r, hr⟩ : ∃ r, r = i % 8 := ⟨_, rfl⟩
 have hi : i = 8 * (i / 8) + r := by omega
 obtain ⟨q, hq⟩ : ∃ q, q = i / 8 := ⟨_, rfl⟩
 rw [← hq] at hi ⊢
 rw [← hr] at hm ⊢
 subst hi
 match r, hm with
 | 0, _ => rfl
 | 1, _ => rfl
 | 2, _ => rfl
 | 3, _ => rfl
 | 4, _ => rfl
 | 5, _ => rfl
 | 6, _ => rfl
 | 7, _ => rfl
theorem bitsFrom_packed (L : List Bool) (i n : Nat) (h : i + n ≤ L.length) : qaw (packed L) i n = (L.drop i).take n := by
 apply List.ext_getElem?
 intro k
 unfold qaw
 rw [List.getElem?_take, List.getElem?_take]
 split
 · rw [List.getElem?_drop, List.getElem?_drop, unpackB_get _ _ (by rw [qay]; omega), rbit_packed _ _ (by omega), List.getD_eq_getElem?_getD, List.getElem?_eq_getElem (by omega)]
   rfl
 · rfl
theorem bitsNat_take (X n : Nat) : ∀ k, k ≤ n → qae (qbr X n k) = X / 2 ^ (n - k) % 2 ^ k := by
 intro k
 induction k with
 | zero => intro _; simp [fieldTake_zero, bitsNat_nil, Nat.mod_one]
 | succ k ih =>
   intro hk
   rw [qdl, qdg, ih (by omega), ← testBit_toNat]
   obtain ⟨m, hm⟩ : ∃ m, m = n - (k + 1) := ⟨_, rfl⟩
   rw [show n - 1 - k = m by omega, show n - k = m + 1 by omega, ← hm, Nat.pow_succ 2 m, ← Nat.div_div_eq_div_mul]
   generalize X / 2 ^ m = Y
   rw [Nat.pow_succ, Nat.mul_comm (2 ^ k) 2, Nat.mod_mul]
   omega
theorem qba (X n : Nat) : qae (qaa X n) = X % 2 ^ n := by
 rw [← fieldTake_all, bitsNat_take X n n (Nat.le_refl _)]
 simp
theorem endOf_packed (L : List Bool) : endOf ((qad (packed L)).drop L.length) = 0 := by
 apply endOf_none
 · rw [qay]; omega
 · intro k hk
   rw [qay] at hk
   rw [rbit_packed _ _ hk, List.getD_eq_getElem?_getD, List.getElem?_eq_none (by omega)]
   rfl
theorem bits_inv (l : List Bool) : qaa (qae l) l.length = l := by
 have key : ∀ (n : Nat) (l : List Bool), l.length = n → qaa (qae l) n = l := by
  intro n
  induction n with
  | zero => intro l hl; rw [List.eq_nil_of_length_eq_zero hl]; rfl
  | succ n ih =>
    intro l hl
    rcases snoc_cases l with rfl | ⟨l', b, rfl⟩
    · simp at hl
    · have := ih l' (by simpa using hl)
      rw [qdg, ← fieldTake_all, qdl]
      have e : ∀ i, i < n → (qae l' * 2 + b.toNat).testBit (n + 1 - 1 - i) = (qae l').testBit (n - 1 - i) := by
       intro i hi
       rw [show n + 1 - 1 - i = (n - 1 - i) + 1 by omega, Nat.testBit_succ]
       congr 1
       cases b <;> simp <;> omega
      have e2 : qbr (qae l' * 2 + b.toNat) (n + 1) n = l' := by
       refine Eq.trans ?_ this
       unfold qbr qaa
       exact List.map_congr_left fun i hi => e i (List.mem_range.1 hi)
      rw [e2]
      congr 1
      simp only [Nat.add_sub_cancel, Nat.sub_self, Nat.testBit_zero]
      cases b <;> simp <;> omega
 exact key _ l rfl
end
section
open Go.RowKit
def inI (x : Int) : Prop := -9223372036854775808 ≤ x ∧ x ≤ 9223372036854775807
def W (x : Int) : Int := IntKind.i64.wrap x
theorem W_eq (x : Int) : W x = (x + 9223372036854775808) % 18446744073709551616 - 9223372036854775808 := IntKind.wrap_i64 x
theorem W_in (x : Int) : inI (W x) := by rw [W_eq]; unfold inI; omega
def U (x : Int) : Nat := (x % 18446744073709551616).toNat
theorem U_lt (x : Int) : U x < 18446744073709551616 := by unfold U; omega
theorem U_wrap (x : Int) : IntKind.u64.wrap x = ((U x : Nat) : Int) := by rw [IntKind.wrap_u64]; unfold U; omega
theorem W_U {x : Int} (h : inI x) : W ((U x : Nat) : Int) = x := by rw [W_eq]; unfold U inI at *; omega
def formI (x : Int) : Nat := if x = 0 then 0 else if -64 ≤ x ∧ x ≤ 63 then 1 else if -2048 ≤ x ∧ x ≤ 2047 then 2 else if -2147483648 ≤ x ∧ x ≤ 2147483647 then 3 else 4
theorem formI_le (x : Int) : formI x ≤ 4 := by unfold formI; split <;> (try split) <;> (try split) <;> (try split) <;> omega
def fBits (k : Nat) : Nat := [0, 2, 6, 14, 15].getD k 0
def fLen (k : Nat) : Nat := [1, 2, 3, 4, 4].getD k 0
def fWidth (k : Nat) : Nat := [0, 7, 12, 32, 64].getD k 0
def ext (X w : Nat) : Int := if w = 0 then 0 else if X % 2 ^ w < 2 ^ (w - 1) then ((X % 2 ^ w : Nat) : Int) else ((X % 2 ^ w : Nat) : Int) - ((2 ^ w : Nat) : Int)
theorem ext_in (X k : Nat) (hk : k ≤ 4) : inI (ext X (fWidth k)) := by
 have h : k = 0 ∨ k = 1 ∨ k = 2 ∨ k = 3 ∨ k = 4 := by omega
 unfold inI ext
 rcases h with rfl | rfl | rfl | rfl | rfl <;> simp only [fWidth, List.getD_eq_getElem?_getD, List.getElem?_cons_zero, List.getElem?_cons_succ, Option.getD_some] <;> simp <;> (try split) <;> omega
theorem ext_eq (x : Int) (h : inI x) (k : Nat) (hk : k ≤ 4) : ext (U x) (fWidth k) = x ↔ formI x ≤ k := by
 have hc : k = 0 ∨ k = 1 ∨ k = 2 ∨ k = 3 ∨ k = 4 := by omega
 unfold inI at h
 unfold ext U formI
 rcases hc with rfl | rfl | rfl | rfl | rfl <;> simp only [fWidth, List.getD_eq_getElem?_getD, List.getElem?_cons_zero, List.getElem?_cons_succ, Option.getD_some] <;> simp <;> (repeat' split) <;> omega
theorem U_ext (X k : Nat) (hk : k ≤ 4) : U (ext X (fWidth k)) % 2 ^ fWidth k = X % 2 ^ fWidth k := by
 have hc : k = 0 ∨ k = 1 ∨ k = 2 ∨ k = 3 ∨ k = 4 := by omega
 unfold ext U
 rcases hc with rfl | rfl | rfl | rfl | rfl <;> simp only [fWidth, List.getD_eq_getElem?_getD, List.getElem?_cons_zero, List.getElem?_cons_succ, Option.getD_some] <;> simp <;> (repeat' split) <;> omega
theorem ext_mod (X k : Nat) : ext (X % 2 ^ fWidth k) (fWidth k) = ext X (fWidth k) := by
 unfold ext
 rw [Nat.mod_mod]
def chgF : Int → Int → List Int → List Int
 | _, _, [] => []
 | d, t, s :: r => W (W (s - t) - d) :: chgF (W (s - t)) s r
def qbj : List Int → List Int
 | [] => []
 | t :: r => chgF 0 t r
theorem chgF_length (d t : Int) (l : List Int) : (chgF d t l).length = l.length := by
 induction l generalizing d t with
 | nil => rfl
 | cons s r ih => simp [chgF, ih]
theorem changesOf_length (l : List Int) : (qbj l).length = l.length - 1 := by cases l <;> simp [qbj, chgF_length]
theorem chgF_in (d t : Int) (l : List Int) : ∀ x ∈ chgF d t l, inI x := by
 induction l generalizing d t with
 | nil => intro x hx; simp [chgF] at hx
 | cons s r ih =>
   intro x hx
   simp only [chgF, List.mem_cons] at hx
   rcases hx with rfl | hx
   · exact W_in _
   · exact ih _ _ x hx
theorem changesOf_in (l : List Int) : ∀ x ∈ qbj l, inI x := by
 cases l with
 | nil => intro x hx; simp [qbj] at hx
 | cons t r => exact chgF_in _ _ _
def qbb (x : Int) : List Bool := qaa (fBits (formI x)) (fLen (formI x)) ++ qaa (U x) (fWidth (formI x))
theorem fLen_le (k : Nat) (h : k ≤ 4) : 1 ≤ fLen k ∧ fLen k ≤ 4 := by
 have hc : k = 0 ∨ k = 1 ∨ k = 2 ∨ k = 3 ∨ k = 4 := by omega
 rcases hc with rfl | rfl | rfl | rfl | rfl <;> simp [fLen]
theorem qcu (k : Nat) (h : k ≤ 4) : fWidth k ≤ 64 := by
 have hc : k = 0 ∨ k = 1 ∨ k = 2 ∨ k = 3 ∨ k = 4 := by omega
 rcases hc with rfl | rfl | rfl | rfl | rfl <;> simp [fWidth]
theorem encChange_length (x : Int) : (qbb x).length = fLen (formI x) + fWidth (formI x) := by simp [qbb, qab]
theorem encChange_le (x : Int) : (qbb x).length ≤ 68 := by
 rw [encChange_length]
 have := formI_le x
 have := fLen_le (formI x) this
 have := qcu (formI x) ‹_›
 omega
def qak (l : List Int) : List Bool := l.flatMap qbb
theorem encChanges_le (l : List Int) : (qak l).length ≤ 68 * l.length := by
 induction l with
 | nil => simp [qak]
 | cons x l ih => have := encChange_le x; simp only [qak, List.flatMap_cons, List.length_append, List.length_cons] at ih ⊢; omega
theorem encChanges_snoc (l : List Int) (x : Int) : qak (l ++ [x]) = qak l ++ qbb x := by simp [qak]
def enc5 : List Int → List Bool
 | [] => []
 | t :: r => qaa (U t) 64 ++ qak (chgF 0 t r)
theorem enc5_length (l : List Int) : (enc5 l).length ≤ 68 * l.length := by
 cases l with
 | nil => simp [enc5]
 | cons t r => have := encChanges_le (chgF 0 t r); rw [chgF_length] at this; simp only [enc5, List.length_append, qab, List.length_cons]; omega
def formB (b : List Bool) : Nat × Nat × Nat :=
 match b with
 | [] => (0, 3, 0)
 | false :: _ => (0, 0, 1)
 | true :: [] => (1, 3, 1)
 | true :: false :: _ => (1, 0, 2)
 | true :: true :: [] => (2, 3, 2)
 | true :: true :: false :: _ => (2, 0, 3)
 | true :: true :: true :: [] => (3, 3, 3)
 | true :: true :: true :: false :: _ => (3, 0, 4)
 | true :: true :: true :: true :: _ => (4, 0, 4)
def qas (b : List Bool) : Int × Nat × Nat :=
 if (formB b).2.1 ≠ 0 then (0, (formB b).2.1, (formB b).2.2) else
 if b.length < (formB b).2.2 + fWidth (formB b).1 then (0, 3, (formB b).2.2) else
 if formI (ext (qae ((b.drop (formB b).2.2).take (fWidth (formB b).1))) (fWidth (formB b).1)) ≠ (formB b).1 then (0, 8, (formB b).2.2 + fWidth (formB b).1) else
 (ext (qae ((b.drop (formB b).2.2).take (fWidth (formB b).1))) (fWidth (formB b).1), 0, (formB b).2.2 + fWidth (formB b).1)
def decT : Nat → Int → Int → List Bool → Nat × List Int × List Bool
 | 0, _, _, b => (0, [], b)
 | n + 1, t, d, b =>
   if (qas b).2.1 ≠ 0 then ((qas b).2.1, [], b.drop (qas b).2.2) else
   ((decT n (W (t + W (d + (qas b).1))) (W (d + (qas b).1)) (b.drop (qas b).2.2)).1,
     W (t + W (d + (qas b).1)) :: (decT n (W (t + W (d + (qas b).1))) (W (d + (qas b).1)) (b.drop (qas b).2.2)).2.1,
     (decT n (W (t + W (d + (qas b).1))) (W (d + (qas b).1)) (b.drop (qas b).2.2)).2.2)
def dec5 (n : Nat) (b : List Bool) : Nat × List Int × List Bool :=
 if n = 0 then (0, [], b) else if b.length < 64 then (3, [], b) else
 ((decT (n - 1) (W (qae (b.take 64))) 0 (b.drop 64)).1,
   if (decT (n - 1) (W (qae (b.take 64))) 0 (b.drop 64)).1 = 0 then W (qae (b.take 64)) :: (decT (n - 1) (W (qae (b.take 64))) 0 (b.drop 64)).2.1 else [],
   (decT (n - 1) (W (qae (b.take 64))) 0 (b.drop 64)).2.2)
end
section
open Go.RowKit
section
variable {P : Program} {ty : TypeId}
theorem run_append_none (w : World) (t ty e : TypeId) (i : TypeInfo) (ht : P.underlying t = some (.slice e)) (hi : P.info? e = some i) (b : Option Addr) (n cap m : Nat) (h : n ≤ cap) :
 (Builtin.append_ #[t, t] ty #[.slice b n cap, .slice none 0 m]).run P w = .ok (.slice b n cap) w := by
 cases b <;> simp [Builtin.append_, run_underlying ht, sizeOf, typeInfo, hi, Builtin.lenOf, h, Builtin.firstCells, storeCells]
theorem run_append_holds (w : World) (base : Nat) (t ty e : TypeId) (i : TypeInfo) (z : Value) (bytes : Nat) (ht : P.underlying t = some (.slice e)) (hi : P.info? e = some i) (hz : i.zero = some z)
 (hsize : i.size = 1) (hby : i.bytes = bytes) (hzs : z.cells.size = 1)
 (v x : Value) (xs ys : List Value) (hown : w.ownsRow base e 1 v xs.length xs) (hx : Holds w x ys) (h1 : ∀ u ∈ ys, u.oneCell' = true)
 (h63 : xs.length + ys.length ≤ maxLen) (hbytes : (xs.length + ys.length) * bytes ≤ 140737488355328) (hbase : base ≤ w.heap.size) :
 ∃ v' w', (Builtin.append_ #[t, t] ty #[v, x]).run P w = .ok v' w' ∧ RowTo e base v w v' (xs ++ ys) w' := by
 obtain ⟨ad, cap, rfl, hc, h⟩ := hx
 cases ad with
 | none =>
   have hy : ys = [] := by
    rcases h with h | ⟨b, off, hb, _⟩
    · exact h
    · cases hb
   subst hy
   obtain ⟨a2, c2, rfl, hcc, _⟩ := qaq hown
   refine ⟨_, w, run_append_none w t ty e i ht hi _ _ _ _ hcc, ?_⟩
   rw [List.append_nil]
   exact RowTo.refl hown
 | some a =>
   have hcell : ∀ j u, ys[j]? = some u → w.cell? (a.add j) = some u := by
    intro j u hj
    rcases h with h | ⟨b, off, hb, h⟩
    · subst h; simp at hj
    · obtain rfl := Option.some.inj hb
      rw [qbo]
      exact h j u hj
   obtain ⟨v', w', hr, ho, hg, _, hn⟩ := qct (P := P) w base t ty e i z 1 bytes ht hi hz hsize hby hzs (by decide) v xs.length xs hown a ys.length cap ys (by omega) hcell h1 h63 hbytes hbase
   refine ⟨v', w', hr, by rw [List.length_append]; exact ho, (Keeps.refl (own v) w).grown hg (fun k _ e => e), hn⟩
theorem wpList_want {w : World} {ops : Array Oper} {rest : List Oper} {o : Oper} {a : Act} {Q : Exit → Act → World → Prop} (hg : Region.wanted o (yielded ops a.tmps) = true)
 (h : ∀ K : Act → World → Prop, (∀ a w, wpList P ops Q rest a w → K a w) → o.wp P a w K Q) : wpList P ops Q (o :: rest) a w :=
 wpList_step fun K hK => by rw [if_pos hg]; exact h K hK
theorem qax (w : World) {ops : Array Oper} {rest : List Oper} {o : Oper} {a : Act} {Q : Exit → Act → World → Prop} (hgd : Region.wanted o (yielded ops a.tmps) = true) (s x : Operand) (t : TypeId)
 (ho : o.op = .call { callee := .builtin .append, args := #[s, x], argTypes := #[t, t] })
 (base : Nat) (e : TypeId) (i : TypeInfo) (z : Value) (bytes : Nat) (ht : P.underlying t = some (.slice e)) (hi : P.info? e = some i) (hz : i.zero = some z)
 (hsize : i.size = 1) (hby : i.bytes = bytes) (hzs : z.cells.size = 1)
 (v y : Value) (xs ys : List Value) (hs : a.eval s = v) (hxe : a.eval x = y) (hown : w.ownsRow base e 1 v xs.length xs) (hx : Holds w y ys) (h1 : ∀ u ∈ ys, u.oneCell' = true)
 (h63 : xs.length + ys.length ≤ maxLen) (hbytes : (xs.length + ys.length) * bytes ≤ 140737488355328) (hbase : base ≤ w.heap.size)
 (h : ∀ v' w', RowTo e base v w v' (xs ++ ys) w' → wpList P ops Q rest (a.put o.dst v') w') : wpList P ops Q (o :: rest) a w := by
 obtain ⟨v', w', hr, h2⟩ := run_append_holds (P := P) w base t o.type e i z bytes ht hi hz hsize hby hzs v y xs ys hown hx h1 h63 hbytes hbase
 refine wpList_want hgd fun K hK => ?_
 unfold Oper.wp execOp
 simp only [ho, resolve, invoke, builtin, Sem.run_bind, Sem.run_pure, Result.andThen_ok, List.map_toArray, List.map_cons, List.map_nil, hs, hxe, hr]
 exact hK _ _ (h v' w' h2)
end
end
section
open Go.ChangeShapes Go.WideShapes Go.Deep Go.RowKit
section
variable {H : Type} {enc : TypeId × Value → H} {P : Program} {w : World} {base : Nat} {spare : Nat → Bool} {held : Bool}
theorem open_arr2 {t e : TypeId} {k : IntKind} {r : Reach} {b0 : Nat} {v : Value} {d : DataW H} {p : List MemPlace} (ht : P.underlying t = some (.array 2 e)) (he : P.underlying e = some (.int k)) (hce : P.cellsOf e = 1) (hct : P.cellsOf t = 2)
 (hv : Value.okWide P w r b0 t v) (h : DataW.Trod enc P w base spare held t v d p) : ∃ a b : Int, v = .agg #[.int k a, .int k b] ∧ (Lit.int k a).wf = true ∧ (Lit.int k b).wf = true := by
 unfold Value.okWide at hv
 rw [ht] at hv
 obtain ⟨cs, rfl, hsz, _⟩ := hv
 rw [hct] at hsz
 obtain ⟨c0, c1, rfl⟩ := Joins.array2 hsz
 obtain ⟨fuel, hf⟩ := h
 obtain ⟨xs, m, _, _, _, hl, hi⟩ := DataW.trod_array ht hf
 have h0 := hi 0 (by decide)
 have h1 := hi 1 (by decide)
 simp only [hce, Value.cells] at h0 h1
 obtain ⟨y0, hy0⟩ : ∃ y, xs[0]? = some y := ⟨xs[0], by simp [hl]⟩
 obtain ⟨y1, hy1⟩ : ∃ y, xs[1]? = some y := ⟨xs[1], by simp [hl]⟩
 rw [hy0] at h0
 rw [hy1] at h1
 obtain ⟨a, ea, _, wa⟩ := DataW.trod_int he h0
 obtain ⟨b, eb, _, wb⟩ := DataW.trod_int he h1
 simp at ea eb
 subst ea eb
 exact ⟨a, b, rfl, wa, wb⟩
def u64s (l : List Nat) : List Value := l.map fun c => .int .u64 ((c : Nat) : Int)
theorem qbz (l : List Nat) : (u64s l).length = l.length := by simp [u64s]
def i64s (l : List Int) : List Value := l.map (Value.int .i64)
theorem i64s_length (l : List Int) : (i64s l).length = l.length := by simp [i64s]
end
end
section
open Go.RowKit
theorem wrap_u64 (n : Nat) (h : n ≤ 18446744073709551615) : IntKind.u64.wrap (n : Int) = n := IntWalk.u64_in _ (by omega)
end
section
set_option maxHeartbeats 4000000
set_option maxRecDepth 100000
open Go.RowKit
theorem len8_size : (Lib.len8tab.size : Int) = 256 := by
 have h : Lib.len8tab.size = 256 := by decide
 omega
theorem tab_len (y : Int) (h : y.toNat < Lib.len8tab.size) (h0 : 0 ≤ y) (h1 : y ≤ 255) : ((Lib.len8tab[y.toNat]'h).toNat : Int) = ((Lib.bitLen y.toNat : Nat) : Int) := by
 rw [← Lib.len8_of y h0 h1]
 unfold Lib.len8
 rw [getElem?_pos Lib.len8tab y.toNat h]
 rfl
theorem qdh (k : Nat) (x y : Int) (hy : y.toNat = x.toNat / 2 ^ k) (h0 : 0 ≤ y) (h1 : y ≤ 255) (hk : k = 0 ∨ 2 ^ k ≤ x.toNat) (hx : x ≤ 18446744073709551615) (h : y.toNat < Lib.len8tab.size) :
 wrap64 ((k : Int) + wrap64 ((Lib.len8tab[y.toNat]'h).toNat : Int)) = ((Lib.bitLen x.toNat : Nat) : Int) := by
 rw [tab_len y h h0 h1]
 have h8 := Lib.bitLen_le8' y h0 h1
 have e : Lib.bitLen x.toNat = k + Lib.bitLen y.toNat := by
  rcases hk with rfl | hk
  · rw [hy]; simp
  · rw [hy]; exact Lib.bitLen_shift k x.toNat hk (by omega)
 have hk64 : k ≤ 64 := by
  rcases hk with rfl | hk
  · omega
  · rcases Nat.lt_or_ge 64 k with h9 | h9
    · have : 2 ^ 64 ≤ 2 ^ k := Nat.pow_le_pow_right (by decide) (by omega)
      omega
    · exact h9
 rw [e]
 simp only [wrap64]
 omega
theorem len_zero (x : Int) (h0 : 0 ≤ x) (h1 : x ≤ 255) (h : x.toNat < Lib.len8tab.size) : wrap64 (wrap64 ((Lib.len8tab[x.toNat]'h).toNat : Int)) = ((Lib.bitLen x.toNat : Nat) : Int) := by
 have := qdh 0 x x (by simp) h0 h1 (.inl rfl) (by omega) h
 simpa using this
theorem len64_any (x : Int) (w : World) (h0 : 0 ≤ x) (h1 : x ≤ 18446744073709551615) :
 Calls Tryz.prog 193 #[.int .u64 x] w fun e w' => e = .returned (.int .i64 (Lib.bitLen x.toNat)) ∧ w' = w := by
 go_enter Tryz.func193, Tryz.ntmps193
 go_wp2
 all_goals first
  | (go_ret; refine ⟨ret_int ?_, rfl⟩; go_light)
  | (exfalso; go_light; have hs := len8_size; omega)
 all_goals first
  | exact qdh 56 x _ (by omega) (by omega) (by omega) (.inr (by omega)) h1 _
  | exact qdh 48 x _ (by omega) (by omega) (by omega) (.inr (by omega)) h1 _
  | exact qdh 40 x _ (by omega) (by omega) (by omega) (.inr (by omega)) h1 _
  | exact qdh 32 x _ (by omega) (by omega) (by omega) (.inr (by omega)) h1 _
  | exact qdh 24 x _ (by omega) (by omega) (by omega) (.inr (by omega)) h1 _
  | exact qdh 16 x _ (by omega) (by omega) (by omega) (.inr (by omega)) h1 _
  | exact qdh 8 x _ (by omega) (by omega) (by omega) (.inr (by omega)) h1 _
  | exact len_zero x (by omega) (by omega) _
end
section
open Go.RowKit
end
section
open Go.RowKit
end
end Go.Proofs.YtfpcgcbehdogjaaGreatDoor
