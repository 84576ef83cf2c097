/-
  Lemmas on which LTopTruncates rests, packed out of the texts WSlices SortF WReader SortG DRound WRef01 DHelp PXor WLen64 AMem PLab WPack WLaw01a PRound DRef01b WLaw01b WRef01b WEqual ARange; each for all arguments under the hypotheses it names.
-/
import Derived.Test.YtfpcgcbehdogjaaGreatDoorT02
import Derived.Test.YtfpcgcbehdogjaaGreatDoorT03
import Derived.IntWalk
import Derived.Lib.BitFns
import Derived.Lib.TrailingZeros
import Derived.Lib.Strings
import Derived.Lib.Slices
import Derived.Lib.Small
import Derived.Lib.Walk
import Derived.Lib.Tables
import Derived.Deep.Light
namespace Go.Proofs.YtfpcgcbehdogjaaGreatDoor
section
set_option maxHeartbeats 400000
set_option maxRecDepth 100000
open Go.RowKit
theorem Holds.source {w : World} {a : Addr} {len cap : Nat} {xs : List Value} (h : Holds w (.slice (some a) len cap) xs) : xs.length = len ∧ ∀ j u, xs[j]? = some u → w.cell? (a.add j) = some u := by
 obtain ⟨ad, cap', hv, hc, h | ⟨bl, off, rfl, hcell⟩⟩ := h
 · simp only [Value.slice.injEq] at hv
   exact ⟨hv.2.1.symm, by subst h; simp⟩
 · simp only [Value.slice.injEq, Option.some.injEq] at hv
   obtain ⟨rfl, h1, _⟩ := hv
   exact ⟨h1.symm, fun j u hj => by rw [qbn]; exact hcell j u hj⟩
theorem qkd (w : World) (o : Obj) {p : Addr} (h : p.block < w.heap.size) : (w.alloc o).cell? p = w.cell? p :=
 World.cell?_of_block (Below.heap_alloc w o p.block h)
theorem qdv (l : List Nat) : ∀ u ∈ u8s l, u.oneCell' = true := by
 intro u hu
 simp only [u8s, List.mem_map] at hu
 obtain ⟨c, _, rfl⟩ := hu
 rfl
theorem qke (v v' : Value) (l l' : List Nat) (w : World) (h : Holds w v (u8s l)) (h' : Holds w v' (u8s l')) (hl : ∀ c ∈ l, c < 256) (hl' : ∀ c ∈ l', c < 256) :
 Calls Tryz.prog 89 #[v, v'] w fun e w' => e = .returned (.bool (decide (l = l'))) ∧ w = w' := by
 have h1 := qcn (P := Tryz.prog) w 29 5 Tryz.underlying29 Tryz.underlying5 v l h 9 Tryz.underlying9
 have h2 := qcn (P := Tryz.prog) w 29 5 Tryz.underlying29 Tryz.underlying5 v' l' h' 9 Tryz.underlying9
 have h3 := bytesOf_inj hl hl'
 clear h h'
 go_enter Tryz.func89, Tryz.ntmps89
 go_wp2
 go_ret
 exact ⟨rfl, rfl⟩
theorem qid (n c : Nat) (w : World) : Calls Tryz.prog 52 #[.slice none n c] w fun e w' => e = .returned (.slice none 0 0) ∧ w = w' := by
 have hn := fun (w : World) n c => Lib.run_eql_slice_nil (P := Tryz.prog) w 29 5 none n c 0 0 Tryz.underlying29
 go_enter Tryz.func52, Tryz.ntmps52
 go_wp2
 go_ret
 exact ⟨rfl, rfl⟩
theorem qie (a : Addr) (len cap : Nat) (xs : List Value) (w : World) (h : Holds w (.slice (some a) len cap) xs) (hx : xs.length ≤ 140737488351232) (hone : ∀ u ∈ xs, u.oneCell' = true) :
 Calls Tryz.prog 52 #[.slice (some a) len cap] w fun e w' => ∃ v, e = .returned v ∧ w'.ownsRow w.heap.size 5 1 v xs.length xs ∧ Keeps (fun _ => False) w w' := by
 obtain ⟨i0, hi, hz0, hz1, hz2⟩ := info_parts infoU8
 have hn := fun (w : World) n c => Lib.run_eql_slice_nil (P := Tryz.prog) w 29 5 (some a) n c 0 0 Tryz.underlying29
 go_enter Tryz.func52, Tryz.ntmps52
 obtain ⟨hlen, hnews⟩ := h.source
 go_wp2_with (at_builtin; refine qcm _ rfl _ _ 29 rfl w.heap.size 5 i0 (.int .u8 0) 1 1 Tryz.underlying29 hi hz0 hz1 hz2 rfl (by decide) _ 0 [] rfl (World.ownsRow_lit w #[] 0 (Nat.le_refl _) (by decide) rfl) a len cap xs rfl ?c1 ?c2 ?c3 ?c4 ?c5 ?c6 ?_)
 case c1 => omega
 case c2 =>
  intro j u hj
  rw [qkd _ _ (World.block_lt_of_cell? w _ (hnews j u hj))]
  exact hnews j u hj
 case c3 => exact hone
 case c4 => unfold maxLen; omega
 case c5 => omega
 case c6 => simp
 intro v' w1 hown' hgrow hnew
 go_wp2
 go_ret
 exact ⟨v', rfl, by rw [hlen]; exact hown', ((Keeps.refl (fun _ => False) w).alloc _).grown hgrow (fun k hk e => by simp [Value.ownBlock] at e; omega)⟩
theorem qbk (v : Value) (l : List Nat) (w : World) (h : Holds w v (u8s l)) (hx : l.length ≤ 140737488351232) :
 Calls Tryz.prog 52 #[v] w fun e w' => ∃ v', e = .returned v' ∧ w'.ownsRow w.heap.size 5 1 v' l.length (u8s l) ∧ Keeps (fun _ => False) w w' := by
 have h0 := h
 obtain ⟨ad, cap, rfl, hc, h⟩ := h
 cases ad with
 | none =>
   have hl : l = [] := by
    rcases h with h | ⟨b, off, hb, _⟩
    · cases l <;> simp_all [u8s]
    · cases hb
   subst hl
   refine (qid 0 cap w).mono ?_
   rintro e w' ⟨rfl, rfl⟩
   exact ⟨_, rfl, World.ownsRow_nil _ _ _ _, Keeps.refl _ _⟩
 | some a =>
   refine (qie a _ cap (u8s l) w h0 (by rw [qaa]; exact hx) (qdv l)).mono ?_
   rintro e w' ⟨v, rfl, h1, h2⟩
   rw [qaa] at h1
   exact ⟨v, rfl, h1, h2⟩
theorem wbytes_any (base p : Nat) (v : Value) (l : List Bool) (w : World) (h : IsW w base p v l) (hl : l.length ≤ 1099511627776) :
 Calls Tryz.prog 25 #[.pointer (some ⟨p, 0, none⟩)] w fun e w' => ∃ v', e = .returned v' ∧ w'.ownsRow w.heap.size 5 1 v' (packed l).length (u8s (packed l)) ∧ Keeps (fun _ => False) w w' := by
 have hc := h.cell0
 have hh := qaq h.row
 go_enter Tryz.func25, Tryz.ntmps25
 go_wp2_with (go_at_call 52; refine (qbk v (packed l) _ hh (by rw [qaw]; omega)).mono ?_; rintro e w' ⟨v', rfl, h1, h2⟩)
 go_ret
 exact ⟨v', rfl, h1, h2⟩
end
section
set_option maxHeartbeats 2000000
set_option maxRecDepth 100000
open Go.RowKit
theorem scU_go (p : Nat → Bool) (d : Array Nat) (j i : Nat) (h : i ≤ j) (hp : p d[i]! = true) : Go.Sort.scanUp p d j i = Go.Sort.scanUp p d j (i + 1) := by
 rw [Go.Sort.scanUp, if_pos (by simp [h, hp])]
theorem qgt (p : Nat → Bool) (d : Array Nat) (j i : Nat) (h : j < i ∨ p d[i]! = false) : Go.Sort.scanUp p d j i = i := by
 rw [Go.Sort.scanUp, if_neg (by rcases h with h | h <;> simp [h] <;> omega)]
theorem scD_go (p : Nat → Bool) (d : Array Nat) (i j : Nat) (h : i ≤ j + 1) (hp : p d[j + 1]! = true) : Go.Sort.scanDown p d i (j + 1) = Go.Sort.scanDown p d i j := by
 rw [Go.Sort.scanDown, if_pos (by simp [h, hp])]
theorem qdx (p : Nat → Bool) (d : Array Nat) (i j : Nat) (h : j < i ∨ p d[j]! = false) : Go.Sort.scanDown p d i j = j := by
 cases j with
 | zero => rw [Go.Sort.scanDown]
 | succ k => rw [Go.Sort.scanDown, if_neg (by rcases h with h | h <;> simp [h] <;> omega)]
theorem rev_go (i j : Nat) (d : Array Nat) (h : i < j) : Go.Sort.reverseLoop i j d = Go.Sort.reverseLoop (i + 1) (j - 1) (Go.Sort.swp d i j) := by rw [Go.Sort.reverseLoop, if_pos h]
theorem rev_end (i j : Nat) (d : Array Nat) (h : ¬ i < j) : Go.Sort.reverseLoop i j d = d := by rw [Go.Sort.reverseLoop, if_neg h]
theorem uRev_any (w0 w : World) (blk off cap a b : Nat) (d : Array Nat) (h : Arr w0 w blk off d) (hab : a < b) (hb : b ≤ d.size) (hsz : d.size ≤ 1099511627776) :
 Calls Tryz.prog 221 #[.slice (some ⟨blk, off, none⟩) d.size cap, .int .i64 (a : Int), .int .i64 (b : Int)] w fun e w' => e = .returned (.tuple #[]) ∧ Arr w0 w' blk off (Go.Sort.reverseRange d a b) := by
 have HH := Hj h
 clear h
 obtain ⟨b1, rfl⟩ : ∃ b1, b = b1 + 1 := ⟨b - 1, by omega⟩
 go_enter Tryz.func221, Tryz.ntmps221
 go_wp2
 go_loopw [6, 7] (fun ci cj wr => ∃ (i j : Nat) (dk : Array Nat), ci = .int .i64 (i : Int) ∧ cj = .int .i64 (j : Int) ∧ a ≤ i ∧ i ≤ j + 1 ∧ j ≤ b1 ∧ dk.size = d.size ∧ Hid (Arr w0 wr blk off dk) ∧ Hid (Go.Sort.reverseLoop i j dk = Go.Sort.reverseRange d a (b1 + 1))) (fun ci cj _ => (intOf cj + 1 - intOf ci).toNat)
 case atStart => exact ⟨a, b1, d, rfl, by go_num, Nat.le_refl _, by omega, Nat.le_refl _, rfl, HH, Hj rfl⟩
 case round =>
  obtain ⟨i, j, dk, rfl, rfl, hai, hij, hjb, hsk, HA, HO⟩ := hrel
  by_cases hlt : i < j
  · have hlti : (i : Int) < (j : Int) := by omega
    obtain ⟨J, hJJ⟩ : ∃ J, J = j := ⟨_, rfl⟩
    subst hJJ
    obtain ⟨q, hJ⟩ : ∃ q, J = q + 1 := ⟨J - 1, by omega⟩
    have hi1 : i < dk.size := by omega
    have hj1 : J < dk.size := by omega
    have his : (i : Int) < (d.size : Int) := by omega
    have hjs : (J : Int) < (d.size : Int) := by omega
    have eJ : (J : Int) - 1 = (q : Int) := by omega
    have hJb : (J : Int) ≤ 1099511627776 := by omega
    have c0 := HA.out.cell i hi1; have c1 := HA.out.cell J hj1
    have f0 := HA.out.fro i hi1; have f1 := HA.out.fro J hj1
    obtain ⟨x, hx⟩ : ∃ x, dk[i]! = x := ⟨_, rfl⟩
    obtain ⟨y, hy⟩ : ∃ y, dk[J]! = y := ⟨_, rfl⟩
    rw [hx] at c0
    rw [hy] at c1
    have hne2 : ¬ (off + J = off + i) := by omega
    have HN : Hid (∀ wq, Arr w0 wq blk off (Go.Sort.swp dk i J) → ∃ (i2 j2 : Nat) (dj : Array Nat), Value.int .i64 ((i : Int) + 1) = .int .i64 (i2 : Int) ∧ Value.int .i64 (q : Int) = .int .i64 (j2 : Int) ∧ a ≤ i2 ∧ i2 ≤ j2 + 1 ∧ j2 ≤ b1 ∧ dj.size = d.size ∧ Hid (Arr w0 wq blk off dj) ∧ Hid (Go.Sort.reverseLoop i2 j2 dj = Go.Sort.reverseRange d a (b1 + 1))) := Hj (fun wq hq =>
     ⟨i + 1, q, _, by simp, rfl, by omega, by omega, by omega, by rw [Go.Sort.size_swp, hsk], Hj hq, Hj (by rw [← HO.out, rev_go i J dk hlt, hJ]; rfl)⟩)
    have HS : Hid (∀ m, Arr w0 (((wr.drewN m).setCell ⟨blk, off + i, none⟩ (.int .u64 (y : Int))).setCell ⟨blk, off + J, none⟩ (.int .u64 (x : Int))) blk off (Go.Sort.swp dk i J)) := Hj (fun m => (HA.out.drewN m).swap hi1 hj1 hy hx)
    clear hx hy hi1 hj1 hlt hJ
    go_wp2
    go_region
    go_wp2
    exact ⟨HN.out _ (HS.out _), by simp [intOf]; omega⟩
  · have hge : ¬ (i : Int) < (j : Int) := by omega
    go_wp2
    go_end0
    exact ⟨rfl, by rw [← HO.out, rev_end _ _ _ hlt]; exact HA.out⟩
end
section
set_option maxHeartbeats 1000000
set_option maxRecDepth 100000
open Go.RowKit
theorem qdw {k : IntKind} {a b : Int} (h : a = b) : Ending.returned (.int k a) = .returned (.int k b) := by rw [h]
theorem qac {w : World} {base : Nat} {e : TypeId} {size : Nat} {v : Value} {n : Nat} {xs : List Value} (h : w.ownsRow base e size v n xs) : ∃ ad cap, v = .slice ad n cap := by
 rcases h.2 with ⟨rfl, h0⟩ | ⟨g, cap, cur, rfl, _⟩
 · exact ⟨none, 0, by rw [h0]⟩
 · exact ⟨_, cap, rfl⟩
theorem newReader_any (base : Nat) (v : Value) (l : List Nat) (w : World) (h : Holds w v (u8s l)) (hx : l.length ≤ 140737488351232) (hb : ∀ c ∈ l, c < 256) (hbase : base ≤ w.heap.size) :
 Calls Tryz.prog 26 #[v] w fun e w' => ∃ q v', e = .returned (.pointer (some ⟨q, 0, none⟩)) ∧ w.heap.size ≤ q ∧ IsR w' base q v' l 0 ∧ (∀ g, v'.ownBlock = some g → w.heap.size ≤ g) ∧ Keeps (fun _ => False) w w' := by
 go_enter Tryz.func26, Tryz.ntmps26
 go_wp2_with (go_at_call 52; refine (qbk v l _ h hx).mono ?_; rintro e w1 ⟨v', rfl, h1, h2⟩; obtain ⟨ad, cap, rfl⟩ := qac h1)
 go_ret
 have hs := h2.size
 refine ⟨w1.heap.size, _, rfl, hs, ⟨heap_alloc_new _ _, ?_, by omega, hb⟩, fun g hg => (h1.lt g hg).1, h2.alloc _⟩
 exact qao (h1.alloc _) (fun g hg => Nat.le_trans hbase (h1.lt g hg).1)
theorem qhr (base p : Nat) (v : Value) (bs : List Nat) (i : Nat) (w : World) (h : IsR w base p v bs i) (hl : bs.length ≤ 140737488351232) (hi : i ≤ 8 * bs.length) :
 Calls Tryz.prog 55 #[.pointer (some ⟨p, 0, none⟩)] w fun e w' => e = .returned (.int .i64 ((8 * bs.length - i : Nat) : Int)) ∧ ∃ n, w' = w.drewN n := by
 obtain ⟨ad, cap, rfl⟩ := h.shape
 have hc0 := h.cell0
 have hc1 := h.cell1
 have hw1 : IntKind.i64.wrap (8 * (bs.length : Int)) = 8 * bs.length := IntWalk.i64_in _ (by omega)
 have Hi := Hj hi
 clear h hi
 go_enter Tryz.func55, Tryz.ntmps55
 go_wp2
 go_quiet (fail)
 go_wp2
 go_ret
 exact ⟨qdw (by have := Hi.out; show wrap64 (8 * (bs.length : Int) - i) = _; rw [IntWalk.wrap64_in _ (by omega)]; omega), nq, rfl⟩
theorem bit_any (base p : Nat) (v : Value) (bs : List Nat) (i j : Nat) (w : World) (h : IsR w base p v bs i) (hj : j < 8 * bs.length) (hl : bs.length ≤ 140737488351232) :
 Calls Tryz.prog 56 #[.pointer (some ⟨p, 0, none⟩), .int .i64 j] w fun e w' => e = .returned (.int .u64 (((rbit bs j).toNat : Nat) : Int)) ∧ w' = w := by
 obtain ⟨b, off, cap, rfl, hcell, hlt⟩ := h.byte (j := j / 8) (by omega)
 have hc0 := h.cell0
 have hr : rbit bs j = (bs.getD (j / 8) 0).testBit (7 - j % 8) := rfl
 have ht := qfz (bs.getD (j / 8) 0) (7 - j % 8)
 rw [← hr] at ht
 generalize bs.getD (j / 8) 0 = c at *
 obtain ⟨q, hq⟩ : ∃ q, q = j / 8 := ⟨_, rfl⟩
 obtain ⟨t, ht'⟩ : ∃ t, t = 7 - j % 8 := ⟨_, rfl⟩
 rw [← hq] at hcell
 rw [← ht'] at ht
 have hd : (j : Int) / 8 = q := by omega
 have hdt : (j : Int).tdiv 8 = q := by rw [Int.tdiv_eq_ediv_of_nonneg (by omega)]; omega
 have hm1 : (7 : Int) - (j : Int) % 8 = t := by omega
 have hm2 : (7 : Int) - (j : Int).tmod 8 = t := by rw [Int.tmod_eq_emod_of_nonneg (by omega)]; omega
 have hqb : (q : Int) < bs.length := by omega
 have ht7 : t ≤ 7 := by omega
 obtain ⟨d, hd1⟩ : ∃ d, d = c / 2 ^ t := ⟨_, rfl⟩
 have hd2 : (c : Int) / 2 ^ t = d := by rw [hd1]; simp
 have hd3 : d < 256 := by rw [hd1]; exact Nat.lt_of_le_of_lt (Nat.div_le_self _ _) hlt
 have hand := and_one_u64 d (by omega)
 rw [← hd1] at ht
 rw [ht] at hand
 clear h hr hq ht' ht hd1 hj
 generalize (rbit bs j).toNat = r at *
 go_enter Tryz.func56, Tryz.ntmps56
 go_wp2
 go_ret
 exact ⟨rfl, rfl⟩
theorem IsR.drewN {a : World} {base p : Nat} {v : Value} {bs : List Nat} {i : Nat} (h : IsR a base p v bs i) (n : Nat) : IsR (a.drewN n) base p v bs i := ⟨h.blk, h.row, h.base, h.bytes⟩
theorem Keeps.drewN {S : Nat → Prop} {a b : World} (h : Keeps S a b) (n : Nat) : Keeps S a (b.drewN n) := ⟨h.os, h.tape, h.output, h.size, h.block⟩
theorem rbits_bad (p : Nat) (n : Int) (w : World) (h : n < 0 ∨ 64 < n) : Calls Tryz.prog 53 #[.pointer (some ⟨p, 0, none⟩), .int .i64 n] w fun e w' => e = .returned (.tuple #[.int .u64 0, .int .i64 2]) ∧ w = w' := by
 rcases h with h | h
 · go_enter Tryz.func53, Tryz.ntmps53
   go_wp2
   go_ret2
   exact ⟨rfl, rfl⟩
 · have h' : ¬ n < 0 := by omega
   go_enter Tryz.func53, Tryz.ntmps53
   go_wp2
   go_ret2
   exact ⟨rfl, rfl⟩
theorem rbits_eof (base p : Nat) (v : Value) (bs : List Nat) (i N : Nat) (w : World) (h : IsR w base p v bs i) (hl : bs.length ≤ 140737488351232) (hi : i ≤ 8 * bs.length) (hN : N ≤ 64) (he : 8 * bs.length < i + N) :
 Calls Tryz.prog 53 #[.pointer (some ⟨p, 0, none⟩), .int .i64 N] w fun e w' => e = .returned (.tuple #[.int .u64 0, .int .i64 3]) ∧ ∃ n, w' = w.drewN n := by
 have hz1' : ¬ (N : Int) < 0 := by omega
 have hz2' : ¬ 64 < (N : Int) := by omega
 have he' : ((8 * bs.length - i : Nat) : Int) < N := by omega
 go_enter Tryz.func53, Tryz.ntmps53
 go_wp2_with (go_at_call 55; refine (qhr base p v bs i _ h hl hi).mono ?_; rintro e w1 ⟨rfl, nq, rfl⟩)
 go_ret2
 exact ⟨rfl, nq, rfl⟩
theorem rbits_any (base p : Nat) (v : Value) (bs : List Nat) (i N : Nat) (w : World) (h : IsR w base p v bs i) (hl : bs.length ≤ 140737488351232) (hN : N ≤ 64) (he : i + N ≤ 8 * bs.length) :
 Calls Tryz.prog 53 #[.pointer (some ⟨p, 0, none⟩), .int .i64 N] w fun e w' => e = .returned (.tuple #[.int .u64 ((qar (qbi bs i N) : Nat) : Int), .int .i64 0]) ∧ IsR w' base p v bs (i + N) ∧ Keeps (fun k => k = p) w w' := by
 have hz1' : ¬ (N : Int) < 0 := by omega
 have hz2' : ¬ 64 < (N : Int) := by omega
 have he' : ¬ ((8 * bs.length - i : Nat) : Int) < N := by omega
 go_enter Tryz.func53, Tryz.ntmps53
 go_wp2_with (go_at_call 55; refine (qhr base p v bs i _ h hl (by omega)).mono ?_; rintro e w1 ⟨rfl, nq, rfl⟩)
 go_loopw [6, 23] (fun x c wr => ∃ k : Nat, k ≤ N ∧ c = .int .i64 k ∧ x = .int .u64 ((qar (qbi bs i k) : Nat) : Int) ∧ IsR wr base p v bs (i + k) ∧ Keeps (fun k => k = p) w wr) (fun _ c wr => N - (intOf c).toNat)
 case atStart => exact ⟨0, by omega, rfl, by rw [bitsFrom_zero]; rfl, h.drewN _, (Keeps.refl _ _).drewN _⟩
 case round =>
  obtain ⟨k, hk, rfl, rfl, hR, hK⟩ := hrel
  by_cases hlt : k < N
  · have hsucc := bitsFrom_succ bs i k (by omega)
    have hb := bitsFrom_lt bs i k
    have hp : 2 ^ k ≤ 2 ^ 63 := Nat.pow_le_pow_right (by decide) (by omega)
    have hn : qar (qbi bs i (k + 1)) = qar (qbi bs i k) * 2 + (rbit bs (i + k)).toNat := by rw [hsucc, qet]
    generalize qar (qbi bs i k) = x at *
    have hbt := qfy (rbit bs (i + k))
    have hor := or_bit_u64 x (rbit bs (i + k)) (by omega)
    have hx63 : x < 9223372036854775808 := by omega
    obtain ⟨y, hy⟩ : ∃ y, y = x * 2 := ⟨_, rfl⟩
    rw [← hy] at hor
    have hy1 : IntKind.u64.wrap ((x : Int) * 2) = y := by rw [IntWalk.u64_in _ (by omega)]; omega
    have hc0 := hR.cell1
    have hf0 := hR.free 1
    obtain ⟨a, ha⟩ : ∃ a, a = i + k := ⟨_, rfl⟩
    rw [← ha] at hR hor hc0 hbt hn
    have hbit := fun n => bit_any base p v bs a a (wr.drewN n) (hR.drewN n) (by omega) hl
    obtain ⟨z, hz⟩ : ∃ z, z = y + (rbit bs a).toNat := ⟨_, rfl⟩
    have hor' : bits .or .u64 (y : Int) (((rbit bs a).toNat : Nat) : Int) = (z : Int) := by rw [hor, hz, hy]
    have hn' : qar (qbi bs i (k + 1)) = z := by rw [hn, hz, hy]
    have hwa : IntKind.i64.wrap ((a : Int) + 1) = a + 1 := IntWalk.i64_in _ (by omega)
    have Hn := Hj hn'; have Ha := Hj ha; have HR := Hj hR; have HK := Hj hK
    clear hn hsucc hy hz hor hn' ha hR hK hp hb
    generalize (rbit bs a).toNat = r at *
    go_wp2
    go_quiet ((go_at_call 56; exact Calls.quiet_of_same (hbit _)))
    go_wp2
    refine ⟨⟨k + 1, by omega, by go_num, by rw [Hn.out], ?_, ?_⟩, by simp [intOf]; omega⟩
    · rw [show i + (k + 1) = a + 1 by rw [Ha.out]; omega]
      exact (HR.out.drewN nq).step
    · exact (HK.out.drewN nq).setCell (p := ⟨p, 1, none⟩) (fun _ => rfl) _
  · obtain rfl : k = N := by omega
    go_wp2
    go_ret2
    exact ⟨rfl, hR, hK⟩
def endOf (rest : List Bool) : Nat := if 8 ≤ rest.length then 4 else if rest.any id then 4 else 0
theorem endOf_long (bs : List Nat) (i : Nat) (h : i + 8 ≤ 8 * bs.length) : endOf ((qap bs).drop i) = 4 := by
 unfold endOf; rw [if_pos]; simp [qcd]; omega
theorem endOf_bit (bs : List Nat) (i k : Nat) (h : i + k < 8 * bs.length) (hb : rbit bs (i + k) = true) : endOf ((qap bs).drop i) = 4 := by
 unfold endOf
 split
 · rfl
 · rw [if_pos]
   rw [List.any_eq_true]
   refine ⟨true, ?_, rfl⟩
   have : ((qap bs).drop i)[k]? = some true := by rw [List.getElem?_drop, qdu bs _ h, hb]
   exact List.mem_of_getElem? this
theorem qkj (bs : List Nat) (i : Nat) (h : 8 * bs.length < i + 8) (hb : ∀ k, i + k < 8 * bs.length → rbit bs (i + k) = false) : endOf ((qap bs).drop i) = 0 := by
 unfold endOf
 rw [if_neg (by simp [qcd]; omega), if_neg]
 rw [List.any_eq_true]
 rintro ⟨x, hx, ht⟩
 obtain ⟨k, hk⟩ := List.getElem?_of_mem hx
 rw [List.getElem?_drop] at hk
 by_cases hl : i + k < 8 * bs.length
 · rw [qdu bs _ hl, hb k hl] at hk
   simp only [Option.some.injEq] at hk
   subst hk
   cases ht
 · rw [List.getElem?_eq_none (by rw [qcd]; omega)] at hk
   cases hk
theorem rend_any (base p : Nat) (v : Value) (bs : List Nat) (i : Nat) (w : World) (h : IsR w base p v bs i) (hl : bs.length ≤ 140737488351232) (hi : i ≤ 8 * bs.length) :
 Calls Tryz.prog 28 #[.pointer (some ⟨p, 0, none⟩)] w fun e w' => e = .returned (.int .i64 ((endOf ((qap bs).drop i) : Nat) : Int)) ∧ ∃ n, w' = w.drewN n := by
 obtain ⟨m, hm⟩ : ∃ m, m = 8 * bs.length - i := ⟨_, rfl⟩
 by_cases h8 : 8 ≤ m
 · have he := endOf_long bs i (by omega)
   have Hm := Hj hm
   have h8' : (8 : Int) ≤ m := by omega
   have HE := Hj he
   clear he hm
   go_enter Tryz.func28, Tryz.ntmps28
   go_wp2_with (go_at_call 55; refine (qhr base p v bs i _ h hl hi).mono ?_; rw [← Hm.out]; rintro e w1 ⟨rfl, nq, rfl⟩)
   go_ret
   exact ⟨by rw [HE.out]; rfl, nq, rfl⟩
 · have Hm := Hj hm
   have h8' : ¬ (8 : Int) ≤ m := by omega
   clear hm
   go_enter Tryz.func28, Tryz.ntmps28
   go_wp2_with (go_at_call 55; refine (qhr base p v bs i _ h hl hi).mono ?_; rw [← Hm.out]; rintro e w1 ⟨rfl, nq, rfl⟩)
   go_loopw [12] (fun c wr => ∃ k : Nat, k ≤ m ∧ c = .int .i64 k ∧ (∀ k', k' < k → rbit bs (i + k') = false) ∧ ∃ n, wr = w.drewN n) (fun c wr => m - (intOf c).toNat)
   case atStart => exact ⟨0, by omega, rfl, fun k' hk' => by omega, nq, rfl⟩
   case round =>
    obtain ⟨k, hk, rfl, hall, n1, hwr⟩ := hrel
    have h : IsR wr base p v bs i := by rw [hwr]; exact h.drewN _
    have Hwr := Hj hwr
    clear hwr
    have Hall := Hj hall
    clear hall
    by_cases hlt : k < m
    · have hc1 := h.cell1
      have hj : i + k < 8 * bs.length := by have := Hm.out; omega
      have hbit := fun n => bit_any base p v bs i (i + k) (wr.drewN n) (h.drewN n) hj hl
      have hwa : IntKind.i64.wrap ((i : Int) + k) = ((i + k : Nat) : Int) := by rw [IntWalk.i64_in _ (by omega)]; omega
      obtain ⟨a, ha⟩ : ∃ a, a = i + k := ⟨_, rfl⟩
      rw [← ha] at hbit hwa hj
      have hia : (i : Int) + k = a := by omega
      have hwa2 : IntKind.i64.wrap (a : Int) = a := qcj _ (by omega)
      have Ha := Hj ha
      have H := Hj h
      clear ha h
      cases hb : rbit bs a
      · have hb' : (rbit bs a).toNat = 0 := by rw [hb]; rfl
        rw [hb'] at hbit
        have Hb := Hj hb
        clear hb hb'
        go_wp2
        go_quiet ((go_at_call 56; exact Calls.quiet_of_same (hbit _)))
        go_wp2
        refine ⟨⟨k + 1, by omega, by go_num, fun k' hk' => ?_, n1 + nq, by rw [Hwr.out, World.drewN_drewN]⟩, by simp [intOf]; omega⟩
        rcases Nat.lt_or_ge k' k with h1 | h1
        · exact Hall.out k' h1
        · obtain rfl : k' = k := by omega
          rw [← Ha.out]; exact Hb.out
      · have hb' : (rbit bs a).toNat = 1 := by rw [hb]; rfl
        rw [hb'] at hbit
        have he := endOf_bit bs i k (by rw [← Ha.out]; exact hj) (by rw [← Ha.out]; exact hb)
        have HE := Hj he
        clear hb hb' he
        go_wp2
        go_quiet ((go_at_call 56; exact Calls.quiet_of_same (hbit _)))
        go_wp2
        go_ret
        exact ⟨by rw [HE.out]; rfl, n1 + nq, by rw [Hwr.out, World.drewN_drewN]⟩
    · have he := qkj bs i (by have := Hm.out; omega) (fun k' hk' => Hall.out k' (by have := Hm.out; omega))
      have HE := Hj he
      clear he
      go_wp2
      go_ret
      exact ⟨by rw [HE.out]; rfl, n1, Hwr.out⟩
end
section
set_option maxHeartbeats 4000000
set_option maxRecDepth 100000
open Go.RowKit
theorem Arr.two {w0 w : World} {blk off : Nat} {d : Array Nat} (h : Arr w0 w blk off d) {i j : Nat} (hi : i < d.size) (hj : j < d.size) (v : Value) :
 ∃ v', (w.setCell ⟨blk, off + i, none⟩ v).cell? ⟨blk, off + j, none⟩ = some v' := by
 by_cases e : i = j
 · subst e; exact ⟨v, World.cell?_setCell_same _ _ _ (h.cell i hi)⟩
 · refine ⟨.int .u64 ((d[j]! : Nat) : Int), ?_⟩
   rw [World.cell?_setCell_other _ _ _ _ (by simp)]
   exact h.cell j hj
theorem peq_end (a i j i2 j2 : Nat) (d : Array Nat) (hi : i2 = Go.Sort.scanUp (fun x => !ltN d[a]! x) d j i) (hj : j2 = Go.Sort.scanDown (fun x => ltN d[a]! x) d i2 j) (h : j2 < i2) : Go.Sort.partEqLoop ltN a i j d = (i2, d) := by
 subst hi; subst hj
 rw [Go.Sort.partEqLoop_eq, if_pos h]
theorem peq_go (a i j i2 j2 : Nat) (d : Array Nat) (hi : i2 = Go.Sort.scanUp (fun x => !ltN d[a]! x) d j i) (hj : j2 = Go.Sort.scanDown (fun x => ltN d[a]! x) d i2 j) (h : ¬ j2 < i2) :
 Go.Sort.partEqLoop ltN a i j d = Go.Sort.partEqLoop ltN a (i2 + 1) (j2 - 1) (Go.Sort.swp d i2 j2) := by
 subst hi; subst hj
 rw [Go.Sort.partEqLoop_eq, if_neg h]
theorem uPeq_any (w0 w : World) (blk off cap a b p : Nat) (d : Array Nat) (h : Arr w0 w blk off d) (hap : a ≤ p) (hpb : p < b) (hb : b ≤ d.size) (hsz : d.size ≤ 1099511627776) :
 Calls Tryz.prog 223 #[.slice (some ⟨blk, off, none⟩) d.size cap, .int .i64 (a : Int), .int .i64 (b : Int), .int .i64 (p : Int)] w fun e w' =>
  e = .returned (.int .i64 (((Go.Sort.partitionEqual ltN d a b p).1 : Nat) : Int)) ∧ Arr w0 w' blk off (Go.Sort.partitionEqual ltN d a b p).2 := by
 have HH := Hj h
 obtain ⟨b1, rfl⟩ : ∃ b1, b = b1 + 1 := ⟨b - 1, by omega⟩
 have ha1 : a < d.size := by omega
 have hp1 : p < d.size := by omega
 have has : (a : Int) < (d.size : Int) := by omega
 have hps : (p : Int) < (d.size : Int) := by omega
 have c0 := h.cell a ha1; have c1 := h.cell p hp1
 have f0 := h.fro a ha1; have f1 := h.fro p hp1
 obtain ⟨x, hx⟩ : ∃ x, d[a]! = x := ⟨_, rfl⟩
 obtain ⟨y, hy⟩ : ∃ y, d[p]! = y := ⟨_, rfl⟩
 rw [hx] at c0
 rw [hy] at c1
 obtain ⟨v2, h2⟩ := h.two ha1 hp1 (.int .u64 (y : Int))
 have HS : Hid (∀ m, Arr w0 (((w.drewN m).setCell ⟨blk, off + a, none⟩ (.int .u64 (y : Int))).setCell ⟨blk, off + p, none⟩ (.int .u64 (x : Int))) blk off (Go.Sort.swp d a p)) := Hj (fun m => (h.drewN m).swap ha1 hp1 hy hx)
 have HR : Hid (Go.Sort.partitionEqual ltN d a (b1 + 1) p = Go.Sort.partEqLoop ltN a (a + 1) b1 (Go.Sort.swp d a p)) := Hj rfl
 rw [HR.out]
 have HSZ := Hj (Go.Sort.size_swp d a p)
 generalize Go.Sort.swp d a p = d1 at HS HR HSZ ⊢
 clear h hx hy ha1 hp1
 go_enter Tryz.func223, Tryz.ntmps223
 go_wp2
 go_region
 go_wp2
 go_loopw [9, 10] (fun ci cj wr => ∃ (i j : Nat) (dk : Array Nat), ci = .int .i64 (i : Int) ∧ cj = .int .i64 (j : Int) ∧ a + 1 ≤ i ∧ i ≤ j + 1 ∧ j ≤ b1 ∧ dk.size = d.size ∧ Hid (Arr w0 wr blk off dk) ∧ Hid (Go.Sort.partEqLoop ltN a i j dk = Go.Sort.partEqLoop ltN a (a + 1) b1 d1)) (fun ci cj _ => (intOf cj + 1 - intOf ci).toNat)
 case atStart => exact ⟨a + 1, b1, d1, by simp, by go_num, Nat.le_refl _, by omega, Nat.le_refl _, HSZ.out, Hj (HS.out _), Hj rfl⟩
 case round =>
  clear c0 c1 f0 f1 h2
  obtain ⟨i, j, dk, rfl, rfl, hai, hij, hjb, hsk, HA, HO⟩ := hrel
  obtain ⟨x, hx⟩ : ∃ x, dk[a]! = x := ⟨_, rfl⟩
  have HX := Hj hx
  clear hx
  go_wp2
  go_loopw [9] (fun ci wr => ∃ (i2 : Nat), ci = .int .i64 (i2 : Int) ∧ i ≤ i2 ∧ i2 ≤ j + 1 ∧ Hid (Arr w0 wr blk off dk) ∧ Hid (Go.Sort.scanUp (fun x => !ltN dk[a]! x) dk j i2 = Go.Sort.scanUp (fun x => !ltN dk[a]! x) dk j i)) (fun ci _ => j + 1 - (intOf ci).toNat)
  case atStart => exact ⟨i, rfl, Nat.le_refl _, hij, HA, Hj rfl⟩
  case round =>
   obtain ⟨i2, rfl, hii, hij2, HA2, HU⟩ := hrel
   by_cases hle : i2 ≤ j
   · have hlei : (i2 : Int) ≤ (j : Int) := by omega
     have his : (i2 : Int) < (d.size : Int) := by omega
     have c0 := HA2.out.cell a (by omega); have c1 := HA2.out.cell i2 (by omega)
     obtain ⟨y, hy⟩ : ∃ y, dk[i2]! = y := ⟨_, rfl⟩
     rw [HX.out] at c0
     rw [hy] at c1
     have HY := Hj hy
     clear hy
     cases hl : ltN x y with
     | false =>
       have HN : Hid (Go.Sort.scanUp (fun x => !ltN dk[a]! x) dk j (i2 + 1) = Go.Sort.scanUp (fun x => !ltN dk[a]! x) dk j i) := Hj (by rw [← HU.out]; exact (scU_go _ dk j i2 hle (by show (!ltN _ _) = true; rw [HX.out, HY.out, hl]; rfl)).symm)
       go_wp2
       go_quiet ((go_at_call 158; exact Calls.quiet_of_same (qah _ _ _)))
       go_wp2
       exact ⟨⟨i2 + 1, by simp, by omega, by omega, Hj (HA2.out.drewN _), HN⟩, by simp [intOf]; omega⟩
     | true =>
       have HI : Hid (i2 = Go.Sort.scanUp (fun x => !ltN dk[a]! x) dk j i) := Hj (by rw [← HU.out]; exact (qgt _ dk j i2 (.inr (by show (!ltN _ _) = false; rw [HX.out, HY.out, hl]; rfl))).symm)
       go_wp2
       go_quiet ((go_at_call 158; exact Calls.quiet_of_same (qah _ _ _)))
       have HA3 := Hj (HA2.out.drewN nq)
       generalize wr.drewN nq = wq at *
       have HL := Hj hl
       clear HA2 HU c0 c1 hl
       go_wp2
       go_loopw [10] (fun cj wr => ∃ (j2 : Nat), cj = .int .i64 (j2 : Int) ∧ j2 ≤ j ∧ i2 ≤ j2 + 1 ∧ Hid (Arr w0 wr blk off dk) ∧ Hid (Go.Sort.scanDown (fun x => ltN dk[a]! x) dk i2 j2 = Go.Sort.scanDown (fun x => ltN dk[a]! x) dk i2 j)) (fun cj _ => (intOf cj).toNat)
       case atStart => exact ⟨j, rfl, Nat.le_refl _, by omega, HA3, Hj rfl⟩
       case round =>
        obtain ⟨j2, rfl, hjj, hij3, HA4, HD⟩ := hrel
        by_cases hle2 : i2 ≤ j2
        · have hlei2 : (i2 : Int) ≤ (j2 : Int) := by omega
          have hjs : (j2 : Int) < (d.size : Int) := by omega
          obtain ⟨J, hJJ⟩ : ∃ J, J = j2 := ⟨_, rfl⟩
          subst hJJ
          obtain ⟨q, hJ⟩ : ∃ q, J = q + 1 := ⟨J - 1, by omega⟩
          have eJ : (J : Int) - 1 = (q : Int) := by omega
          have c0 := HA4.out.cell a (by omega); have c1 := HA4.out.cell J (by omega); have c2 := HA4.out.cell i2 (by omega)
          have f1 := HA4.out.fro J (by omega); have f2 := HA4.out.fro i2 (by omega)
          obtain ⟨z, hz⟩ : ∃ z, dk[J]! = z := ⟨_, rfl⟩
          rw [HX.out] at c0
          rw [hz] at c1
          rw [HY.out] at c2
          have HZ := Hj hz; have HJ := Hj hJ
          clear hz hJ
          cases hl : ltN x z with
          | true =>
            have HN : Hid (Go.Sort.scanDown (fun x => ltN dk[a]! x) dk i2 q = Go.Sort.scanDown (fun x => ltN dk[a]! x) dk i2 j) := Hj (by rw [← HD.out, HJ.out]; exact (scD_go _ dk i2 q (by have := HJ.out; omega) (by show ltN _ _ = true; rw [HX.out, ← HJ.out, HZ.out, hl])).symm)
            go_wp2
            go_quiet ((go_at_call 158; exact Calls.quiet_of_same (qah _ _ _)))
            go_wp2
            exact ⟨⟨q, rfl, by have := HJ.out; omega, by have := HJ.out; omega, Hj (HA4.out.drewN _), HN⟩, by have := HJ.out; simp [intOf]; omega⟩
          | false =>
            have HJ2 : Hid (J = Go.Sort.scanDown (fun x => ltN dk[a]! x) dk i2 j) := Hj (by rw [← HD.out]; exact (qdx _ dk i2 J (.inr (by show ltN _ _ = false; rw [HX.out, HZ.out, hl]))).symm)
            have HG := Hj (peq_go a i j i2 J dk HI.out HJ2.out (by omega))
            have hne : ¬ J = i2 := fun e => by
             have h1 := HY.out; have h2 := HZ.out; have h3 := HL.out
             rw [e, h1] at h2
             rw [h2, hl] at h3
             exact absurd h3 (by decide)
            have hne2 : ¬ (off + J = off + i2) := by omega
            have hlt : i2 < J := by omega
            have HNX : Hid (∀ wq, Arr w0 wq blk off (Go.Sort.swp dk i2 J) → ∃ (i' j' : Nat) (dj : Array Nat), Value.int .i64 ((i2 : Int) + 1) = .int .i64 (i' : Int) ∧ Value.int .i64 (q : Int) = .int .i64 (j' : Int) ∧ a + 1 ≤ i' ∧ i' ≤ j' + 1 ∧ j' ≤ b1 ∧ dj.size = d.size ∧ Hid (Arr w0 wq blk off dj) ∧ Hid (Go.Sort.partEqLoop ltN a i' j' dj = Go.Sort.partEqLoop ltN a (a + 1) b1 d1)) := Hj (fun wq hq =>
             ⟨i2 + 1, q, _, by simp, rfl, by omega, by have := HJ.out; omega, by have := HJ.out; omega, by rw [Go.Sort.size_swp, hsk], Hj hq, Hj (by rw [← HO.out, HG.out, show J - 1 = q by have := HJ.out; omega])⟩)
            have hi3 : i2 < dk.size := by omega
            have hJ3 : J < dk.size := by omega
            have HSW : Hid (∀ wq m, Arr w0 wq blk off dk → Arr w0 (((wq.drewN m).setCell ⟨blk, off + i2, none⟩ (.int .u64 (z : Int))).setCell ⟨blk, off + J, none⟩ (.int .u64 (y : Int))) blk off (Go.Sort.swp dk i2 J)) := Hj (fun wq m hq => (hq.drewN m).swap hi3 hJ3 HZ.out HY.out)
            have hms : (j : Int) + 1 - i > (q : Int) + 1 - (i2 + 1) := by have := HJ.out; omega
            clear hne hi3 hJ3
            go_wp2
            go_quiet ((go_at_call 158; exact Calls.quiet_of_same (qah _ _ _)))
            have HA5 := Hj (HA4.out.drewN nq)
            generalize wr.drewN nq = wq at *
            have g1 := HA5.out.cell J (by omega); have g2 := HA5.out.cell i2 (by omega)
            have k1 := HA5.out.fro J (by omega); have k2 := HA5.out.fro i2 (by omega)
            rw [HZ.out] at g1
            rw [HY.out] at g2
            clear HA4 HD c0 c1 c2 f1 f2 hl
            go_wp2
            go_region
            go_wp2
            exact ⟨HNX.out _ (HSW.out _ _ HA5.out), by simp [intOf]; omega⟩
        · have hJ2 : Hid (j2 = Go.Sort.scanDown (fun x => ltN dk[a]! x) dk i2 j) := Hj (by rw [← HD.out]; exact (qdx _ dk i2 j2 (.inl (by omega))).symm)
          have HE : Hid (Go.Sort.partEqLoop ltN a (a + 1) b1 d1 = (i2, dk)) := Hj (by rw [← HO.out]; exact peq_end a i j i2 j2 dk HI.out hJ2.out (by omega))
          have hle3 : (decide ((i2 : Int) ≤ (j2 : Int))) = false := by simp; omega
          have hgt : (j2 : Int) < (i2 : Int) := by omega
          clear HO hle3 hgt
          go_wp2
          go_quiet (fail)
          go_wp2
          go_ret
          exact ⟨by rw [HE.out]; rfl, by rw [HE.out]; exact HA4.out.drewN _⟩
   · have HI : Hid (i2 = Go.Sort.scanUp (fun x => !ltN dk[a]! x) dk j i) := Hj (by rw [← HU.out]; exact (qgt _ dk j i2 (.inl (by omega))).symm)
     have hi2j : i2 = j + 1 := by omega
     have HIJ2 := Hj hi2j
     clear hi2j
     go_wp2
     go_quiet (fail)
     have HA3 := Hj (HA2.out.drewN nq)
     generalize wr.drewN nq = wq at *
     go_wp2
     go_loopw [10] (fun cj wr => ∃ (j2 : Nat), cj = .int .i64 (j2 : Int) ∧ j2 = j ∧ Hid (Arr w0 wr blk off dk)) (fun cj _ => (intOf cj).toNat)
     case atStart => exact ⟨j, rfl, rfl, HA3⟩
     case round =>
      obtain ⟨j2, rfl, hj2, HA4⟩ := hrel
      have hJ2 : Hid (j2 = Go.Sort.scanDown (fun x => ltN dk[a]! x) dk i2 j) := Hj (by rw [hj2]; exact (qdx _ dk i2 j (.inl (by have := HIJ2.out; omega))).symm)
      have HE : Hid (Go.Sort.partEqLoop ltN a (a + 1) b1 d1 = (i2, dk)) := Hj (by rw [← HO.out]; exact peq_end a i j i2 j2 dk HI.out hJ2.out (by have := HIJ2.out; omega))
      have hle2 : ¬ i2 ≤ j2 := by have := HIJ2.out; omega
      clear HO hj2
      go_wp2
      go_quiet (fail)
      go_wp2
      go_ret
      exact ⟨by rw [HE.out]; rfl, by rw [HE.out]; exact HA4.out.drewN _⟩
end
section
open Go.RowKit
theorem byte_testBit : ∀ (b0 b1 b2 b3 b4 b5 b6 b7 : Bool) (r : Fin 8),
 (((((((b0.toNat * 2 + b1.toNat) * 2 + b2.toNat) * 2 + b3.toNat) * 2 + b4.toNat) * 2 + b5.toNat) * 2 + b6.toNat) * 2 + b7.toNat).testBit (7 - r.val) = [b0, b1, b2, b3, b4, b5, b6, b7].getD r.val false := by
 decide +kernel
theorem qii (L : List Bool) (i : Nat) (h : i < 8 * ((L.length + 7) / 8)) : rbit (packed L) i = L.getD i false := by
 unfold rbit
 rw [packed_getD L (i / 8) (by omega)]
 have hb := byte_testBit (L.getD (8 * (i / 8)) false) (L.getD (8 * (i / 8) + 1) false) (L.getD (8 * (i / 8) + 2) false) (L.getD (8 * (i / 8) + 3) false)
  (L.getD (8 * (i / 8) + 4) false) (L.getD (8 * (i / 8) + 5) false) (L.getD (8 * (i / 8) + 6) false) (L.getD (8 * (i / 8) + 7) false) ⟨i % 8, Nat.mod_lt _ (by decide)⟩
 unfold byteAt bitAt
 rw [hb]
 show List.getD _ (i % 8) false = _
 clear hb
 have hm : i % 8 < 8 := Nat.mod_lt _ (by decide)
 obtain ⟨r, hr⟩ : ∃ r, r = i % 8 := ⟨_, rfl⟩
 have hi : i = 8 * (i / 8) + r := by omega
 obtain ⟨q, hq⟩ : ∃ q, q = i / 8 := ⟨_, rfl⟩
 rw [← hq] at hi ⊢
 rw [← hr] at hm ⊢
 subst hi
 match r, hm with
 | 0, _ => rfl
 | 1, _ => rfl
 | 2, _ => rfl
 | 3, _ => rfl
 | 4, _ => rfl
 | 5, _ => rfl
 | 6, _ => rfl
 | 7, _ => rfl
theorem qij (L : List Bool) (i n : Nat) (h : i + n ≤ L.length) : qbi (packed L) i n = (L.drop i).take n := by
 apply List.ext_getElem?
 intro k
 unfold qbi
 rw [List.getElem?_take, List.getElem?_take]
 split
 · rw [List.getElem?_drop, List.getElem?_drop, qdu _ _ (by rw [qaw]; omega), qii _ _ (by omega), List.getD_eq_getElem?_getD, List.getElem?_eq_getElem (by omega)]
   rfl
 · rfl
theorem bitsNat_take (X n : Nat) : ∀ k, k ≤ n → qar (qbo X n k) = X / 2 ^ (n - k) % 2 ^ k := by
 intro k
 induction k with
 | zero => intro _; simp [qfk, bitsNat_nil, Nat.mod_one]
 | succ k ih =>
   intro hk
   rw [qfl, qet, ih (by omega), ← qfz]
   obtain ⟨m, hm⟩ : ∃ m, m = n - (k + 1) := ⟨_, rfl⟩
   rw [show n - 1 - k = m by omega, show n - k = m + 1 by omega, ← hm, Nat.pow_succ 2 m, ← Nat.div_div_eq_div_mul]
   generalize X / 2 ^ m = Y
   rw [Nat.pow_succ, Nat.mul_comm (2 ^ k) 2, Nat.mod_mul]
   omega
theorem qdy (X n : Nat) : qar (qab X n) = X % 2 ^ n := by
 rw [← fieldTake_all, bitsNat_take X n n (Nat.le_refl _)]
 simp
theorem endOf_packed (L : List Bool) : endOf ((qap (packed L)).drop L.length) = 0 := by
 apply qkj
 · rw [qaw]; omega
 · intro k hk
   rw [qaw] at hk
   rw [qii _ _ hk, List.getD_eq_getElem?_getD, List.getElem?_eq_none (by omega)]
   rfl
end
section
open Go.RowKit
theorem wrap_u64 (n : Nat) (h : n ≤ 18446744073709551615) : IntKind.u64.wrap (n : Int) = n := IntWalk.u64_in _ (by omega)
end
section
open Go.RowKit
theorem IsW.own_lt {a : World} {base p : Nat} {v : Value} {l : List Bool} (h : IsW a base p v l) {g : Nat} (hg : v.ownBlock = some g) : g < a.heap.size := (h.row.lt g hg).2
theorem Wrote.trans {base p : Nat} {v0 v : Value} {l : List Bool} {w w1 w2 : World} (hK : Keeps (foot p v0) w w1) (hn : ∀ g, v.ownBlock = some g → v0.ownBlock = some g ∨ w.heap.size ≤ g) (h : Wrote base p v l w1 w2) : Wrote base p v0 l w w2 := by
 obtain ⟨v', h1, h2, h3⟩ := h
 refine ⟨v', h1, hK.trans h2 (fun k hk e => ?_), fun g hg => ?_⟩
 · rcases e with rfl | e
   · exact .inl rfl
   · rcases hn k e with h' | h'
     · exact .inr h'
     · exact absurd hk (Nat.not_lt.2 h')
 · rcases h3 g hg with h' | h'
   · exact hn g h'
   · exact .inr (Nat.le_trans hK.size h')
theorem qgb (w : World) (l : List Nat) : Holds (w.alloc (.cells (u8s l).toArray 5)) (.slice (some ⟨w.heap.size, 0, none⟩) l.length l.length) (u8s l) := by
 refine ⟨_, l.length, by rw [qaa], by rw [qaa]; exact Nat.le_refl _, .inr ⟨_, 0, rfl, fun j u hj => ?_⟩⟩
 rw [cell_of_row _ _ _ _ _ _ (heap_alloc_new w _), Nat.zero_add]
 simpa using hj
theorem Keeps.draws {S : Nat → Prop} {a b : World} (h : ∃ n, b = a.drewN n) : Keeps S a b := by
 obtain ⟨n, rfl⟩ := h
 exact (Keeps.refl S a).drewN n
def stepB (n : Int) (rest : List Bool) : Nat × Nat × Nat :=
 if n < 0 ∨ 64 < n then (0, 2, 0) else if rest.length < n.toNat then (0, 3, 0) else (qar (rest.take n.toNat), 0, n.toNat)
theorem rbits_all (base p : Nat) (v : Value) (bs : List Nat) (i : Nat) (n : Int) (w : World) (h : IsR w base p v bs i) (hl : bs.length ≤ 140737488351232) (hi : i ≤ 8 * bs.length) :
 Calls Tryz.prog 53 #[.pointer (some ⟨p, 0, none⟩), .int .i64 n] w fun e w' => e = .returned (.tuple #[.int .u64 (((stepB n ((qap bs).drop i)).1 : Nat) : Int), .int .i64 (((stepB n ((qap bs).drop i)).2.1 : Nat) : Int)]) ∧
  IsR w' base p v bs (i + (stepB n ((qap bs).drop i)).2.2) ∧ Keeps (fun k => k = p) w w' := by
 have hlen : ((qap bs).drop i).length = 8 * bs.length - i := by rw [List.length_drop, qcd]
 by_cases hn : n < 0 ∨ 64 < n
 · have e : stepB n ((qap bs).drop i) = (0, 2, 0) := by unfold stepB; rw [if_pos hn]
   rw [e]
   refine (rbits_bad p n w hn).mono ?_
   rintro e w' ⟨rfl, rfl⟩
   exact ⟨rfl, h, Keeps.refl _ _⟩
 · obtain ⟨N, rfl⟩ : ∃ N : Nat, n = N := ⟨n.toNat, by omega⟩
   by_cases hN : 8 * bs.length < i + N
   · have e : stepB (N : Int) ((qap bs).drop i) = (0, 3, 0) := by unfold stepB; rw [if_neg hn, if_pos (by rw [hlen]; omega)]
     rw [e]
     refine (rbits_eof base p v bs i N w h hl hi (by omega) hN).mono ?_
     rintro e w' ⟨rfl, m, rfl⟩
     exact ⟨rfl, h.drewN m, Keeps.draws ⟨m, rfl⟩⟩
   · have e : stepB (N : Int) ((qap bs).drop i) = (qar (qbi bs i N), 0, N) := by unfold stepB; rw [if_neg hn, if_neg (by rw [hlen]; omega)]; rfl
     rw [e]
     exact rbits_any base p v bs i N w h hl (by omega) (by omega)
theorem qbq {S : Nat → Prop} {a b : World} (h : Keeps S a b) {p : Addr} {v : Value} (hc : a.cell? p = some v) (hS : ¬ S p.block) : b.frozen? p = a.frozen? p :=
 World.frozen?_of_block (h.block p.block (World.block_lt_of_cell? a p hc) hS)
def ownH {α : Type} (v : Value) (l : List α) (k : Nat) : Prop := l ≠ [] ∧ v.ownBlock = some k
theorem Holds.keepsH {α : Type} {S : Nat → Prop} {a b : World} {v : Value} {xs : List Value} {l : List α} (h : Holds a v xs) (k : Keeps S a b) (he : l = [] → xs = []) (hS : ∀ g, ownH v l g → ¬ S g) : Holds b v xs := by
 by_cases hl : l = []
 · obtain ⟨ad, cap, hv, hc, _⟩ := h
   exact ⟨ad, cap, hv, hc, .inl (he hl)⟩
 · exact h.keeps k (fun g hg => hS g ⟨hl, hg⟩)
theorem qdz {l : List Nat} (h : l = []) : u64s l = [] := by rw [h]; rfl
theorem qgv {w : World} {v : Value} {l : List Nat} (h : Holds w v (u64s l)) {k : Nat} (hk : ownH v l k) : k < w.heap.size := by
 obtain ⟨g, hg, hlt⟩ := h.lt (fun e => hk.1 (by cases l <;> simp_all [u64s]))
 have h2 := hk.2
 rw [hg] at h2
 simp only [Option.some.injEq] at h2
 omega
theorem qgc {w : World} {ad : Option Addr} {cap : Nat} {l : List Nat} (h : Holds w (.slice ad l.length cap) (u64s l)) {j y : Nat} (hj : l[j]? = some y) :
 ∃ b off, ad = some ⟨b, off, none⟩ ∧ w.cell? ⟨b, off + j, none⟩ = some (.int .u64 (y : Nat)) := by
 obtain ⟨b, off, cap', hv, hc⟩ := h.index (j := j) (u := .int .u64 (y : Nat)) (by simp [u64s, hj])
 simp only [Value.slice.injEq] at hv
 exact ⟨b, off, hv.1, hc⟩
theorem infoU64 : (Tryz.prog.info? 23).map (fun i => (i.zero, i.size, i.bytes)) = some (some (.int .u64 0), 1, 8) := by kernel_rfl
theorem qep (w : World) (o : Obj) (a : Addr) (h : a.block < w.heap.size) : (w.alloc o).cell? a = w.cell? a := World.cell?_of_block (Below.heap_alloc w o a.block h)
theorem run_to_all {P : Program} (w : World) (t e : TypeId) (ht : P.underlying t = some (.slice e)) {i : TypeInfo} (hi : P.info? e = some i) (hz : i.size = 1) {a : Option Addr} {len cap : Nat} {xs : List Value} (h : Holds w (.slice a len cap) xs) (k : IntKind) (hi' : Nat) (h1 : hi' ≤ xs.length) :
 ∃ a2 cap2, (∀ w, (Instr.sliceAt t (.slice a len cap) none (some (.int k (hi' : Nat))) none).run P w = .ok (.slice a2 hi' cap2) w) ∧ Holds w (.slice a2 hi' cap2) (xs.take hi') := by
 obtain ⟨a2, cap2, e1, e2, e3⟩ := qes w h 0 hi' (Nat.zero_le _) h1
 rw [Nat.sub_zero] at e1 e2 e3
 rw [List.drop_zero] at e2
 have hcap : hi' ≤ cap := by
  obtain ⟨ad, cap', hv, hc, _⟩ := h
  simp only [Value.slice.injEq] at hv
  omega
 refine ⟨a2, cap2, fun w' => ?_, e2⟩
 have hel : P.elem t = e := by simp [Program.elem, ht]
 have ht' : P.underlying t = some (.slice (P.elem t)) := by rw [hel]; exact ht
 rw [run_sliceAt_slice (P := P) w' t _ _ _ _ ht', run_slice_h (P := P) w' t a len cap ht' k hi' (by omega) (by omega), hel]
 simp [sizeOf, typeInfo, hi, hz, e1, Result.andThen]
end
section
open Go.RowKit
def lz (x : Nat) : Nat := 64 - Lib.bitLen x
def tz (x : Nat) : Nat := Lib.ctz 64 x
theorem bitLenAux_bounds : ∀ (f x : Nat), x < 2 ^ f → x ≠ 0 → 1 ≤ Lib.bitLenAux f x ∧ Lib.bitLenAux f x ≤ f ∧ 2 ^ (Lib.bitLenAux f x - 1) ≤ x ∧ x < 2 ^ Lib.bitLenAux f x
 | 0, x, h, h0 => by simp at h; omega
 | f + 1, x, h, h0 => by
   simp only [Lib.bitLenAux, if_neg h0]
   by_cases h1 : x / 2 = 0
   · have hx : x = 1 := by omega
     subst hx
     have e : Lib.bitLenAux f (1 / 2) = 0 := by cases f <;> simp [Lib.bitLenAux]
     rw [e]
     simp
   · obtain ⟨a, b, c, d⟩ := bitLenAux_bounds f (x / 2) (by rw [Nat.pow_succ] at h; omega) h1
     obtain ⟨L, hL⟩ : ∃ L, Lib.bitLenAux f (x / 2) = L + 1 := ⟨Lib.bitLenAux f (x / 2) - 1, by omega⟩
     rw [hL] at b c d ⊢
     simp only [Nat.add_sub_cancel] at c
     refine ⟨by omega, by omega, ?_, ?_⟩
     · rw [show 1 + (L + 1) - 1 = L + 1 by omega, Nat.pow_succ]; omega
     · rw [show 1 + (L + 1) = (L + 1) + 1 by omega, Nat.pow_succ]; omega
theorem bitLen_bounds {x : Nat} (h : x < 18446744073709551616) (h0 : x ≠ 0) : 1 ≤ Lib.bitLen x ∧ Lib.bitLen x ≤ 64 ∧ 2 ^ (Lib.bitLen x - 1) ≤ x ∧ x < 2 ^ Lib.bitLen x := bitLenAux_bounds 64 x h h0
theorem bitLen_le64 (x : Nat) : Lib.bitLen x ≤ 64 := by
 have : ∀ f y, Lib.bitLenAux f y ≤ f := by
  intro f
  induction f with
  | zero => intro y; simp [Lib.bitLenAux]
  | succ f ih => intro y; simp only [Lib.bitLenAux]; split <;> (try omega); have := ih (y / 2); omega
 exact this 64 x
theorem tz_spec {x : Nat} (h : x < 18446744073709551616) (h0 : x ≠ 0) : (∃ m, x = 2 ^ tz x * (2 * m + 1)) ∧ tz x < 64 := by
 unfold tz Lib.ctz
 rw [if_neg h0]
 obtain ⟨m, hm, hk⟩ := Lib.ctzFrom_spec 64 x (by omega) h
 exact ⟨⟨m, hm⟩, hk⟩
theorem lz_tz {x : Nat} (h : x < 18446744073709551616) (h0 : x ≠ 0) : lz x + tz x ≤ 63 := by
 obtain ⟨a, b, c, d⟩ := bitLen_bounds h h0
 obtain ⟨⟨m, hm⟩, hk⟩ := tz_spec h h0
 have h1 : 2 ^ tz x ≤ x := by
  have : 2 ^ tz x ≤ 2 ^ tz x * (2 * m + 1) := Nat.le_mul_of_pos_right _ (by omega)
  omega
 have h2 : tz x < Lib.bitLen x := (Nat.pow_lt_pow_iff_right (by decide)).1 (Nat.lt_of_le_of_lt h1 d)
 unfold lz
 omega
def win0 : Nat × Nat := (0, 64)
def okWin (s : Nat × Nat) : Prop := s = win0 ∨ s.1 + s.2 ≤ 63
def fitsX (s : Nat × Nat) (x : Nat) : Bool := decide (s.1 ≤ lz x) && decide (s.2 ≤ tz x)
theorem qkn {x : Nat} (h : x < 18446744073709551616) (h0 : x ≠ 0) : fitsX win0 x = false := by
 have := (tz_spec h h0).2
 unfold fitsX win0
 simp; omega
def newX (s : Nat × Nat) (x : Nat) : Nat × Nat := if x = 0 then s else if fitsX s x then s else (lz x, tz x)
theorem newX_ok {s : Nat × Nat} {x : Nat} (hs : okWin s) (h : x < 18446744073709551616) : okWin (newX s x) := by
 unfold newX
 split
 · exact hs
 · split
   · exact hs
   · exact .inr (lz_tz h ‹_›)
def headX (s : Nat × Nat) (x : Nat) : List Bool := if fitsX s x then [true, false] else [true, true] ++ qab (lz x) 6 ++ qab (63 - lz x - tz x) 6
def bitsX (s : Nat × Nat) (x : Nat) : List Bool := if x = 0 then [false] else headX s x ++ qab (x / 2 ^ (newX s x).2) (64 - (newX s x).1 - (newX s x).2)
theorem bitsX_le (s : Nat × Nat) (x : Nat) : (bitsX s x).length ≤ 78 := by
 unfold bitsX headX
 split
 · simp
 · split <;> simp only [List.length_append, qad, List.length_cons, List.length_nil] <;> omega
def encX : Nat × Nat → Nat → List Nat → List Bool
 | _, _, [] => []
 | s, p, v :: r => bitsX s (v ^^^ p) ++ encX (newX s (v ^^^ p)) v r
def enc6 : List Nat → List Bool
 | [] => []
 | v :: r => qab v 64 ++ encX win0 v r
theorem encX_le : ∀ (l : List Nat) (s : Nat × Nat) (p : Nat), (encX s p l).length ≤ 78 * l.length
 | [], _, _ => by simp [encX]
 | v :: r, s, p => by
   have := bitsX_le s (v ^^^ p)
   have := encX_le r (newX s (v ^^^ p)) v
   simp only [encX, List.length_append, List.length_cons]
   omega
theorem qik (l : List Nat) : (enc6 l).length ≤ 78 * l.length := by
 cases l with
 | nil => simp [enc6]
 | cons v r => have := encX_le r win0 v; simp only [enc6, List.length_append, qad, List.length_cons]; omega
theorem qht {a b : Nat} (ha : a < 18446744073709551616) (hb : b < 18446744073709551616) : a ^^^ b < 18446744073709551616 := Nat.xor_lt_two_pow (n := 64) ha hb
theorem xor_forth (p v : Nat) : p ^^^ (v ^^^ p) = v := by rw [Nat.xor_comm v p, ← Nat.xor_assoc, Nat.xor_self, Nat.zero_xor]
end
section
set_option maxHeartbeats 4000000
set_option maxRecDepth 100000
open Go.RowKit
theorem len8_size : (Lib.len8tab.size : Int) = 256 := by
 have h : Lib.len8tab.size = 256 := by decide
 omega
theorem tab_len (y : Int) (h : y.toNat < Lib.len8tab.size) (h0 : 0 ≤ y) (h1 : y ≤ 255) : ((Lib.len8tab[y.toNat]'h).toNat : Int) = ((Lib.bitLen y.toNat : Nat) : Int) := by
 rw [← Lib.len8_of y h0 h1]
 unfold Lib.len8
 rw [getElem?_pos Lib.len8tab y.toNat h]
 rfl
theorem qdi (k : Nat) (x y : Int) (hy : y.toNat = x.toNat / 2 ^ k) (h0 : 0 ≤ y) (h1 : y ≤ 255) (hk : k = 0 ∨ 2 ^ k ≤ x.toNat) (hx : x ≤ 18446744073709551615) (h : y.toNat < Lib.len8tab.size) :
 wrap64 ((k : Int) + wrap64 ((Lib.len8tab[y.toNat]'h).toNat : Int)) = ((Lib.bitLen x.toNat : Nat) : Int) := by
 rw [tab_len y h h0 h1]
 have h8 := Lib.bitLen_le8' y h0 h1
 have e : Lib.bitLen x.toNat = k + Lib.bitLen y.toNat := by
  rcases hk with rfl | hk
  · rw [hy]; simp
  · rw [hy]; exact Lib.bitLen_shift k x.toNat hk (by omega)
 have hk64 : k ≤ 64 := by
  rcases hk with rfl | hk
  · omega
  · rcases Nat.lt_or_ge 64 k with h9 | h9
    · have : 2 ^ 64 ≤ 2 ^ k := Nat.pow_le_pow_right (by decide) (by omega)
      omega
    · exact h9
 rw [e]
 simp only [wrap64]
 omega
theorem len_zero (x : Int) (h0 : 0 ≤ x) (h1 : x ≤ 255) (h : x.toNat < Lib.len8tab.size) : wrap64 (wrap64 ((Lib.len8tab[x.toNat]'h).toNat : Int)) = ((Lib.bitLen x.toNat : Nat) : Int) := by
 have := qdi 0 x x (by simp) h0 h1 (.inl rfl) (by omega) h
 simpa using this
theorem len64_any (x : Int) (w : World) (h0 : 0 ≤ x) (h1 : x ≤ 18446744073709551615) :
 Calls Tryz.prog 193 #[.int .u64 x] w fun e w' => e = .returned (.int .i64 (Lib.bitLen x.toNat)) ∧ w' = w := by
 go_enter Tryz.func193, Tryz.ntmps193
 go_wp2
 all_goals first
  | (go_ret; refine ⟨qdw ?_, rfl⟩; go_light)
  | (exfalso; go_light; have hs := len8_size; omega)
 all_goals first
  | exact qdi 56 x _ (by omega) (by omega) (by omega) (.inr (by omega)) h1 _
  | exact qdi 48 x _ (by omega) (by omega) (by omega) (.inr (by omega)) h1 _
  | exact qdi 40 x _ (by omega) (by omega) (by omega) (.inr (by omega)) h1 _
  | exact qdi 32 x _ (by omega) (by omega) (by omega) (.inr (by omega)) h1 _
  | exact qdi 24 x _ (by omega) (by omega) (by omega) (.inr (by omega)) h1 _
  | exact qdi 16 x _ (by omega) (by omega) (by omega) (.inr (by omega)) h1 _
  | exact qdi 8 x _ (by omega) (by omega) (by omega) (.inr (by omega)) h1 _
  | exact len_zero x (by omega) (by omega) _
end
section
open Go.RowKit
def Rd (k : Nat) (w : World) (v : Value) (n : Nat) (xs : List Value) : Prop :=
 xs.length = n * k ∧ ∃ a cap, v = .slice a n cap ∧ n ≤ cap ∧ (n = 0 ∨ ∃ b off, a = some ⟨b, off, none⟩ ∧ ∀ j u, xs[j]? = some u → w.cell? ⟨b, off + j, none⟩ = some u)
theorem Rd.nil (k : Nat) (w : World) : Rd k w (.slice none 0 0) 0 [] := ⟨by simp, none, 0, rfl, Nat.le_refl _, .inl rfl⟩
theorem Rd.keeps {k : Nat} {S : Nat → Prop} {a b : World} {v : Value} {n : Nat} {xs : List Value} (h : Rd k a v n xs) (kk : Keeps S a b) (hS : ∀ g, v.ownBlock = some g → ¬ S g) : Rd k b v n xs := by
 obtain ⟨hl, ad, cap, rfl, hc, h | ⟨bl, off, rfl, hcell⟩⟩ := h
 · exact ⟨hl, ad, cap, rfl, hc, .inl h⟩
 · exact ⟨hl, _, cap, rfl, hc, .inr ⟨bl, off, rfl, fun j u hj => kk.cell (hcell j u hj) (hS bl rfl)⟩⟩
theorem Rd.below {k : Nat} {a b : World} {v : Value} {n : Nat} {xs : List Value} (h : Rd k a v n xs) (hb : Below a.heap.size a b) : Rd k b v n xs := by
 obtain ⟨hl, ad, cap, rfl, hc, h | ⟨bl, off, rfl, hcell⟩⟩ := h
 · exact ⟨hl, ad, cap, rfl, hc, .inl h⟩
 · refine ⟨hl, _, cap, rfl, hc, .inr ⟨bl, off, rfl, fun j u hj => ?_⟩⟩
   rw [hb.cell (World.block_lt_of_cell? a _ (hcell j u hj))]
   exact hcell j u hj
theorem rd_row {k : Nat} {w : World} {base : Nat} {e : TypeId} {v : Value} {n : Nat} {xs : List Value} (h : w.ownsRow base e k v n xs) : Rd k w v n xs := by
 refine ⟨h.1, ?_⟩
 rcases h.2 with ⟨rfl, h0⟩ | ⟨g, cap, cur, rfl, hb, hgg, hcap, _, hcs, htk⟩
 · exact ⟨none, 0, by rw [h0], by omega, .inl h0⟩
 · refine ⟨_, cap, rfl, hcap, .inr ⟨g, 0, rfl, fun j u hj => ?_⟩⟩
   have := h.cells (g := g) rfl j u hj
   rw [show ((⟨g, 0, none⟩ : Addr).add j) = ⟨g, 0 + j, none⟩ from by unfold Addr.add; split <;> simp_all] at this
   exact this
theorem Rd.at {k : Nat} {w : World} {ad : Option Addr} {n cap : Nat} {xs : List Value} (h : Rd k w (.slice ad n cap) n xs) {i : Nat} (hi : i < n) :
 ∃ b off, ad = some ⟨b, off, none⟩ ∧ ∀ c u, xs[i * k + c]? = some u → w.cell? ⟨b, off + i * k + c, none⟩ = some u := by
 obtain ⟨hl, ad', cap', hv, hc, h⟩ := h
 simp only [Value.slice.injEq] at hv
 obtain ⟨rfl, _, rfl⟩ := hv
 rcases h with h | ⟨bl, off, rfl, hcell⟩
 · omega
 · exact ⟨bl, off, rfl, fun c u hu => by rw [Nat.add_assoc]; exact hcell _ u hu⟩
theorem Rd.slice {k : Nat} {w : World} {v : Value} {n : Nat} {xs : List Value} (h : Rd k w v n xs) : ∃ ad cap, v = .slice ad n cap ∧ n ≤ cap := by
 obtain ⟨_, ad, cap, rfl, hc, _⟩ := h
 exact ⟨ad, cap, rfl, hc⟩
def cells2 {α : Type} (f g : α → Value) (l : List α) : List Value := l.flatMap fun x => [f x, g x]
theorem qat {α : Type} (f g : α → Value) (l : List α) : (cells2 f g l).length = l.length * 2 := by
 induction l with
 | nil => rfl
 | cons p rs ih => simp only [cells2, List.flatMap_cons, List.length_append, List.length_cons, List.length_nil] at ih ⊢; omega
theorem qco {α : Type} (f g : α → Value) : ∀ (l : List α) (i : Nat) (x : α), l[i]? = some x → (cells2 f g l)[i * 2]? = some (f x) ∧ (cells2 f g l)[i * 2 + 1]? = some (g x)
 | [], i, x, h => by simp at h
 | a :: l, 0, x, h => by
   simp only [List.getElem?_cons_zero, Option.some.injEq] at h
   subst h
   exact ⟨rfl, rfl⟩
 | a :: l, i + 1, x, h => by
   have e1 : (i + 1) * 2 = i * 2 + 2 := by omega
   have ih := qco f g l i x (by simpa using h)
   have e : cells2 f g (a :: l) = f a :: g a :: cells2 f g l := by simp [cells2]
   rw [e1, e]
   exact ⟨by simpa using ih.1, by rw [show i * 2 + 2 + 1 = (i * 2 + 1) + 1 + 1 by omega]; simpa using ih.2⟩
theorem Rd.at2 {α : Type} {f g : α → Value} {w : World} {ad : Option Addr} {n cap : Nat} {l : List α} (h : Rd 2 w (.slice ad n cap) n (cells2 f g l)) {i : Nat} {x : α} (hx : l[i]? = some x) :
 ∃ b off, ad = some ⟨b, off, none⟩ ∧ w.cell? ⟨b, off + i * 2, none⟩ = some (f x) ∧ w.cell? ⟨b, off + i * 2 + 1, none⟩ = some (g x) := by
 have hi : i < n := by
  have h1 := h.1
  rw [qat] at h1
  have := (List.getElem?_eq_some_iff.1 hx).1
  omega
 obtain ⟨b, off, e, hc⟩ := h.at hi
 obtain ⟨g1, g2⟩ := qco f g l i x hx
 exact ⟨b, off, e, hc 0 _ (by simpa using g1), hc 1 _ g2⟩
end
section
open Go.RowKit
theorem qda : ∀ a b : List UInt8, Op.bytesLess b a = (!(Op.bytesLess a b) && !(a == b))
 | [], [] => by simp [Op.bytesLess]
 | [], _ :: _ => by simp [Op.bytesLess]
 | _ :: _, [] => by simp [Op.bytesLess]
 | x :: a, y :: b => by
   have ih := qda a b
   simp only [Op.bytesLess]
   rcases Nat.lt_trichotomy x.toNat y.toNat with h | h | h
   · have h1 : x < y := h
     have h2 : ¬ y < x := fun e => by have : y.toNat < x.toNat := e; omega
     have h3 : ¬ (x = y) := fun e => by rw [e] at h; omega
     simp [h1, h2]
     exact fun e => absurd e.symm h3
   · have e : x = y := UInt8.toNat_inj.1 h
     subst e
     simp [ih]
   · have h1 : ¬ x < y := fun e => by have : x.toNat < y.toNat := e; omega
     have h2 : y < x := h
     have h3 : ¬ (x = y) := fun e => by rw [e] at h; omega
     simp [h1, h2, h3]
theorem qfq : ∀ a : List UInt8, Op.bytesLess a a = false
 | [] => rfl
 | x :: a => by
   simp only [Op.bytesLess]
   simp [qfq a]
def ordS (a b : ByteArray) : Int := if Op.bytesLess a.toList b.toList = true then -1 else if (a.toList == b.toList) = true then 0 else 1
theorem toList_inj' {a b : ByteArray} (h : (a.toList == b.toList) = true) : a = b := by
 have h := (beq_iff_eq).1 h
 rw [Lib.toList_data, Lib.toList_data] at h
 exact ByteArray.ext (Array.toList_inj.1 h)
theorem ordS_zero {a b : ByteArray} : ordS a b = 0 ↔ a = b := by
 unfold ordS
 constructor
 · intro h
   split at h
   · cases h
   · split at h
     · rename_i h2; exact toList_inj' h2
     · cases h
 · rintro rfl
   rw [if_neg (by rw [qfq]; decide), if_pos (by simp)]
abbrev Lab := ByteArray × ByteArray
def labE (x : Lab) : Int := if x.1.size = 0 then 17 else if 65535 < x.1.size ∨ 65535 < x.2.size then 7 else 0
def chkE : Option Lab → List Lab → Int
 | _, [] => 0
 | p, x :: r =>
   if labE x ≠ 0 then labE x
   else match p with
    | none => chkE (some x) r
    | some q => if ordS q.1 x.1 = 0 then 18 else if ordS q.1 x.1 = 1 then 16 else chkE (some x) r
def cmpL : List Lab → List Lab → Int
 | [], [] => 0
 | [], _ :: _ => -1
 | _ :: _, [] => 1
 | x :: a, y :: b => if ordS x.1 y.1 ≠ 0 then ordS x.1 y.1 else if ordS x.2 y.2 ≠ 0 then ordS x.2 y.2 else cmpL a b
theorem cmpL_zero : ∀ a b : List Lab, cmpL a b = 0 ↔ a = b
 | [], [] => by simp [cmpL]
 | [], _ :: _ => by simp [cmpL]
 | _ :: _, [] => by simp [cmpL]
 | (x1, x2) :: a, (y1, y2) :: b => by
   have ih := cmpL_zero a b
   unfold cmpL
   by_cases h1 : ordS x1 y1 = 0
   · by_cases h2 : ordS x2 y2 = 0
     · rw [if_neg (by simpa using h1), if_neg (by simpa using h2), ih]
       rw [ordS_zero.1 h1, ordS_zero.1 h2]
       simp
     · rw [if_neg (by simpa using h1), if_pos (by simpa using h2)]
       constructor
       · intro h; exact absurd h h2
       · intro h
         simp only [List.cons.injEq, Prod.mk.injEq] at h
         exact absurd (ordS_zero.2 h.1.2) h2
   · rw [if_pos (by simpa using h1)]
     constructor
     · intro h; exact absurd h h1
     · intro h
       simp only [List.cons.injEq, Prod.mk.injEq] at h
       exact absurd (ordS_zero.2 h.1.1) h1
def labF (x : Lab) : Value := .string x.1
def labG (x : Lab) : Value := .string x.2
def labC (l : List Lab) : List Value := cells2 labF labG l
def RdL (w : World) (v : Value) (l : List Lab) : Prop := Rd 2 w v l.length (labC l)
theorem RdL.below {a b : World} {v : Value} {l : List Lab} (h : RdL a v l) (hb : Below a.heap.size a b) : RdL b v l := Rd.below h hb
theorem RdL.at {w : World} {ad : Option Addr} {cap : Nat} {l : List Lab} (h : RdL w (.slice ad l.length cap) l) {i : Nat} {x : Lab} (hx : l[i]? = some x) :
 ∃ b off, ad = some ⟨b, off, none⟩ ∧ w.cell? ⟨b, off + i * 2, none⟩ = some (.string x.1) ∧ w.cell? ⟨b, off + i * 2 + 1, none⟩ = some (.string x.2) := Rd.at2 (f := labF) (g := labG) h hx
end
section
open Go.RowKit
end
section
open Go.RowKit
end
section
open Go.RowKit
end
section
open Go.RowKit
end
section
open Go.RowKit
end
section
open Go.RowKit
end
section
open Go.RowKit
end
section
open Go.RowKit
variable {P : Program}
#print axioms qct
end
end Go.Proofs.YtfpcgcbehdogjaaGreatDoor
