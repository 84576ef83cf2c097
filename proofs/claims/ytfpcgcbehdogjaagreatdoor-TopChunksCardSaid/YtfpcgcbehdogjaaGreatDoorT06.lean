/-
  Lemmas on which LTopChunks rests, packed out of the texts SortJ SortK SortL AMem PLab WLabA WLabB PMod ARange; each for all arguments under the hypotheses it names.
-/
import Derived.Test.YtfpcgcbehdogjaaGreatDoorT04
import Derived.Test.YtfpcgcbehdogjaaGreatDoorT03
import Derived.Laws.Bits64b
import Derived.Lib.ItoaNum
import Derived.Deep.CutRange
import Derived.Deep.LoopGhost
import Derived.BigCall
namespace Go.Proofs.YtfpcgcbehdogjaaGreatDoor
section
set_option maxHeartbeats 4000000
set_option maxRecDepth 100000
open Go.RowKit
theorem len_any (x : Int) (w : World) (h0 : 0 ≤ x) (h1 : x ≤ 18446744073709551615) :
 Calls Tryz.prog 157 #[.int .u64 x] w fun e w' => e = .returned (.int .i64 (Lib.bitLen x.toNat)) ∧ w' = w := by
 go_enter Tryz.func157, Tryz.ntmps157
 go_wp2_with (go_at_call 193; refine (len64_any x _ h0 h1).mono ?_; rintro e w' ⟨rfl, rfl⟩)
 go_ret
 exact ⟨rfl, rfl⟩
theorem two_wrap (k : Nat) (hk : k ≤ 62) : IntKind.u64.wrap ((2 : Int) ^ k) = (((2 ^ k : Nat)) : Int) := by
 have h : (2 : Nat) ^ k ≤ 2 ^ 62 := Nat.pow_le_pow_right (by decide) hk
 rw [IntKind.wrap_u64, show ((2 : Int) ^ k) = ((2 ^ k : Nat) : Int) by push_cast; rfl]
 generalize (2 : Nat) ^ k = p at h
 omega
theorem pow2_le (n : Nat) (h0 : 0 < n) (h : n ≤ 1099511627776) : 1 ≤ 2 ^ Lib.bitLen n ∧ 2 ^ Lib.bitLen n ≤ 2 * n := by
 obtain ⟨h1, h2, _⟩ := Lib.bitLenAux_bounds 64 n (by omega) (by omega)
 refine ⟨Nat.one_le_two_pow, ?_⟩
 change 1 ≤ Lib.bitLen n at h1
 change 2 ^ (Lib.bitLen n - 1) ≤ n at h2
 obtain ⟨k, hk⟩ : ∃ k, Lib.bitLen n = k + 1 := ⟨Lib.bitLen n - 1, by omega⟩
 rw [hk] at h2 ⊢
 rw [Nat.pow_succ]
 simp at h2
 omega
theorem pow2_any (n M : Nat) (w : World) (h0 : 0 < n) (hn : n ≤ 1099511627776) (hM : 2 ^ Lib.bitLen n = M) :
 Calls Tryz.prog 238 #[.int .i64 (n : Int)] w fun e w' => e = .returned (.int .u64 (M : Int)) ∧ w' = w := by
 have hk : Lib.bitLen n ≤ 62 := Lib.bitLen_le n 62 (by omega) (by omega)
 have HW := two_wrap (Lib.bitLen n) hk
 rw [hM] at HW
 have HL : Hid (∀ w, Calls Tryz.prog 157 #[.int .u64 (n : Int)] w fun e w' => e = .returned (.int .i64 (Lib.bitLen n)) ∧ w' = w) := Hj (fun w => by
  have h := len_any (n : Int) w (by omega) (by omega)
  rwa [Int.toNat_natCast] at h)
 clear hM
 generalize Lib.bitLen n = k at *
 go_enter Tryz.func238, Tryz.ntmps238
 go_wp2_with (go_at_call 157; refine (HL.out _).mono ?_; rintro e w' ⟨rfl, rfl⟩)
 go_ret
 exact ⟨rfl, rfl⟩
theorem setCell_over (w : World) (blk off : Nat) (v v' : Value) : (w.setCell ⟨blk, off, none⟩ v).setCell ⟨blk, off, none⟩ v' = w.setCell ⟨blk, off, none⟩ v' := by
 simp only [Go.Sort.setCell_eq, Go.Sort.mapBlock_mapBlock]
 congr 1
 funext c
 simp
theorem xsNext_any (p X : Nat) (hX : X < 18446744073709551616) (w : World) (hc : w.cell? ⟨p, 0, none⟩ = some (.int .u64 X)) (hf : w.frozen? ⟨p, 0, none⟩ = false) :
 Calls Tryz.prog 239 #[.pointer (some ⟨p, 0, none⟩)] w fun e w' => ∃ C : Nat, C < 18446744073709551616 ∧ e = .returned (.int .u64 (C : Int)) ∧ w' = (w.setCell ⟨p, 0, none⟩ (.int .u64 (C : Int))).drewN 3 := by
 obtain ⟨A, hA⟩ : ∃ A : Nat, A = X ^^^ (X * 8192 % 18446744073709551616) := ⟨_, rfl⟩
 obtain ⟨B, hB⟩ : ∃ B : Nat, B = A ^^^ (A / 128) := ⟨_, rfl⟩
 obtain ⟨C, hC⟩ : ∃ C : Nat, C = B ^^^ (B * 131072 % 18446744073709551616) := ⟨_, rfl⟩
 have lA : A < 18446744073709551616 := by rw [hA]; exact Nat.xor_lt_two_pow (n := 64) (by omega) (by omega)
 have lB : B < 18446744073709551616 := by rw [hB]; exact Nat.xor_lt_two_pow (n := 64) (by omega) (by omega)
 have lC : C < 18446744073709551616 := by rw [hC]; exact Nat.xor_lt_two_pow (n := 64) (by omega) (by omega)
 have e1 : bits .xor .u64 (X : Int) (IntKind.u64.wrap ((X : Int) * 8192)) = (A : Int) := by
  rw [IntKind.wrap_u64, show ((X : Int) * 8192 % 18446744073709551616) = ((X * 8192 % 18446744073709551616 : Nat) : Int) by omega, bits_xor_u64_nat _ _ hX (by omega), hA]
 have e2 : bits .xor .u64 (A : Int) ((A : Int) / 128) = (B : Int) := by
  rw [show ((A : Int) / 128) = ((A / 128 : Nat) : Int) by omega, bits_xor_u64_nat _ _ lA (by omega), hB]
 have e3 : bits .xor .u64 (B : Int) (IntKind.u64.wrap ((B : Int) * 131072)) = (C : Int) := by
  rw [IntKind.wrap_u64, show ((B : Int) * 131072 % 18446744073709551616) = ((B * 131072 % 18446744073709551616 : Nat) : Int) by omega, bits_xor_u64_nat _ _ lB (by omega), hC]
 clear hA hB hC
 have HC := Hj lC
 have hss := fun v v' => setCell_over w p 0 v v'
 go_enter Tryz.func239, Tryz.ntmps239
 go_wp2
 go_region
 all_goals go_wp2
 all_goals go_region
 all_goals go_wp2
 all_goals go_region
 all_goals go_wp2
 go_ret
 exact ⟨C, HC.out, rfl, rfl⟩
theorem Arr.other {w0 w : World} {blk off : Nat} {d : Array Nat} (h : Arr w0 w blk off d) {p : Nat} (hp : w0.heap.size ≤ p) (hb : p ≠ blk) (v : Value) : Arr w0 (w.setCell ⟨p, 0, none⟩ v) blk off d := by
 refine ⟨h.os, h.tape, h.output, ?_, fun k hk hn => ?_, fun j hj => ?_, fun j hj => ?_⟩
 · show _ ≤ (w.heap.modify p _).size
   rw [Array.size_modify]; exact h.size
 · show (w.heap.modify p _)[k]? = _
   rw [Array.getElem?_modify, if_neg (by omega)]
   exact h.block k hk hn
 · rw [qal _ _ _ _ (by simpa using Ne.symm hb)]; exact h.cell j hj
 · rw [qbi]; exact h.fro j hj
structure Rnd (w0 w : World) (blk off : Nat) (d : Array Nat) (p X : Nat) : Prop where
 arr : Arr w0 w blk off d
 cell : w.cell? ⟨p, 0, none⟩ = some (.int .u64 (X : Int))
 fro : w.frozen? ⟨p, 0, none⟩ = false
theorem Rnd.next {w0 w : World} {blk off : Nat} {d : Array Nat} {p X : Nat} (h : Rnd w0 w blk off d p X) (hp : w0.heap.size ≤ p) (hb : p ≠ blk) (C m : Nat) : Rnd w0 ((w.setCell ⟨p, 0, none⟩ (.int .u64 (C : Int))).drewN m) blk off d p C :=
 ⟨(h.arr.other hp hb _).drewN m, World.cell?_setCell_same _ _ _ h.cell, by show (w.setCell _ _).frozen? _ = _; rw [qbi]; exact h.fro⟩
theorem Rnd.swap {w0 w : World} {blk off : Nat} {d : Array Nat} {p X : Nat} (h : Rnd w0 w blk off d p X) (hb : p ≠ blk) {i j : Nat} (hi : i < d.size) (hj : j < d.size) {x y : Nat} (hx : d[j]! = x) (hy : d[i]! = y) (m : Nat) :
 Rnd w0 (((w.drewN m).setCell ⟨blk, off + i, none⟩ (.int .u64 ((x : Nat) : Int))).setCell ⟨blk, off + j, none⟩ (.int .u64 ((y : Nat) : Int))) blk off (Go.Sort.swp d i j) p X := by
 refine ⟨(h.arr.drewN m).swap hi hj hx hy, ?_, ?_⟩
 · rw [qal _ _ _ _ hb, qal _ _ _ _ hb]; exact h.cell
 · rw [qbi, qbi]; exact h.fro
theorem Arr.rnd {w0 w : World} {blk off : Nat} {d : Array Nat} (h : Arr w0 w blk off d) (hd : 0 < d.size) (X : Nat) (t : TypeId) : Rnd w0 (w.alloc (.cells #[.int .u64 (X : Int)] t)) blk off d w.heap.size X ∧ w.heap.size ≠ blk := by
 have hlt : blk < w.heap.size := World.block_lt_of_cell? w _ (h.cell 0 hd)
 have hb : ∀ k, k < w.heap.size → (w.alloc (.cells #[.int .u64 (X : Int)] t)).heap[k]? = w.heap[k]? := fun k hk => Below.heap_alloc w _ k hk
 refine ⟨⟨⟨h.os, h.tape, h.output, by have := h.size; simp; omega, fun k hk hn => ?_, fun j hj => ?_, fun j hj => ?_⟩, by simp, by simp⟩, by omega⟩
 · rw [hb k (by have := h.size; omega)]; exact h.block k hk hn
 · rw [← h.cell j hj]; simp only [World.cell?, hb blk hlt]
 · rw [← h.fro j hj]; simp only [World.frozen?, hb blk hlt]
theorem uBreak_any (w0 w : World) (blk off cap a b : Nat) (d : Array Nat) (h : Arr w0 w blk off d) (hab : a + 12 < b) (hb : b ≤ d.size) (hsz : d.size ≤ 1099511627776) :
 Calls Tryz.prog 219 #[.slice (some ⟨blk, off, none⟩) d.size cap, .int .i64 (a : Int), .int .i64 (b : Int)] w fun e w' => e = .returned (.tuple #[]) ∧ ∃ d', Go.Sort.PermIn a b d d' ∧ Arr w0 w' blk off d' := by
 obtain ⟨L, hL⟩ : ∃ L, L = b - a := ⟨_, rfl⟩
 obtain ⟨q, hq⟩ : ∃ q, q = L / 4 := ⟨_, rfl⟩
 obtain ⟨I, hI⟩ : ∃ I, I = a + 2 * q - 1 := ⟨_, rfl⟩
 obtain ⟨E, hE⟩ : ∃ E, E = a + 2 * q + 1 := ⟨_, rfl⟩
 obtain ⟨M, hM⟩ : ∃ M, 2 ^ Lib.bitLen L = M := ⟨_, rfl⟩
 obtain ⟨hM1, hM2⟩ := pow2_le L (by omega) (by omega)
 rw [hM] at hM1 hM2
 have HP := Hj (fun w => pow2_any L M w (by omega) (by omega) hM)
 have e0 : (b : Int) - (a : Int) = (L : Int) := by omega
 have e1 : (L : Int) / 4 = (q : Int) := by omega
 have e2 : (a : Int) + (q : Int) * 2 - 1 = (I : Int) := by omega
 have e3 : (a : Int) + (q : Int) * 2 + 1 = (E : Int) := by omega
 have hq0 : (q : Int) ≤ 1099511627776 := by omega
 have ha0 : (a : Int) ≤ 1099511627776 := by omega
 have h8 : (8 : Int) ≤ (L : Int) := by omega
 have hps : w0.heap.size ≤ w.heap.size := h.size
 obtain ⟨hr, hne⟩ := h.rnd (by omega) L 345
 have HR := Hj hr; have HPS := Hj hps; have HNE := Hj hne
 have HL := Hj hL; have HQ := Hj hq; have HI := Hj hI; have HE := Hj hE; have HAB := Hj hab
 have HPM : Hid (Go.Sort.PermIn a b d d) := Hj (Go.Sort.permIn_refl d a b)
 have hML : M ≤ 2 * L := hM2
 clear h hL hq hI hE hM hr hps hne
 go_enter Tryz.func219, Tryz.ntmps219
 go_wp2_with (go_at_call 238; refine (HP.out _).mono ?_; rintro e w1 ⟨rfl, rfl⟩)
 go_loopw [9] (fun c wr => ∃ (i X : Nat) (dk : Array Nat), c = .int .i64 (i : Int) ∧ I ≤ i ∧ i ≤ E + 1 ∧ X < 18446744073709551616 ∧ dk.size = d.size ∧ Hid (Rnd w0 wr blk off dk w.heap.size X) ∧ Hid (Go.Sort.PermIn a b d dk)) (fun c _ => (E + 1) - (intOf c).toNat)
 case atStart => exact ⟨I, L, d, rfl, Nat.le_refl _, by have := HI.out; have := HE.out; omega, by omega, rfl, HR, HPM⟩
 case round =>
  obtain ⟨i, X, dk, rfl, hIi, hiE, hX, hsk, HRk, HPk⟩ := hrel
  by_cases hlt : i ≤ E
  · have hlti : (i : Int) ≤ (E : Int) := by omega
    have HC := Hj (xsNext_any w.heap.size X hX wr HRk.out.cell HRk.out.fro)
    go_wp2_with fail
    refine HC.out.mono ?_
    rintro e w1 ⟨C, hC, rfl, hw1⟩
    have HR1 : Hid (Rnd w0 w1 blk off dk w.heap.size C) := Hj (by rw [hw1]; exact HRk.out.next HPS.out HNE.out C 3)
    obtain ⟨O, hO⟩ : ∃ O : Nat, O = C &&& (M - 1) := ⟨_, rfl⟩
    have lO : O ≤ M - 1 := by rw [hO]; exact Nat.and_le_right
    have eAnd : bits .and .u64 (C : Int) ((M : Int) - 1) = (O : Int) := by
     rw [show ((M : Int) - 1) = ((M - 1 : Nat) : Int) by omega, bits_and_u64_nat _ _ hC (by omega), hO]
    clear hw1 hO HRk HC
    obtain ⟨o, ho⟩ : ∃ o, o = if L ≤ O then O - L else O := ⟨_, rfl⟩
    have hoL : o < L := by rw [ho]; split <;> omega
    obtain ⟨J, hJ⟩ : ∃ J, J = a + o := ⟨_, rfl⟩
    have eJ : (a : Int) + (o : Int) = (J : Int) := by omega
    have hib : i < b := by have := HE.out; have := HQ.out; have := HL.out; omega
    have hia : a ≤ i := by have := HI.out; have := HQ.out; have := HL.out; have := HAB.out; omega
    have hJb : J < b := by have := HL.out; omega
    have hJa : a ≤ J := by omega
    have hi1 : i < dk.size := by omega
    have hJ1 : J < dk.size := by omega
    have his : (i : Int) < (d.size : Int) := by omega
    have hJs : (J : Int) < (d.size : Int) := by omega
    have c0 := HR1.out.arr.cell i hi1; have c1 := HR1.out.arr.cell J hJ1
    have f0 := HR1.out.arr.fro i hi1; have f1 := HR1.out.arr.fro J hJ1
    obtain ⟨x, hx⟩ : ∃ x, dk[i]! = x := ⟨_, rfl⟩
    obtain ⟨y, hy⟩ : ∃ y, dk[J]! = y := ⟨_, rfl⟩
    rw [hx] at c0
    rw [hy] at c1
    obtain ⟨v2, h2⟩ := HR1.out.arr.two hi1 hJ1 (.int .u64 (y : Int))
    have HSW : Hid (∀ m, Rnd w0 (((w1.drewN m).setCell ⟨blk, off + i, none⟩ (.int .u64 (y : Int))).setCell ⟨blk, off + J, none⟩ (.int .u64 (x : Int))) blk off (Go.Sort.swp dk i J) w.heap.size C) := Hj (fun m => HR1.out.swap HNE.out hi1 hJ1 hy hx m)
    have HPN : Hid (Go.Sort.PermIn a b d (Go.Sort.swp dk i J)) := Hj (Go.Sort.permIn_trans _ _ _ a b HPk.out (Go.Sort.swp_permIn dk a b i J hia hib hJa hJb (by omega)))
    have HSK : Hid ((Go.Sort.swp dk i J).size = d.size) := Hj (by rw [Go.Sort.size_swp, hsk])
    by_cases hOL : L ≤ O
    · have hOL' : (L : Int) ≤ (O : Int) := by omega
      have eo : (O : Int) - (L : Int) = (o : Int) := by rw [if_pos hOL] at ho; omega
      clear ho hJ hx hy hi1 hJ1 hia hib hJa hJb hlt
      go_wp2
      go_region
      go_wp2
      exact ⟨⟨i + 1, C, _, by simp, by omega, by omega, hC, HSK.out, Hj (HSW.out _), HPN⟩, by simp [intOf]; omega⟩
    · have hOL' : ¬ (L : Int) ≤ (O : Int) := by omega
      obtain rfl : o = O := by rw [if_neg hOL] at ho; exact ho
      clear ho hJ hx hy hi1 hJ1 hia hib hJa hJb hlt
      go_wp2
      go_region
      go_wp2
      exact ⟨⟨i + 1, C, _, by simp, by omega, by omega, hC, HSK.out, Hj (HSW.out _), HPN⟩, by simp [intOf]; omega⟩
  · have hge : ¬ (i : Int) ≤ (E : Int) := by omega
    go_wp2
    go_end0
    exact ⟨rfl, dk, HPk.out, HRk.out.arr⟩
end
section
set_option maxHeartbeats 8000000
set_option maxRecDepth 1000000
open Go.RowKit
theorem uIns_at (w0 w : World) (blk off cap sz a b : Nat) (d : Array Nat) (h : Arr w0 w blk off d) (hs : d.size = sz) (hab : a ≤ b) (hb : b ≤ sz) (hsz : sz ≤ 1099511627776) :
 Calls Tryz.prog 217 #[.slice (some ⟨blk, off, none⟩) sz cap, .int .i64 (a : Int), .int .i64 (b : Int)] w fun e w' => e = .returned (.tuple #[]) ∧ ∃ d', Go.Sort.PermIn a b d d' ∧ Go.Sort.SortedIn ltN a b d' ∧ Arr w0 w' blk off d' := by
 subst hs
 obtain ⟨h1, h2⟩ := Go.Sort.insertionSort_holds ltN_swo d a b hab hb
 refine (uIns_any w0 w blk off cap a b d h hab hb hsz).mono ?_
 rintro e w' ⟨rfl, hA⟩
 exact ⟨rfl, _, h1, h2, hA⟩
theorem uHeap_at (w0 w : World) (blk off cap sz a b : Nat) (d : Array Nat) (h : Arr w0 w blk off d) (hs : d.size = sz) (hab : a < b) (hb : b ≤ sz) (hsz : sz ≤ 1099511627776) :
 Calls Tryz.prog 218 #[.slice (some ⟨blk, off, none⟩) sz cap, .int .i64 (a : Int), .int .i64 (b : Int)] w fun e w' => e = .returned (.tuple #[]) ∧ ∃ d', Go.Sort.PermIn a b d d' ∧ Go.Sort.SortedIn ltN a b d' ∧ Arr w0 w' blk off d' := by
 subst hs
 obtain ⟨h1, h2⟩ := Go.Sort.heapSort_holds ltN_swo d a b (by omega) hb
 refine (uHeap_any w0 w blk off cap a b d h hab hb hsz).mono ?_
 rintro e w' ⟨rfl, hA⟩
 exact ⟨rfl, _, h1, h2, hA⟩
theorem uRev_at (w0 w : World) (blk off cap sz a b : Nat) (d : Array Nat) (h : Arr w0 w blk off d) (hs : d.size = sz) (hab : a < b) (hb : b ≤ sz) (hsz : sz ≤ 1099511627776) :
 Calls Tryz.prog 221 #[.slice (some ⟨blk, off, none⟩) sz cap, .int .i64 (a : Int), .int .i64 (b : Int)] w fun e w' => e = .returned (.tuple #[]) ∧ ∃ d', Go.Sort.PermIn a b d d' ∧ Arr w0 w' blk off d' := by
 subst hs
 have h1 := Go.Sort.reverseRange_holds d a b (by omega) hb
 refine (uRev_any w0 w blk off cap a b d h hab hb hsz).mono ?_
 rintro e w' ⟨rfl, hA⟩
 exact ⟨rfl, _, h1, hA⟩
theorem uBreak_at (w0 w : World) (blk off cap sz a b : Nat) (d : Array Nat) (h : Arr w0 w blk off d) (hs : d.size = sz) (hab : a + 12 < b) (hb : b ≤ sz) (hsz : sz ≤ 1099511627776) :
 Calls Tryz.prog 219 #[.slice (some ⟨blk, off, none⟩) sz cap, .int .i64 (a : Int), .int .i64 (b : Int)] w fun e w' => e = .returned (.tuple #[]) ∧ ∃ d', Go.Sort.PermIn a b d d' ∧ Arr w0 w' blk off d' := by
 subst hs
 exact uBreak_any w0 w blk off cap a b d h hab hb hsz
theorem uPiv_at (w0 w : World) (blk off cap sz a b : Nat) (d : Array Nat) (h : Arr w0 w blk off d) (hs : d.size = sz) (hab : a + 12 < b) (hb : b ≤ sz) (hsz : sz ≤ 1099511627776) :
 Calls Tryz.prog 220 #[.slice (some ⟨blk, off, none⟩) sz cap, .int .i64 (a : Int), .int .i64 (b : Int)] w fun e w' =>
  (∃ r s : Nat, e = .returned (.tuple #[.int .i64 (r : Int), .int .i64 (s : Int)]) ∧ a ≤ r ∧ r < b ∧ s ≤ 2) ∧ Arr w0 w' blk off d := by
 subst hs
 exact uPiv_any w0 w blk off cap a b d h hab hb hsz
theorem uPins_at (w0 w : World) (blk off cap sz a b : Nat) (d : Array Nat) (h : Arr w0 w blk off d) (hs : d.size = sz) (hab : a < b) (hb : b ≤ sz) (hsz : sz ≤ 1099511627776) (hB : Go.Sort.Below ltN a b d) :
 Calls Tryz.prog 222 #[.slice (some ⟨blk, off, none⟩) sz cap, .int .i64 (a : Int), .int .i64 (b : Int)] w fun e w' =>
  ∃ c d', e = .returned (.bool c) ∧ Go.Sort.PermIn a b d d' ∧ (c = true → Go.Sort.SortedIn ltN a b d') ∧ Arr w0 w' blk off d' := by
 subst hs
 obtain ⟨h1, h2⟩ := Go.Sort.partialInsertionSort_holds ltN_swo d a b hab hb hB
 refine (uPins_any w0 w blk off cap a b d h hab hb hsz).mono ?_
 rintro e w' ⟨rfl, hA⟩
 exact ⟨_, _, rfl, h1, h2, hA⟩
theorem uPeq_at (w0 w : World) (blk off cap sz a b p : Nat) (d : Array Nat) (h : Arr w0 w blk off d) (hs : d.size = sz) (hap : a ≤ p) (hpb : p < b) (hb : b ≤ sz) (hsz : sz ≤ 1099511627776) :
 Calls Tryz.prog 223 #[.slice (some ⟨blk, off, none⟩) sz cap, .int .i64 (a : Int), .int .i64 (b : Int), .int .i64 (p : Int)] w fun e w' =>
  ∃ (m : Nat) (d' : Array Nat), e = .returned (.int .i64 (m : Int)) ∧ Go.Sort.partitionEqual ltN d a b p = (m, d') ∧ Arr w0 w' blk off d' := by
 subst hs
 refine (uPeq_any w0 w blk off cap a b p d h hap hpb hb hsz).mono ?_
 rintro e w' ⟨rfl, hA⟩
 exact ⟨_, _, rfl, rfl, hA⟩
theorem uPar_at (w0 w : World) (blk off cap sz a b p : Nat) (d : Array Nat) (h : Arr w0 w blk off d) (hs : d.size = sz) (hap : a ≤ p) (hpb : p < b) (hb : b ≤ sz) (hsz : sz ≤ 1099511627776) :
 Calls Tryz.prog 224 #[.slice (some ⟨blk, off, none⟩) sz cap, .int .i64 (a : Int), .int .i64 (b : Int), .int .i64 (p : Int)] w fun e w' =>
  ∃ (m : Nat) (c ap : Bool) (d' : Array Nat), e = .returned (.tuple #[.int .i64 (m : Int), .bool c]) ∧ Go.Sort.partition ltN d a b p = (m, ap, d') ∧ Arr w0 w' blk off d' := by
 subst hs
 refine (uPar_any w0 w blk off cap a b p d h hap hpb hb hsz).mono ?_
 rintro e w' ⟨⟨c, rfl⟩, hA⟩
 exact ⟨_, c, _, _, rfl, rfl, hA⟩
def Rest (a b a' b' : Nat) (d dk : Array Nat) : Prop := ∀ R, Go.Sort.PermIn a' b' dk R → Go.Sort.SortedIn ltN a' b' R → Go.Sort.PermIn a b d R ∧ Go.Sort.SortedIn ltN a b R
theorem Rest.perm {a b a' b' : Nat} {d dk dl : Array Nat} (h : Rest a b a' b' d dk) (hp : Go.Sort.PermIn a' b' dk dl) : Rest a b a' b' d dl := fun R h1 h2 => h R (Go.Sort.permIn_trans _ _ _ a' b' hp h1) h2
theorem Rest.eq {a b a' b' p m : Nat} {d dk dl : Array Nat} (h : Rest a b a' b' d dk) (ha : 0 < a') (hp1 : a' ≤ p) (hp2 : p < b') (hb : b' ≤ dk.size) (hB : Go.Sort.Below ltN a' b' dk) (hn : ltN dk[a' - 1]! dk[p]! = false)
 (hx : Go.Sort.partitionEqual ltN dk a' b' p = (m, dl)) : a' < m ∧ m ≤ b' ∧ dl.size = dk.size ∧ Go.Sort.Below ltN m b' dl ∧ Rest a b m b' d dl := by
 obtain ⟨r1, r2, r3, r4, r5⟩ := Go.Sort.round_eq ltN_swo (Go.Sort.partitionEqual_holds ltN) ha hp1 hp2 hb hB hn hx
 exact ⟨r1, r2, r3, r4, fun R h1 h2 => h R (r5 R h1 h2).1 (r5 R h1 h2).2⟩
theorem Rest.part {a b a' b' p m : Nat} {ap : Bool} {d dk dl : Array Nat} (h : Rest a b a' b' d dk) (hp1 : a' ≤ p) (hp2 : p < b') (hb : b' ≤ dk.size) (hB : Go.Sort.Below ltN a' b' dk)
 (hx : Go.Sort.partition ltN dk a' b' p = (m, ap, dl)) : a' ≤ m ∧ m < b' ∧ dl.size = dk.size ∧ Go.Sort.Below ltN a' m dl ∧ Go.Sort.Below ltN (m + 1) b' dl ∧
   (∀ L, Go.Sort.PermIn a' m dl L → Go.Sort.SortedIn ltN a' m L → Go.Sort.Below ltN (m + 1) b' L ∧ Rest a b (m + 1) b' d L) ∧
   (∀ L, Go.Sort.PermIn (m + 1) b' dl L → Go.Sort.SortedIn ltN (m + 1) b' L → Go.Sort.Below ltN a' m L ∧ Rest a b a' m d L) := by
 obtain ⟨r1, r2, r3, r4, r5, r6, r7⟩ := Go.Sort.round_part ltN_swo (Go.Sort.partition_holds ltN) hp1 hp2 hb hB hx
 refine ⟨r1, r2, r3, r4, r5, fun L h1 h2 => ⟨(r6 L h1 h2).1, fun R h3 h4 => ?_⟩, fun L h1 h2 => ⟨(r7 L h1 h2).1, fun R h3 h4 => ?_⟩⟩
 · have := (r6 L h1 h2).2 R h3 h4; exact h R this.1 this.2
 · have := (r7 L h1 h2).2 R h3 h4; exact h R this.1 this.2
theorem uPdq_n (n : Nat) : ∀ (w0 w : World) (blk off cap sz a b limit : Nat) (d : Array Nat), b - a < n → Arr w0 w blk off d → d.size = sz → a ≤ b → b ≤ sz → sz ≤ 1099511627776 → limit ≤ 1099511627776 → Go.Sort.Below ltN a b d →
 Calls Tryz.prog 191 #[.slice (some ⟨blk, off, none⟩) sz cap, .int .i64 (a : Int), .int .i64 (b : Int), .int .i64 (limit : Int)] w fun e w' => e = .returned (.tuple #[]) ∧ ∃ d', Go.Sort.PermIn a b d d' ∧ Go.Sort.SortedIn ltN a b d' ∧ Arr w0 w' blk off d' := by
 induction n with
 | zero => intro _ _ _ _ _ _ _ _ _ _ h; omega
 | succ n ih =>
   intro w0 w blk off cap sz a b limit d hn h hs hab hb hsz hlim hB
   have IH := Hj ih
   have HH := Hj h; have HB := Hj hB
   clear ih h hB
   have HR0 : Hid (Rest a b a b d d) := Hj (fun R h1 h2 => ⟨h1, h2⟩)
   go_enter Tryz.func191, Tryz.ntmps191
   go_wp2
   go_loopg [1, 2, 3, 8, 9] (b - a) (fun k s1 s2 s3 s8 s9 wr => ∃ (a' b' lim : Nat) (wb wp : Bool) (dk : Array Nat), s1 = .int .i64 (a' : Int) ∧ s2 = .int .i64 (b' : Int) ∧ s3 = .int .i64 (lim : Int) ∧ s8 = .bool wb ∧ s9 = .bool wp ∧
    a' ≤ b' ∧ b' ≤ sz ∧ b' - a' ≤ k ∧ k ≤ b - a ∧ lim ≤ limit ∧ dk.size = sz ∧ Hid (Go.Sort.Below ltN a' b' dk) ∧ Hid (Arr w0 wr blk off dk) ∧ Hid (Rest a b a' b' d dk))
   case atStart => exact ⟨a, b, limit, true, true, d, rfl, rfl, rfl, rfl, rfl, hab, hb, Nat.le_refl _, Nat.le_refl _, Nat.le_refl _, hs, HB, HH, HR0⟩
   case round =>
    clear HH HB HR0
    obtain ⟨a', b', lim, wb, wp, dk, rfl, rfl, rfl, rfl, rfl, hab', hb', hk, hkN, hlim', hds, HB, HA, HR⟩ := hrel
    by_cases h12 : b' - a' ≤ 12
    · have h12z : (b' : Int) - (a' : Int) ≤ 12 := by omega
      have HC := Hj (uIns_at w0 wr blk off cap sz a' b' dk HA.out hds hab' hb' hsz)
      clear h12
      go_wp2_with (go_at_call 217; refine HC.out.mono ?_; rintro e w1 ⟨rfl, d1, hp1, hs1, hA1⟩)
      (try simp only [Exit.inBlock, Exit.then]); refine bodyPost_ret (results_none rfl _ _ _) rfl ?_
      exact ⟨rfl, d1, (HR.out d1 hp1 hs1).1, (HR.out d1 hp1 hs1).2, hA1⟩
    · have h12z : ¬ ((b' : Int) - (a' : Int) ≤ 12) := by omega
      by_cases hl0 : lim = 0
      · subst hl0
        have HC := Hj (uHeap_at w0 wr blk off cap sz a' b' dk HA.out hds (by omega) hb' hsz)
        go_wp2_with (go_at_call 218; refine HC.out.mono ?_; rintro e w1 ⟨rfl, d1, hp1, hs1, hA1⟩)
        (try simp only [Exit.inBlock, Exit.then]); refine bodyPost_ret (results_none rfl _ _ _) rfl ?_
        exact ⟨rfl, d1, (HR.out d1 hp1 hs1).1, (HR.out d1 hp1 hs1).2, hA1⟩
      · have hl0z : ¬ ((lim : Int) = 0) := by omega
        have h12b : a' + 12 < b' := by omega
        go_upto_if 35 with fail
        go_cut [3] from 19 to 133 (fun s3 wc => ∃ (l1 : Nat) (d1 : Array Nat), s3 = .int .i64 (l1 : Int) ∧ l1 ≤ limit ∧ d1.size = sz ∧ Hid (Arr w0 wc blk off d1) ∧ Hid (Go.Sort.PermIn a' b' dk d1))
        case first =>
         cases wb
         · have HC := Hj (uBreak_at w0 wr blk off cap sz a' b' dk HA.out hds h12b hb' hsz)
           go_wp2_with (go_at_call 219; refine HC.out.mono ?_; rintro e w1 ⟨rfl, d1, hp1, hA1⟩)
           go_meet
           case rel => exact ⟨lim - 1, d1, by congr 1; omega, by omega, by rw [hp1.1, hds], Hj hA1, Hj hp1⟩
         · go_wp2_with fail
           go_meet
           case rel => exact ⟨lim, dk, rfl, hlim', hds, HA, Hj (Go.Sort.permIn_refl dk a' b')⟩
        case rest =>
         obtain ⟨l1, d1, rfl, hl1, hs1, HA1, HP1⟩ := hcut
         have HC := Hj (uPiv_at w0 wc blk off cap sz a' b' d1 HA1.out hs1 h12b hb' hsz)
         go_upto_if 50 with (go_at_call 220; refine HC.out.mono ?_; rintro e w2 ⟨⟨r, s, rfl, hr1, hr2, hs2⟩, hA2⟩)
         go_cut [11, 12] from 19 to 133 (fun s11 s12 wc => ∃ (p t : Nat) (d2 : Array Nat), s11 = .int .i64 (p : Int) ∧ s12 = .int .i64 (t : Int) ∧ a' ≤ p ∧ p < b' ∧ t ≤ 1 ∧ d2.size = sz ∧ Hid (Arr w0 wc blk off d2) ∧ Hid (Go.Sort.PermIn a' b' d1 d2))
         case first =>
          by_cases hs2' : s = 2
          · subst hs2'
            have HC2 := Hj (uRev_at w0 w2 blk off cap sz a' b' d1 hA2 hs1 (by omega) hb' hsz)
            go_wp2_with (go_at_call 221; refine HC2.out.mono ?_; rintro e w3 ⟨rfl, d2, hp2, hA3⟩)
            go_meet
            case rel => exact ⟨(b' - 1) - (r - a'), 1, d2, by congr 1; omega, rfl, by omega, by omega, by omega, by rw [hp2.1, hs1], Hj hA3, Hj hp2⟩
          · have hs3 : ¬ (s : Int) = 2 := by omega
            go_wp2_with fail
            go_meet
            case rel => exact ⟨r, s, d1, rfl, rfl, hr1, hr2, by omega, hs1, Hj hA2, Hj (Go.Sort.permIn_refl d1 a' b')⟩
         case rest =>
          clear hA2 hr1 hr2 hs2
          obtain ⟨p, t, d2, rfl, rfl, hap, hpb, ht1, hs3, HA2, HP2⟩ := hcut
          have HPm : Hid (Go.Sort.PermIn a' b' dk d2) := Hj (Go.Sort.permIn_trans _ _ _ a' b' HP1.out HP2.out)
          have HB2 : Hid (Go.Sort.Below ltN a' b' d2) := Hj (HB.out.perm (by omega) HPm.out)
          go_upto_region 15 with fail
          go_cut [12, 68] from 19 to 133 (fun s12 s68 wx => ∃ c : Bool, s12 = .int .i64 (t : Int) ∧ s68 = .bool c ∧ wx = wc)
          case first =>
           by_cases ht0 : t = 1
           · subst ht0
             cases wb <;> cases wp <;>
              (go_wp2_with fail
               go_meet
               exact ⟨_, rfl, rfl, rfl⟩)
           · have ht2 : ¬ (t : Int) = 1 := by omega
             cases wb <;> cases wp <;>
              (go_wp2_with fail
               go_meet
               exact ⟨_, rfl, rfl, rfl⟩)
          case rest =>
           obtain ⟨c, rfl, rfl, rfl⟩ := hcut
           go_upto_if 68 with fail
           go_cut [] from 19 to 133 (fun wx => ∃ (d3 : Array Nat), d3.size = sz ∧ Hid (Arr w0 wx blk off d3) ∧ Hid (Go.Sort.PermIn a' b' dk d3))
           case first =>
            cases c
            · go_wp2_with fail
              go_meet
              case rel => exact ⟨d2, hs3, HA2, HPm⟩
            · have HC3 := Hj (uPins_at w0 wc blk off cap sz a' b' d2 HA2.out hs3 (by omega) hb' hsz HB2.out)
              go_wp2_with (go_at_call 222; refine HC3.out.mono ?_; rintro e w4 ⟨c3, d3, rfl, hp3, hq3, hA3⟩)
              all_goals first
               | (go_meet
                  exact ⟨d3, by rw [hp3.1, hs3], Hj hA3, Hj (Go.Sort.permIn_trans _ _ _ a' b' HPm.out hp3)⟩)
               | ((try simp only [Exit.inBlock, Exit.then]); refine bodyPost_ret (results_none rfl _ _ _) rfl ?_
                  have hq := hq3 (by first | rfl | assumption)
                  have hp := Go.Sort.permIn_trans _ _ _ a' b' HPm.out hp3
                  exact ⟨rfl, d3, (HR.out d3 hp hq).1, (HR.out d3 hp hq).2, hA3⟩)
           case rest =>
            clear HA HA1 HA2 HB2 HC
            obtain ⟨d3, hs4, HA3, HP3⟩ := hcut
            have HR3 : Hid (Rest a b a' b' d d3) := Hj (HR.out.perm HP3.out)
            have HB3 : Hid (Go.Sort.Below ltN a' b' d3) := Hj (HB.out.perm (by omega) HP3.out)
            have hb3 : b' ≤ d3.size := by omega
            go_upto_region 17 with fail
            go_cut [87] from 19 to 133 (fun s87 wx => ∃ c : Bool, s87 = .bool c ∧ (c = true → 0 < a' ∧ ltN d3[a' - 1]! d3[p]! = false) ∧ Hid (Arr w0 wx blk off d3))
            case first =>
             rcases Nat.eq_zero_or_pos a' with ha0 | ha0
             · have ha0z : decide ((0 : Int) < (a' : Int)) = false := decide_eq_false (by omega)
               go_quiet (fail)
               go_wp2_with fail
               go_meet
               case rel => exact ⟨false, rfl, by simp, Hj (HA3.out.drewN nq)⟩
             · have ha0z : (0 : Int) < (a' : Int) := by omega
               obtain ⟨q, hq⟩ : ∃ q, a' = q + 1 := ⟨a' - 1, by omega⟩
               have eq1 : (a' : Int) - 1 = (q : Int) := by omega
               have hqs : (q : Int) < (sz : Int) := by omega
               have hps : (p : Int) < (sz : Int) := by omega
               have c0 := HA3.out.cell q (by omega); have c1 := HA3.out.cell p (by omega)
               obtain ⟨x, hx⟩ : ∃ x, d3[q]! = x := ⟨_, rfl⟩
               obtain ⟨y, hy⟩ : ∃ y, d3[p]! = y := ⟨_, rfl⟩
               rw [hx] at c0
               rw [hy] at c1
               have HX := Hj hx; have HY := Hj hy; have HQ := Hj hq
               clear hx hy hq
               go_quiet ((go_at_call 158; exact Calls.quiet_of_same (qai _ _ _)))
               go_wp2_with fail
               go_meet
               case rel => exact ⟨_, rfl, fun h => ⟨by omega, by rw [show a' - 1 = q by have := HQ.out; omega, HX.out, HY.out]; simpa using h⟩, Hj (HA3.out.drewN nq)⟩
            case rest =>
             clear HA3
             obtain ⟨c, rfl, hc87, HA3⟩ := hcut
             cases c
             · have HC4 := Hj (uPar_at w0 wc blk off cap sz a' b' p d3 HA3.out hs4 hap hpb hb' hsz)
               clear hc87
               go_upto_if 113 with (go_at_call 224; refine HC4.out.mono ?_; rintro e w7 ⟨m, cc, ap, d4, rfl, hx, hA7⟩; obtain ⟨r1, r2, r3, r4, r5, r6, r7⟩ := HR3.out.part hap hpb hb3 HB3.out hx; have HA7 := Hj hA7; have HR6 := Hj r6; have HR7 := Hj r7; have HR4 := Hj r4; have HR5 := Hj r5; have HX := Hj r3; clear hx hA7 r3 r4 r5 r6 r7)
               have hs5 : d4.size = sz := by have := HX.out; omega
               by_cases h4 : m - a' < b' - m
               · have h4z : (m : Int) - (a' : Int) < (b' : Int) - (m : Int) := by omega
                 have HI := Hj (IH.out w0 w7 blk off cap sz a' m l1 d4 (by omega) HA7.out hs5 r1 (by omega) hsz (by omega) HR4.out)
                 go_wp2_with (go_at_call 191; refine HI.out.mono ?_; rintro e w8 ⟨rfl, d5, hp5, hq5, hA8⟩)
                 go_roundg (b' - (m + 1))
                 case measure => omega
                 case rel =>
                  exact ⟨m + 1, b', l1, _, _, d5, by simp, rfl, rfl, rfl, rfl, by omega, hb', Nat.le_refl _, by omega, hl1, by rw [hp5.1, hs5], Hj (HR6.out d5 hp5 hq5).1, Hj hA8, Hj (HR6.out d5 hp5 hq5).2⟩
               · have h4z : ¬ ((m : Int) - (a' : Int) < (b' : Int) - (m : Int)) := by omega
                 have em : (m : Int) + 1 = ((m + 1 : Nat) : Int) := by omega
                 have HI := Hj (IH.out w0 w7 blk off cap sz (m + 1) b' l1 d4 (by omega) HA7.out hs5 (by omega) hb' hsz (by omega) HR5.out)
                 have hm0 : (m : Int) ≤ 1099511627776 := by omega
                 clear em
                 go_wp2_with (go_at_call 191; refine HI.out.mono ?_; rintro e w8 ⟨rfl, d5, hp5, hq5, hA8⟩)
                 go_roundg (m - a')
                 case measure => omega
                 case rel =>
                  exact ⟨a', m, l1, _, _, d5, rfl, rfl, rfl, rfl, rfl, r1, by omega, Nat.le_refl _, by omega, hl1, by rw [hp5.1, hs5], Hj (HR7.out d5 hp5 hq5).1, Hj hA8, Hj (HR7.out d5 hp5 hq5).2⟩
             · have hc1 := (hc87 rfl).1; have hc2 := (hc87 rfl).2
               have HC4 := Hj (uPeq_at w0 wc blk off cap sz a' b' p d3 HA3.out hs4 hap hpb hb' hsz)
               have HC2 := Hj hc2
               clear hc87 hc2
               go_wp2_with (go_at_call 223; refine HC4.out.mono ?_; rintro e w7 ⟨m, d4, rfl, hx, hA7⟩)
               obtain ⟨r1, r2, r3, r4, r5⟩ := HR3.out.eq hc1 hap hpb hb3 HB3.out HC2.out hx
               go_roundg (b' - m)
               case measure => omega
               case rel =>
                exact ⟨m, b', l1, wb, wp, d4, rfl, rfl, rfl, rfl, rfl, r2, hb', Nat.le_refl _, by omega, hl1, by omega, Hj r4, Hj hA7, Hj r5⟩
end
section
set_option maxHeartbeats 1000000
set_option maxRecDepth 100000
open Go.RowKit
theorem uSort_any (w0 w : World) (blk off cap sz : Nat) (d : Array Nat) (h : Arr w0 w blk off d) (hs : d.size = sz) (hsz : sz ≤ 1099511627776) :
 Calls Tryz.prog 156 #[.slice (some ⟨blk, off, none⟩) sz cap] w fun e w' => e = .returned (.tuple #[]) ∧ ∃ d', Go.Sort.PermIn 0 sz d d' ∧ Go.Sort.SortedIn ltN 0 sz d' ∧ Arr w0 w' blk off d' := by
 have hk : Lib.bitLen sz ≤ 62 := Lib.bitLen_le sz 62 (by omega) (by omega)
 have HL : Hid (∀ w, Calls Tryz.prog 157 #[.int .u64 (sz : Int)] w fun e w' => e = .returned (.int .i64 (Lib.bitLen sz)) ∧ w' = w) := Hj (fun w => by
  have h := len_any (sz : Int) w (by omega) (by omega)
  rwa [Int.toNat_natCast] at h)
 have HP : Hid (∀ wq, Arr w0 wq blk off d → Calls Tryz.prog 191 #[.slice (some ⟨blk, off, none⟩) sz cap, .int .i64 0, .int .i64 (sz : Int), .int .i64 ((Lib.bitLen sz : Nat) : Int)] wq fun e w' => e = .returned (.tuple #[]) ∧ ∃ d', Go.Sort.PermIn 0 sz d d' ∧ Go.Sort.SortedIn ltN 0 sz d' ∧ Arr w0 w' blk off d') := Hj (fun wq hq =>
  uPdq_n (sz + 1) w0 wq blk off cap sz 0 sz (Lib.bitLen sz) d (by omega) hq hs (by omega) (Nat.le_refl _) hsz (by omega) (.inl rfl))
 have HH := Hj h
 clear h hs
 generalize Lib.bitLen sz = k at *
 go_enter Tryz.func156, Tryz.ntmps156
 go_wp2_with (first
  | (go_at_call 157; refine (HL.out _).mono ?_; rintro e w' ⟨rfl, rfl⟩)
  | (go_at_call 191; refine (HP.out _ HH.out).mono ?_; rintro e w' ⟨rfl, d', h1, h2, h3⟩))
 go_end0
 exact ⟨rfl, d', h1, h2, h3⟩
end
section
open Go.RowKit
def Rd (k : Nat) (w : World) (v : Value) (n : Nat) (xs : List Value) : Prop :=
 xs.length = n * k ∧ ∃ a cap, v = .slice a n cap ∧ n ≤ cap ∧ (n = 0 ∨ ∃ b off, a = some ⟨b, off, none⟩ ∧ ∀ j u, xs[j]? = some u → w.cell? ⟨b, off + j, none⟩ = some u)
theorem Rd.nil (k : Nat) (w : World) : Rd k w (.slice none 0 0) 0 [] := ⟨by simp, none, 0, rfl, Nat.le_refl _, .inl rfl⟩
theorem Rd.keeps {k : Nat} {S : Nat → Prop} {a b : World} {v : Value} {n : Nat} {xs : List Value} (h : Rd k a v n xs) (kk : Keeps S a b) (hS : ∀ g, v.ownBlock = some g → ¬ S g) : Rd k b v n xs := by
 obtain ⟨hl, ad, cap, rfl, hc, h | ⟨bl, off, rfl, hcell⟩⟩ := h
 · exact ⟨hl, ad, cap, rfl, hc, .inl h⟩
 · exact ⟨hl, _, cap, rfl, hc, .inr ⟨bl, off, rfl, fun j u hj => kk.cell (hcell j u hj) (hS bl rfl)⟩⟩
theorem Rd.below {k : Nat} {a b : World} {v : Value} {n : Nat} {xs : List Value} (h : Rd k a v n xs) (hb : Below a.heap.size a b) : Rd k b v n xs := by
 obtain ⟨hl, ad, cap, rfl, hc, h | ⟨bl, off, rfl, hcell⟩⟩ := h
 · exact ⟨hl, ad, cap, rfl, hc, .inl h⟩
 · refine ⟨hl, _, cap, rfl, hc, .inr ⟨bl, off, rfl, fun j u hj => ?_⟩⟩
   rw [hb.cell (World.block_lt_of_cell? a _ (hcell j u hj))]
   exact hcell j u hj
theorem rd_row {k : Nat} {w : World} {base : Nat} {e : TypeId} {v : Value} {n : Nat} {xs : List Value} (h : w.ownsRow base e k v n xs) : Rd k w v n xs := by
 refine ⟨h.1, ?_⟩
 rcases h.2 with ⟨rfl, h0⟩ | ⟨g, cap, cur, rfl, hb, hgg, hcap, _, hcs, htk⟩
 · exact ⟨none, 0, by rw [h0], by omega, .inl h0⟩
 · refine ⟨_, cap, rfl, hcap, .inr ⟨g, 0, rfl, fun j u hj => ?_⟩⟩
   have := h.cells (g := g) rfl j u hj
   rw [show ((⟨g, 0, none⟩ : Addr).add j) = ⟨g, 0 + j, none⟩ from by unfold Addr.add; split <;> simp_all] at this
   exact this
theorem Rd.at {k : Nat} {w : World} {ad : Option Addr} {n cap : Nat} {xs : List Value} (h : Rd k w (.slice ad n cap) n xs) {i : Nat} (hi : i < n) :
 ∃ b off, ad = some ⟨b, off, none⟩ ∧ ∀ c u, xs[i * k + c]? = some u → w.cell? ⟨b, off + i * k + c, none⟩ = some u := by
 obtain ⟨hl, ad', cap', hv, hc, h⟩ := h
 simp only [Value.slice.injEq] at hv
 obtain ⟨rfl, _, rfl⟩ := hv
 rcases h with h | ⟨bl, off, rfl, hcell⟩
 · omega
 · exact ⟨bl, off, rfl, fun c u hu => by rw [Nat.add_assoc]; exact hcell _ u hu⟩
theorem Rd.slice {k : Nat} {w : World} {v : Value} {n : Nat} {xs : List Value} (h : Rd k w v n xs) : ∃ ad cap, v = .slice ad n cap ∧ n ≤ cap := by
 obtain ⟨_, ad, cap, rfl, hc, _⟩ := h
 exact ⟨ad, cap, rfl, hc⟩
def cells2 {α : Type} (f g : α → Value) (l : List α) : List Value := l.flatMap fun x => [f x, g x]
theorem qbv {α : Type} (f g : α → Value) (l : List α) : (cells2 f g l).length = l.length * 2 := by
 induction l with
 | nil => rfl
 | cons p rs ih => simp only [cells2, List.flatMap_cons, List.length_append, List.length_cons, List.length_nil] at ih ⊢; omega
theorem qcx {α : Type} (f g : α → Value) : ∀ (l : List α) (i : Nat) (x : α), l[i]? = some x → (cells2 f g l)[i * 2]? = some (f x) ∧ (cells2 f g l)[i * 2 + 1]? = some (g x)
 | [], i, x, h => by simp at h
 | a :: l, 0, x, h => by
   simp only [List.getElem?_cons_zero, Option.some.injEq] at h
   subst h
   exact ⟨rfl, rfl⟩
 | a :: l, i + 1, x, h => by
   have e1 : (i + 1) * 2 = i * 2 + 2 := by omega
   have ih := qcx f g l i x (by simpa using h)
   have e : cells2 f g (a :: l) = f a :: g a :: cells2 f g l := by simp [cells2]
   rw [e1, e]
   exact ⟨by simpa using ih.1, by rw [show i * 2 + 2 + 1 = (i * 2 + 1) + 1 + 1 by omega]; simpa using ih.2⟩
theorem Rd.at2 {α : Type} {f g : α → Value} {w : World} {ad : Option Addr} {n cap : Nat} {l : List α} (h : Rd 2 w (.slice ad n cap) n (cells2 f g l)) {i : Nat} {x : α} (hx : l[i]? = some x) :
 ∃ b off, ad = some ⟨b, off, none⟩ ∧ w.cell? ⟨b, off + i * 2, none⟩ = some (f x) ∧ w.cell? ⟨b, off + i * 2 + 1, none⟩ = some (g x) := by
 have hi : i < n := by
  have h1 := h.1
  rw [qbv] at h1
  have := (List.getElem?_eq_some_iff.1 hx).1
  omega
 obtain ⟨b, off, e, hc⟩ := h.at hi
 obtain ⟨g1, g2⟩ := qcx f g l i x hx
 exact ⟨b, off, e, hc 0 _ (by simpa using g1), hc 1 _ g2⟩
end
section
open Go.RowKit
theorem less_irrefl : ∀ a : List UInt8, Op.bytesLess a a = false
 | [] => rfl
 | x :: a => by
   simp only [Op.bytesLess]
   simp [less_irrefl a]
def ordS (a b : ByteArray) : Int := if Op.bytesLess a.toList b.toList = true then -1 else if (a.toList == b.toList) = true then 0 else 1
theorem toList_inj' {a b : ByteArray} (h : (a.toList == b.toList) = true) : a = b := by
 have h := (beq_iff_eq).1 h
 rw [Lib.toList_data, Lib.toList_data] at h
 exact ByteArray.ext (Array.toList_inj.1 h)
theorem ordS_zero {a b : ByteArray} : ordS a b = 0 ↔ a = b := by
 unfold ordS
 constructor
 · intro h
   split at h
   · cases h
   · split at h
     · rename_i h2; exact toList_inj' h2
     · cases h
 · rintro rfl
   rw [if_neg (by rw [less_irrefl]; decide), if_pos (by simp)]
abbrev Lab := ByteArray × ByteArray
def labE (x : Lab) : Int := if x.1.size = 0 then 17 else if 65535 < x.1.size ∨ 65535 < x.2.size then 7 else 0
def chkE : Option Lab → List Lab → Int
 | _, [] => 0
 | p, x :: r =>
   if labE x ≠ 0 then labE x
   else match p with
    | none => chkE (some x) r
    | some q => if ordS q.1 x.1 = 0 then 18 else if ordS q.1 x.1 = 1 then 16 else chkE (some x) r
def cmpL : List Lab → List Lab → Int
 | [], [] => 0
 | [], _ :: _ => -1
 | _ :: _, [] => 1
 | x :: a, y :: b => if ordS x.1 y.1 ≠ 0 then ordS x.1 y.1 else if ordS x.2 y.2 ≠ 0 then ordS x.2 y.2 else cmpL a b
theorem cmpL_zero : ∀ a b : List Lab, cmpL a b = 0 ↔ a = b
 | [], [] => by simp [cmpL]
 | [], _ :: _ => by simp [cmpL]
 | _ :: _, [] => by simp [cmpL]
 | (x1, x2) :: a, (y1, y2) :: b => by
   have ih := cmpL_zero a b
   unfold cmpL
   by_cases h1 : ordS x1 y1 = 0
   · by_cases h2 : ordS x2 y2 = 0
     · rw [if_neg (by simpa using h1), if_neg (by simpa using h2), ih]
       rw [ordS_zero.1 h1, ordS_zero.1 h2]
       simp
     · rw [if_neg (by simpa using h1), if_pos (by simpa using h2)]
       constructor
       · intro h; exact absurd h h2
       · intro h
         simp only [List.cons.injEq, Prod.mk.injEq] at h
         exact absurd (ordS_zero.2 h.1.2) h2
   · rw [if_pos (by simpa using h1)]
     constructor
     · intro h; exact absurd h h1
     · intro h
       simp only [List.cons.injEq, Prod.mk.injEq] at h
       exact absurd (ordS_zero.2 h.1.1) h1
def labF (x : Lab) : Value := .string x.1
def labG (x : Lab) : Value := .string x.2
def labC (l : List Lab) : List Value := cells2 labF labG l
def RdL (w : World) (v : Value) (l : List Lab) : Prop := Rd 2 w v l.length (labC l)
theorem RdL.below {a b : World} {v : Value} {l : List Lab} (h : RdL a v l) (hb : Below a.heap.size a b) : RdL b v l := Rd.below h hb
theorem RdL.at {w : World} {ad : Option Addr} {cap : Nat} {l : List Lab} (h : RdL w (.slice ad l.length cap) l) {i : Nat} {x : Lab} (hx : l[i]? = some x) :
 ∃ b off, ad = some ⟨b, off, none⟩ ∧ w.cell? ⟨b, off + i * 2, none⟩ = some (.string x.1) ∧ w.cell? ⟨b, off + i * 2 + 1, none⟩ = some (.string x.2) := Rd.at2 (f := labF) (g := labG) h hx
end
section
set_option maxRecDepth 100000
open Go.RowKit
theorem qan {a b : Int} (h : a = b) : Ending.returned (.int .i64 a) = .returned (.int .i64 b) := by rw [h]
theorem order_any (a b : ByteArray) (w : World) : Calls Tryz.prog 94 #[.string a, .string b] w fun e w' => e = .returned (.int .i64 (ordS a b)) ∧ w = w' := by
 have HO : Hid (ordS a b = if Op.bytesLess a.toList b.toList = true then -1 else if (a.toList == b.toList) = true then 0 else 1) := Hj rfl
 cases h1 : Op.bytesLess a.toList b.toList with
 | true =>
   have H := Hj (HO.out.trans (by rw [h1]))
   clear HO
   go_enter Tryz.func94, Tryz.ntmps94
   go_wp2
   go_ret
   exact ⟨qan H.out.symm, rfl⟩
 | false =>
   cases h2 : (a.toList == b.toList) with
   | true =>
     have H := Hj (HO.out.trans (by rw [h1, h2]))
     clear HO
     go_enter Tryz.func94, Tryz.ntmps94
     go_wp2
     go_ret
     exact ⟨qan H.out.symm, rfl⟩
   | false =>
     have H := Hj (HO.out.trans (by rw [h1, h2]))
     clear HO
     go_enter Tryz.func94, Tryz.ntmps94
     go_wp2
     go_ret
     exact ⟨qan H.out.symm, rfl⟩
theorem nanS_any (a : ByteArray) (w : World) : Calls Tryz.prog 212 #[.string a] w fun e w' => e = .returned (.bool false) ∧ w = w' := by
 go_enter Tryz.func212, Tryz.ntmps212
 go_wp2
 go_ret
 exact ⟨rfl, rfl⟩
theorem cmpS_any (a b : ByteArray) (w : World) : Calls Tryz.prog 178 #[.string a, .string b] w fun e w' => e = .returned (.int .i64 (ordS a b)) ∧ w = w' := by
 have HO : Hid (ordS a b = if Op.bytesLess a.toList b.toList = true then -1 else if (a.toList == b.toList) = true then 0 else 1) := Hj rfl
 cases h1 : Op.bytesLess a.toList b.toList with
 | true =>
   have H := Hj (HO.out.trans (by rw [h1]))
   clear HO
   go_enter Tryz.func178, Tryz.ntmps178
   go_wp2_with (go_at_call 212; refine (nanS_any _ _).mono ?_; rintro e w1 ⟨rfl, rfl⟩)
   go_ret
   exact ⟨qan H.out.symm, rfl⟩
 | false =>
   cases h2 : (a.toList == b.toList) with
   | true =>
     have H := Hj (HO.out.trans (by rw [h1, h2]))
     clear HO
     go_enter Tryz.func178, Tryz.ntmps178
     go_wp2_with (go_at_call 212; refine (nanS_any _ _).mono ?_; rintro e w1 ⟨rfl, rfl⟩)
     go_ret
     exact ⟨qan H.out.symm, rfl⟩
   | false =>
     have H := Hj (HO.out.trans (by rw [h1, h2]))
     clear HO
     go_enter Tryz.func178, Tryz.ntmps178
     go_wp2_with (go_at_call 212; refine (nanS_any _ _).mono ?_; rintro e w1 ⟨rfl, rfl⟩)
     go_ret
     exact ⟨qan H.out.symm, rfl⟩
theorem empty_iff (a : ByteArray) : a.toList.isEmpty = decide (a.size = 0) := by
 rw [Lib.toList_data]
 cases h : a.data.toList with
 | nil => have := Lib.size_eq a; rw [h] at this; simp [this]
 | cons x r => have := Lib.size_eq a; rw [h] at this; simp [this]
theorem single_any (x : Lab) (w : World) : Calls Tryz.prog 196 #[.agg #[.string x.1, .string x.2]] w fun e w' => e = .returned (.int .i64 (labE x)) ∧ Below w.heap.size w w' := by
 obtain ⟨a, b⟩ := x
 have HO : Hid (labE (a, b) = if a.size = 0 then 17 else if 65535 < a.size ∨ 65535 < b.size then 7 else 0) := Hj rfl
 have hb := (Below.refl w.heap.size w).alloc (Nat.le_refl _) (.cells #[.string a, .string b] 94)
 have HB := Hj hb
 have he := empty_iff a
 by_cases h0 : a.size = 0
 · have H := Hj (HO.out.trans (if_pos h0))
   have he2 : a.toList.isEmpty = true := by rw [he]; exact decide_eq_true h0
   clear HO hb he h0
   go_enter Tryz.func196, Tryz.ntmps196
   go_wp2
   all_goals
    go_ret
    exact ⟨qan H.out.symm, HB.out⟩
 · have he2 : a.toList.isEmpty = false := by rw [he]; exact decide_eq_false h0
   have HO2 := Hj (HO.out.trans (if_neg h0))
   clear HO hb he
   by_cases h1 : 65535 < a.size
   · have H := Hj (HO2.out.trans (if_pos (.inl h1)))
     have h1' : (65535 : Int) < (a.size : Int) := by omega
     have hm : (65535 : Int) < max (a.size : Int) (b.size : Int) := by omega
     clear HO2
     go_enter Tryz.func196, Tryz.ntmps196
     go_wp2
     all_goals
      go_ret
      exact ⟨qan H.out.symm, HB.out⟩
   · by_cases h2 : 65535 < b.size
     · have H := Hj (HO2.out.trans (if_pos (.inr h2)))
       have h1' : (a.size : Int) ≤ 65535 := by omega
       have h2' : (65535 : Int) < (b.size : Int) := by omega
       have hm : (65535 : Int) < max (a.size : Int) (b.size : Int) := by omega
       clear HO2 h1
       go_enter Tryz.func196, Tryz.ntmps196
       go_wp2
       all_goals
        go_ret
        exact ⟨qan H.out.symm, HB.out⟩
     · have H := Hj (HO2.out.trans (if_neg (by omega)))
       have h1' : (a.size : Int) ≤ 65535 := by omega
       have h2' : (b.size : Int) ≤ 65535 := by omega
       have hm : max (a.size : Int) (b.size : Int) ≤ 65535 := by omega
       clear HO2 h1 h2
       go_enter Tryz.func196, Tryz.ntmps196
       go_wp2
       all_goals
        go_ret
        exact ⟨qan H.out.symm, HB.out⟩
theorem part1_any (x : Lab) (w : World) : Calls Tryz.prog 202 #[.agg #[.string x.1, .string x.2]] w fun e w' => e = .returned (.string x.1) ∧ Below w.heap.size w w' := by
 obtain ⟨a, b⟩ := x
 have hb := (Below.refl w.heap.size w).alloc (Nat.le_refl _) (.cells #[.string a, .string b] 94)
 have HB := Hj hb
 clear hb
 go_enter Tryz.func202, Tryz.ntmps202
 go_wp2
 go_ret
 exact ⟨rfl, HB.out⟩
theorem part2_any (x : Lab) (w : World) : Calls Tryz.prog 203 #[.agg #[.string x.1, .string x.2]] w fun e w' => e = .returned (.string x.2) ∧ Below w.heap.size w w' := by
 obtain ⟨a, b⟩ := x
 have hb := (Below.refl w.heap.size w).alloc (Nat.le_refl _) (.cells #[.string a, .string b] 94)
 have HB := Hj hb
 clear hb
 go_enter Tryz.func203, Tryz.ntmps203
 go_wp2
 go_ret
 exact ⟨rfl, HB.out⟩
end
section
set_option maxRecDepth 100000
open Go.RowKit
theorem two_labels (w : World) (x1 x2 y1 y2 : ByteArray) : ∃ W0, W0 = (w.alloc (.cells #[.string x1, .string x2] 94)).alloc (.cells #[.string y1, .string y2] 94) ∧ Below w.heap.size w W0 ∧ W0.heap.size = w.heap.size + 2 ∧
 W0.cell? ⟨w.heap.size, 0, none⟩ = some (.string x1) ∧ W0.cell? ⟨w.heap.size, 1, none⟩ = some (.string x2) ∧ W0.cell? ⟨w.heap.size + 1, 0, none⟩ = some (.string y1) ∧ W0.cell? ⟨w.heap.size + 1, 1, none⟩ = some (.string y2) := by
 have h1 : ((w.alloc (.cells #[.string x1, .string x2] 94)).alloc (.cells #[.string y1, .string y2] 94)).heap[w.heap.size]? = some (.cells #[.string x1, .string x2] 94 (0, 0)) := by
  rw [Below.heap_alloc _ _ _ (by simp)]; exact heap_alloc_new w _
 have h2 : ((w.alloc (.cells #[.string x1, .string x2] 94)).alloc (.cells #[.string y1, .string y2] 94)).heap[w.heap.size + 1]? = some (.cells #[.string y1, .string y2] 94 (0, 0)) := by
  have := heap_alloc_new (w.alloc (.cells #[.string x1, .string x2] 94)) (.cells #[.string y1, .string y2] 94)
  simpa using this
 refine ⟨_, rfl, ((Below.refl _ w).alloc (Nat.le_refl _) _).alloc (by simp) _, by simp, ?_, ?_, ?_, ?_⟩
 · rw [cell_of_row _ _ _ _ _ _ h1]; rfl
 · rw [cell_of_row _ _ _ _ _ _ h1]; rfl
 · rw [cell_of_row _ _ _ _ _ _ h2]; rfl
 · rw [cell_of_row _ _ _ _ _ _ h2]; rfl
theorem by1_1 (x y : Lab) (B : Nat) (w : World) (hc : w.cell? ⟨B, 0, none⟩ = some (.func (.func 202) #[] #[])) :
 Calls Tryz.prog 225 #[.agg #[.string x.1, .string x.2], .agg #[.string y.1, .string y.2], .pointer (some ⟨B, 0, none⟩)] w fun e w' => e = .returned (.int .i64 (ordS x.1 y.1)) ∧ Below w.heap.size w w' := by
 obtain ⟨x1, x2⟩ := x
 obtain ⟨y1, y2⟩ := y
 obtain ⟨W0, hW0, hb, hs, c1, c2, c3, c4⟩ := two_labels w x1 x2 y1 y2
 have c0 : W0.cell? ⟨B, 0, none⟩ = some (.func (.func 202) #[] #[]) := by rw [hb.cell (World.block_lt_of_cell? w _ hc)]; exact hc
 have CC : Hid (∀ wq, Below W0.heap.size W0 wq → wq.cell? ⟨B, 0, none⟩ = some (.func (.func 202) #[] #[]) ∧ wq.cell? ⟨w.heap.size, 0, none⟩ = some (.string x1) ∧ wq.cell? ⟨w.heap.size, 1, none⟩ = some (.string x2) ∧ wq.cell? ⟨w.heap.size + 1, 0, none⟩ = some (.string y1) ∧ wq.cell? ⟨w.heap.size + 1, 1, none⟩ = some (.string y2)) := Hj (fun wq h => by
  refine ⟨?_, ?_, ?_, ?_, ?_⟩
  · rw [h.cell (World.block_lt_of_cell? W0 _ c0)]; exact c0
  · rw [h.cell (World.block_lt_of_cell? W0 _ c1)]; exact c1
  · rw [h.cell (World.block_lt_of_cell? W0 _ c2)]; exact c2
  · rw [h.cell (World.block_lt_of_cell? W0 _ c3)]; exact c3
  · rw [h.cell (World.block_lt_of_cell? W0 _ c4)]; exact c4)
 have CP : Hid (∀ z1 z2 wq, Below W0.heap.size W0 wq → Calls Tryz.prog 202 #[.agg #[.string z1, .string z2]] wq fun e w' => e = .returned (.string z1) ∧ Below W0.heap.size W0 w') := Hj (fun z1 z2 wq h => (part1_any (z1, z2) wq).mono fun e w' ⟨he, hb⟩ => ⟨he, h.trans (hb.mono h.size)⟩)
 have CS : Hid (∀ a b wq, Below W0.heap.size W0 wq → Calls Tryz.prog 178 #[.string a, .string b] wq fun e w' => e = .returned (.int .i64 (ordS a b)) ∧ Below W0.heap.size W0 w') := Hj (fun a b wq h => (cmpS_any a b wq).mono fun e w' ⟨he, hb⟩ => ⟨he, hb ▸ h⟩)
 have HB := Hj hb; have HS := Hj hs
 clear c0 c1 c2 c3 c4 hc hb hs
 go_enter Tryz.func225, Tryz.ntmps225
 go_wp2_with fail
 rw [← hW0]
 clear hW0
 refine qau (fun x => Below W0.heap.size W0 x) (by kernel_rfl) (by kernel_rfl) ((Below.refl _ _).drew) ?_
 repeat (
  refine wpQuiet_step (fun K hK => ?_)
  go_simp
  first
   | (refine hK _ ?_; clear hK K)
   | (refine ⟨_, fun _ _ => rfl, hK _ ?_⟩; clear hK K)
   | (apply Exists.intro
      refine ⟨fun wq hwq => ?_, hK _ ?_⟩
      (first
       | (go_at_call 202; exact CP.out _ _ _ hwq)
       | (go_at_call 178; exact CS.out _ _ _ hwq)
       | (have hc := CC.out _ hwq; go_simp; exact rfl)
       | (obtain ⟨hc0, hc1, hc2, hc3, hc4⟩ := CC.out _ hwq; go_simp; exact rfl))
      clear hK K))
 refine wpQuiet_nil ?_
 intro wq hwq
 go_wp2
 go_ret
 exact ⟨rfl, HB.out.trans (hwq.mono (by have := HS.out; omega))⟩
theorem by1_2 (x y : Lab) (B : Nat) (w : World) (hc : w.cell? ⟨B, 0, none⟩ = some (.func (.func 203) #[] #[])) :
 Calls Tryz.prog 225 #[.agg #[.string x.1, .string x.2], .agg #[.string y.1, .string y.2], .pointer (some ⟨B, 0, none⟩)] w fun e w' => e = .returned (.int .i64 (ordS x.2 y.2)) ∧ Below w.heap.size w w' := by
 obtain ⟨x1, x2⟩ := x
 obtain ⟨y1, y2⟩ := y
 obtain ⟨W0, hW0, hb, hs, c1, c2, c3, c4⟩ := two_labels w x1 x2 y1 y2
 have c0 : W0.cell? ⟨B, 0, none⟩ = some (.func (.func 203) #[] #[]) := by rw [hb.cell (World.block_lt_of_cell? w _ hc)]; exact hc
 have CC : Hid (∀ wq, Below W0.heap.size W0 wq → wq.cell? ⟨B, 0, none⟩ = some (.func (.func 203) #[] #[]) ∧ wq.cell? ⟨w.heap.size, 0, none⟩ = some (.string x1) ∧ wq.cell? ⟨w.heap.size, 1, none⟩ = some (.string x2) ∧ wq.cell? ⟨w.heap.size + 1, 0, none⟩ = some (.string y1) ∧ wq.cell? ⟨w.heap.size + 1, 1, none⟩ = some (.string y2)) := Hj (fun wq h => by
  refine ⟨?_, ?_, ?_, ?_, ?_⟩
  · rw [h.cell (World.block_lt_of_cell? W0 _ c0)]; exact c0
  · rw [h.cell (World.block_lt_of_cell? W0 _ c1)]; exact c1
  · rw [h.cell (World.block_lt_of_cell? W0 _ c2)]; exact c2
  · rw [h.cell (World.block_lt_of_cell? W0 _ c3)]; exact c3
  · rw [h.cell (World.block_lt_of_cell? W0 _ c4)]; exact c4)
 have CP : Hid (∀ z1 z2 wq, Below W0.heap.size W0 wq → Calls Tryz.prog 203 #[.agg #[.string z1, .string z2]] wq fun e w' => e = .returned (.string z2) ∧ Below W0.heap.size W0 w') := Hj (fun z1 z2 wq h => (part2_any (z1, z2) wq).mono fun e w' ⟨he, hb⟩ => ⟨he, h.trans (hb.mono h.size)⟩)
 have CS : Hid (∀ a b wq, Below W0.heap.size W0 wq → Calls Tryz.prog 178 #[.string a, .string b] wq fun e w' => e = .returned (.int .i64 (ordS a b)) ∧ Below W0.heap.size W0 w') := Hj (fun a b wq h => (cmpS_any a b wq).mono fun e w' ⟨he, hb⟩ => ⟨he, hb ▸ h⟩)
 have HB := Hj hb; have HS := Hj hs
 clear c0 c1 c2 c3 c4 hc hb hs
 go_enter Tryz.func225, Tryz.ntmps225
 go_wp2_with fail
 rw [← hW0]
 clear hW0
 refine qau (fun x => Below W0.heap.size W0 x) (by kernel_rfl) (by kernel_rfl) ((Below.refl _ _).drew) ?_
 repeat (
  refine wpQuiet_step (fun K hK => ?_)
  go_simp
  first
   | (refine hK _ ?_; clear hK K)
   | (refine ⟨_, fun _ _ => rfl, hK _ ?_⟩; clear hK K)
   | (apply Exists.intro
      refine ⟨fun wq hwq => ?_, hK _ ?_⟩
      (first
       | (go_at_call 203; exact CP.out _ _ _ hwq)
       | (go_at_call 178; exact CS.out _ _ _ hwq)
       | (have hc := CC.out _ hwq; go_simp; exact rfl)
       | (obtain ⟨hc0, hc1, hc2, hc3, hc4⟩ := CC.out _ hwq; go_simp; exact rfl))
      clear hK K))
 refine wpQuiet_nil ?_
 intro wq hwq
 go_wp2
 go_ret
 exact ⟨rfl, HB.out.trans (hwq.mono (by have := HS.out; omega))⟩
end
section
open Go.RowKit
def ordI (a b : Int) : Int := if a < b then -1 else if b < a then 1 else 0
abbrev Smp := Int × Int
abbrev Ser := List Lab × List Smp
def smpF (x : Smp) : Value := .int .i64 x.1
def smpG (x : Smp) : Value := .int .u64 x.2
def smpC (l : List Smp) : List Value := cells2 smpF smpG l
def RdS (w : World) (v : Value) (l : List Smp) : Prop := Rd 2 w v l.length (smpC l)
theorem RdS.below {a b : World} {v : Value} {l : List Smp} (h : RdS a v l) (hb : Below a.heap.size a b) : RdS b v l := Rd.below h hb
theorem RdS.at {w : World} {ad : Option Addr} {cap : Nat} {l : List Smp} (h : RdS w (.slice ad l.length cap) l) {i : Nat} {x : Smp} (hx : l[i]? = some x) :
 ∃ b off, ad = some ⟨b, off, none⟩ ∧ w.cell? ⟨b, off + i * 2, none⟩ = some (.int .i64 x.1) ∧ w.cell? ⟨b, off + i * 2 + 1, none⟩ = some (.int .u64 x.2) := Rd.at2 (f := smpF) (g := smpG) h hx
structure Hdr where
 la : Option Addr
 ln : Nat
 lc : Nat
 sa : Option Addr
 sn : Nat
 sc : Nat
def Hdr.lv (h : Hdr) : Value := .slice h.la h.ln h.lc
def Hdr.sv (h : Hdr) : Value := .slice h.sa h.sn h.sc
def hdrC (hs : List Hdr) : List Value := cells2 Hdr.lv Hdr.sv hs
def RdH (w : World) (v : Value) (hs : List Hdr) : Prop := Rd 2 w v hs.length (hdrC hs)
def SerOk (w : World) (h : Hdr) (x : Ser) : Prop := RdL w h.lv x.1 ∧ RdS w h.sv x.2
def RdB (w : World) (v : Value) (hs : List Hdr) (b : List Ser) : Prop := hs.length = b.length ∧ RdH w v hs ∧ ∀ (i : Nat) (h : Hdr) (x : Ser), hs[i]? = some h → b[i]? = some x → SerOk w h x
theorem RdH.below {a b : World} {v : Value} {l : List Hdr} (h : RdH a v l) (hb : Below a.heap.size a b) : RdH b v l := Rd.below h hb
theorem SerOk.below {a b : World} {h : Hdr} {x : Ser} (hh : SerOk a h x) (hb : Below a.heap.size a b) : SerOk b h x := ⟨hh.1.below hb, hh.2.below hb⟩
theorem RdB.below {a b : World} {v : Value} {hs : List Hdr} {l : List Ser} (h : RdB a v hs l) (hb : Below a.heap.size a b) : RdB b v hs l := ⟨h.1, h.2.1.below hb, fun i x y h1 h2 => (h.2.2 i x y h1 h2).below hb⟩
theorem RdH.at {w : World} {ad : Option Addr} {cap : Nat} {l : List Hdr} (h : RdH w (.slice ad l.length cap) l) {i : Nat} {x : Hdr} (hx : l[i]? = some x) :
 ∃ b off, ad = some ⟨b, off, none⟩ ∧ w.cell? ⟨b, off + i * 2, none⟩ = some (.slice x.la x.ln x.lc) ∧ w.cell? ⟨b, off + i * 2 + 1, none⟩ = some (.slice x.sa x.sn x.sc) := Rd.at2 (f := Hdr.lv) (g := Hdr.sv) h hx
theorem SerOk.lens {w : World} {h : Hdr} {x : Ser} (hh : SerOk w h x) : h.ln = x.1.length ∧ h.sn = x.2.length := by
 obtain ⟨⟨_, a, c, e, _⟩, ⟨_, a', c', e', _⟩⟩ := hh
 simp only [Hdr.lv, Hdr.sv, Value.slice.injEq] at e e'
 exact ⟨e.2.1, e'.2.1⟩
def ascE {α : Type} (c : α → α → Int) (eq : Int) : List α → Int
 | [] => 0
 | [_] => 0
 | x :: y :: r => if c x y = 0 then eq else if 0 < c x y then 16 else ascE c eq (y :: r)
def cmpT (x y : Smp) : Int := ordI x.1 y.1
def serE (x : Ser) : Int := if chkE none x.1 ≠ 0 then chkE none x.1 else if x.2.length = 0 then 21 else ascE cmpT 20 x.2
def cmpB (x y : Ser) : Int := cmpL x.1 y.1
def bloE : Option Ser → List Ser → Int
 | _, [] => 0
 | p, x :: r =>
   if serE x ≠ 0 then serE x
   else match p with
    | none => bloE (some x) r
    | some q => if cmpB q x = 0 then 19 else if 0 < cmpB q x then 16 else bloE (some x) r
def qat : List Ser → Nat
 | [] => 0
 | x :: r => x.2.length + qat r
def modE (b : List Ser) : Int := if 1048576 < b.length ∨ 16777216 < qat b then 7 else bloE none b
theorem samplesN_drop (b : List Ser) : ∀ k, qat (b.take k) + qat (b.drop k) = qat b := by
 induction b with
 | nil => intro k; simp [qat]
 | cons x r ih =>
   intro k
   cases k with
   | zero => simp [qat]
   | succ k => simp only [List.take_succ_cons, List.drop_succ_cons, qat]; have := ih k; omega
theorem samplesN_take (b : List Ser) (k : Nat) (x : Ser) (h : b[k]? = some x) : qat (b.take (k + 1)) = qat (b.take k) + x.2.length := by
 have h1 := samplesN_drop b k
 have h2 := samplesN_drop b (k + 1)
 obtain ⟨hk, e⟩ := List.getElem?_eq_some_iff.1 h
 rw [List.drop_eq_getElem_cons hk, e] at h1
 simp only [qat] at h1
 omega
theorem samplesN_le (b : List Ser) (k : Nat) : qat (b.take k) ≤ qat b := by have := samplesN_drop b k; omega
end
section
open Go.RowKit
variable {P : Program}
#print axioms qcv
end
end Go.Proofs.YtfpcgcbehdogjaaGreatDoor
