/-
  WALKS: bitio.NewWriter, (*Writer).Bits, Len, what each does to a world that holds a Writer.
-/
import Derived.Test.YtdniaingipoggaaDoorPMem
import Derived.Test.YtdniaingipoggaaDoorPApp
import Derived.WalkKit
import Derived.WalkSpells
import Derived.WalkLawsBesides
import Derived.StillTailTactics
import Derived.Handy
import Derived.Lib.Hide
namespace Go.Proofs.YtdniaingipoggaaDoor
open Go.RowKit

theorem infoU8 : (Tryd.prog.info? 5).map (fun i => (i.zero, i.size, i.bytes)) = some (some (.int .u8 0), 1, 1) := by kernel_rfl

set_option maxHeartbeats 400000 in
theorem newWriter_any (w : World) :
    Calls Tryd.prog 25 #[] w fun e w' => e = .returned (.pointer (some ⟨w.heap.size, 0, none⟩)) ∧ w' = w.alloc (.cells #[.slice none 0 0, .int .i64 0] 95) := by
  go_enter Tryd.func25, Tryd.ntmps25
  go_wp2
  go_ret
  exact ⟨rfl, rfl⟩
theorem newWriter_is (w : World) (base : Nat) (h : base ≤ w.heap.size) : IsW (w.alloc (.cells #[.slice none 0 0, .int .i64 0] 95)) base w.heap.size (.slice none 0 0) [] :=
  ⟨heap_alloc_new w _, World.ownsRow_nil _ _ _ _, h⟩

set_option maxHeartbeats 400000 in
theorem wlen_any (base p : Nat) (v : Value) (l : List Bool) (w : World) (h : IsW w base p v l) :
    Calls Tryd.prog 28 #[.pointer (some ⟨p, 0, none⟩)] w fun e w' => e = .returned (.int .i64 l.length) ∧ w = w' := by
  have hc := h.cell1
  go_enter Tryd.func28, Tryd.ntmps28
  go_wp2
  go_ret
  exact ⟨rfl, rfl⟩
set_option maxHeartbeats 400000 in
theorem wlen_nil (w : World) : Calls Tryd.prog 28 #[.pointer none] w fun e w' => e = .returned (.int .i64 0) ∧ w = w' := by
  go_enter Tryd.func28, Tryd.ntmps28
  go_wp2
  go_ret
  exact ⟨rfl, rfl⟩

set_option maxHeartbeats 400000 in
theorem wbits_nil (x : Int) (n : Int) (w : World) : Calls Tryd.prog 26 #[.pointer none, .int .u64 x, .int .i64 n] w fun e w' => e = .returned (.int .i64 1) ∧ w = w' := by
  go_enter Tryd.func26, Tryd.ntmps26
  go_wp2
  go_ret
  exact ⟨rfl, rfl⟩
set_option maxHeartbeats 400000 in
theorem wbits_bad (p : Nat) (x : Int) (n : Int) (w : World) (h : n < 0 ∨ 64 < n) : Calls Tryd.prog 26 #[.pointer (some ⟨p, 0, none⟩), .int .u64 x, .int .i64 n] w fun e w' => e = .returned (.int .i64 2) ∧ w = w' := by
  rcases h with h | h
  · go_enter Tryd.func26, Tryd.ntmps26
    go_wp2
    go_ret
    exact ⟨rfl, rfl⟩
  · have h' : ¬ n < 0 := by omega
    go_enter Tryd.func26, Tryd.ntmps26
    go_wp2
    go_ret
    exact ⟨rfl, rfl⟩

/-- what a call of Bits leaves -/
def Wrote (base p : Nat) (v : Value) (l : List Bool) (w w' : World) : Prop :=
  ∃ v', IsW w' base p v' l ∧ Keeps (foot p v) w w' ∧ ∀ g, v'.ownBlock = some g → v.ownBlock = some g ∨ w.heap.size ≤ g
theorem Wrote.refl {base p : Nat} {v : Value} {l : List Bool} {w : World} (h : IsW w base p v l) : Wrote base p v l w w := ⟨v, h, Keeps.refl _ _, fun _ hg => .inl hg⟩

theorem wrap_nat (n : Nat) (h : n ≤ 9223372036854775807) : IntKind.i64.wrap (n : Int) = n := IntWalk.i64_in _ (by omega)

theorem shl_byte (m t d : Nat) (hd : d = m * 2 ^ t) (h : d < 256) : IntKind.u8.wrap ((m : Int) * 2 ^ t) = d := by
  have e : ((m : Int) * 2 ^ t) = ((m * 2 ^ t : Nat) : Int) := by simp
  rw [e, ← hd]
  exact IntWalk.u8_in _ (by omega)
theorem u8s_get {xs : List Nat} {i c : Nat} (h : xs[i]? = some c) : (u8s xs)[i]? = some (.int .u8 c) := by simp [u8s, h]
theorem take_cell {w : World} {g q n : Nat} {cur : Array Value} {e : TypeId} {xs : List Value} {v : Value} (hg : w.heap[g]? = some (.cells cur e (0, 0))) (ht : cur.toList.take n = xs) (hx : xs[q]? = some v) : w.cell? ⟨g, q, none⟩ = some v := by
  rw [cell_of_row w g q _ _ _ hg, ← Array.getElem?_toList]
  rw [← ht, List.getElem?_take] at hx
  split at hx
  · exact hx
  · cases hx

theorem IsWmid.facts {w : World} {base p q c : Nat} {v : Value} {L : List Bool} (h : IsWmid w base p v L) (hq : q = L.length / 8) (hc : c = byteAt L q) :
    ∃ g cap, v = .slice (some ⟨g, 0, none⟩) (q + 1) cap ∧ w.cell? ⟨p, 0, none⟩ = some (.slice (some ⟨g, 0, none⟩) (q + 1) cap) ∧ w.cell? ⟨p, 1, none⟩ = some (.int .i64 L.length) ∧ w.frozen? ⟨p, 1, none⟩ = false ∧
      w.cell? ⟨g, q, none⟩ = some (.int .u8 c) ∧ w.frozen? ⟨g, q, none⟩ = false ∧ ¬ g = p ∧ ¬ p = g := by
  subst hq
  obtain ⟨g, cap, cur, rfl, hgb, hgh, hcap1, hcap2, hcs, htk⟩ := row_shape h.row (by omega)
  have hgp : ¬ g = p := ne_of_types hgh h.blk (by decide)
  exact ⟨g, cap, rfl, by rw [cell_of_row w p 0 _ _ _ h.blk]; rfl, by rw [cell_of_row w p 1 _ _ _ h.blk]; rfl, frozen_of_row w p 1 _ _ h.blk, take_cell hgh htk (u8s_get (by rw [hc]; exact packedTo_at L)),
    frozen_of_row w g _ _ _ hgh, hgp, fun e => hgp e.symm⟩
theorem wrote_step {base p : Nat} {v0 : Value} {L : List Bool} {b : Bool} {w wr : World} {g cap n q r t c d : Nat} (hW : Keeps (foot p v0) w wr) (hnew : v0.ownBlock = some g ∨ w.heap.size ≤ g)
    (hm : IsWmid wr base p (.slice (some ⟨g, 0, none⟩) n cap) L) (hq : q = L.length / 8) (hr : r = L.length % 8) (ht : t = 7 - r) (hc : c = byteAt L q) (hd : d = b.toNat * 2 ^ t) :
    Wrote base p v0 (L ++ [b]) w (((wr.setCell ⟨g, q, none⟩ (.int .u8 ((c ||| d : Nat) : Int))).setCell ⟨p, 1, none⟩ (.int .i64 (L.length + 1))).drew) := by
  refine ⟨_, hm.step hq (by rw [hc, hd, ht, hr]), ?_, fun g' hg' => ?_⟩
  · refine ((hW.setCell (p := ⟨g, q, none⟩) (fun h => ?_) _).setCell (p := ⟨p, 1, none⟩) (fun _ => .inl rfl) _).drew
    rcases hnew with h' | h'
    · exact .inr h'
    · exact absurd h (Nat.not_lt.2 h')
  · simp only [Value.ownBlock, Option.some.injEq] at hg'
    subst hg'
    exact hnew

set_option maxRecDepth 100000 in
set_option maxHeartbeats 1000000 in
theorem wbits_any (base p : Nat) (v0 : Value) (l : List Bool) (X N : Nat) (w : World) (h : IsW w base p v0 l) (hX : X ≤ 18446744073709551615) (hN : N ≤ 64) (hl : l.length ≤ 1099511627776) (hb0 : base ≤ w.heap.size) :
    Calls Tryd.prog 26 #[.pointer (some ⟨p, 0, none⟩), .int .u64 X, .int .i64 N] w fun e w' => e = .returned (.int .i64 0) ∧ Wrote base p v0 (l ++ fieldBits X N) w w' := by
  obtain ⟨i0, hi, hz0, hz1, hz2⟩ := info_parts infoU8
  have hz1' : ¬ (N : Int) < 0 := by omega
  have hz2' : ¬ 64 < (N : Int) := by omega
  go_enter Tryd.func26, Tryd.ntmps26
  go_wp2
  go_loopw [19] (fun i wr => ∃ k : Nat, k ≤ N ∧ i = .int .i64 k ∧ Wrote base p v0 (l ++ fieldTake X N k) w wr) (fun i wr => N - (intOf i).toNat)
  case atStart => exact ⟨0, Nat.zero_le _, rfl, by rw [fieldTake_zero, List.append_nil]; exact Wrote.refl h⟩
  case round =>
    obtain ⟨k, hk, rfl, v, hI, hKp, hnew⟩ := hrel
    by_cases hlt : k < N
    · have hb1 : base ≤ wr.heap.size := Nat.le_trans hb0 hKp.size
      have hfs := fieldTake_succ X N k
      generalize hL : l ++ fieldTake X N k = L at hI
      have hLl : L.length = l.length + k := by rw [← hL]; simp [fieldTake_length]
      have hend : l ++ fieldTake X N (k + 1) = L ++ [X.testBit (N - 1 - k)] := by rw [hfs, ← List.append_assoc, hL]
      clear hfs hL
      obtain ⟨q, hq⟩ : ∃ q, q = L.length / 8 := ⟨_, rfl⟩
      obtain ⟨r, hr⟩ : ∃ r, r = L.length % 8 := ⟨_, rfl⟩
      obtain ⟨s, hs⟩ : ∃ s, s = N - 1 - k := ⟨_, rfl⟩
      have hbit := bit_and_one X s (by omega)
      rw [← hs] at hend
      generalize hbb : X.testBit s = b at hbit hend
      have fr := bool_toNat_le b
      obtain ⟨t, ht⟩ : ∃ t, t = 7 - r := ⟨_, rfl⟩
      obtain ⟨c, hc⟩ : ∃ c, c = byteAt L q := ⟨_, rfl⟩
      obtain ⟨d, hd⟩ : ∃ d, d = b.toNat * 2 ^ t := ⟨_, rfl⟩
      have hd256 : d < 256 := by
        have h1 : t ≤ 7 := by omega
        have h2 : 2 ^ t ≤ 2 ^ 7 := Nat.pow_le_pow_right (by decide) h1
        have h3 : b.toNat * 2 ^ t ≤ 1 * 2 ^ 7 := Nat.mul_le_mul fr h2
        omega
      have hc256 : c < 256 := by rw [hc]; exact byteAt_lt _ _
      have hm8 : (L.length : Int) % 8 = r := by omega
      have hd8 : (L.length : Int) / 8 = q := by omega
      have htm : (L.length : Int).tmod 8 = r := by rw [Int.tmod_eq_emod_of_nonneg (by omega)]; omega
      have htd : (L.length : Int).tdiv 8 = q := by rw [Int.tdiv_eq_ediv_of_nonneg (by omega)]; omega
      have hw1 : IntKind.i64.wrap ((N : Int) - 1) = N - 1 := IntWalk.i64_in _ (by omega)
      have hs1 : (N : Int) - 1 - k = s := by omega
      have hw2 : IntKind.i64.wrap (s : Int) = s := wrap_nat _ (by omega)
      have ht1 : (7 : Int) - r = t := by omega
      have hw3 : IntKind.i64.wrap (t : Int) = t := wrap_nat _ (by omega)
      have hw4 : IntKind.i64.wrap (q : Int) = q := wrap_nat _ (by omega)
      have hw5 : IntKind.u8.wrap (b.toNat : Int) = b.toNat := IntWalk.u8_in _ (by omega)
      have hw6 : IntKind.u8.wrap ((b.toNat : Int) * 2 ^ t) = d := shl_byte _ _ _ hd hd256
      have hw7 : IntKind.i64.wrap ((L.length : Int) + 1) = L.length + 1 := IntWalk.i64_in _ (by omega)
      have hor : bits .or .u8 (c : Int) (d : Int) = ((c ||| d : Nat) : Int) := u8_or_nat _ _ hc256 hd256
      have hq0 : (0 : Int) ≤ q := by omega
      have hq1 : (q : Int) < q + 1 := by omega
      have hs64 : s ≤ 64 := by omega
      have ht7 : t ≤ 7 := by omega
      have Hq := Lib.hid hq; have Hr := Lib.hid hr; have Hs := Lib.hid hs; have Ht := Lib.hid ht; have Hc := Lib.hid hc; have Hd := Lib.hid hd; have Hend := Lib.hid hend; have HLl := Lib.hid hLl
      have HI := Lib.hid hI; have HKp := Lib.hid hKp; have Hnew := Lib.hid hnew
      clear hq hr hs ht hc hd hend hLl hI hKp hnew hbb
      by_cases hr0 : r = 0
      · have hI := HI.out
        have hr8 : L.length % 8 = 0 := by rw [← Hr.out]; exact hr0
        have c0 := hI.cell0
        have c1 := hI.cell1
        have f0 := hI.free 0
        have f1 := hI.free 1
        have hrow := hI.row
        have hrb : ((r : Int) == 0) = true := by simp [hr0]
        clear hI hr0
        have hpl : (packed L).length ≤ 1099511627776 := by rw [packed_length]; have := HLl.out; omega
        go_wp2_with (at_builtin; refine wpList_append_new _ rfl _ _ 22 rfl base 5 i0 (.int .u8 0) 1 1 Tryd.underlying22 hi hz0 hz1 hz2 rfl (by decide) _ _ _ rfl (hrow.alloc _) ⟨wr.heap.size, 0, none⟩ 1 1 [.int .u8 0] rfl rfl ?c1 ?c2 ?c3 ?c4 ?c5 ?_)
        case c1 => exact cell_one_new _ _ _
        case c2 => simp [Value.oneCell']
        case c3 => unfold maxLen; omega
        case c4 => omega
        case c5 => simp; omega
        intro v' w1 hown' hgrow hnewr
        have hmid := IsW.grow HI.out hr8 hown' ((((Keeps.refl (fun k => v.ownBlock = some k) wr).alloc _)).grown hgrow (fun k _ e => e))
        have hKw : Keeps (fun k => v.ownBlock = some k) wr w1 := ((Keeps.refl _ wr).alloc _).grown hgrow (fun k _ e => e)
        have hvp : ¬ v.ownBlock = some p := fun e => by
          obtain ⟨cur', hc'⟩ := row_type HI.out.row e
          exact ne_of_types hc' HI.out.blk (by decide) rfl
        have d0 : w1.cell? ⟨p, 0, none⟩ = some v := hKw.cell c0 hvp
        have e0 : w1.frozen? ⟨p, 0, none⟩ = false := frozen_of_row w1 p 0 _ _ (hKw.heap HI.out.blk hvp)
        have hng : ∀ g, v'.ownBlock = some g → v0.ownBlock = some g ∨ w.heap.size ≤ g := fun g hg => by
          rcases hnewr g hg with h' | h'
          · exact Hnew.out g h'
          · exact .inr (Nat.le_trans HKp.out.size (Nat.le_trans (by simp) h'))
        have hKA := (HKp.out.trans hKw (fun k hk e => (Hnew.out k e).elim .inr (fun h => absurd hk (Nat.not_lt.2 h)))).setCell (p := ⟨p, 0, none⟩) (fun _ => .inl rfl) v'
        obtain ⟨g, cap, rfl, m0, m1, m2, m3, m4, hgp, hpg⟩ := hmid.facts Hq.out Hc.out
        have HKA := Lib.hid hKA
        have Hng := Lib.hid hng
        have Hmid := Lib.hid hmid
        clear hmid hng hKw hKA hown' hgrow hrow hr8 c0 c1 f0 f1 hvp
        go_wp2
        generalize w1.setCell ⟨p, 0, none⟩ (.slice (some ⟨g, 0, none⟩) (q + 1) cap) = w2 at *
        clear d0 e0
        go_still_tail 31, (by kernel_rfl)
        go_wp2
        have hx := wrote_step HKA.out (Hng.out g rfl) Hmid.out Hq.out Hr.out Ht.out Hc.out Hd.out
        exact ⟨⟨k + 1, by omega, by go_num, by rw [Hend.out]; exact hx⟩, by simp [intOf]; omega⟩
      · have hrb : ((r : Int) == 0) = false := by simp [hr0]
        have hmid := HI.out.mid (by rw [← Hr.out]; exact hr0)
        obtain ⟨g, cap, rfl, m0, m1, m2, m3, m4, hgp, hpg⟩ := hmid.facts Hq.out Hc.out
        have Hmid := Lib.hid hmid
        clear hmid
        go_wp2
        go_still_tail 31, (by kernel_rfl)
        go_wp2
        have hx := wrote_step HKp.out (Hnew.out g rfl) Hmid.out Hq.out Hr.out Ht.out Hc.out Hd.out
        exact ⟨⟨k + 1, by omega, by go_num, by rw [Hend.out]; exact hx⟩, by simp [intOf]; omega⟩
    · go_wp2
      go_ret
      have : k = N := by omega
      subst this
      exact ⟨rfl, v, hI, hKp, hnew⟩
end Go.Proofs.YtdniaingipoggaaDoor
