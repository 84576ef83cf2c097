/-
  Lemmas on which LTopChunks rests, packed out of the texts DHelp PTimes2 PXor WTimesA WTimesE DStep PVar WLaw01a PRound WRef05 DRef01b WLaw01b WRef01b; each for all arguments under the hypotheses it names.
-/
import Derived.Test.YtfpcgcbehdogjaaGreatDoorT03
import Derived.Lib.TrailingZeros
import Derived.Laws.Rows
namespace Go.Proofs.YtfpcgcbehdogjaaGreatDoor
section
open Go.RowKit
theorem IsW.own_lt {a : World} {base p : Nat} {v : Value} {l : List Bool} (h : IsW a base p v l) {g : Nat} (hg : v.ownBlock = some g) : g < a.heap.size := (h.row.lt g hg).2
theorem Wrote.trans {base p : Nat} {v0 v : Value} {l : List Bool} {w w1 w2 : World} (hK : Keeps (foot p v0) w w1) (hn : ∀ g, v.ownBlock = some g → v0.ownBlock = some g ∨ w.heap.size ≤ g) (h : Wrote base p v l w1 w2) : Wrote base p v0 l w w2 := by
 obtain ⟨v', h1, h2, h3⟩ := h
 refine ⟨v', h1, hK.trans h2 (fun k hk e => ?_), fun g hg => ?_⟩
 · rcases e with rfl | e
   · exact .inl rfl
   · rcases hn k e with h' | h'
     · exact .inr h'
     · exact absurd hk (Nat.not_lt.2 h')
 · rcases h3 g hg with h' | h'
   · exact hn g h'
   · exact .inr (Nat.le_trans hK.size h')
theorem holds_lit (w : World) (l : List Nat) : Holds (w.alloc (.cells (u8s l).toArray 5)) (.slice (some ⟨w.heap.size, 0, none⟩) l.length l.length) (u8s l) := by
 refine ⟨_, l.length, by rw [qac], by rw [qac]; exact Nat.le_refl _, .inr ⟨_, 0, rfl, fun j u hj => ?_⟩⟩
 rw [cell_of_row _ _ _ _ _ _ (heap_alloc_new w _), Nat.zero_add]
 simpa using hj
theorem Keeps.draws {S : Nat → Prop} {a b : World} (h : ∃ n, b = a.drewN n) : Keeps S a b := by
 obtain ⟨n, rfl⟩ := h
 exact (Keeps.refl S a).drewN n
def stepB (n : Int) (rest : List Bool) : Nat × Nat × Nat :=
 if n < 0 ∨ 64 < n then (0, 2, 0) else if rest.length < n.toNat then (0, 3, 0) else (qae (rest.take n.toNat), 0, n.toNat)
theorem qdn (base p : Nat) (v : Value) (bs : List Nat) (i : Nat) (n : Int) (w : World) (h : IsR w base p v bs i) (hl : bs.length ≤ 140737488351232) (hi : i ≤ 8 * bs.length) :
 Calls Tryz.prog 53 #[.pointer (some ⟨p, 0, none⟩), .int .i64 n] w fun e w' => e = .returned (.tuple #[.int .u64 (((stepB n ((qad bs).drop i)).1 : Nat) : Int), .int .i64 (((stepB n ((qad bs).drop i)).2.1 : Nat) : Int)]) ∧
  IsR w' base p v bs (i + (stepB n ((qad bs).drop i)).2.2) ∧ Keeps (fun k => k = p) w w' := by
 have hlen : ((qad bs).drop i).length = 8 * bs.length - i := by rw [List.length_drop, qaz]
 by_cases hn : n < 0 ∨ 64 < n
 · have e : stepB n ((qad bs).drop i) = (0, 2, 0) := by unfold stepB; rw [if_pos hn]
   rw [e]
   refine (rbits_bad p n w hn).mono ?_
   rintro e w' ⟨rfl, rfl⟩
   exact ⟨rfl, h, Keeps.refl _ _⟩
 · obtain ⟨N, rfl⟩ : ∃ N : Nat, n = N := ⟨n.toNat, by omega⟩
   by_cases hN : 8 * bs.length < i + N
   · have e : stepB (N : Int) ((qad bs).drop i) = (0, 3, 0) := by unfold stepB; rw [if_neg hn, if_pos (by rw [hlen]; omega)]
     rw [e]
     refine (rbits_eof base p v bs i N w h hl hi (by omega) hN).mono ?_
     rintro e w' ⟨rfl, m, rfl⟩
     exact ⟨rfl, h.drewN m, Keeps.draws ⟨m, rfl⟩⟩
   · have e : stepB (N : Int) ((qad bs).drop i) = (qae (qaw bs i N), 0, N) := by unfold stepB; rw [if_neg hn, if_neg (by rw [hlen]; omega)]; rfl
     rw [e]
     exact rbits_any base p v bs i N w h hl (by omega) (by omega)
theorem qca {S : Nat → Prop} {a b : World} (h : Keeps S a b) {p : Addr} {v : Value} (hc : a.cell? p = some v) (hS : ¬ S p.block) : b.frozen? p = a.frozen? p :=
 World.frozen?_of_block (h.block p.block (World.block_lt_of_cell? a p hc) hS)
def ownH {α : Type} (v : Value) (l : List α) (k : Nat) : Prop := l ≠ [] ∧ v.ownBlock = some k
theorem Holds.keepsH {α : Type} {S : Nat → Prop} {a b : World} {v : Value} {xs : List Value} {l : List α} (h : Holds a v xs) (k : Keeps S a b) (he : l = [] → xs = []) (hS : ∀ g, ownH v l g → ¬ S g) : Holds b v xs := by
 by_cases hl : l = []
 · obtain ⟨ad, cap, hv, hc, _⟩ := h
   exact ⟨ad, cap, hv, hc, .inl (he hl)⟩
 · exact h.keeps k (fun g hg => hS g ⟨hl, hg⟩)
theorem u64s_nil {l : List Nat} (h : l = []) : u64s l = [] := by rw [h]; rfl
theorem ownH_lt {w : World} {v : Value} {l : List Nat} (h : Holds w v (u64s l)) {k : Nat} (hk : ownH v l k) : k < w.heap.size := by
 obtain ⟨g, hg, hlt⟩ := h.lt (fun e => hk.1 (by cases l <;> simp_all [u64s]))
 have h2 := hk.2
 rw [hg] at h2
 simp only [Option.some.injEq] at h2
 omega
theorem drop_cell {w : World} {ad : Option Addr} {cap : Nat} {l : List Nat} (h : Holds w (.slice ad l.length cap) (u64s l)) {j y : Nat} (hj : l[j]? = some y) :
 ∃ b off, ad = some ⟨b, off, none⟩ ∧ w.cell? ⟨b, off + j, none⟩ = some (.int .u64 (y : Nat)) := by
 obtain ⟨b, off, cap', hv, hc⟩ := h.index (j := j) (u := .int .u64 (y : Nat)) (by simp [u64s, hj])
 simp only [Value.slice.injEq] at hv
 exact ⟨b, off, hv.1, hc⟩
theorem infoU64 : (Tryz.prog.info? 23).map (fun i => (i.zero, i.size, i.bytes)) = some (some (.int .u64 0), 1, 8) := by kernel_rfl
theorem two_one (k k' : IntKind) (a b : Int) : ∀ u ∈ [Value.int k a, Value.int k' b], u.oneCell' = true := by
 intro u hu
 simp only [List.mem_cons, List.not_mem_nil, or_false] at hu
 rcases hu with rfl | rfl <;> rfl
theorem qck (w : World) (o : Obj) (a : Addr) (h : a.block < w.heap.size) : (w.alloc o).frozen? a = w.frozen? a := World.frozen?_of_block (Below.heap_alloc w o a.block h)
theorem qbm (w : World) (o : Obj) (a : Addr) (h : a.block < w.heap.size) : (w.alloc o).cell? a = w.cell? a := World.cell?_of_block (Below.heap_alloc w o a.block h)
theorem row_cell {w : World} {base : Nat} {e : TypeId} {v : Value} {n : Nat} {xs : List Value} (h : w.ownsRow base e 1 v n xs) {i : Nat} {u : Value} (hi : xs[i]? = some u) :
 ∃ g cap, v = .slice (some ⟨g, 0, none⟩) n cap ∧ n ≤ cap ∧ i < n ∧ w.cell? ⟨g, i, none⟩ = some u ∧ w.frozen? ⟨g, i, none⟩ = false := by
 have hlt : i < xs.length := (List.getElem?_eq_some_iff.1 hi).1
 have hl : xs.length = n := by have := h.1; omega
 obtain ⟨g, cap, cur, rfl, hb, hg, hn1, _, hs1, ht1⟩ := qbw h (by omega)
 exact ⟨g, cap, rfl, hn1, by omega, take_cell hg ht1 hi, frozen_of_row _ _ _ _ _ hg⟩
theorem run_to_all {P : Program} (w : World) (t e : TypeId) (ht : P.underlying t = some (.slice e)) {i : TypeInfo} (hi : P.info? e = some i) (hz : i.size = 1) {a : Option Addr} {len cap : Nat} {xs : List Value} (h : Holds w (.slice a len cap) xs) (k : IntKind) (hi' : Nat) (h1 : hi' ≤ xs.length) :
 ∃ a2 cap2, (∀ w, (Instr.sliceAt t (.slice a len cap) none (some (.int k (hi' : Nat))) none).run P w = .ok (.slice a2 hi' cap2) w) ∧ Holds w (.slice a2 hi' cap2) (xs.take hi') := by
 obtain ⟨a2, cap2, e1, e2, e3⟩ := sliced_holds w h 0 hi' (Nat.zero_le _) h1
 rw [Nat.sub_zero] at e1 e2 e3
 rw [List.drop_zero] at e2
 have hcap : hi' ≤ cap := by
  obtain ⟨ad, cap', hv, hc, _⟩ := h
  simp only [Value.slice.injEq] at hv
  omega
 refine ⟨a2, cap2, fun w' => ?_, e2⟩
 have hel : P.elem t = e := by simp [Program.elem, ht]
 have ht' : P.underlying t = some (.slice (P.elem t)) := by rw [hel]; exact ht
 rw [run_sliceAt_slice (P := P) w' t _ _ _ _ ht', run_slice_h (P := P) w' t a len cap ht' k hi' (by omega) (by omega), hel]
 simp [sizeOf, typeInfo, hi, hz, e1, Result.andThen]
end
section
open Go.RowKit
theorem formB_sound (b : List Bool) : (formB b).1 ≤ 4 ∧ (formB b).2.2 ≤ b.length ∧ (formB b).2.2 ≤ 4 ∧ ((formB b).2.1 = 0 ∨ (formB b).2.1 = 3) ∧ ((formB b).2.1 = 0 → b.take (formB b).2.2 = qaa (fBits (formB b).1) (fLen (formB b).1) ∧ (formB b).2.2 = fLen (formB b).1) := by
 unfold formB
 split <;> simp [fLen] <;> decide
theorem formB_enc (k : Nat) (hk : k ≤ 4) (r : List Bool) : formB (qaa (fBits k) (fLen k) ++ r) = (k, 0, fLen k) := by
 have e0 : qaa (fBits 0) (fLen 0) = [false] := by decide
 have e1 : qaa (fBits 1) (fLen 1) = [true, false] := by decide
 have e2 : qaa (fBits 2) (fLen 2) = [true, true, false] := by decide
 have e3 : qaa (fBits 3) (fLen 3) = [true, true, true, false] := by decide
 have e4 : qaa (fBits 4) (fLen 4) = [true, true, true, true] := by decide
 have hc : k = 0 ∨ k = 1 ∨ k = 2 ∨ k = 3 ∨ k = 4 := by omega
 rcases hc with rfl | rfl | rfl | rfl | rfl
 · rw [e0]; rfl
 · rw [e1]; rfl
 · rw [e2]; rfl
 · rw [e3]; rfl
 · rw [e4]; rfl
theorem changeB_err (b : List Bool) : (qas b).2.2 ≤ b.length ∧ ((qas b).2.1 = 0 ∨ (qas b).2.1 = 3 ∨ (qas b).2.1 = 8) := by
 obtain ⟨h1, h2, h3, h4, h5⟩ := formB_sound b
 unfold qas
 split
 · exact ⟨h2, by rcases h4 with h | h <;> simp [h]⟩
 · split
   · exact ⟨h2, .inr (.inl rfl)⟩
   · split
     · exact ⟨by simp only; omega, .inr (.inr rfl)⟩
     · exact ⟨by simp only; omega, .inl rfl⟩
theorem fieldBits_mod (X Y n : Nat) (h : X % 2 ^ n = Y % 2 ^ n) : qaa X n = qaa Y n := by
 unfold qaa
 refine List.map_congr_left fun i hi => ?_
 have hi' := List.mem_range.1 hi
 have e : ∀ Z, Z.testBit (n - 1 - i) = (Z % 2 ^ n).testBit (n - 1 - i) := fun Z => by
  rw [Nat.testBit_mod_two_pow]
  simp [show n - 1 - i < n by omega]
 rw [e X, e Y, h]
theorem changeB_sound {b : List Bool} {x : Int} {m : Nat} (h : qas b = (x, 0, m)) : b.take m = qbb x ∧ inI x ∧ m ≤ b.length := by
 obtain ⟨h1, h2, h3, h4, h5⟩ := formB_sound b
 unfold qas at h
 obtain ⟨k, hk⟩ : ∃ k, k = (formB b).1 := ⟨_, rfl⟩
 obtain ⟨q, hq⟩ : ∃ q, q = (formB b).2.2 := ⟨_, rfl⟩
 rw [← hk, ← hq] at h
 rw [← hk] at h1
 rw [← hq] at h2 h3
 rw [← hk, ← hq] at h5
 split at h
 · rename_i he
   simp only [Prod.mk.injEq] at h
   exact absurd h.2.1 he
 · rename_i he
   have he0 : (formB b).2.1 = 0 := by simpa using he
   obtain ⟨ht, hl⟩ := h5 he0
   split at h
   · simp at h
   · split at h
     · simp at h
     · rename_i hlen hform
       simp only [Prod.mk.injEq, true_and] at h
       obtain ⟨rfl, rfl⟩ := h
       have hin := ext_in (qae ((b.drop q).take (fWidth k))) k h1
       refine ⟨?_, hin, by omega⟩
       have hf : formI (ext (qae ((b.drop q).take (fWidth k))) (fWidth k)) = k := Decidable.not_not.1 hform
       unfold qbb
       rw [hf, List.take_add, ht]
       congr 1
       have hu := U_ext (qae ((b.drop q).take (fWidth k))) k h1
       rw [fieldBits_mod _ _ _ hu]
       have hb := bits_inv ((b.drop q).take (fWidth k))
       rw [List.length_take, List.length_drop, Nat.min_eq_left (by omega)] at hb
       exact hb.symm
theorem changeB_enc (x : Int) (hx : inI x) (r : List Bool) : qas (qbb x ++ r) = (x, 0, (qbb x).length) := by
 have hk := formI_le x
 obtain ⟨k, hkk⟩ : ∃ k, k = formI x := ⟨_, rfl⟩
 have he : (ext (U x) (fWidth k) = x) := (ext_eq x hx k (by omega)).2 (by omega)
 have hfb : formB (qbb x ++ r) = (k, 0, fLen k) := by
  unfold qbb
  rw [← hkk, List.append_assoc]
  exact formB_enc k (by omega) _
 have hl := encChange_length x
 rw [← hkk] at hl
 have hd : ((qbb x ++ r).drop (fLen k)).take (fWidth k) = qaa (U x) (fWidth k) := by
  unfold qbb
  rw [← hkk, List.append_assoc, List.drop_left' (by rw [qab]), List.take_left' (by rw [qab])]
 have hb : ext (qae (((qbb x ++ r).drop (fLen k)).take (fWidth k))) (fWidth k) = x := by
  rw [hd, qba, ext_mod, he]
 unfold qas
 rw [hfb]
 simp only [hb]
 rw [if_neg (by simp), if_neg (by rw [List.length_append, hl]; omega), if_neg (by simp [hkk]), hl]
theorem decT_complete (pad : List Bool) : ∀ (ts : List Int) (t d : Int), inI t → inI d → (∀ s ∈ ts, inI s) → decT ts.length t d (qak (chgF d t ts) ++ pad) = (0, ts, pad) := by
 intro ts
 induction ts with
 | nil => intro t d _ _ _; rfl
 | cons s ts ih =>
   intro t d ht hd hs
   have hsI := hs s (by simp)
   have a1 : W (d + W (W (s - t) - d)) = W (s - t) := by simp only [W_eq]; unfold inI at *; omega
   have a2 : W (t + W (s - t)) = s := by simp only [W_eq]; unfold inI at *; omega
   have hb : qak (chgF d t (s :: ts)) ++ pad = qbb (W (W (s - t) - d)) ++ (qak (chgF (W (s - t)) s ts) ++ pad) := by simp [chgF, qak]
   rw [List.length_cons, decT, hb, changeB_enc _ (W_in _)]
   simp only
   rw [if_neg (by simp), a1, a2, List.drop_left, ih s (W (s - t)) hsI (W_in _) (fun u hu => hs u (by simp [hu]))]
end
section
open Go.RowKit
def lz (x : Nat) : Nat := 64 - Lib.bitLen x
def tz (x : Nat) : Nat := Lib.ctz 64 x
theorem bitLenAux_bounds : ∀ (f x : Nat), x < 2 ^ f → x ≠ 0 → 1 ≤ Lib.bitLenAux f x ∧ Lib.bitLenAux f x ≤ f ∧ 2 ^ (Lib.bitLenAux f x - 1) ≤ x ∧ x < 2 ^ Lib.bitLenAux f x
 | 0, x, h, h0 => by simp at h; omega
 | f + 1, x, h, h0 => by
   simp only [Lib.bitLenAux, if_neg h0]
   by_cases h1 : x / 2 = 0
   · have hx : x = 1 := by omega
     subst hx
     have e : Lib.bitLenAux f (1 / 2) = 0 := by cases f <;> simp [Lib.bitLenAux]
     rw [e]
     simp
   · obtain ⟨a, b, c, d⟩ := bitLenAux_bounds f (x / 2) (by rw [Nat.pow_succ] at h; omega) h1
     obtain ⟨L, hL⟩ : ∃ L, Lib.bitLenAux f (x / 2) = L + 1 := ⟨Lib.bitLenAux f (x / 2) - 1, by omega⟩
     rw [hL] at b c d ⊢
     simp only [Nat.add_sub_cancel] at c
     refine ⟨by omega, by omega, ?_, ?_⟩
     · rw [show 1 + (L + 1) - 1 = L + 1 by omega, Nat.pow_succ]; omega
     · rw [show 1 + (L + 1) = (L + 1) + 1 by omega, Nat.pow_succ]; omega
theorem bitLen_bounds {x : Nat} (h : x < 18446744073709551616) (h0 : x ≠ 0) : 1 ≤ Lib.bitLen x ∧ Lib.bitLen x ≤ 64 ∧ 2 ^ (Lib.bitLen x - 1) ≤ x ∧ x < 2 ^ Lib.bitLen x := bitLenAux_bounds 64 x h h0
theorem bitLen_le64 (x : Nat) : Lib.bitLen x ≤ 64 := by
 have : ∀ f y, Lib.bitLenAux f y ≤ f := by
  intro f
  induction f with
  | zero => intro y; simp [Lib.bitLenAux]
  | succ f ih => intro y; simp only [Lib.bitLenAux]; split <;> (try omega); have := ih (y / 2); omega
 exact this 64 x
theorem tz_spec {x : Nat} (h : x < 18446744073709551616) (h0 : x ≠ 0) : (∃ m, x = 2 ^ tz x * (2 * m + 1)) ∧ tz x < 64 := by
 unfold tz Lib.ctz
 rw [if_neg h0]
 obtain ⟨m, hm, hk⟩ := Lib.ctzFrom_spec 64 x (by omega) h
 exact ⟨⟨m, hm⟩, hk⟩
theorem lz_tz {x : Nat} (h : x < 18446744073709551616) (h0 : x ≠ 0) : lz x + tz x ≤ 63 := by
 obtain ⟨a, b, c, d⟩ := bitLen_bounds h h0
 obtain ⟨⟨m, hm⟩, hk⟩ := tz_spec h h0
 have h1 : 2 ^ tz x ≤ x := by
  have : 2 ^ tz x ≤ 2 ^ tz x * (2 * m + 1) := Nat.le_mul_of_pos_right _ (by omega)
  omega
 have h2 : tz x < Lib.bitLen x := (Nat.pow_lt_pow_iff_right (by decide)).1 (Nat.lt_of_le_of_lt h1 d)
 unfold lz
 omega
theorem win_inside {x a b : Nat} (h : x < 18446744073709551616) (h0 : x ≠ 0) (ha : a ≤ lz x) (hb : b ≤ tz x) : x / 2 ^ b < 2 ^ (64 - a - b) ∧ x / 2 ^ b * 2 ^ b = x ∧ x / 2 ^ b ≠ 0 := by
 obtain ⟨c1, c2, c3, c4⟩ := bitLen_bounds h h0
 obtain ⟨⟨m, hm⟩, hk⟩ := tz_spec h h0
 have hlt := lz_tz h h0
 have hl : x < 2 ^ (64 - a) := Nat.lt_of_lt_of_le c4 (Nat.pow_le_pow_right (by decide) (by unfold lz at ha; omega))
 have hdvd : x / 2 ^ b * 2 ^ b = x := by
  apply Nat.div_mul_cancel
  rw [hm, show tz x = b + (tz x - b) by omega, Nat.pow_add, Nat.mul_assoc]
  exact Nat.dvd_mul_right _ _
 refine ⟨?_, hdvd, fun e => ?_⟩
 · apply Nat.div_lt_of_lt_mul
   rw [← Nat.pow_add, show b + (64 - a - b) = 64 - a by omega]
   exact hl
 · rw [e, Nat.zero_mul] at hdvd
   exact h0 hdvd.symm
def win0 : Nat × Nat := (0, 64)
def okWin (s : Nat × Nat) : Prop := s = win0 ∨ s.1 + s.2 ≤ 63
def fitsX (s : Nat × Nat) (x : Nat) : Bool := decide (s.1 ≤ lz x) && decide (s.2 ≤ tz x)
theorem fitsX_none {x : Nat} (h : x < 18446744073709551616) (h0 : x ≠ 0) : fitsX win0 x = false := by
 have := (tz_spec h h0).2
 unfold fitsX win0
 simp; omega
def newX (s : Nat × Nat) (x : Nat) : Nat × Nat := if x = 0 then s else if fitsX s x then s else (lz x, tz x)
theorem newX_ok {s : Nat × Nat} {x : Nat} (hs : okWin s) (h : x < 18446744073709551616) : okWin (newX s x) := by
 unfold newX
 split
 · exact hs
 · split
   · exact hs
   · exact .inr (lz_tz h ‹_›)
def headX (s : Nat × Nat) (x : Nat) : List Bool := if fitsX s x then [true, false] else [true, true] ++ qaa (lz x) 6 ++ qaa (63 - lz x - tz x) 6
def bitsX (s : Nat × Nat) (x : Nat) : List Bool := if x = 0 then [false] else headX s x ++ qaa (x / 2 ^ (newX s x).2) (64 - (newX s x).1 - (newX s x).2)
theorem bitsX_le (s : Nat × Nat) (x : Nat) : (bitsX s x).length ≤ 78 := by
 unfold bitsX headX
 split
 · simp
 · split <;> simp only [List.length_append, qab, List.length_cons, List.length_nil] <;> omega
def encX : Nat × Nat → Nat → List Nat → List Bool
 | _, _, [] => []
 | s, p, v :: r => bitsX s (v ^^^ p) ++ encX (newX s (v ^^^ p)) v r
def enc6 : List Nat → List Bool
 | [] => []
 | v :: r => qaa v 64 ++ encX win0 v r
theorem encX_le : ∀ (l : List Nat) (s : Nat × Nat) (p : Nat), (encX s p l).length ≤ 78 * l.length
 | [], _, _ => by simp [encX]
 | v :: r, s, p => by
   have := bitsX_le s (v ^^^ p)
   have := encX_le r (newX s (v ^^^ p)) v
   simp only [encX, List.length_append, List.length_cons]
   omega
theorem enc6_length (l : List Nat) : (enc6 l).length ≤ 78 * l.length := by
 cases l with
 | nil => simp [enc6]
 | cons v r => have := encX_le r win0 v; simp only [enc6, List.length_append, qab, List.length_cons]; omega
def getX (s : Nat × Nat) (b : List Bool) : Nat × Nat × Nat × (Nat × Nat) :=
 match b with
 | [] => (0, 3, 0, s)
 | false :: _ => (0, 0, 1, s)
 | true :: [] => (0, 3, 1, s)
 | true :: false :: r =>
   if s = win0 then (0, 8, 2, s) else
   if r.length < 64 - s.1 - s.2 then (0, 3, 2, s) else
   if qae (r.take (64 - s.1 - s.2)) = 0 then (0, 8, 2 + (64 - s.1 - s.2), s) else
   (qae (r.take (64 - s.1 - s.2)) * 2 ^ s.2, 0, 2 + (64 - s.1 - s.2), s)
 | true :: true :: r =>
   if r.length < 6 then (0, 3, 2, s) else
   if r.length < 12 then (0, 3, 8, s) else
   if 63 < qae (r.take 6) + qae ((r.drop 6).take 6) then (0, 8, 14, s) else
   if r.length < 13 + qae ((r.drop 6).take 6) then (0, 3, 14, s) else
   if qae ((r.drop 12).take (1 + qae ((r.drop 6).take 6))) = 0 then (0, 8, 15 + qae ((r.drop 6).take 6), s) else
   if lz (qae ((r.drop 12).take (1 + qae ((r.drop 6).take 6))) * 2 ^ (63 - qae (r.take 6) - qae ((r.drop 6).take 6))) ≠ qae (r.take 6) ∨
    tz (qae ((r.drop 12).take (1 + qae ((r.drop 6).take 6))) * 2 ^ (63 - qae (r.take 6) - qae ((r.drop 6).take 6))) ≠ 63 - qae (r.take 6) - qae ((r.drop 6).take 6) ∨
    fitsX s (qae ((r.drop 12).take (1 + qae ((r.drop 6).take 6))) * 2 ^ (63 - qae (r.take 6) - qae ((r.drop 6).take 6))) = true then (0, 8, 15 + qae ((r.drop 6).take 6), s) else
   (qae ((r.drop 12).take (1 + qae ((r.drop 6).take 6))) * 2 ^ (63 - qae (r.take 6) - qae ((r.drop 6).take 6)), 0, 15 + qae ((r.drop 6).take 6), (qae (r.take 6), 63 - qae (r.take 6) - qae ((r.drop 6).take 6)))
theorem bitsNat_lt' {l : List Bool} {n : Nat} (h : l.length ≤ n) : qae l < 2 ^ n := Nat.lt_of_lt_of_le (qcw l) (Nat.pow_le_pow_right (by decide) h)
theorem win_lt {u a t : Nat} (hu : u < 2 ^ (64 - a - t)) (h : a + t ≤ 63) : u * 2 ^ t < 18446744073709551616 := by
 have h1 : u * 2 ^ t < 2 ^ (64 - a - t) * 2 ^ t := Nat.mul_lt_mul_of_pos_right hu (Nat.pow_pos (by decide))
 rw [← Nat.pow_add] at h1
 have h2 : 2 ^ (64 - a - t + t) ≤ 2 ^ 64 := Nat.pow_le_pow_right (by decide) (by omega)
 omega
theorem getX_bounds (s : Nat × Nat) (b : List Bool) (hs : okWin s) : (getX s b).2.2.1 ≤ b.length ∧ ((getX s b).2.1 = 0 ∨ (getX s b).2.1 = 3 ∨ (getX s b).2.1 = 8) ∧ (getX s b).1 < 18446744073709551616 ∧ okWin (getX s b).2.2.2 := by
 unfold getX
 split
 · exact ⟨Nat.le_refl _, by simp, by simp, hs⟩
 · exact ⟨by simp, by simp, by simp, hs⟩
 · exact ⟨by simp, by simp, by simp, hs⟩
 · split
   · exact ⟨by simp, by simp, by simp, hs⟩
   · rename_i r hne
     have hs' : s.1 + s.2 ≤ 63 := hs.resolve_left hne
     split
     · exact ⟨by simp, by simp, by simp, hs⟩
     · split
       · exact ⟨by simp only [List.length_cons]; omega, by simp, by simp, hs⟩
       · exact ⟨by simp only [List.length_cons]; omega, by simp, win_lt (a := s.1) (bitsNat_lt' (List.length_take_le _ _)) hs', hs⟩
 · rename_i r
   have hy : qae ((r.drop 6).take 6) < 2 ^ 6 := bitsNat_lt' (List.length_take_le _ _)
   have ha : qae (r.take 6) < 2 ^ 6 := bitsNat_lt' (List.length_take_le _ _)
   have hu : qae ((r.drop 12).take (1 + qae ((r.drop 6).take 6))) < 2 ^ (1 + qae ((r.drop 6).take 6)) := bitsNat_lt' (List.length_take_le _ _)
   generalize qae ((r.drop 6).take 6) = y at *
   generalize qae (r.take 6) = a at *
   generalize qae ((r.drop 12).take (1 + y)) = u at *
   split
   · exact ⟨by simp, by simp, by simp, hs⟩
   · split
     · exact ⟨by simp only [List.length_cons]; omega, by simp, by simp, hs⟩
     · split
       · exact ⟨by simp only [List.length_cons]; omega, by simp, by simp, hs⟩
       · split
         · exact ⟨by simp only [List.length_cons]; omega, by simp, by simp, hs⟩
         · split
           · exact ⟨by simp only [List.length_cons]; omega, by simp, by simp, hs⟩
           · split
             · exact ⟨by simp only [List.length_cons]; omega, by simp, by simp, hs⟩
             · refine ⟨by simp only [List.length_cons]; omega, by simp, ?_, .inr (by simp only; omega)⟩
               refine win_lt (a := a) ?_ (by omega)
               rwa [show 64 - a - (63 - a - y) = 1 + y by omega]
theorem take_left {l r : List Bool} {n : Nat} (h : l.length = n) : (l ++ r).take n = l := List.take_left' h
theorem drop_left {l r : List Bool} {n : Nat} (h : l.length = n) : (l ++ r).drop n = r := List.drop_left' h
theorem getX_enc {s : Nat × Nat} {x : Nat} (hs : okWin s) (hx : x < 18446744073709551616) (r : List Bool) : getX s (bitsX s x ++ r) = (x, 0, (bitsX s x).length, newX s x) := by
 by_cases h0 : x = 0
 · subst h0
   simp [bitsX, newX, getX]
 · have hlt := lz_tz hx h0
   by_cases hf : fitsX s x = true
   · have hne : s ≠ win0 := fun e => by rw [e, fitsX_none hx h0] at hf; cases hf
     have hs' : s.1 + s.2 ≤ 63 := hs.resolve_left hne
     have hfit := hf
     unfold fitsX at hfit
     simp only [Bool.and_eq_true, decide_eq_true_eq] at hfit
     obtain ⟨i1, i2, i3⟩ := win_inside hx h0 hfit.1 hfit.2
     have hn : newX s x = s := by unfold newX; rw [if_neg h0, if_pos hf]
     have hb : bitsX s x = true :: false :: qaa (x / 2 ^ s.2) (64 - s.1 - s.2) := by
      unfold bitsX headX
      rw [if_neg h0, if_pos hf, hn]
      rfl
     have hnat : qae (qaa (x / 2 ^ s.2) (64 - s.1 - s.2)) = x / 2 ^ s.2 := by rw [qba, Nat.mod_eq_of_lt i1]
     rw [hb, hn]
     unfold getX
     simp only [List.cons_append]
     rw [take_left (qab _ _), hnat, if_neg hne, if_neg (by rw [List.length_append, qab]; omega), if_neg i3, i2]
     simp only [List.length_cons, qab]
     congr 3
     omega
   · have hf' : fitsX s x = false := by simpa using hf
     obtain ⟨i1, i2, i3⟩ := win_inside hx h0 (Nat.le_refl (lz x)) (Nat.le_refl (tz x))
     have hn : newX s x = (lz x, tz x) := by unfold newX; rw [if_neg h0, if_neg hf]
     obtain ⟨a, ha⟩ : ∃ a, a = lz x := ⟨_, rfl⟩
     obtain ⟨t, ht⟩ : ∃ t, t = tz x := ⟨_, rfl⟩
     have hb : bitsX s x = true :: true :: (qaa a 6 ++ (qaa (63 - a - t) 6 ++ qaa (x / 2 ^ t) (64 - a - t))) := by
      unfold bitsX headX
      rw [if_neg h0, if_neg hf, hn, ha, ht]
      simp
     rw [← ha, ← ht] at hlt i1 hn
     rw [← ht] at i2 i3
     have hp6 : (2 : Nat) ^ 6 = 64 := by decide
     have hna : qae (qaa a 6) = a := by rw [qba, Nat.mod_eq_of_lt (by omega)]
     have hny : qae (qaa (63 - a - t) 6) = 63 - a - t := by rw [qba, Nat.mod_eq_of_lt (by omega)]
     obtain ⟨y, hy⟩ : ∃ y, y = 63 - a - t := ⟨_, rfl⟩
     rw [← hy] at hny hb
     have h64 : 64 - a - t = 1 + y := by omega
     have h63 : 63 - a - y = t := by omega
     rw [h64] at i1 hb
     have hnu : qae (qaa (x / 2 ^ t) (1 + y)) = x / 2 ^ t := by rw [qba, Nat.mod_eq_of_lt i1]
     rw [hb, hn]
     unfold getX
     simp only [List.cons_append, List.append_assoc]
     obtain ⟨R, hR⟩ : ∃ R, R = qaa a 6 ++ (qaa y 6 ++ (qaa (x / 2 ^ t) (1 + y) ++ r)) := ⟨_, rfl⟩
     have r1 : R.take 6 = qaa a 6 := by rw [hR]; exact take_left (qab _ _)
     have r2 : (R.drop 6).take 6 = qaa y 6 := by rw [hR, drop_left (qab _ _)]; exact take_left (qab _ _)
     have r3 : (R.drop 12).take (1 + y) = qaa (x / 2 ^ t) (1 + y) := by
      rw [show 12 = 6 + 6 from rfl, ← List.drop_drop, hR, drop_left (qab _ _), drop_left (qab _ _)]
      exact take_left (qab _ _)
     have r4 : R.length = 13 + y + r.length := by rw [hR]; simp only [List.length_append, qab]; omega
     rw [← hR, r1, hna, r2, hny, r3, hnu, h63, i2, if_neg (by omega), if_neg (by omega), if_neg (by omega), if_neg (by omega), if_neg i3, if_neg (by simp [ha, ht, hf'])]
     simp only [List.length_cons, List.length_append, qab]
     congr 3
     omega
def decX : Nat → Nat × Nat → Nat → List Bool → Nat × List Nat × List Bool
 | 0, _, _, b => (0, [], b)
 | n + 1, s, p, b =>
   if (getX s b).2.1 ≠ 0 then ((getX s b).2.1, [], b.drop (getX s b).2.2.1) else
   ((decX n (getX s b).2.2.2 (p ^^^ (getX s b).1) (b.drop (getX s b).2.2.1)).1,
     (p ^^^ (getX s b).1) :: (decX n (getX s b).2.2.2 (p ^^^ (getX s b).1) (b.drop (getX s b).2.2.1)).2.1,
     (decX n (getX s b).2.2.2 (p ^^^ (getX s b).1) (b.drop (getX s b).2.2.1)).2.2)
theorem decX_succ {n : Nat} {s s' : Nat × Nat} {p : Nat} {b : List Bool} {x e m : Nat} (h : getX s b = (x, e, m, s')) :
 decX (n + 1) s p b = if e ≠ 0 then (e, [], b.drop m) else ((decX n s' (p ^^^ x) (b.drop m)).1, (p ^^^ x) :: (decX n s' (p ^^^ x) (b.drop m)).2.1, (decX n s' (p ^^^ x) (b.drop m)).2.2) := by
 rw [decX, h]
def dec6 (n : Nat) (b : List Bool) : Nat × List Nat × List Bool :=
 if n = 0 then (0, [], b) else if b.length < 64 then (3, [], b) else
 ((decX (n - 1) win0 (qae (b.take 64)) (b.drop 64)).1,
   if (decX (n - 1) win0 (qae (b.take 64)) (b.drop 64)).1 = 0 then qae (b.take 64) :: (decX (n - 1) win0 (qae (b.take 64)) (b.drop 64)).2.1 else [],
   (decX (n - 1) win0 (qae (b.take 64)) (b.drop 64)).2.2)
theorem xor_lt64 {a b : Nat} (ha : a < 18446744073709551616) (hb : b < 18446744073709551616) : a ^^^ b < 18446744073709551616 := Nat.xor_lt_two_pow (n := 64) ha hb
theorem xor_forth (p v : Nat) : p ^^^ (v ^^^ p) = v := by rw [Nat.xor_comm v p, ← Nat.xor_assoc, Nat.xor_self, Nat.zero_xor]
theorem decX_complete (pad : List Bool) : ∀ (vs : List Nat) (s : Nat × Nat) (p : Nat), okWin s → p < 18446744073709551616 → (∀ v ∈ vs, v < 18446744073709551616) → decX vs.length s p (encX s p vs ++ pad) = (0, vs, pad) := by
 intro vs
 induction vs with
 | nil => intro s p _ _ _; rfl
 | cons v vs ih =>
   intro s p hs hp hv
   have hvI := hv v (by simp)
   have hx := xor_lt64 hvI hp
   have hb : encX s p (v :: vs) ++ pad = bitsX s (v ^^^ p) ++ (encX (newX s (v ^^^ p)) v vs ++ pad) := by rw [encX, List.append_assoc]
   rw [List.length_cons, hb, decX_succ (getX_enc hs hx _)]
   rw [if_neg (by simp), xor_forth, List.drop_left, ih _ v (newX_ok hs hx) hvI (fun u hu => hv u (by simp [hu]))]
theorem dec6_bad {n : Nat} {b : List Bool} (h : (dec6 n b).1 ≠ 0) : (dec6 n b).2.1 = [] := by
 unfold dec6 at *
 split
 · rfl
 · split
   · rfl
   · rename_i hn hl
     rw [if_neg hn, if_neg hl] at h
     simp only at h ⊢
     rw [if_neg h]
end
section
set_option maxHeartbeats 2000000
set_option maxRecDepth 100000
open Go.RowKit
def formCells : Array Value := #[.int .u64 0, .int .i64 1, .int .i64 0, .int .u64 2, .int .i64 2, .int .i64 7, .int .u64 6, .int .i64 3, .int .i64 12, .int .u64 14, .int .i64 4, .int .i64 32, .int .u64 15, .int .i64 4, .int .i64 64]
def TabF (w : World) : Prop := ∃ t fr, w.heap[0]? = some (.cells formCells t fr)
theorem TabF.keeps {S : Nat → Prop} {a b : World} (h : TabF a) (k : Keeps S a b) (hS : ¬ S 0) : TabF b := by
 obtain ⟨t, fr, h⟩ := h
 exact ⟨t, fr, k.heap h hS⟩
theorem TabF.pos {a : World} (h : TabF a) : 0 < a.heap.size := by
 obtain ⟨t, fr, h⟩ := h
 exact (Array.getElem?_eq_some_iff.1 h).1
theorem cell_of_heap {w : World} {g i : Nat} {cs : Array Value} {t : TypeId} {fr : Nat × Nat} {v : Value} (h : w.heap[g]? = some (.cells cs t fr)) (hv : cs[i]? = some v) : w.cell? ⟨g, i, none⟩ = some v := by
 simp [World.cell?, h, hv]
theorem TabF.cell {a : World} (h : TabF a) (k : Nat) (hk : k ≤ 4) : a.cell? ⟨0, k * 3, none⟩ = some (.int .u64 ((fBits k : Nat) : Int)) ∧ a.cell? ⟨0, k * 3 + 1, none⟩ = some (.int .i64 ((fLen k : Nat) : Int)) ∧ a.cell? ⟨0, k * 3 + 2, none⟩ = some (.int .i64 ((fWidth k : Nat) : Int)) := by
 obtain ⟨t, fr, h⟩ := h
 have hc : k = 0 ∨ k = 1 ∨ k = 2 ∨ k = 3 ∨ k = 4 := by omega
 rcases hc with rfl | rfl | rfl | rfl | rfl <;> exact ⟨cell_of_heap h rfl, cell_of_heap h rfl, cell_of_heap h rfl⟩
theorem ext7 (X : Nat) : wrap64 (IntKind.u64.wrap ((X : Int) * 144115188075855872)) / 144115188075855872 = ext X 7 := by
 unfold wrap64 ext; rw [IntKind.wrap_u64]; simp; split <;> omega
theorem ext12 (X : Nat) : wrap64 (IntKind.u64.wrap ((X : Int) * 4503599627370496)) / 4503599627370496 = ext X 12 := by
 unfold wrap64 ext; rw [IntKind.wrap_u64]; simp; split <;> omega
theorem ext32 (X : Nat) : wrap64 (IntKind.u64.wrap ((X : Int) * 4294967296)) / 4294967296 = ext X 32 := by
 unfold wrap64 ext; rw [IntKind.wrap_u64]; simp; split <;> omega
theorem ext64 (X : Nat) : wrap64 (X : Int) = ext X 64 := by
 unfold wrap64 ext; simp; split <;> omega
theorem extend_any (X k : Nat) (w : World) (hX : X < 18446744073709551616) (hk : k ≤ 4) : Calls Tryz.prog 96 #[.int .u64 X, .int .i64 (fWidth k : Nat)] w fun e w' => e = .returned (.int .i64 (ext X (fWidth k))) ∧ w = w' := by
 have hc : k = 0 ∨ k = 1 ∨ k = 2 ∨ k = 3 ∨ k = 4 := by omega
 rcases hc with rfl | rfl | rfl | rfl | rfl
 · show Calls Tryz.prog 96 #[.int .u64 X, .int .i64 0] w _
   go_enter Tryz.func96, Tryz.ntmps96
   go_wp2
   go_ret
   exact ⟨rfl, rfl⟩
 · have H := Hj (ext7 X)
   show Calls Tryz.prog 96 #[.int .u64 X, .int .i64 7] w _
   go_enter Tryz.func96, Tryz.ntmps96
   go_wp2
   go_ret
   exact ⟨ret_int H.out, rfl⟩
 · have H := Hj (ext12 X)
   show Calls Tryz.prog 96 #[.int .u64 X, .int .i64 12] w _
   go_enter Tryz.func96, Tryz.ntmps96
   go_wp2
   go_ret
   exact ⟨ret_int H.out, rfl⟩
 · have H := Hj (ext32 X)
   show Calls Tryz.prog 96 #[.int .u64 X, .int .i64 32] w _
   go_enter Tryz.func96, Tryz.ntmps96
   go_wp2
   go_ret
   exact ⟨ret_int H.out, rfl⟩
 · have H := Hj (ext64 X)
   have hu : IntKind.u64.wrap (X : Int) = X := IntWalk.u64_in _ (by omega)
   show Calls Tryz.prog 96 #[.int .u64 X, .int .i64 64] w _
   go_enter Tryz.func96, Tryz.ntmps96
   go_wp2
   go_ret
   exact ⟨ret_int H.out, rfl⟩
theorem qbn (X k : Nat) (c : Int) (w : World) (hX : X < 18446744073709551616) (hk : k ≤ 4) (hc : ((fWidth k : Nat) : Int) = c) : Calls Tryz.prog 96 #[.int .u64 X, .int .i64 c] w fun e w' => e = .returned (.int .i64 (ext X (fWidth k))) ∧ w = w' := by
 rw [← hc]; exact extend_any X k w hX hk
theorem formsSize : (Tryz.prog.info? 110).map (·.size) = some formCells.size := by kernel_rfl
theorem formOf_any (x : Int) (w : World) (hx : inI x) (hT : TabF w) :
 Calls Tryz.prog 42 #[.int .i64 x] w fun e w' => e = .returned (.int .i64 ((formI x : Nat) : Int)) ∧ Keeps (fun _ => False) w w' := by
 have hTT := hT
 obtain ⟨t, fr, hT⟩ := hT
 have i0 : ∀ w, (Instr.index 110 (.agg formCells) (.int .i64 0)).run Tryz.prog w = .ok (.agg #[.int .u64 0, .int .i64 1, .int .i64 0]) w := fun _ => by kernel_rfl
 have i1 : ∀ w, (Instr.index 110 (.agg formCells) (.int .i64 1)).run Tryz.prog w = .ok (.agg #[.int .u64 2, .int .i64 2, .int .i64 7]) w := fun _ => by kernel_rfl
 have i2 : ∀ w, (Instr.index 110 (.agg formCells) (.int .i64 2)).run Tryz.prog w = .ok (.agg #[.int .u64 6, .int .i64 3, .int .i64 12]) w := fun _ => by kernel_rfl
 have i3 : ∀ w, (Instr.index 110 (.agg formCells) (.int .i64 3)).run Tryz.prog w = .ok (.agg #[.int .u64 14, .int .i64 4, .int .i64 32]) w := fun _ => by kernel_rfl
 have i4 : ∀ w, (Instr.index 110 (.agg formCells) (.int .i64 4)).run Tryz.prog w = .ok (.agg #[.int .u64 15, .int .i64 4, .int .i64 64]) w := fun _ => by kernel_rfl
 have hU : IntKind.u64.wrap x = ((U x : Nat) : Int) := U_wrap x
 have hUl := U_lt x
 have HX := Hj hx
 go_enter Tryz.func42, Tryz.ntmps42
 go_wp2_with (refine wpList_load_row rfl 110 (.global 0) rfl 0 rfl t formCells fr _ hT Tryz.underlying110 rfl formsSize ?_)
 go_loopw [6] (fun i wr => ∃ c : Int, (c = 0 ∨ c = 1 ∨ c = 2 ∨ c = 3 ∨ c = 4) ∧ i = .int .i64 c ∧ c.toNat ≤ formI x ∧ Keeps (fun _ => False) w wr) (fun i _ => 5 - (intOf i).toNat)
 case atStart => exact ⟨0, .inl rfl, rfl, Nat.zero_le _, Keeps.refl _ _⟩
 case round =>
  obtain ⟨c, hc, rfl, hle, hkw⟩ := hrel
  have hf4 := formI_le x
  clear hT hTT
  rcases hc with rfl | rfl | rfl | rfl | rfl
  · have hle0 : 0 ≤ formI x := by simp
    by_cases hf : formI x ≤ 0
    · have hy := (ext_eq x HX.out 0 (by decide)).2 hf
      have hk : formI x = 0 := by omega
      have HK := Hj hk; have HY := Hj hy
      clear hf hk hy hle hle0 hf4
      go_wp2_with (go_at_call 96; refine (qbn (U x) 0 0 _ hUl (by decide) rfl).mono ?_; rw [HY.out]; rintro e w1 ⟨rfl, rfl⟩)
      go_ret
      exact ⟨by rw [HK.out]; rfl, hkw.alloc _⟩
    · have hy : (ext (U x) (fWidth 0) == x) = false := by
       rw [beq_eq_false_iff_ne]
       exact fun e => hf ((ext_eq x HX.out 0 (by decide)).1 e)
      obtain ⟨y, hye⟩ : ∃ y, y = ext (U x) (fWidth 0) := ⟨_, rfl⟩
      rw [← hye] at hy
      have HYE := Hj hye
      have hk : 1 ≤ formI x := by omega
      have HK := Hj hk
      clear hf hye hle hle0 hf4 hk
      go_wp2_with (go_at_call 96; refine (qbn (U x) 0 0 _ hUl (by decide) rfl).mono ?_; rw [← HYE.out]; rintro e w1 ⟨rfl, rfl⟩)
      exact ⟨⟨1, by simp, rfl, HK.out, hkw.alloc _⟩, by simp [intOf]⟩
  · have hle1 : 1 ≤ formI x := by simpa using hle
    by_cases hf : formI x ≤ 1
    · have hy := (ext_eq x HX.out 1 (by decide)).2 hf
      have hk : formI x = 1 := by omega
      have HK := Hj hk; have HY := Hj hy
      clear hf hk hy hle hle1 hf4
      go_wp2_with (go_at_call 96; refine (qbn (U x) 1 7 _ hUl (by decide) rfl).mono ?_; rw [HY.out]; rintro e w1 ⟨rfl, rfl⟩)
      go_ret
      exact ⟨by rw [HK.out]; rfl, hkw.alloc _⟩
    · have hy : (ext (U x) (fWidth 1) == x) = false := by
       rw [beq_eq_false_iff_ne]
       exact fun e => hf ((ext_eq x HX.out 1 (by decide)).1 e)
      obtain ⟨y, hye⟩ : ∃ y, y = ext (U x) (fWidth 1) := ⟨_, rfl⟩
      rw [← hye] at hy
      have HYE := Hj hye
      have hk : 2 ≤ formI x := by omega
      have HK := Hj hk
      clear hf hye hle hle1 hf4 hk
      go_wp2_with (go_at_call 96; refine (qbn (U x) 1 7 _ hUl (by decide) rfl).mono ?_; rw [← HYE.out]; rintro e w1 ⟨rfl, rfl⟩)
      exact ⟨⟨2, by simp, rfl, HK.out, hkw.alloc _⟩, by simp [intOf]⟩
  · have hle2 : 2 ≤ formI x := by simpa using hle
    by_cases hf : formI x ≤ 2
    · have hy := (ext_eq x HX.out 2 (by decide)).2 hf
      have hk : formI x = 2 := by omega
      have HK := Hj hk; have HY := Hj hy
      clear hf hk hy hle hle2 hf4
      go_wp2_with (go_at_call 96; refine (qbn (U x) 2 12 _ hUl (by decide) rfl).mono ?_; rw [HY.out]; rintro e w1 ⟨rfl, rfl⟩)
      go_ret
      exact ⟨by rw [HK.out]; rfl, hkw.alloc _⟩
    · have hy : (ext (U x) (fWidth 2) == x) = false := by
       rw [beq_eq_false_iff_ne]
       exact fun e => hf ((ext_eq x HX.out 2 (by decide)).1 e)
      obtain ⟨y, hye⟩ : ∃ y, y = ext (U x) (fWidth 2) := ⟨_, rfl⟩
      rw [← hye] at hy
      have HYE := Hj hye
      have hk : 3 ≤ formI x := by omega
      have HK := Hj hk
      clear hf hye hle hle2 hf4 hk
      go_wp2_with (go_at_call 96; refine (qbn (U x) 2 12 _ hUl (by decide) rfl).mono ?_; rw [← HYE.out]; rintro e w1 ⟨rfl, rfl⟩)
      exact ⟨⟨3, by simp, rfl, HK.out, hkw.alloc _⟩, by simp [intOf]⟩
  · have hle3 : 3 ≤ formI x := by simpa using hle
    by_cases hf : formI x ≤ 3
    · have hy := (ext_eq x HX.out 3 (by decide)).2 hf
      have hk : formI x = 3 := by omega
      have HK := Hj hk; have HY := Hj hy
      clear hf hk hy hle hle3 hf4
      go_wp2_with (go_at_call 96; refine (qbn (U x) 3 32 _ hUl (by decide) rfl).mono ?_; rw [HY.out]; rintro e w1 ⟨rfl, rfl⟩)
      go_ret
      exact ⟨by rw [HK.out]; rfl, hkw.alloc _⟩
    · have hy : (ext (U x) (fWidth 3) == x) = false := by
       rw [beq_eq_false_iff_ne]
       exact fun e => hf ((ext_eq x HX.out 3 (by decide)).1 e)
      obtain ⟨y, hye⟩ : ∃ y, y = ext (U x) (fWidth 3) := ⟨_, rfl⟩
      rw [← hye] at hy
      have HYE := Hj hye
      have hk : 4 ≤ formI x := by omega
      have HK := Hj hk
      clear hf hye hle hle3 hf4 hk
      go_wp2_with (go_at_call 96; refine (qbn (U x) 3 32 _ hUl (by decide) rfl).mono ?_; rw [← HYE.out]; rintro e w1 ⟨rfl, rfl⟩)
      exact ⟨⟨4, by simp, rfl, HK.out, hkw.alloc _⟩, by simp [intOf]⟩
  · have hle4 : 4 ≤ formI x := by simpa using hle
    by_cases hf : formI x ≤ 4
    · have hy := (ext_eq x HX.out 4 (by decide)).2 hf
      have hk : formI x = 4 := by omega
      have HK := Hj hk; have HY := Hj hy
      clear hf hk hy hle hle4 hf4
      go_wp2_with (go_at_call 96; refine (qbn (U x) 4 64 _ hUl (by decide) rfl).mono ?_; rw [HY.out]; rintro e w1 ⟨rfl, rfl⟩)
      go_ret
      exact ⟨by rw [HK.out]; rfl, hkw.alloc _⟩
    · omega
end
section
set_option maxHeartbeats 2000000
set_option maxRecDepth 100000
open Go.RowKit
theorem stepB_one_nil : stepB ((1 : Nat) : Int) [] = (0, 3, 0) := rfl
theorem qdm (x : Bool) (r : List Bool) : stepB ((1 : Nat) : Int) (x :: r) = (x.toNat, 0, 1) := by
 unfold stepB
 rw [if_neg (by omega), if_neg (by simp)]
 cases x <;> rfl
theorem stepB_in (n : Nat) (b : List Bool) (hn : n ≤ 64) (h : n ≤ b.length) : stepB (n : Int) b = (qae (b.take n), 0, n) := by
 unfold stepB
 rw [if_neg (by omega), if_neg (by simpa using h)]
 rfl
theorem qdd (n : Nat) (b : List Bool) (hn : n ≤ 64) (h : b.length < n) : stepB (n : Int) b = (0, 3, 0) := by
 unfold stepB
 rw [if_neg (by omega), if_pos (by simpa using h)]
theorem rest_length' (bs : List Nat) (i : Nat) : ((qad bs).drop i).length = 8 * bs.length - i := by rw [List.length_drop, qaz]
theorem drop_next {bs : List Nat} {i : Nat} {x : Bool} {r : List Bool} (h : (qad bs).drop i = x :: r) : (qad bs).drop (i + 1) = r ∧ i + 1 ≤ 8 * bs.length := by
 have h1 := congrArg List.length h
 rw [rest_length'] at h1
 simp only [List.length_cons] at h1
 refine ⟨?_, by omega⟩
 rw [← List.drop_drop, h]; rfl
theorem rbit_any (base p : Nat) (v : Value) (bs : List Nat) (i : Nat) (w : World) (h : IsR w base p v bs i) (hl : bs.length ≤ 140737488351232) (hi : i ≤ 8 * bs.length) (x f m : Nat) (hs : stepB ((1 : Nat) : Int) ((qad bs).drop i) = (x, f, m)) :
 Calls Tryz.prog 53 #[.pointer (some ⟨p, 0, none⟩), .int .i64 1] w fun e w' => e = .returned (.tuple #[.int .u64 (x : Nat), .int .i64 (f : Nat)]) ∧ IsR w' base p v bs (i + m) ∧ Keeps (fun k => k = p) w w' := by
 have := qdn base p v bs i ((1 : Nat) : Int) w h hl hi
 rw [hs] at this
 exact this
theorem getForm_any (base p : Nat) (v : Value) (bs : List Nat) (i : Nat) (w : World) (h : IsR w base p v bs i) (hl : bs.length ≤ 1099511627776) (hi : i ≤ 8 * bs.length) :
 Calls Tryz.prog 109 #[.pointer (some ⟨p, 0, none⟩)] w fun e w' => e = .returned (.tuple #[.int .i64 (((formB ((qad bs).drop i)).1 : Nat) : Int), .int .i64 (((formB ((qad bs).drop i)).2.1 : Nat) : Int)]) ∧
  IsR w' base p v bs (i + (formB ((qad bs).drop i)).2.2) ∧ Keeps (fun k => k = p) w w' := by
 obtain ⟨b, hb⟩ : ∃ b, b = (qad bs).drop i := ⟨_, rfl⟩
 obtain ⟨⟨k, e0, m0⟩, hf⟩ : ∃ q, formB b = q := ⟨_, rfl⟩
 rw [← hb, hf]
 have HR := Hj h; have HB := Hj hb; have HF := Hj hf
 clear h hb hf
 go_enter Tryz.func109, Tryz.ntmps109
 go_wp2
 go_loopw [7] (fun t7 wr => ∃ (c : Nat) (r : List Bool), c ≤ 4 ∧ t7 = .int .i64 (c : Nat) ∧ (qad bs).drop (i + c) = r ∧ b = List.replicate c true ++ r ∧ i + c ≤ 8 * bs.length ∧ IsR wr base p v bs (i + c) ∧ Keeps (fun k => k = p) w wr) (fun t7 _ => 4 - (intOf t7).toNat)
 case atStart => exact ⟨0, (qad bs).drop i, by omega, rfl, rfl, by rw [HB.out]; rfl, hi, HR.out, Keeps.refl _ _⟩
 case round =>
  obtain ⟨c, r, hc, rfl, hr, hbr, hic, hR, hk⟩ := hrel
  have HRr := Hj hR; have HK := Hj hk; have HBR := Hj hbr; have HRR := Hj hr
  clear hR hk hbr hr
  by_cases hc4 : c = 4
  · have hf4 : (k, e0, m0) = (4, 0, 4) := by
     rw [← HF.out, HBR.out, hc4]; rfl
    simp only [Prod.mk.injEq] at hf4
    obtain ⟨rfl, rfl, rfl⟩ := hf4
    have hcc : ¬ (c : Int) < 4 := by omega
    have hend := HRr.out
    rw [hc4] at hend
    have HE := Hj hend
    clear hend hc4
    go_wp2
    go_ret2
    exact ⟨rfl, HE.out, HK.out⟩
  · have hcc : (c : Int) < 4 := by omega
    cases r with
    | nil =>
      have hfe : (k, e0, m0) = (c, 3, c) := by
       rw [← HF.out, HBR.out, List.append_nil]
       have h4 : c = 0 ∨ c = 1 ∨ c = 2 ∨ c = 3 := by omega
       rcases h4 with rfl | rfl | rfl | rfl <;> rfl
      simp only [Prod.mk.injEq] at hfe
      obtain ⟨rfl, rfl, rfl⟩ := hfe
      have hs := (by rw [HRR.out]; exact stepB_one_nil : stepB ((1 : Nat) : Int) ((qad bs).drop (i + m0)) = (0, 3, 0))
      have hcon := rbit_any base p v bs (i + m0) wr HRr.out (by omega) hic 0 3 0 hs
      have HCON := Hj hcon
      clear hs hcon hc4
      go_wp2_with (go_at_call 53; refine HCON.out.mono ?_; rintro e w1 ⟨rfl, hR1, hk1⟩; have HR1 := Hj hR1; have HK1 := Hj (HK.out.trans hk1 (fun _ _ h => h)); clear hR1 hk1)
      go_ret2
      exact ⟨rfl, HR1.out, HK1.out⟩
    | cons x r =>
      obtain ⟨hd1, hd2⟩ := drop_next HRR.out
      have hs := (by rw [HRR.out]; exact qdm x r : stepB ((1 : Nat) : Int) ((qad bs).drop (i + c)) = (x.toNat, 0, 1))
      have hcon := rbit_any base p v bs (i + c) wr HRr.out (by omega) hic x.toNat 0 1 hs
      have HCON := Hj hcon
      cases x with
      | false =>
        have hfe : (k, e0, m0) = (c, 0, c + 1) := by
         rw [← HF.out, HBR.out]
         have h4 : c = 0 ∨ c = 1 ∨ c = 2 ∨ c = 3 := by omega
         rcases h4 with rfl | rfl | rfl | rfl <;> rfl
        simp only [Prod.mk.injEq] at hfe
        obtain ⟨rfl, rfl, rfl⟩ := hfe
        clear hs hcon hc4 hd1
        go_wp2_with (go_at_call 53; refine HCON.out.mono ?_; rintro e w1 ⟨rfl, hR1, hk1⟩; have HR1 := Hj hR1; have HK1 := Hj (HK.out.trans hk1 (fun _ _ h => h)); clear hR1 hk1)
        go_ret2
        exact ⟨rfl, HR1.out, HK1.out⟩
      | true =>
        have hbn : b = List.replicate (c + 1) true ++ r := by
         rw [HBR.out, List.replicate_succ', List.append_assoc]; rfl
        have HBN := Hj hbn; have HD1 := Hj hd1
        clear hs hcon hc4 hd1 hbn
        go_wp2_with (go_at_call 53; refine HCON.out.mono ?_; rintro e w1 ⟨rfl, hR1, hk1⟩; have HR1 := Hj hR1; have HK1 := Hj (HK.out.trans hk1 (fun _ _ h => h)); clear hR1 hk1)
        exact ⟨⟨c + 1, r, by omega, by go_num, HD1.out, HBN.out, hd2, HR1.out, HK1.out⟩, by simp [intOf]; omega⟩
theorem getChange_err (b : List Bool) {k e0 m0 : Nat} (hf : formB b = (k, e0, m0)) (he : e0 ≠ 0) : qas b = (0, e0, m0) := by
 unfold qas; rw [hf]; simp only; rw [if_pos he]
theorem getChange_eof (b : List Bool) {k m0 : Nat} (hf : formB b = (k, 0, m0)) (hl : b.length < m0 + fWidth k) : qas b = (0, 3, m0) := by
 unfold qas; rw [hf]; simp only; rw [if_neg (by simp), if_pos hl]
theorem getChange_ok (b : List Bool) {k m0 u : Nat} (hf : formB b = (k, 0, m0)) (hl : ¬ b.length < m0 + fWidth k) (hu : qae ((b.drop m0).take (fWidth k)) = u) :
 qas b = if formI (ext u (fWidth k)) ≠ k then (0, 8, m0 + fWidth k) else (ext u (fWidth k), 0, m0 + fWidth k) := by
 unfold qas; rw [hf]; simp only; rw [if_neg (by simp), if_neg hl, hu]
theorem getChange_any (base p : Nat) (v : Value) (bs : List Nat) (i : Nat) (w : World) (h : IsR w base p v bs i) (hl : bs.length ≤ 1099511627776) (hi : i ≤ 8 * bs.length) (hT : TabF w) (hbase : 0 < base) :
 Calls Tryz.prog 54 #[.pointer (some ⟨p, 0, none⟩)] w fun e w' => ∃ y : Int, e = .returned (.tuple #[.int .i64 y, .int .i64 (((qas ((qad bs).drop i)).2.1 : Nat) : Int)]) ∧ ((qas ((qad bs).drop i)).2.1 = 0 → y = (qas ((qad bs).drop i)).1) ∧
  IsR w' base p v bs (i + (qas ((qad bs).drop i)).2.2) ∧ Keeps (fun k => k = p) w w' := by
 have hp0 : 0 < p := Nat.lt_of_lt_of_le hbase h.base
 obtain ⟨b, hb⟩ : ∃ b, b = (qad bs).drop i := ⟨_, rfl⟩
 have hbl : b.length = 8 * bs.length - i := by rw [hb, rest_length']
 obtain ⟨⟨k, e0, m0⟩, hf⟩ : ∃ q, formB b = q := ⟨_, rfl⟩
 obtain ⟨s1, s2, s3, s4, s5⟩ := formB_sound b
 rw [hf] at s1 s2 s3 s4
 simp only at s1 s2 s3 s4
 have hcon := getForm_any base p v bs i w h hl hi
 rw [← hb, hf] at hcon
 simp only at hcon
 rw [← hb]
 have HCON := Hj hcon; have HT := Hj hT; have HB := Hj hb
 clear hcon hT h hb s5
 by_cases he : e0 = 0
 · subst he
   by_cases hlen : b.length < m0 + fWidth k
   · have hc := getChange_eof b hf hlen
     have HC := Hj hc
     have hst := qdd (fWidth k) ((qad bs).drop (i + m0)) (qcu k s1) (by rw [rest_length']; omega)
     have HST := Hj hst
     have hwd := qcu k s1
     have hk5 : (k : Int) < 5 := by omega
     clear hc hst hf hlen
     go_enter Tryz.func54, Tryz.ntmps54
     go_wp2_with fail
     refine HCON.out.mono ?_
     rintro e w1 ⟨rfl, hR1, hk1⟩
     have hT1 := HT.out.keeps hk1 (by omega)
     obtain ⟨_, _, t2⟩ := hT1.cell k s1
     obtain ⟨wd, hwde⟩ : ∃ wd, wd = fWidth k := ⟨_, rfl⟩
     rw [← hwde] at t2
     have HR1 := Hj hR1; have HK1 := Hj hk1; have HT1 := Hj hT1; have HWD := Hj hwde
     have hcon2 := qdn base p v bs (i + m0) (fWidth k) w1 hR1 (by omega) (by omega)
     rw [HST.out, ← hwde] at hcon2
     have HCON2 := Hj hcon2
     clear hcon2 hR1 hk1 hT1 hwde
     go_wp2_with fail
     refine HCON2.out.mono ?_
     rintro e w2 ⟨rfl, hR2, hk2⟩
     have hT2 := HT1.out.keeps hk2 (by omega)
     obtain ⟨_, _, t2'⟩ := hT2.cell k s1
     rw [← HWD.out] at t2'
     have HR2 := Hj hR2; have HK2 := Hj (HK1.out.trans hk2 (fun _ _ h => h)); have HT2 := Hj hT2
     clear hR2 hk2 hT2 t2
     go_wp2_with fail
     refine (qbn 0 k wd w2 (by decide) s1 (by rw [HWD.out])).mono ?_
     rintro e w3 ⟨rfl, rfl⟩
     go_wp2
     go_ret2
     rw [HC.out]
     exact ⟨_, rfl, fun h => absurd h (by simp), HR2.out, HK2.out⟩
   · obtain ⟨u, hu⟩ : ∃ u, qae ((b.drop m0).take (fWidth k)) = u := ⟨_, rfl⟩
     have hc := getChange_ok b hf hlen hu
     have hu2 : u < 18446744073709551616 := by
      have h1 := qcw ((b.drop m0).take (fWidth k))
      have h2 : 2 ^ ((b.drop m0).take (fWidth k)).length ≤ 2 ^ 64 := Nat.pow_le_pow_right (by decide) (Nat.le_trans (List.length_take_le _ _) (qcu k s1))
      omega
     have hst := stepB_in (fWidth k) ((qad bs).drop (i + m0)) (qcu k s1) (by rw [rest_length']; omega)
     rw [← List.drop_drop, ← HB.out, hu] at hst
     have hxin := ext_in u k s1
     have hposs : i + m0 + fWidth k = i + (m0 + fWidth k) := by omega
     have HST : Hid (stepB ((fWidth k : Nat) : Int) ((qad bs).drop (i + m0)) = (u, 0, fWidth k)) := Hj (by rw [← List.drop_drop, ← HB.out]; exact hst)
     have hwd := qcu k s1
     have hk5 : (k : Int) < 5 := by omega
     obtain ⟨x, hx⟩ : ∃ x, x = ext u (fWidth k) := ⟨_, rfl⟩
     rw [← hx] at hc hxin
     have HX := Hj hx; have HXIN := Hj hxin; have HPOS := Hj hposs
     by_cases hform : formI x = k
     · rw [if_neg (by simpa using hform)] at hc
       have HC := Hj hc; have HFORM := Hj hform
       clear hc hst hf hlen hu hx hxin hposs hform
       go_enter Tryz.func54, Tryz.ntmps54
       go_wp2_with fail
       refine HCON.out.mono ?_
       rintro e w1 ⟨rfl, hR1, hk1⟩
       have hT1 := HT.out.keeps hk1 (by omega)
       obtain ⟨_, _, t2⟩ := hT1.cell k s1
       obtain ⟨wd, hwde⟩ : ∃ wd, wd = fWidth k := ⟨_, rfl⟩
       rw [← hwde] at t2
       have HR1 := Hj hR1; have HK1 := Hj hk1; have HT1 := Hj hT1; have HWD := Hj hwde
       have hcon2 := qdn base p v bs (i + m0) (fWidth k) w1 hR1 (by omega) (by omega)
       rw [HST.out, ← hwde] at hcon2
       have HCON2 := Hj hcon2
       clear hcon2 hR1 hk1 hT1 hwde
       go_wp2_with fail
       refine HCON2.out.mono ?_
       rintro e w2 ⟨rfl, hR2, hk2⟩
       have hT2 := HT1.out.keeps hk2 (by omega)
       obtain ⟨_, _, t2'⟩ := hT2.cell k s1
       rw [← HWD.out] at t2'
       have HR2 := Hj hR2; have HK2 := Hj (HK1.out.trans hk2 (fun _ _ h => h)); have HT2 := Hj hT2
       clear hR2 hk2 hT2 t2
       go_wp2_with fail
       have HWDD : Hid (fWidth k = wd) := Hj HWD.out.symm
       refine (qbn u k wd w2 hu2 s1 (by rw [HWD.out])).mono ?_
       rw [← HX.out]
       rintro e w3 ⟨rfl, rfl⟩
       go_wp2_with fail
       refine (formOf_any x w2 HXIN.out HT2.out).mono ?_
       rw [HFORM.out]
       rintro e w4 ⟨rfl, hk4⟩
       have HR4 := Hj (HR2.out.keeps hk4 (fun h => h) (fun _ _ h => h)); have HK4 := Hj (HK2.out.trans hk4 (fun _ _ h => h.elim))
       clear hk4
       go_wp2
       go_ret2
       rw [HC.out]
       exact ⟨_, rfl, fun _ => rfl, by rw [← HPOS.out, HWDD.out]; exact HR4.out, HK4.out⟩
     · rw [if_pos hform] at hc
       have hf4 := formI_le x
       obtain ⟨k2, hk2e⟩ : ∃ k2, k2 = formI x := ⟨_, rfl⟩
       rw [← hk2e] at hform hf4
       have hk2n : ((k2 : Int) != (k : Int)) = true := by simp; omega
       have hk2m : ((k2 : Int) == (k : Int)) = false := by simp; omega
       have HC := Hj hc; have HK2E := Hj hk2e
       clear hc hst hf hlen hu hx hxin hposs hform hk2e
       go_enter Tryz.func54, Tryz.ntmps54
       go_wp2_with fail
       refine HCON.out.mono ?_
       rintro e w1 ⟨rfl, hR1, hk1⟩
       have hT1 := HT.out.keeps hk1 (by omega)
       obtain ⟨_, _, t2⟩ := hT1.cell k s1
       obtain ⟨wd, hwde⟩ : ∃ wd, wd = fWidth k := ⟨_, rfl⟩
       rw [← hwde] at t2
       have HR1 := Hj hR1; have HK1 := Hj hk1; have HT1 := Hj hT1; have HWD := Hj hwde
       have hcon2 := qdn base p v bs (i + m0) (fWidth k) w1 hR1 (by omega) (by omega)
       rw [HST.out, ← hwde] at hcon2
       have HCON2 := Hj hcon2
       clear hcon2 hR1 hk1 hT1 hwde
       go_wp2_with fail
       refine HCON2.out.mono ?_
       rintro e w2 ⟨rfl, hR2, hk2⟩
       have hT2 := HT1.out.keeps hk2 (by omega)
       obtain ⟨_, _, t2'⟩ := hT2.cell k s1
       rw [← HWD.out] at t2'
       have HR2 := Hj hR2; have HK2 := Hj (HK1.out.trans hk2 (fun _ _ h => h)); have HT2 := Hj hT2
       clear hR2 hk2 hT2 t2
       go_wp2_with fail
       have HWDD : Hid (fWidth k = wd) := Hj HWD.out.symm
       refine (qbn u k wd w2 hu2 s1 (by rw [HWD.out])).mono ?_
       rw [← HX.out]
       rintro e w3 ⟨rfl, rfl⟩
       go_wp2_with fail
       refine (formOf_any x w2 HXIN.out HT2.out).mono ?_
       rw [← HK2E.out]
       rintro e w4 ⟨rfl, hk4⟩
       have HR4 := Hj (HR2.out.keeps hk4 (fun h => h) (fun _ _ h => h)); have HK4 := Hj (HK2.out.trans hk4 (fun _ _ h => h.elim))
       clear hk4
       go_wp2
       go_ret2
       rw [HC.out]
       exact ⟨_, rfl, fun h => absurd h (by simp), by rw [← HPOS.out, HWDD.out]; exact HR4.out, HK4.out⟩
 · have hc := getChange_err b hf he
   have HC := Hj hc
   have he' : ((e0 : Int) == 0) = false := by simp; omega
   have he2 : ¬ (e0 : Int) = 0 := by omega
   have HNE := Hj he
   clear hc hf he
   go_enter Tryz.func54, Tryz.ntmps54
   go_wp2_with (go_at_call 109; refine HCON.out.mono ?_; rintro e w1 ⟨rfl, hR1, hk1⟩; have HR1 := Hj hR1; have HK1 := Hj hk1; clear hR1 hk1)
   go_ret2
   rw [HC.out]
   exact ⟨0, rfl, fun h => absurd h HNE.out, HR1.out, HK1.out⟩
end
section
open Go.RowKit
end
section
open Go.RowKit
def qbu : Nat → Nat → List (Nat × Bool)
 | 0, x => [(x, true)]
 | n + 1, x => if x < 128 then [(x, true)] else (x % 128, false) :: qbu n (x / 128)
def byteOf (p : Nat × Bool) : Nat := if p.2 then p.1 else p.1 + 128
def vencF : Nat → Nat → List Nat
 | 0, x => [x]
 | n + 1, x => if x < 128 then [x] else (x % 128 + 128) :: vencF n (x / 128)
def venc (x : Nat) : List Nat := vencF 9 x
theorem venc_groups (n x : Nat) : (qbu n x).map byteOf = vencF n x := by
 induction n generalizing x with
 | zero => rfl
 | succ n ih =>
   simp only [qbu, vencF]
   split
   · rfl
   · simp [byteOf, ih]
def vgo : Nat → Nat → List Nat → Nat × Nat × Nat
 | _, _, [] => (0, 0, 3)
 | i, x, c :: r => if i = 9 ∧ 1 < c then (0, 0, 6) else if c = 0 ∧ 0 < i then (0, 0, 5) else if c < 128 then (x + c % 128 * 2 ^ (7 * i), i + 1, 0) else vgo (i + 1) (x + c % 128 * 2 ^ (7 * i)) r
theorem vencF_lt (n x : Nat) (h : x < 128 ^ (n + 1)) : ∀ c ∈ vencF n x, c < 256 := by
 induction n generalizing x with
 | zero => intro c hc; simp [vencF] at hc; omega
 | succ n ih =>
   intro c hc
   simp only [vencF] at hc
   split at hc
   · simp at hc; omega
   · simp only [List.mem_cons] at hc
     rcases hc with rfl | hc
     · omega
     · exact ih (x / 128) (Nat.div_lt_of_lt_mul (by rw [Nat.pow_succ] at h; omega)) c hc
theorem venc_lt (x : Nat) (h : x ≤ 18446744073709551615) : ∀ c ∈ venc x, c < 256 := vencF_lt 9 x (by omega)
theorem qdj (n x : Nat) : (vencF n x).length ≤ n + 1 := by
 induction n generalizing x with
 | zero => simp [vencF]
 | succ n ih => simp only [vencF]; split <;> simp; exact ih _
theorem groupsF_lt (n x : Nat) (h : x < 128 ^ (n + 1)) : ∀ p ∈ qbu n x, p.1 < 128 := by
 induction n generalizing x with
 | zero => intro p hp; simp [qbu] at hp; subst hp; simpa using h
 | succ n ih =>
   intro p hp
   simp only [qbu] at hp
   split at hp
   · simp at hp; subst hp; assumption
   · simp only [List.mem_cons] at hp
     rcases hp with rfl | hp
     · simp only; omega
     · exact ih (x / 128) (Nat.div_lt_of_lt_mul (by rw [Nat.pow_succ] at h; omega)) p hp
theorem groupsF_length (n x : Nat) : (qbu n x).length ≤ n + 1 := by
 induction n generalizing x with
 | zero => simp [qbu]
 | succ n ih => simp only [qbu]; split <;> simp; exact ih _
theorem or128 (c : Nat) (h : c < 128) : bits .or .u8 ((c : Nat) : Int) 128 = ((c + 128 : Nat) : Int) := by
 rw [show (128 : Int) = ((128 : Nat) : Int) from rfl, u8_or_nat c 128 (by omega) (by decide)]
 congr 1
 rw [Nat.or_comm, nat_join 7 128 c (by decide) (by omega)]
 omega
end
section
open Go.RowKit
end
section
open Go.RowKit
end
section
open Go.RowKit
end
section
open Go.RowKit
end
section
open Go.RowKit
end
section
open Go.RowKit
end
end Go.Proofs.YtfpcgcbehdogjaaGreatDoor
