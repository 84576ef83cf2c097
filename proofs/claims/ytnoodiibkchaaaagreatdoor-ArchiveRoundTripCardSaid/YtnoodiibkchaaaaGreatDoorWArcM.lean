/-
  WALKS: archive.Import (printed by gen_imp.py).
-/
import Derived.Test.YtnoodiibkchaaaaGreatDoorXLin
namespace Go.Proofs.YtnoodiibkchaaaaGreatDoor
open Go.RowKit Go.Shelf
attribute [local go_sem] Oper.semAt_some

theorem six_blocks (w : World) (o0 o1 o2 o3 o4 o5 : Obj) : ∃ W, W = (((((w.alloc o0).alloc o1).alloc o2).alloc o3).alloc o4).alloc o5 ∧ Below w.heap.size w W ∧ W.heap.size = w.heap.size + 6 ∧
    W.heap[w.heap.size]? = some o0 ∧ W.heap[w.heap.size + 1]? = some o1 ∧ W.heap[w.heap.size + 2]? = some o2 ∧ W.heap[w.heap.size + 3]? = some o3 ∧ W.heap[w.heap.size + 4]? = some o4 ∧ W.heap[w.heap.size + 5]? = some o5 := by
  have hh : ∀ (u : World) (o : Obj), (u.alloc o).heap = u.heap.push o := fun _ _ => rfl
  refine ⟨_, rfl, ?_, by simp, ?_, ?_, ?_, ?_, ?_, ?_⟩
  · exact (((((((Below.refl w.heap.size w).alloc (Nat.le_refl _) o0).alloc (by simp) o1).alloc (by simp; omega) o2).alloc (by simp; omega) o3).alloc (by simp; omega) o4).alloc (by simp; omega) o5)
  all_goals
    simp only [hh, Array.getElem?_push, Array.size_push]
    repeat (first | rw [if_pos trivial] | rw [if_pos (by omega)] | rw [if_neg (by omega)])
/-- Own under a change of blocks below its base -/
theorem Own.keeps {B : Nat} {S : Nat → Prop} {a b' : World} {v : Value} {hs : List Hdr} {b : List Ser} (h : Own B a v hs b) (k : Keeps S a b') (hS : ∀ g, B ≤ g → ¬ S g) : Own B b' v hs b :=
  ⟨h.len, k.row h.row (fun g hg => hS g (h.row.lt g hg).1), fun i x y h1 h2 => k.row (h.lab i x y h1 h2) (fun g hg => hS g ((h.lab i x y h1 h2).lt g hg).1),
    fun i x y h1 h2 => k.row (h.smp i x y h1 h2) (fun g hg => hS g ((h.smp i x y h1 h2).lt g hg).1), h.sep⟩
theorem ImpRel.keeps {t : ByteArray} {B a : Nat} {S : Nat → Prop} {u u' : World} {v : Value} (h : ImpRel t B v a u) (k : Keeps S u u') (hS : ∀ g, B ≤ g → ¬ S g) : ImpRel t B v a u' := by
  obtain ⟨f, hs, b, h1, h2, h3, h4⟩ := h
  exact ⟨f, hs, b, h1.keeps k hS, h2, h3, h4⟩
/-- the variables of Import, at each round's head -/
def BoxI (t : ByteArray) (w : World) (N : Nat) (pre : List ByteArray) (W : World) : Prop :=
  ∃ (a f : Nat) (v : Value), pre ++ linesB f (t.extract a t.size) = linesOf t ∧ t.size + 1 ≤ a + f ∧ a ≤ t.size ∧ W.heap[N]? = some (.cells #[.slice none 0 0] 22 (0, 0)) ∧ W.heap[N + 1]? = some (.cells #[.int .i64 0] 3 (0, 0)) ∧ W.heap[N + 2]? = some (.cells #[.int .i64 0] 25 (0, 0)) ∧
    W.heap[N + 3]? = some (.cells #[v] 22 (0, 0)) ∧ W.heap[N + 4]? = some (.cells #[.int .i64 (a : Nat)] 3 (0, 0)) ∧ ImpRel t (N + 8) v a W ∧ Keeps (fun _ => False) w W
/-- at an early return -/
def BoxX (t : ByteArray) (w : World) (N : Nat) (c : Code) (_ : List ByteArray) (W : World) : Prop :=
  c = .ret ∧ ∃ a : Nat, impV t = ([], a, 24) ∧ W.heap[N]? = some (.cells #[.slice none 0 0] 22 (0, 0)) ∧ W.heap[N + 1]? = some (.cells #[.int .i64 (a : Nat)] 3 (0, 0)) ∧ W.heap[N + 2]? = some (.cells #[.int .i64 24] 25 (0, 0)) ∧ Keeps (fun _ => False) w W
theorem Own.base {B B' : Nat} {w : World} {v : Value} {hs : List Hdr} {b : List Ser} (h : Own B w v hs b) (hB : B' ≤ B) : Own B' w v hs b :=
  ⟨h.len, row_base h.row (fun g hg => Nat.le_trans hB (h.row.lt g hg).1), fun i x y h1 h2 => row_base (h.lab i x y h1 h2) (fun g hg => Nat.le_trans hB ((h.lab i x y h1 h2).lt g hg).1),
    fun i x y h1 h2 => row_base (h.smp i x y h1 h2) (fun g hg => Nat.le_trans hB ((h.smp i x y h1 h2).lt g hg).1), h.sep⟩
/-- Own at the end of a range over a function -/
theorem Own.put {B D : Nat} {w : World} {v : Value} {hs : List Hdr} {b : List Ser} {ds : Option (List Deferred)} {o : Obj} (h : Own B w v hs b) (hK : w.heap[D]? = some (.deferred ds)) : Own B (w.putObj D o) v hs b := by
  have hp : Keeps (fun k => k = D) w (w.putObj D o) := Keeps.putObj _ _ _ rfl
  have hne : ∀ {e : TypeId} {k n : Nat} {u : Value} {xs : List Value}, w.ownsRow B e k u n xs → (w.putObj D o).ownsRow B e k u n xs := fun hr => hp.row hr (fun g hg e => by
    obtain ⟨c', hc'⟩ := row_type hr hg
    subst e
    rw [hK] at hc'
    cases hc')
  exact ⟨h.len, hne h.row, fun i x y h1 h2 => hne (h.lab i x y h1 h2), fun i x y h1 h2 => hne (h.smp i x y h1 h2), h.sep⟩
theorem parse_some (s : ByteArray) (l : List Lab) (w : World) (B : Nat) (hB : B ≤ w.heap.size) (hs : s.size ≤ 1099511627776) (hT : Tabs w) (h : hdV s = some l) :
    Calls Tryz.prog 19 #[.string s] w fun e w' => (∃ la lc, e = .returned (.tuple #[.slice la l.length lc, .int .i64 0]) ∧ w'.ownsRow B 46 2 (.slice la l.length lc) l.length (labC l)) ∧ Below w.heap.size w w' :=
  (parse_any s w hs hT).mono fun e w' ⟨hp, hb⟩ => by
    rcases hp with ⟨l', v, h', rfl, hr⟩ | ⟨h', _⟩
    · rw [h] at h'
      obtain rfl := Option.some.inj h'
      obtain ⟨la, lc, rfl⟩ := row_slice hr
      exact ⟨⟨la, lc, rfl, row_base hr (fun g hg => by have := (hr.lt g hg).1; omega)⟩, hb⟩
    · rw [h] at h'; cases h'
theorem parse_no (s : ByteArray) (w : World) (hs : s.size ≤ 1099511627776) (hT : Tabs w) (h : hdV s = none) :
    Calls Tryz.prog 19 #[.string s] w fun e w' => e = .returned (.tuple #[.slice none 0 0, .int .i64 24]) ∧ Below w.heap.size w w' :=
  (parse_any s w hs hT).mono fun e w' ⟨hp, hb⟩ => by
    rcases hp with ⟨l', v, h', _⟩ | ⟨_, rfl⟩
    · rw [h] at h'; cases h'
    · exact ⟨rfl, hb⟩
theorem parse_gen (s : ByteArray) (w : World) (hs : s.size ≤ 1099511627776) (hT : Tabs w) :
    Calls Tryz.prog 19 #[.string s] w fun e w' => (∃ la ln lc c, e = .returned (.tuple #[.slice la ln lc, .int .i64 c])) ∧ Below w.heap.size w w' :=
  (parse_any s w hs hT).mono fun e w' ⟨hp, hb⟩ => by
    rcases hp with ⟨l', v, h', rfl, hr⟩ | ⟨_, rfl⟩
    · obtain ⟨la, lc, rfl⟩ := row_slice hr
      exact ⟨⟨_, _, _, _, rfl⟩, hb⟩
    · exact ⟨⟨_, _, _, _, rfl⟩, hb⟩
theorem sample_some (s : ByteArray) (w : World) (hs : s.size ≤ 1099511627776) (hT : TabsN w) : Calls Tryz.prog 36 #[.string s] w fun e w' => (∃ (u v : Int) (c : Bool), e = .returned (.tuple #[.agg #[.int .i64 u, .int .u64 v], .bool c])) ∧ Below w.heap.size w w' :=
  (sample_any s w hs hT).mono fun e w' ⟨h, hb⟩ => by
    rcases h with ⟨x, _, rfl⟩ | ⟨_, u, v, rfl⟩
    · exact ⟨⟨_, _, _, rfl⟩, hb⟩
    · exact ⟨⟨_, _, _, rfl⟩, hb⟩
theorem sample_is (s : ByteArray) (x1 x2 : Int) (w : World) (hs : s.size ≤ 1099511627776) (hT : TabsN w) (h : smpV s = some (x1, x2)) :
    Calls Tryz.prog 36 #[.string s] w fun e w' => e = .returned (.tuple #[.agg #[.int .i64 x1, .int .u64 x2], .bool true]) ∧ Below w.heap.size w w' :=
  (sample_any s w hs hT).mono fun e w' ⟨hp, hb⟩ => by
    rcases hp with ⟨x, h', rfl⟩ | ⟨h', _⟩
    · rw [h] at h'
      obtain rfl := Option.some.inj h'
      exact ⟨rfl, hb⟩
    · rw [h] at h'; cases h'
theorem sample_no (s : ByteArray) (w : World) (hs : s.size ≤ 1099511627776) (hT : TabsN w) (h : smpV s = none) :
    Calls Tryz.prog 36 #[.string s] w fun e w' => (∃ u v : Int, e = .returned (.tuple #[.agg #[.int .i64 u, .int .u64 v], .bool false])) ∧ Below w.heap.size w w' :=
  (sample_any s w hs hT).mono fun e w' ⟨hp, hb⟩ => by
    rcases hp with ⟨x, h', _⟩ | ⟨_, u, v, rfl⟩
    · rw [h] at h'; cases h'
    · exact ⟨⟨_, _, rfl⟩, hb⟩
/-- three stores into the results' cells -/
theorem three_sets (W : World) (N : Nat) (v0 v1 v2 u0 u1 u2 : Value) (T0 T1 T2 : TypeId) (h0 : W.heap[N]? = some (.cells #[v0] T0 (0, 0))) (h1 : W.heap[N + 1]? = some (.cells #[v1] T1 (0, 0))) (h2 : W.heap[N + 2]? = some (.cells #[v2] T2 (0, 0))) :
    ∃ W', W' = ((W.setCell ⟨N, 0, none⟩ u0).setCell ⟨N + 1, 0, none⟩ u1).setCell ⟨N + 2, 0, none⟩ u2 ∧ W'.heap[N]? = some (.cells #[u0] T0 (0, 0)) ∧ W'.heap[N + 1]? = some (.cells #[u1] T1 (0, 0)) ∧ W'.heap[N + 2]? = some (.cells #[u2] T2 (0, 0)) ∧ Keeps (fun k => N ≤ k ∧ k ≤ N + 2) W W' := by
  have k1 : Keeps (fun k => k = N) W (W.setCell ⟨N, 0, none⟩ u0) := (Keeps.refl (fun k => k = N) W).setCell (p := ⟨N, 0, none⟩) (fun _ => rfl) _
  have k2 : Keeps (fun k => k = N + 1) (W.setCell ⟨N, 0, none⟩ u0) ((W.setCell ⟨N, 0, none⟩ u0).setCell ⟨N + 1, 0, none⟩ u1) := (Keeps.refl (fun k => k = N + 1) _).setCell (p := ⟨N + 1, 0, none⟩) (fun _ => rfl) _
  have k3 : Keeps (fun k => k = N + 2) ((W.setCell ⟨N, 0, none⟩ u0).setCell ⟨N + 1, 0, none⟩ u1) (((W.setCell ⟨N, 0, none⟩ u0).setCell ⟨N + 1, 0, none⟩ u1).setCell ⟨N + 2, 0, none⟩ u2) := (Keeps.refl (fun k => k = N + 2) _).setCell (p := ⟨N + 2, 0, none⟩) (fun _ => rfl) _
  have e0 : (W.setCell ⟨N, 0, none⟩ u0).heap[N]? = some (.cells #[u0] T0 (0, 0)) := by have := heap_setCell_same W N 0 _ _ u0 h0; simpa using this
  have e1 : ((W.setCell ⟨N, 0, none⟩ u0).setCell ⟨N + 1, 0, none⟩ u1).heap[N + 1]? = some (.cells #[u1] T1 (0, 0)) := by have := heap_setCell_same _ (N + 1) 0 _ _ u1 (k1.heap h1 (by omega)); simpa using this
  have e2 : (((W.setCell ⟨N, 0, none⟩ u0).setCell ⟨N + 1, 0, none⟩ u1).setCell ⟨N + 2, 0, none⟩ u2).heap[N + 2]? = some (.cells #[u2] T2 (0, 0)) := by have := heap_setCell_same _ (N + 2) 0 _ _ u2 (k2.heap (k1.heap h2 (by omega)) (by omega)); simpa using this
  refine ⟨_, rfl, k3.heap (k2.heap e0 (by omega)) (by omega), k3.heap e1 (by omega), e2, ?_⟩
  exact ((k1.mono (S' := fun k => N ≤ k ∧ k ≤ N + 2) (fun k _ h => by omega)).trans k2 (fun k _ h => by omega)).trans k3 (fun k _ h => by omega)
set_option maxHeartbeats 8000000 in
set_option maxRecDepth 100000 in
theorem import_any (t : ByteArray) (w : World) (hs : t.size ≤ 1099511627776) (hT : TabsN w) :
    Calls Tryz.prog 13 #[.string t] w fun e w' => ImpR t w.heap.size e w' ∧ Below w.heap.size w w' := by
  have HT := Lib.hid hT
  clear hT
  refine (callsIn_wide (n := 0)).1 ?_
  refine callsIn_of_wp_marks Tryz.func13 rfl trivial ?_ rfl
  simp only [Tryz.ntmps13, List.size_toArray, List.length_cons, List.length_nil, Nat.reduceAdd, Nat.reduceSub, Array.replicate_succ, Array.replicate_zero, List.push_toArray, List.append_toArray, List.nil_append, List.cons_append]
  gi_wp2
  refine ⟨trivial, rfl, (callsIn_wide.2 (lines_any t _)).mono ?_⟩
  rintro e w1 ⟨rfl, rfl⟩
  gi_wp2
  obtain ⟨W0, hW0, hB0, hsz, c0, c1, c2, c3, c4, c5⟩ := six_blocks w (.cells #[.slice none 0 0] 22) (.cells #[.int .i64 0] 3) (.cells #[.int .i64 0] 25) (.cells #[.slice none 0 0] 22) (.cells #[.int .i64 0] 3) (.cells #[.string t] 9)
  rw [← hW0]
  obtain ⟨N, hN⟩ : ∃ N, N = w.heap.size := ⟨_, rfl⟩
  rw [← hN] at hsz c0 c1 c2 c3 c4 c5 ⊢
  simp only [Nat.add_assoc, Nat.reduceAdd]
  have HNN := Lib.hid hN
  clear hN hW0
  refine wpIn_rangeFunc_c (gf := 62) (lb := #[.pointer (some ⟨N + 5, 0, none⟩)]) (w := W0) rfl (enters_of Tryz.func62 (by kernel_rfl) rfl)
    (lines_seq (N + 5) t W0 hs (by rw [cell_of_row _ _ _ _ _ _ c5]; rfl) (frozen_of_row _ _ _ _ _ c5)) (T := fun k => N ≤ k ∧ k ≤ N + 4 ∨ N + 8 ≤ k) (fun x => rfl)
    (fun k hk => by omega) ?hT ?hT2 (BoxI t w N) (BoxX t w N) ?hI ?hIx ?h0
    (fun x => { tmps := #[.string t, undef, .pointer (some ⟨N, 0, none⟩), .pointer (some ⟨N + 1, 0, none⟩), .pointer (some ⟨N + 2, 0, none⟩), .pointer (some ⟨N + 3, 0, none⟩), .pointer (some ⟨N + 4, 0, none⟩), .string x, undef, undef, undef, undef, undef, undef, undef, undef, .string t, .func (.func 62) #[] #[.pointer (some ⟨N + 5, 0, none⟩)], .string x, undef, undef, undef, undef, undef, undef, undef, undef, undef, undef, undef, undef, undef, undef, undef, undef, undef, undef, undef, undef, undef, undef, undef, undef, undef, undef, undef, undef, undef, undef, undef, undef, undef, undef, undef, undef, undef, undef, undef, undef, undef, undef, undef, undef, undef, undef, undef, undef, undef, undef, undef, undef, undef, undef, undef, undef, undef, undef, undef, undef, undef, undef, undef, undef], defers := [] }) ?assign ?body ?done ?stop
  case hT => rintro k hk e; omega
  case hT2 => rintro k hk; omega
  case hI =>
    rintro pre A B ⟨a, f, v, h1, h2, h3, d0, d1, d2, d3, d4, h4, h5⟩ hk
    refine ⟨a, f, v, h1, h2, h3, hk.heap d0 (by omega), hk.heap d1 (by omega), hk.heap d2 (by omega), hk.heap d3 (by omega), hk.heap d4 (by omega), h4.keeps hk (fun g hg hs => by omega), h5.trans hk (fun k hk hs => by have := HNN.out; omega)⟩
  case hIx =>
    rintro c pre A B ⟨rfl, a, h1, d0, d1, d2, h5⟩ hk
    exact ⟨rfl, a, h1, hk.heap d0 (by omega), hk.heap d1 (by omega), hk.heap d2 (by omega), h5.trans hk (fun k hk hs => by have := HNN.out; omega)⟩
  case h0 =>
    exact ⟨0, t.size + 1, _, by rw [show t.extract 0 t.size = t by simp]; rfl, by omega, Nat.zero_le _, c0, c1, c2, c3, c4, ⟨t.size + 1, [], [], Own.nil _ _, by simp [bloT, cut], rfl, by omega⟩, (Keeps.of_below hB0).mono (fun k hk hs => by omega)⟩
  case assign =>
    intro lp x W K hK
    simp only [encS]
    gi_wp2
    exact hK
  case body =>
    rintro lp pre x W ⟨a, f, v, h1, h2, h3, d0, d1, d2, d3, d4, h4, h5⟩ hsp hsz2
    obtain ⟨rr, hrr⟩ := hsp
    have hxr : linesB f (t.extract a t.size) = x :: rr := by
      rw [← h1, List.append_assoc] at hrr
      exact (List.append_cancel_left hrr).symm
    obtain ⟨hlt, hcase⟩ := line_cases h3 h2 hxr
    obtain ⟨f', hds, b, hown, hbt, himp, hf'⟩ := h4
    have hbd := blo_bounds hbt (by omega)
    have hlen : hds.length = b.length := hown.len
    obtain ⟨ad, cap, rfl⟩ := hown.slice
    have HOWN := Lib.hid hown; have HBT := Lib.hid hbt; have HI := Lib.hid himp; have HF := Lib.hid hf'; have HBD := Lib.hid hbd; have H5 := Lib.hid h5
    have HOB : Hid (∀ q, Below W.heap.size W q → Own (N + 8) q (.slice ad b.length cap) hds b) := Lib.hid (fun q hq => HOWN.out.below hq)
    have HNS : Hid (N + 8 ≤ W.heap.size) := Lib.hid (by omega)
    have HTB : Hid (∀ q, Below W.heap.size W q → TabsN q) := Lib.hid (fun q hq => HT.out.below ((h5.below (Nat.le_refl _) (fun _ _ h => h.elim)).trans (hq.mono h5.size)))
    have HD0 : Hid (∀ u, Below W.heap.size W u → u.heap[N]? = some (.cells #[.slice none 0 0] 22 (0, 0)) ∧ u.heap[N + 1]? = some (.cells #[.int .i64 0] 3 (0, 0)) ∧ u.heap[N + 2]? = some (.cells #[.int .i64 0] 25 (0, 0)) ∧ u.heap[N + 3]? = some (.cells #[.slice ad b.length cap] 22 (0, 0)) ∧ u.heap[N + 4]? = some (.cells #[.int .i64 (a : Nat)] 3 (0, 0))) := Lib.hid (fun u hu => by
      have g : ∀ {k : Nat} {o : Obj}, W.heap[k]? = some o → u.heap[k]? = some o := fun {k o} h => by rw [hu.block k (Array.getElem?_eq_some_iff.1 h).1]; exact h
      exact ⟨g d0, g d1, g d2, g d3, g d4⟩)
    have HCF : Hid (∀ u, Below W.heap.size W u → (u.cell? ⟨N, 0, none⟩ = some (.slice none 0 0) ∧ u.cell? ⟨N + 1, 0, none⟩ = some (.int .i64 0) ∧ u.cell? ⟨N + 2, 0, none⟩ = some (.int .i64 0) ∧ u.cell? ⟨N + 3, 0, none⟩ = some (.slice ad b.length cap) ∧ u.cell? ⟨N + 4, 0, none⟩ = some (.int .i64 (a : Nat))) ∧
        (u.frozen? ⟨N, 0, none⟩ = false ∧ u.frozen? ⟨N + 1, 0, none⟩ = false ∧ u.frozen? ⟨N + 2, 0, none⟩ = false ∧ u.frozen? ⟨N + 3, 0, none⟩ = false ∧ u.frozen? ⟨N + 4, 0, none⟩ = false)) := Lib.hid (fun u hu => by
      obtain ⟨g0, g1, g2, g3, g4⟩ := HD0.out u hu
      refine ⟨⟨?_, ?_, ?_, ?_, ?_⟩, frozen_of_row _ _ _ _ _ g0, frozen_of_row _ _ _ _ _ g1, frozen_of_row _ _ _ _ _ g2, frozen_of_row _ _ _ _ _ g3, frozen_of_row _ _ _ _ _ g4⟩
      · rw [cell_of_row _ _ _ _ _ _ g0]; rfl
      · rw [cell_of_row _ _ _ _ _ _ g1]; rfl
      · rw [cell_of_row _ _ _ _ _ _ g2]; rfl
      · rw [cell_of_row _ _ _ _ _ _ g3]; rfl
      · rw [cell_of_row _ _ _ _ _ _ g4]; rfl)
    have HBADW : Hid (impV t = ([], a, 24) → ∀ u, Below W.heap.size W u → Keeps (fun k => N ≤ k ∧ k ≤ N + 4 ∨ N + 8 ≤ k) W (((u.setCell ⟨N, 0, none⟩ (.slice none 0 0)).setCell ⟨N + 1, 0, none⟩ (.int .i64 (a : Nat))).setCell ⟨N + 2, 0, none⟩ (.int .i64 24)).drew ∧
        BoxX t w N .ret (pre ++ [x]) (((u.setCell ⟨N, 0, none⟩ (.slice none 0 0)).setCell ⟨N + 1, 0, none⟩ (.int .i64 (a : Nat))).setCell ⟨N + 2, 0, none⟩ (.int .i64 24)).drew) := Lib.hid (fun hV u hu => by
      obtain ⟨g0, g1, g2, _, _⟩ := HD0.out u hu
      obtain ⟨W', hW', e0, e1, e2, ek⟩ := three_sets u N _ _ _ (.slice none 0 0) (.int .i64 (a : Nat)) (.int .i64 24) _ _ _ g0 g1 g2
      rw [← hW']
      have kb : Keeps (fun k => N ≤ k ∧ k ≤ N + 4 ∨ N + 8 ≤ k) W u := (Keeps.of_below hu).mono (fun k hk hs => by omega)
      refine ⟨(kb.trans ek (fun k _ h => by omega)).drew, rfl, a, hV, e0, e1, e2, ?_⟩
      exact ((H5.out.trans (Keeps.of_below hu) (fun k hk hs => by have := H5.out.size; omega)).trans ek (fun k hk hs => by have := HNN.out; omega)).drew)
    rcases hcase with ⟨e, g, hn, n1, n2, hxe, hrg, hg⟩ | ⟨hn, hxe⟩
    · obtain ⟨_, _, n3, _⟩ := nlAt_spec t _ a e hn
      have hxs : x.size = e + 1 - a := by rw [hxe, ByteArray.size_extract]; omega
      have hxi : (a : Int) + (x.size : Int) = (e : Int) + 1 := by omega
      have hwr : IntKind.i64.wrap ((a : Int) + (x.size : Int)) = ((e + 1 : Nat) : Int) := by rw [IntKind.wrap_i64]; omega
      have HCUT : Hid (∀ q, Calls Tryz.prog 35 #[.string x, .string { data := #[10] }] q fun r w' => r = .returned (.tuple #[.string (t.extract a e), .bool true]) ∧ q = w') := Lib.hid (fun q => by rw [hxe]; exact cutS_yes t a e q n1 n2 n3 hs)
      obtain ⟨s, hse⟩ : ∃ s, s = t.extract a e := ⟨_, rfl⟩
      have hss : s.size ≤ 1099511627776 := by rw [hse, ByteArray.size_extract]; omega
      have HNX : Hid (∀ b' v' wn hs', stepB b s = some b' → Own (N + 8) wn v' hs' b' → ImpRel t (N + 8) v' (e + 1) wn) := Lib.hid (fun b' v' wn hs' hst ho => by
        rw [hse] at hst
        obtain ⟨f', g1, g2, g3⟩ := imp_next hlt hn hst HF.out HBT.out HI.out
        exact ⟨f', hs', b', ho, g1, g2, g3⟩)
      have HBAD : Hid (stepB b s = none → impV t = ([], a, 24)) := Lib.hid (fun h => imp_bad hlt (.inr ⟨e, hn, by rw [← hse]; exact h⟩) HF.out HI.out)
      have HEND : Hid (∀ u v', u.heap[N]? = some (.cells #[.slice none 0 0] 22 (0, 0)) → u.heap[N + 1]? = some (.cells #[.int .i64 0] 3 (0, 0)) → u.heap[N + 2]? = some (.cells #[.int .i64 0] 25 (0, 0)) → u.heap[N + 3]? = some (.cells #[v'] 22 (0, 0)) → u.heap[N + 4]? = some (.cells #[.int .i64 (a : Nat)] 3 (0, 0)) → ImpRel t (N + 8) v' (e + 1) u →
          Keeps (fun k => N ≤ k ∧ k ≤ N + 4 ∨ N + 8 ≤ k) W u → Keeps (fun k => N ≤ k ∧ k ≤ N + 4 ∨ N + 8 ≤ k) W (u.setCell ⟨N + 4, 0, none⟩ (.int .i64 ((e + 1 : Nat) : Int))) ∧ BoxI t w N (pre ++ [x]) (u.setCell ⟨N + 4, 0, none⟩ (.int .i64 ((e + 1 : Nat) : Int)))) := Lib.hid (fun u v' g0 g1 g2 g3 g4 hr kb => by
        have k4 : Keeps (fun k => k = N + 4) u (u.setCell ⟨N + 4, 0, none⟩ (.int .i64 ((e + 1 : Nat) : Int))) := (Keeps.refl (fun k => k = N + 4) u).setCell (p := ⟨N + 4, 0, none⟩) (fun _ => rfl) _
        have e4 : (u.setCell ⟨N + 4, 0, none⟩ (.int .i64 ((e + 1 : Nat) : Int))).heap[N + 4]? = some (.cells #[.int .i64 ((e + 1 : Nat) : Int)] 3 (0, 0)) := by have := heap_setCell_same u (N + 4) 0 _ _ (.int .i64 ((e + 1 : Nat) : Int)) g4; simpa using this
        refine ⟨kb.trans k4 (fun k _ h => by omega), e + 1, g, v', by rw [List.append_assoc, ← h1, hxr, hrg]; rfl, by omega, by omega, k4.heap g0 (by omega), k4.heap g1 (by omega), k4.heap g2 (by omega), k4.heap g3 (by omega), e4, hr.keeps k4 (fun k hk h => by omega), ?_⟩
        exact (H5.out.trans kb (fun k hk hs => by have := HNN.out; omega)).trans k4 (fun k hk hs => by have := HNN.out; omega))
      have HPOST : Hid (∀ WX w5 v', Below W.heap.size W WX → WX.grownBy w5 (Value.slice ad b.length cap).ownBlock → ImpRel t (N + 8) v' (e + 1) w5 →
          (w5.cell? ⟨N + 3, 0, none⟩ = some (.slice ad b.length cap) ∧ w5.frozen? ⟨N + 3, 0, none⟩ = false) ∧ ((w5.setCell ⟨N + 3, 0, none⟩ v').cell? ⟨N + 4, 0, none⟩ = some (.int .i64 (a : Nat)) ∧ (w5.setCell ⟨N + 3, 0, none⟩ v').frozen? ⟨N + 4, 0, none⟩ = false) ∧
          (Keeps (fun k => N ≤ k ∧ k ≤ N + 4 ∨ N + 8 ≤ k) W ((w5.setCell ⟨N + 3, 0, none⟩ v').setCell ⟨N + 4, 0, none⟩ (.int .i64 ((e + 1 : Nat) : Int))) ∧ BoxI t w N (pre ++ [x]) ((w5.setCell ⟨N + 3, 0, none⟩ v').setCell ⟨N + 4, 0, none⟩ (.int .i64 ((e + 1 : Nat) : Int))))) := Lib.hid (fun WX w5 v' hx hg5 hr => by
        obtain ⟨g0, g1, g2, g3, g4⟩ := HD0.out WX hx
        have hlow : ∀ g, (Value.slice ad b.length cap).ownBlock = some g → N + 8 ≤ g := fun g hgg => ((HOB.out WX hx).row.lt g hgg).1
        have k5 : Keeps (fun k => N + 8 ≤ k) WX w5 := (Keeps.refl (fun k => N + 8 ≤ k) WX).grown hg5 (fun k _ e => hlow k e)
        have q0 := k5.heap g0 (by omega); have q1 := k5.heap g1 (by omega); have q2 := k5.heap g2 (by omega); have q3 := k5.heap g3 (by omega); have q4 := k5.heap g4 (by omega)
        have k6 : Keeps (fun k => k = N + 3) w5 (w5.setCell ⟨N + 3, 0, none⟩ v') := (Keeps.refl (fun k => k = N + 3) w5).setCell (p := ⟨N + 3, 0, none⟩) (fun _ => rfl) _
        have p3 : (w5.setCell ⟨N + 3, 0, none⟩ v').heap[N + 3]? = some (.cells #[v'] 22 (0, 0)) := by have := heap_setCell_same w5 (N + 3) 0 _ _ v' q3; simpa using this
        have p4 := k6.heap q4 (by omega)
        have kb : Keeps (fun k => N ≤ k ∧ k ≤ N + 4 ∨ N + 8 ≤ k) W (w5.setCell ⟨N + 3, 0, none⟩ v') := (((Keeps.of_below hx).mono (S' := fun k => N ≤ k ∧ k ≤ N + 4 ∨ N + 8 ≤ k) (fun k hk hs => by omega)).trans k5 (fun k _ h => .inr h)).trans k6 (fun k _ h => by omega)
        refine ⟨⟨by rw [cell_of_row _ _ _ _ _ _ q3]; rfl, frozen_of_row _ _ _ _ _ q3⟩, ⟨by rw [cell_of_row _ _ _ _ _ _ p4]; rfl, frozen_of_row _ _ _ _ _ p4⟩, ?_⟩
        exact HEND.out _ v' (k6.heap q0 (by omega)) (k6.heap q1 (by omega)) (k6.heap q2 (by omega)) p3 p4 (hr.keeps k6 (fun g hg h => by omega)) kb)
      have HSE := Lib.hid hse
      rw [← hse] at HCUT
      have hbl : b.length ≤ 1099511627776 := by have := hbd.1; omega
      clear h1 h2 h3 d0 d1 d2 d3 d4 h5 hown hbt himp hf' hbd hrr hxr hn n1 n2 n3 hxe hrg hg hxs hlt hse hxi
      cases h1 : hdV s with
      | some l =>
        have HST := Lib.hid (stepB_head (b := b) h1)
        have HP := Lib.hid (parse_some s l W (N + 8) HNS.out hss (HTB.out W (Below.refl _ _)).a.tabs h1)
        have HSM := Lib.hid (fun q (hq : Below W.heap.size W q) => sample_some s q hss (HTB.out q hq))
        have hbnd : hds.length + 1 ≤ 2932031007402 := by omega
        clear h1
        gi_wp2
        refine ⟨trivial, rfl, ((callsIn_wide.2 (HCUT.out _)).inRound lp).mono ?_⟩
        rintro r u0 ⟨rfl, rfl⟩
        gi_wp2
        refine ⟨trivial, rfl, ((callsIn_wide.2 HP.out).inRound lp).mono ?_⟩
        rintro r u1 ⟨⟨la, lc, rfl, hlr⟩, hb1⟩
        have HLR := Lib.hid hlr; have HB1 := Lib.hid hb1
        clear hlr hb1
        gi_wp2
        refine ⟨trivial, rfl, ((callsIn_wide.2 (HSM.out _ HB1.out)).inRound lp).mono ?_⟩
        rintro r u2 ⟨⟨z1, z2, z3, rfl⟩, hb2⟩
        have hb12 := HB1.out.trans (hb2.mono HB1.out.size)
        have HB12 := Lib.hid hb12; have HB2 := Lib.hid hb2
        obtain ⟨⟨m0, m1, m2, m3, m4⟩, k0, k1, k2, k3, k4⟩ := HCF.out _ (hb12.alloc hb12.size (.cells #[.int .i64 z1, .int .u64 z2] 56))
        have hbX : Below W.heap.size W ((u2.alloc (.cells #[.int .i64 z1, .int .u64 z2] 56)).alloc (.cells #[.slice la l.length lc, .slice none 0 0] 53)) := (hb12.alloc hb12.size _).alloc (by have := hb12.size; simp; omega) _
        have HBX := Lib.hid hbX
        have HXS : Hid (N + 8 ≤ ((u2.alloc (.cells #[.int .i64 z1, .int .u64 z2] 56)).alloc (.cells #[.slice la l.length lc, .slice none 0 0] 53)).heap.size) := Lib.hid (by have := hbX.size; have := HNS.out; omega)
        have HLX := Lib.hid (row_below (row_below HLR.out hb2) (((Below.refl u2.heap.size u2).alloc (Nat.le_refl _) (.cells #[.int .i64 z1, .int .u64 z2] 56)).alloc (by simp) (.cells #[.slice la l.length lc, .slice none 0 0] 53)))
        have n3 : (((u2.alloc (.cells #[.int .i64 z1, .int .u64 z2] 56)).alloc (.cells #[.slice la l.length lc, .slice none 0 0] 53))).cell? ⟨N + 3, 0, none⟩ = some (.slice ad b.length cap) := (HCF.out _ hbX).1.2.2.2.1
        clear hb2 hb12 hbX
        gi_wp2_with (gi_at_builtin; refine appEIn elX rfl _ _ rfl (N + 8) _ _ hds.length 1 (hdrC hds) [.slice la l.length lc, .slice none 0 0] rfl rfl (HOB.out _ HBX.out).row (rd_new2 _ _ 2 1 [.slice la l.length lc, .slice none 0 0] 53 1 rfl (Nat.le_refl _)) (one2 _ _ rfl rfl) hbnd HXS.out ?_)
        intro v' w5 hown5 hg5 hn5
        rw [← hlen] at hown5
        have hO5 := Own.push (HOB.out _ HBX.out) HLX.out hown5 hg5
        obtain ⟨⟨t1, t2⟩, ⟨t3, t4⟩, t5⟩ := HPOST.out _ w5 v' HBX.out hg5 (HNX.out _ _ _ _ HST.out hO5)
        obtain ⟨ad5, cap5, rfl⟩ := hO5.slice
        have e8 : (b ++ [(l, ([] : List Smp))]).length = b.length + 1 := by simp
        rw [e8] at t3 t4 t5 ⊢
        have HFN := Lib.hid t5
        clear hown5 hg5 hn5 hO5 t5
        gi_wp2
        exact HFN.out
      | none =>
        have HP := Lib.hid (parse_no s W hss (HTB.out W (Below.refl _ _)).a.tabs h1)
        cases h2 : smpV s with
        | none =>
          have HW := Lib.hid (HBADW.out (HBAD.out (stepB_none1 h1 h2)))
          have HSM := Lib.hid (fun q (hq : Below W.heap.size W q) => sample_no s q hss (HTB.out q hq) h2)
          clear h1 h2
          gi_wp2
          refine ⟨trivial, rfl, ((callsIn_wide.2 (HCUT.out _)).inRound lp).mono ?_⟩
          rintro r u0 ⟨rfl, rfl⟩
          gi_wp2
          refine ⟨trivial, rfl, ((callsIn_wide.2 HP.out).inRound lp).mono ?_⟩
          rintro r u1 ⟨rfl, hb1⟩
          have HB1 := Lib.hid hb1
          clear hb1
          gi_wp2
          refine ⟨trivial, rfl, ((callsIn_wide.2 (HSM.out _ HB1.out)).inRound lp).mono ?_⟩
          rintro r u2 ⟨⟨z1, z2, rfl⟩, hb2⟩
          have hb12 := HB1.out.trans (hb2.mono HB1.out.size)
          have hb3 := hb12.alloc hb12.size (.cells #[.int .i64 z1, .int .u64 z2] 56)
          obtain ⟨⟨m0, m1, m2, m3, m4⟩, k0, k1, k2, k3, k4⟩ := HCF.out _ hb3
          have HB3 := Lib.hid hb3
          clear hb2 hb12 hb3
          gi_wp2
          gi_region
          all_goals
            gi_wp2
            exact HW.out _ HB3.out
        | some x' =>
          obtain ⟨x1, x2⟩ := x'
          have HSM := Lib.hid (fun q (hq : Below W.heap.size W q) => sample_is s x1 x2 q hss (HTB.out q hq) h2)
          by_cases hb0 : b.length = 0
          · obtain rfl : b = [] := List.eq_nil_of_length_eq_zero hb0
            have HW := Lib.hid (HBADW.out (HBAD.out (stepB_none2 h1 h2)))
            clear h1 h2 hb0
            gi_wp2
            refine ⟨trivial, rfl, ((callsIn_wide.2 (HCUT.out _)).inRound lp).mono ?_⟩
            rintro r u0 ⟨rfl, rfl⟩
            gi_wp2
            refine ⟨trivial, rfl, ((callsIn_wide.2 HP.out).inRound lp).mono ?_⟩
            rintro r u1 ⟨rfl, hb1⟩
            have HB1 := Lib.hid hb1
            clear hb1
            gi_wp2
            refine ⟨trivial, rfl, ((callsIn_wide.2 (HSM.out _ HB1.out)).inRound lp).mono ?_⟩
            rintro r u2 ⟨rfl, hb2⟩
            have hb12 := HB1.out.trans (hb2.mono HB1.out.size)
            have hb3 := hb12.alloc hb12.size (.cells #[.int .i64 x1, .int .u64 x2] 56)
            obtain ⟨⟨m0, m1, m2, m3, m4⟩, k0, k1, k2, k3, k4⟩ := HCF.out _ hb3
            have HB3 := Lib.hid hb3
            clear hb2 hb12 hb3
            gi_wp2
            gi_region
            all_goals
              gi_wp2
              exact HW.out _ HB3.out
          · skip
            obtain ⟨b0, x0, rfl⟩ := snoc_of (l := b) (n := b.length - 1) (by omega)
            obtain ⟨hs0, h0, rfl⟩ := snoc_of (l := hds) (n := hds.length - 1) (by omega)
            have HST : Hid (stepB (b0 ++ [x0]) s = some (b0 ++ [(x0.1, x0.2 ++ [(x1, x2)])])) := Lib.hid (by rw [stepB_add h1 h2 (by simp), addS_snoc])
            have hx0 : x0.2.length + 1 ≤ 8796093022208 := by have := (HBD.out.2.2 x0 (by simp)).2; omega
            obtain ⟨G, cap', hv, hrow, hsr⟩ := HOWN.out.last
            have hnn : hs0.length = b0.length := by simp at hlen; omega
            have e9 : (b0 ++ [x0]).length = hs0.length + 1 := by simp; omega
            rw [e9] at hv HOB HOWN HD0 HCF
            simp only [Value.slice.injEq] at hv
            obtain ⟨rfl, _, rfl⟩ := hv
            have hj0 : (0 : Int) ≤ (hs0.length : Int) := by omega
            have hj1 : (0 : Int) < (hs0.length : Int) + 1 := by omega
            have hj2 : (hs0.length : Int) < (hs0.length : Int) + 1 := by omega
            have hjw : IntKind.i64.wrap (hs0.length : Int) = (hs0.length : Int) := by rw [IntKind.wrap_i64]; simp at hbl; omega
            obtain ⟨ha', hn', hc', sa', sn', sc'⟩ := h0
            obtain ⟨e10, _, _⟩ : sn' = x0.2.length ∧ True ∧ True := by
              obtain ⟨aa, cc, hh⟩ := row_slice hsr
              simp only [Hdr.sv, Value.slice.injEq] at hh
              exact ⟨hh.2.1, trivial, trivial⟩
            subst e10
            have HNE : Hid (∀ q, Below W.heap.size W q → q.cell? ⟨G, hs0.length * 2 + 1, none⟩ = some (.slice sa' x0.2.length sc') ∧ q.frozen? ⟨G, hs0.length * 2 + 1, none⟩ = false ∧ N + 8 ≤ G ∧ G < q.heap.size) := Lib.hid (fun q hq => by
              obtain ⟨_, _, hv2, hr2, _⟩ := (HOB.out q hq).last
              exact ser_cells hr2 (hdrC_length _))
            clear h1 h2 hb0 hlen hrow hsr hnn e9 hbl
            gi_wp2
            refine ⟨trivial, rfl, ((callsIn_wide.2 (HCUT.out _)).inRound lp).mono ?_⟩
            rintro r u0 ⟨rfl, rfl⟩
            gi_wp2
            refine ⟨trivial, rfl, ((callsIn_wide.2 HP.out).inRound lp).mono ?_⟩
            rintro r u1 ⟨rfl, hb1⟩
            have HB1 := Lib.hid hb1
            clear hb1
            gi_wp2
            refine ⟨trivial, rfl, ((callsIn_wide.2 (HSM.out _ HB1.out)).inRound lp).mono ?_⟩
            rintro r u2 ⟨rfl, hb2⟩
            have hb12 := HB1.out.trans (hb2.mono HB1.out.size)
            obtain ⟨WA, hWA⟩ : ∃ WA, WA = u2.alloc (.cells #[.int .i64 x1, .int .u64 x2] 56) := ⟨_, rfl⟩
            have hbA : Below W.heap.size W WA := by rw [hWA]; exact hb12.alloc hb12.size _
            have hrowA : WA.heap[u2.heap.size]? = some (.cells #[.int .i64 x1, .int .u64 x2] 56 (0, 0)) := by rw [hWA]; exact heap_alloc_new u2 _
            obtain ⟨⟨m0, m1, m2, m3, m4⟩, k0, k1, k2, k3, k4⟩ := HCF.out _ (hb12.alloc hb12.size (.cells #[.int .i64 x1, .int .u64 x2] 56))
            have HWA := Lib.hid hWA
            clear hWA
            gi_wp2
            rw [← HWA.out]
            obtain ⟨DD, hDD⟩ : ∃ DD, DD = u2.heap.size := ⟨_, rfl⟩
            rw [← hDD] at hrowA
            rw [← hDD]
            have d1 : WA.cell? ⟨DD, 0, none⟩ = some (.int .i64 x1) := by rw [cell_of_row _ _ _ _ _ _ hrowA]; rfl
            have d2 : WA.cell? ⟨DD, 1, none⟩ = some (.int .u64 x2) := by rw [cell_of_row _ _ _ _ _ _ hrowA]; rfl
            obtain ⟨d3, d4, d5, d6⟩ := HNE.out WA hbA
            have HSR : Hid (WA.drew.ownsRow (N + 8) 56 2 (.slice sa' x0.2.length sc') x0.2.length (smpC x0.2)) := Lib.hid (by
              obtain ⟨_, _, _, _, hq⟩ := (HOB.out WA.drew hbA.drew).last
              exact hq)
            have HSW : Hid (N + 8 ≤ (WA.drew.alloc (.cells #[.int .i64 x1, .int .u64 x2] 56)).heap.size) := Lib.hid (by have := hbA.size; have := HNS.out; simp; omega)
            have HADD : Hid (∀ sa5 sc5 w5, w5.ownsRow (N + 8) 56 2 (.slice sa5 (x0.2.length + 1) sc5) (x0.2.length + 1) (smpC x0.2 ++ [.int .i64 x1, .int .u64 x2]) → (WA.drew.alloc (.cells #[.int .i64 x1, .int .u64 x2] 56)).grownBy w5 (Value.slice sa' x0.2.length sc').ownBlock →
                (∀ g, (Value.slice sa5 (x0.2.length + 1) sc5).ownBlock = some g → (Value.slice sa' x0.2.length sc').ownBlock = some g ∨ (WA.drew.alloc (.cells #[.int .i64 x1, .int .u64 x2] 56)).heap.size ≤ g) →
                (w5.cell? ⟨G, hs0.length * 2 + 1, none⟩ = some (.slice sa' x0.2.length sc') ∧ w5.frozen? ⟨G, hs0.length * 2 + 1, none⟩ = false) ∧
                (((w5.setCell ⟨G, hs0.length * 2 + 1, none⟩ (.slice sa5 (x0.2.length + 1) sc5)).cell? ⟨N + 4, 0, none⟩ = some (.int .i64 (a : Nat)) ∧ (w5.setCell ⟨G, hs0.length * 2 + 1, none⟩ (.slice sa5 (x0.2.length + 1) sc5)).frozen? ⟨N + 4, 0, none⟩ = false) ∧
                (Keeps (fun k => N ≤ k ∧ k ≤ N + 4 ∨ N + 8 ≤ k) W ((w5.setCell ⟨G, hs0.length * 2 + 1, none⟩ (.slice sa5 (x0.2.length + 1) sc5)).setCell ⟨N + 4, 0, none⟩ (.int .i64 ((e + 1 : Nat) : Int))) ∧ BoxI t w N (pre ++ [x]) ((w5.setCell ⟨G, hs0.length * 2 + 1, none⟩ (.slice sa5 (x0.2.length + 1) sc5)).setCell ⟨N + 4, 0, none⟩ (.int .i64 ((e + 1 : Nat) : Int)))))) := Lib.hid (fun sa5 sc5 w5 hown5 hg5 hn5 => by
              have hbX : Below W.heap.size W (WA.drew.alloc (.cells #[.int .i64 x1, .int .u64 x2] 56)) := hbA.drew.alloc hbA.size _
              have ho := HOB.out _ hbX
              obtain ⟨_, _, _, hr2, hs2⟩ := ho.last
              have hser := row_grown hr2 hg5 (fun g hv => own_ne hr2 hs2 (by decide) hv)
              have hc := ser_cells hser (hdrC_length _)
              have hadd := Own.add (y := (x1, x2)) ho rfl hown5 hg5 hn5 sa5 sc5 rfl
              obtain ⟨g0, g1, g2, g3, g4⟩ := HD0.out _ hbX
              have k5 : Keeps (fun k => N + 8 ≤ k) (WA.drew.alloc (.cells #[.int .i64 x1, .int .u64 x2] 56)) w5 := (Keeps.refl (fun k => N + 8 ≤ k) _).grown hg5 (fun k _ e => (hs2.lt k e).1)
              have k6 : Keeps (fun k => k = G) w5 (w5.setCell ⟨G, hs0.length * 2 + 1, none⟩ (.slice sa5 (x0.2.length + 1) sc5)) := (Keeps.refl (fun k => k = G) w5).setCell (p := ⟨G, hs0.length * 2 + 1, none⟩) (fun _ => rfl) _
              have hG8 := hc.2.2.1
              have q4 := k6.heap (k5.heap g4 (by omega)) (by omega)
              have kb : Keeps (fun k => N ≤ k ∧ k ≤ N + 4 ∨ N + 8 ≤ k) W (w5.setCell ⟨G, hs0.length * 2 + 1, none⟩ (.slice sa5 (x0.2.length + 1) sc5)) := (((Keeps.of_below hbX).mono (S' := fun k => N ≤ k ∧ k ≤ N + 4 ∨ N + 8 ≤ k) (fun k hk hs => by have := HNS.out; omega)).trans k5 (fun k _ h => .inr h)).trans k6 (fun k _ h => by omega)
              refine ⟨⟨hc.1, hc.2.1⟩, ⟨by rw [cell_of_row _ _ _ _ _ _ q4]; rfl, frozen_of_row _ _ _ _ _ q4⟩, ?_⟩
              exact HEND.out _ _ (k6.heap (k5.heap g0 (by omega)) (by omega)) (k6.heap (k5.heap g1 (by omega)) (by omega)) (k6.heap (k5.heap g2 (by omega)) (by omega)) (k6.heap (k5.heap g3 (by omega)) (by omega)) q4 (HNX.out _ _ _ _ HST.out hadd) kb)
            clear hb2 hb12 hbA hrowA hDD m0 m1 m2 m3 m4 k0 k1 k2 k3 k4
            refine wpIn_region_law (by kernel_rfl) (by kernel_rfl) (fun ⟨_, _, h⟩ => h) ?_
            refine wpAny_take (i := 0) (v := ?_) rfl (by kernel_rfl) (by kernel_rfl) (by kernel_rfl) (fun _ _ _ h => h) (Or.inl ⟨by rfl, ?_⟩) ?_
            rotate_left
            · intro w; go_simp; try with_reducible rfl
            refine wpAny_take (i := 1) (v := ?_) rfl (by kernel_rfl) (by kernel_rfl) (by kernel_rfl) (fun _ _ _ h => h) (Or.inl ⟨by rfl, ?_⟩) ?_
            rotate_left
            · intro w; go_simp; try with_reducible rfl
            refine wpAny_take (i := 2) (v := ?_) rfl (by kernel_rfl) (by kernel_rfl) (by kernel_rfl) (fun _ _ _ h => h) (Or.inl ⟨by rfl, ?_⟩) ?_
            rotate_left
            · intro w; go_simp; try with_reducible rfl
            refine wpAny_take (i := 3) (v := ?_) rfl (by kernel_rfl) (by kernel_rfl) (by kernel_rfl) (fun _ _ _ h => h) (Or.inl ⟨by rfl, ?_⟩) ?_
            rotate_left
            · intro w; go_simp; try with_reducible rfl
            refine wpAny_ready (rs := [4, 5]) (by kernel_rfl) (by simp) ?_
            refine AllReady.cons rfl (fun K hK => ?_) (AllReady.cons rfl (fun K hK => ?_) AllReady.nil)
            · skip
              go_simp
              refine hK _ _ ?_; clear hK K
              refine wpAny_ready (rs := [5]) (by kernel_rfl) (by simp) ?_
              refine AllReady.cons rfl (fun K hK => ?_) AllReady.nil
              go_simp
              refine hK _ _ ?_; clear hK K
              refine wpAny_ready (rs := [6]) (by kernel_rfl) (by simp) ?_
              refine AllReady.cons rfl (fun K hK => ?_) AllReady.nil
              go_simp
              refine hK _ _ ?_; clear hK K
              refine wpAny_ready (rs := [7]) (by kernel_rfl) (by simp) ?_
              refine AllReady.cons rfl (fun K hK => ?_) AllReady.nil
              refine sappE elM rfl _ _ rfl (N + 8) _ _ x0.2.length 1 _ [.int .i64 x1, .int .u64 x2] rfl rfl (HSR.out.alloc _) (rd_new _ 2 1 [.int .i64 x1, .int .u64 x2] 56 1 rfl (Nat.le_refl _)) (one2 _ _ rfl rfl) hx0 HSW.out ?_
              intro v' w5 hown5 hg5 hn5
              obtain ⟨sa5, sc5, rfl⟩ := row_slice hown5
              have hadd := HADD.out _ _ w5 hown5 hg5 hn5
              obtain ⟨s1, s2⟩ := hadd.1
              obtain ⟨s3, s4⟩ := hadd.2.1
              have HAD := Lib.hid hadd.2.2
              clear hadd hown5 hg5 hn5
              try go_simp
              refine hK _ _ ?_; clear hK K
              refine wpAny_take (i := 8) (v := ?_) rfl (by kernel_rfl) (by kernel_rfl) (by kernel_rfl) (fun _ _ _ h => h) (Or.inl ⟨by rfl, ?_⟩) ?_
              rotate_left
              · intro w; go_simp; try with_reducible rfl
              refine wpAny_take (i := 9) (v := ?_) rfl (by kernel_rfl) (by kernel_rfl) (by kernel_rfl) (fun _ _ _ h => h) (Or.inl ⟨by rfl, ?_⟩) ?_
              rotate_left
              · intro w; go_simp; try with_reducible rfl
              refine wpAny_ready (rs := [10]) (by kernel_rfl) (by simp) ?_
              refine AllReady.cons rfl (fun K hK => ?_) AllReady.nil
              go_simp
              refine hK _ _ ?_; clear hK K
              refine wpAny_done (by kernel_rfl) ?_ _
              gi_wp2
              exact HAD.out
            · skip
              go_simp
              refine hK _ _ ?_; clear hK K
              refine wpAny_ready (rs := [4, 6]) (by kernel_rfl) (by simp) ?_
              refine AllReady.cons rfl (fun K hK => ?_) (AllReady.cons rfl (fun K hK => ?_) AllReady.nil)
              · skip
                go_simp
                refine hK _ _ ?_; clear hK K
                refine wpAny_ready (rs := [6]) (by kernel_rfl) (by simp) ?_
                refine AllReady.cons rfl (fun K hK => ?_) AllReady.nil
                go_simp
                refine hK _ _ ?_; clear hK K
                refine wpAny_ready (rs := [7]) (by kernel_rfl) (by simp) ?_
                refine AllReady.cons rfl (fun K hK => ?_) AllReady.nil
                refine sappE elM rfl _ _ rfl (N + 8) _ _ x0.2.length 1 _ [.int .i64 x1, .int .u64 x2] rfl rfl (HSR.out.alloc _) (rd_new _ 2 1 [.int .i64 x1, .int .u64 x2] 56 1 rfl (Nat.le_refl _)) (one2 _ _ rfl rfl) hx0 HSW.out ?_
                intro v' w5 hown5 hg5 hn5
                obtain ⟨sa5, sc5, rfl⟩ := row_slice hown5
                have hadd := HADD.out _ _ w5 hown5 hg5 hn5
                obtain ⟨s1, s2⟩ := hadd.1
                obtain ⟨s3, s4⟩ := hadd.2.1
                have HAD := Lib.hid hadd.2.2
                clear hadd hown5 hg5 hn5
                try go_simp
                refine hK _ _ ?_; clear hK K
                refine wpAny_take (i := 8) (v := ?_) rfl (by kernel_rfl) (by kernel_rfl) (by kernel_rfl) (fun _ _ _ h => h) (Or.inl ⟨by rfl, ?_⟩) ?_
                rotate_left
                · intro w; go_simp; try with_reducible rfl
                refine wpAny_take (i := 9) (v := ?_) rfl (by kernel_rfl) (by kernel_rfl) (by kernel_rfl) (fun _ _ _ h => h) (Or.inl ⟨by rfl, ?_⟩) ?_
                rotate_left
                · intro w; go_simp; try with_reducible rfl
                refine wpAny_ready (rs := [10]) (by kernel_rfl) (by simp) ?_
                refine AllReady.cons rfl (fun K hK => ?_) AllReady.nil
                go_simp
                refine hK _ _ ?_; clear hK K
                refine wpAny_done (by kernel_rfl) ?_ _
                gi_wp2
                exact HAD.out
              · skip
                go_simp
                refine hK _ _ ?_; clear hK K
                refine wpAny_ready (rs := [4]) (by kernel_rfl) (by simp) ?_
                refine AllReady.cons rfl (fun K hK => ?_) AllReady.nil
                go_simp
                refine hK _ _ ?_; clear hK K
                refine wpAny_ready (rs := [7]) (by kernel_rfl) (by simp) ?_
                refine AllReady.cons rfl (fun K hK => ?_) AllReady.nil
                refine sappE elM rfl _ _ rfl (N + 8) _ _ x0.2.length 1 _ [.int .i64 x1, .int .u64 x2] rfl rfl (HSR.out.alloc _) (rd_new _ 2 1 [.int .i64 x1, .int .u64 x2] 56 1 rfl (Nat.le_refl _)) (one2 _ _ rfl rfl) hx0 HSW.out ?_
                intro v' w5 hown5 hg5 hn5
                obtain ⟨sa5, sc5, rfl⟩ := row_slice hown5
                have hadd := HADD.out _ _ w5 hown5 hg5 hn5
                obtain ⟨s1, s2⟩ := hadd.1
                obtain ⟨s3, s4⟩ := hadd.2.1
                have HAD := Lib.hid hadd.2.2
                clear hadd hown5 hg5 hn5
                try go_simp
                refine hK _ _ ?_; clear hK K
                refine wpAny_take (i := 8) (v := ?_) rfl (by kernel_rfl) (by kernel_rfl) (by kernel_rfl) (fun _ _ _ h => h) (Or.inl ⟨by rfl, ?_⟩) ?_
                rotate_left
                · intro w; go_simp; try with_reducible rfl
                refine wpAny_take (i := 9) (v := ?_) rfl (by kernel_rfl) (by kernel_rfl) (by kernel_rfl) (fun _ _ _ h => h) (Or.inl ⟨by rfl, ?_⟩) ?_
                rotate_left
                · intro w; go_simp; try with_reducible rfl
                refine wpAny_ready (rs := [10]) (by kernel_rfl) (by simp) ?_
                refine AllReady.cons rfl (fun K hK => ?_) AllReady.nil
                go_simp
                refine hK _ _ ?_; clear hK K
                refine wpAny_done (by kernel_rfl) ?_ _
                gi_wp2
                exact HAD.out
    · have hxs : x.size ≤ 1099511627776 := by rw [hxe, rest_size]; omega
      have HCUT : Hid (∀ q, Calls Tryz.prog 35 #[.string x, .string { data := #[10] }] q fun r w' => r = .returned (.tuple #[.string x, .bool false]) ∧ q = w') := Lib.hid (fun q => cutS_no x q (by rw [hxe]; exact no_nl h3 hn) hxs)
      have HW := Lib.hid (HBADW.out (imp_bad hlt (.inl hn) HF.out HI.out))
      have HP := Lib.hid (parse_gen x W hxs (HTB.out W (Below.refl _ _)).a.tabs)
      have HSM := Lib.hid (fun q (hq : Below W.heap.size W q) => sample_some x q hxs (HTB.out q hq))
      clear h1 h2 h3 d0 d1 d2 d3 d4 h5 hown hbt himp hf' hbd hrr hxr hn hxe hlt
      gi_wp2
      refine ⟨trivial, rfl, ((callsIn_wide.2 (HCUT.out _)).inRound lp).mono ?_⟩
      rintro r u0 ⟨rfl, rfl⟩
      gi_wp2
      refine ⟨trivial, rfl, ((callsIn_wide.2 HP.out).inRound lp).mono ?_⟩
      rintro r u1 ⟨⟨la, ln, lc, c, rfl⟩, hb1⟩
      have HB1 := Lib.hid hb1
      clear hb1
      gi_wp2
      refine ⟨trivial, rfl, ((callsIn_wide.2 (HSM.out _ HB1.out)).inRound lp).mono ?_⟩
      rintro r u2 ⟨⟨z1, z2, z3, rfl⟩, hb2⟩
      have hb12 := HB1.out.trans (hb2.mono HB1.out.size)
      have hb3 := hb12.alloc hb12.size (.cells #[.int .i64 z1, .int .u64 z2] 56)
      obtain ⟨⟨m0, m1, m2, m3, m4⟩, k0, k1, k2, k3, k4⟩ := HCF.out _ hb3
      have HB3 := Lib.hid hb3
      clear hb2 hb12 hb3
      gi_wp2
      gi_region
      all_goals
        gi_wp2
        exact HW.out _ HB3.out
  case done =>
    rintro D xs W rfl ⟨a, f, v, h1, h2, h3, d0, d1, d2, d3, d4, h4, h5⟩ hD hK
    have hnil : linesB f (t.extract a t.size) = [] := by simpa using h1
    obtain rfl := lines_end h3 h2 hnil
    obtain ⟨f', hds, b, hown, hbt, himp, hf'⟩ := h4
    have hbd := blo_bounds hbt hs
    have HV := Lib.hid (imp_end (Nat.lt_irrefl _) hf' (Nat.le_refl _) himp)
    have hwf : TabsN W := HT.out.below (h5.below (Nat.le_refl _) (fun _ _ h => h.elim))
    have HCK := Lib.hid (mCheck_any v hds b W hown.rd (by rw [hown.len]; omega) (by omega) (fun x hx => (hbd.2.2 x hx).1))
    have HOWN := Lib.hid hown; have H5 := Lib.hid h5
    obtain ⟨E, hE⟩ : ∃ E, E = modE b := ⟨_, rfl⟩
    rw [← hE] at HCK HV
    obtain ⟨ad, cap, rfl⟩ := hown.slice
    have q3 : W.cell? ⟨N + 3, 0, none⟩ = some (.slice ad b.length cap) := by rw [cell_of_row _ _ _ _ _ _ d3]; rfl
    have HD0 : Hid (∀ u, Below W.heap.size W u → u.heap[N]? = some (.cells #[.slice none 0 0] 22 (0, 0)) ∧ u.heap[N + 1]? = some (.cells #[.int .i64 0] 3 (0, 0)) ∧ u.heap[N + 2]? = some (.cells #[.int .i64 0] 25 (0, 0)) ∧ u.heap[N + 3]? = some (.cells #[.slice ad b.length cap] 22 (0, 0)) ∧ u.heap[N + 4]? = some (.cells #[.int .i64 (t.size : Nat)] 3 (0, 0)) ∧ u.heap[D]? = some (.deferred (some []))) := Lib.hid (fun u hu => by
      have g : ∀ {k : Nat} {o : Obj}, W.heap[k]? = some o → u.heap[k]? = some o := fun {k o} h => by rw [hu.block k (Array.getElem?_eq_some_iff.1 h).1]; exact h
      exact ⟨g d0, g d1, g d2, g d3, g d4, g hK⟩)
    have HNW : Hid (N ≤ W.heap.size) := Lib.hid (by have := (Array.getElem?_eq_some_iff.1 d0).1; omega)
    clear h1 h2 h3 d0 d1 d2 d3 d4 h5 hnil hown hbt himp hf' hbd hE hK
    gi_wp2
    refine ⟨trivial, rfl, (callsIn_wide.2 HCK.out).mono ?_⟩
    rintro e w1 ⟨rfl, hb1⟩
    obtain ⟨d0, d1, d2, d3, d4, dD⟩ := HD0.out _ hb1
    have x0 : w1.cell? ⟨N, 0, none⟩ = some (.slice none 0 0) := by rw [cell_of_row _ _ _ _ _ _ d0]; rfl
    have x1 : w1.cell? ⟨N + 1, 0, none⟩ = some (.int .i64 0) := by rw [cell_of_row _ _ _ _ _ _ d1]; rfl
    have x2 : w1.cell? ⟨N + 2, 0, none⟩ = some (.int .i64 0) := by rw [cell_of_row _ _ _ _ _ _ d2]; rfl
    have x3 : w1.cell? ⟨N + 3, 0, none⟩ = some (.slice ad b.length cap) := by rw [cell_of_row _ _ _ _ _ _ d3]; rfl
    have x4 : w1.cell? ⟨N + 4, 0, none⟩ = some (.int .i64 (t.size : Nat)) := by rw [cell_of_row _ _ _ _ _ _ d4]; rfl
    have y0 : w1.frozen? ⟨N, 0, none⟩ = false := frozen_of_row _ _ _ _ _ d0
    have y1 : w1.frozen? ⟨N + 1, 0, none⟩ = false := frozen_of_row _ _ _ _ _ d1
    have y2 : w1.frozen? ⟨N + 2, 0, none⟩ = false := frozen_of_row _ _ _ _ _ d2
    have HO1 := Lib.hid (HOWN.out.below hb1)
    have HK1 : Hid (Keeps (fun _ => False) w w1) := Lib.hid (H5.out.trans (Keeps.of_below hb1) (fun k hk hs => by have := H5.out.size; omega))
    have FIN : Hid (∀ u0 u1 u2, ∃ W', W' = (((w1.setCell ⟨N, 0, none⟩ u0).setCell ⟨N + 1, 0, none⟩ u1).setCell ⟨N + 2, 0, none⟩ u2).drew ∧ W'.heap[D]? = some (.deferred (some [])) ∧
        (W'.putObj D (.deferred none)).cell? ⟨N, 0, none⟩ = some u0 ∧ (W'.putObj D (.deferred none)).cell? ⟨N + 1, 0, none⟩ = some u1 ∧ (W'.putObj D (.deferred none)).cell? ⟨N + 2, 0, none⟩ = some u2 ∧ Own w.heap.size (W'.putObj D (.deferred none)) (.slice ad b.length cap) hds b ∧ Below w.heap.size w (W'.putObj D (.deferred none))) := Lib.hid (fun u0 u1 u2 => by
      obtain ⟨W', hW', e0, e1, e2, ek⟩ := three_sets w1 N _ _ _ u0 u1 u2 _ _ _ d0 d1 d2
      have hDN : N + 6 ≤ D := by omega
      have eD : W'.heap[D]? = some (.deferred (some [])) := ek.heap dD (by omega)
      refine ⟨W'.drew, by rw [hW'], eD, ?_, ?_, ?_, ?_, ?_⟩
      · have : (W'.drew.putObj D (.deferred none)).heap[N]? = some (.cells #[u0] 22 (0, 0)) := (World.putObj_heap_other (by omega)).trans e0
        rw [cell_of_row _ _ _ _ _ _ this]; rfl
      · have : (W'.drew.putObj D (.deferred none)).heap[N + 1]? = some (.cells #[u1] 3 (0, 0)) := (World.putObj_heap_other (by omega)).trans e1
        rw [cell_of_row _ _ _ _ _ _ this]; rfl
      · have : (W'.drew.putObj D (.deferred none)).heap[N + 2]? = some (.cells #[u2] 25 (0, 0)) := (World.putObj_heap_other (by omega)).trans e2
        rw [cell_of_row _ _ _ _ _ _ this]; rfl
      · have ho : Own (N + 8) W'.drew (.slice ad b.length cap) hds b := HO1.out.keeps (ek.drew) (fun g hg hs => by omega)
        exact (ho.put eD).base (by have := HNN.out; omega)
      · have kk : Keeps (fun _ => False) w W'.drew := (HK1.out.trans ek (fun k hk hs => by have := HNN.out; omega)).drew
        exact (kk.trans (Keeps.putObj (S := fun k => k = D) _ _ _ rfl) (fun k hk e => by have := HNN.out; omega)).below (Nat.le_refl _) (fun _ _ h => h.elim))
    clear hb1 d0 d1 d2 d3 d4 dD
    by_cases hz : E = 0
    · subst hz
      gi_wp2
      gi_region
      all_goals
        gi_wp2
        obtain ⟨W', hW', eD, z0, z1, z2, ho, hbl⟩ := FIN.out (.slice ad b.length cap) (.int .i64 (t.size : Nat)) (.int .i64 0)
        rw [← hW']
        refine ⟨by simp, .inl ⟨_, _, rfl, run_takeDeferred eD, ?_⟩⟩
        refine ⟨.tuple #[.slice ad b.length cap, .int .i64 (t.size : Nat), .int .i64 0], by simp [results, Tryz.results13, go_sem, z0, z1, z2], ⟨_, hds, b, t.size, 0, by rw [HV.out]; simp, rfl, ho⟩, hbl⟩
    · have hn : (E != 0) = true := by simpa using hz
      have HV2 : Hid (impV t = ([], t.size, E)) := Lib.hid (by rw [HV.out, if_pos hz])
      clear hz
      gi_wp2
      gi_region
      all_goals
        gi_wp2
        obtain ⟨W', hW', eD, z0, z1, z2, ho, hbl⟩ := FIN.out (.slice none 0 0) (.int .i64 (t.size : Nat)) (.int .i64 E)
        rw [← hW']
        refine ⟨by simp, .inl ⟨_, _, rfl, run_takeDeferred eD, ?_⟩⟩
        refine ⟨.tuple #[.slice none 0 0, .int .i64 (t.size : Nat), .int .i64 E], by simp [results, Tryz.results13, go_sem, z0, z1, z2], ⟨_, [], [], t.size, E, HV2.out, rfl, Own.nil _ _⟩, hbl⟩
  case stop =>
    rintro D c pre W hsp ⟨rfl, a, h1, d0, d1, d2, h5⟩ hD hK
    have HV := Lib.hid h1; have H5 := Lib.hid h5
    have hDN : N + 6 ≤ D := by omega
    have z0 : (W.putObj D (.deferred none)).cell? ⟨N, 0, none⟩ = some (.slice none 0 0) := by
      have : (W.putObj D (.deferred none)).heap[N]? = some (.cells #[.slice none 0 0] 22 (0, 0)) := (World.putObj_heap_other (by omega)).trans d0
      rw [cell_of_row _ _ _ _ _ _ this]; rfl
    have z1 : (W.putObj D (.deferred none)).cell? ⟨N + 1, 0, none⟩ = some (.int .i64 (a : Nat)) := by
      have : (W.putObj D (.deferred none)).heap[N + 1]? = some (.cells #[.int .i64 (a : Nat)] 3 (0, 0)) := (World.putObj_heap_other (by omega)).trans d1
      rw [cell_of_row _ _ _ _ _ _ this]; rfl
    have z2 : (W.putObj D (.deferred none)).cell? ⟨N + 2, 0, none⟩ = some (.int .i64 24) := by
      have : (W.putObj D (.deferred none)).heap[N + 2]? = some (.cells #[.int .i64 24] 25 (0, 0)) := (World.putObj_heap_other (by omega)).trans d2
      rw [cell_of_row _ _ _ _ _ _ this]; rfl
    clear h1 h5 d0 d1 d2
    gi_wp2
    refine ⟨by simp, .inl ⟨_, _, rfl, run_takeDeferred hK, ?_⟩⟩
    refine ⟨.tuple #[.slice none 0 0, .int .i64 (a : Nat), .int .i64 24], by simp [results, Tryz.results13, go_sem, z0, z1, z2], ⟨_, [], [], a, 24, HV.out, rfl, Own.nil _ _⟩, ?_⟩
    exact (H5.out.trans (Keeps.putObj (S := fun k => k = D) _ _ _ rfl) (fun k hk e => by have := HNN.out; omega)).below (Nat.le_refl _) (fun _ _ h => h.elim)
end Go.Proofs.YtnoodiibkchaaaaGreatDoor
