/-
  WALKS: strings.Lines: an iterator that keeps what is left of the text in a cell of its own.
  PLAIN: the lines that strings.Lines yields, by places in the text; cutting the newline off. No walk here.
-/
import Derived.Test.YtnoodiibkchaaaaGreatDoorXImp
import Derived.Test.YtnoodiibkchaaaaGreatDoorXRng
import Derived.Shelf.RegionOpen
import Derived.TacticsInMore
import Derived.LoopNIn
import Derived.LoopIn
import Derived.RegionIn
namespace Go.Proofs.YtnoodiibkchaaaaGreatDoor
open Go.RowKit Go.Shelf
attribute [local go_sem] Oper.semAt_some

/-- the place of the first newline, or -1 -/
def nlIx (s : ByteArray) : Int := Lib.indexByte s.data.toList 10
def linesB : Nat → ByteArray → List ByteArray
  | 0, _ => []
  | f + 1, s => if s.size = 0 then [] else if 0 ≤ nlIx s then s.extract 0 ((nlIx s).toNat + 1) :: linesB f (s.extract ((nlIx s).toNat + 1) s.size) else [s]
def linesOf (t : ByteArray) : List ByteArray := linesB (t.size + 1) t
theorem indexByte_lt : ∀ (l : List UInt8) (c : UInt8), Lib.indexByte l c < l.length
  | [], c => by simp [Lib.indexByte]
  | b :: l, c => by
    have ih := indexByte_lt l c
    rw [Lib.indexByte]
    split
    · simp
    · split
      · simp only [List.length_cons]; omega
      · simp only [List.length_cons, Int.natCast_add]; omega
theorem nlIx_lt (s : ByteArray) : nlIx s < s.size := by
  have := indexByte_lt s.data.toList 10
  rw [list_len] at this
  exact this
theorem nlIx_ge (s : ByteArray) : -1 ≤ nlIx s := Lib.indexByte_ge _ _
def encS (x : ByteArray) : Array Value := #[.string x]
def leftS (w : World) (b : Nat) : Nat := match w.cell? ⟨b, 0, none⟩ with | some (.string s) => s.size | _ => 0
theorem leftS_eq {w : World} {b : Nat} {s : ByteArray} (h : w.cell? ⟨b, 0, none⟩ = some (.string s)) : leftS w b = s.size := by simp [leftS, h]
theorem frozen_kept3 {S : Nat → Prop} {a b : World} (h : Keeps S a b) {p : Addr} {v : Value} (hc : a.cell? p = some v) (hS : ¬ S p.block) : b.frozen? p = a.frozen? p :=
  World.frozen?_of_block (h.block p.block (World.block_lt_of_cell? a p hc) hS)
theorem indexNl (s : ByteArray) (w : World) : Calls Tryz.prog 63 #[.string s, .int .u8 10] w fun e w' => e = .returned (.int .i64 (nlIx s)) ∧ w = w' :=
  (Tryz.strings_IndexByte s 10 w).mono fun _ _ ⟨he, hw⟩ => ⟨he, hw.symm⟩
set_option maxRecDepth 100000 in
set_option maxHeartbeats 2000000 in
theorem lines_seq (Bn : Nat) (t : ByteArray) (w : World) (ht : t.size ≤ 1099511627776) (hc : w.cell? ⟨Bn, 0, none⟩ = some (.string t)) (hf : w.frozen? ⟨Bn, 0, none⟩ = false) :
    SeqC Tryz.prog 62 #[.pointer (some ⟨Bn, 0, none⟩)] encS (fun k => k = Bn) (fun xs => xs = linesOf t) (fun pre => pre <+: linesOf t) w := by
  intro l J Jx W hW hJ hJx hY h0
  have hc1 : W.cell? ⟨Bn, 0, none⟩ = some (.string t) := hW.cell hc (fun h => h rfl)
  have hf1 : W.frozen? ⟨Bn, 0, none⟩ = false := (frozen_kept3 hW hc (fun h => h rfl)).trans hf
  clear hc hf hW
  refine callsIn_of_wp Tryz.func62 rfl trivial ?_ rfl
  simp only [Tryz.ntmps62, List.size_toArray, List.length_cons, List.length_nil, Nat.reduceAdd, Nat.reduceSub, Array.replicate_succ, Array.replicate_zero, List.push_toArray, List.append_toArray, List.nil_append, List.cons_append]
  have HY := Lib.hid hY
  have HJ := Lib.hid hJ
  have HJx := Lib.hid hJx
  clear hY hJ hJx
  gi_wp2
  gi_loopw [] (fun wr => ∃ (f : Nat) (s : ByteArray) (pre : List ByteArray), s.size + 1 ≤ f ∧ s.size ≤ 1099511627776 ∧ pre ++ linesB f s = linesOf t ∧ wr.cell? ⟨Bn, 0, none⟩ = some (.string s) ∧ wr.frozen? ⟨Bn, 0, none⟩ = false ∧ J pre wr)
    (fun wr => leftS wr Bn)
  case atStart => exact ⟨t.size + 1, t, [], Nat.le_refl _, ht, rfl, hc1, hf1, h0⟩
  case round =>
    obtain ⟨f, s, pre, hfu, hsz, hx, hcy, hfy, hJp⟩ := hrel
    obtain ⟨g, rfl⟩ : ∃ g, f = g + 1 := ⟨f - 1, by omega⟩
    by_cases hs0 : s.size = 0
    · have hx2 : pre = linesOf t := by rw [← hx, linesB, if_pos hs0, List.append_nil]
      have HX := Lib.hid hx2; have HJ3 := Lib.hid hJp
      have hsi : (s.size : Int) ≤ 0 := by omega
      clear hx hJp hx2 hs0
      gi_wp2
      go_end0
      exact ⟨⟨_, rfl⟩, .inl ⟨_, HX.out, HJ3.out⟩⟩
    · have hsi : (0 : Int) < (s.size : Int) := by omega
      by_cases hn : 0 ≤ nlIx s
      · obtain ⟨m, hm⟩ : ∃ m : Nat, nlIx s = m := ⟨(nlIx s).toNat, by omega⟩
        have hml := nlIx_lt s
        rw [hm] at hml
        obtain ⟨line, hline⟩ : ∃ q, q = s.extract 0 (m + 1) := ⟨_, rfl⟩
        obtain ⟨rest, hrest⟩ : ∃ q, q = s.extract (m + 1) s.size := ⟨_, rfl⟩
        have hst : linesB (g + 1) s = line :: linesB g rest := by rw [linesB, if_neg hs0, if_pos hn, hm, Int.toNat_natCast, hline, hrest]
        rw [hst] at hx
        have hpx : pre ++ [line] <+: linesOf t := ⟨linesB g rest, by rw [← hx]; simp⟩
        have hrs : rest.size + (m + 1) = s.size := by rw [hrest, ByteArray.size_extract]; omega
        obtain ⟨W2, hW2⟩ : ∃ W2, W2 = (wr.setCell ⟨Bn, 0, none⟩ (.string rest)).drew := ⟨_, rfl⟩
        have hk2 : Keeps (fun k => k = Bn) wr W2 := by rw [hW2]; exact ((Keeps.refl (fun k => k = Bn) wr).setCell (p := ⟨Bn, 0, none⟩) (fun _ => rfl) _).drew
        have hc2 : W2.cell? ⟨Bn, 0, none⟩ = some (.string rest) := by
          have : (wr.setCell ⟨Bn, 0, none⟩ (.string rest)).cell? ⟨Bn, 0, none⟩ = some (.string rest) := World.cell?_setCell_same' _ _ _ (by rw [hcy]; rfl)
          rw [hW2]; exact this
        have hf2 : W2.frozen? ⟨Bn, 0, none⟩ = false := by
          have : (wr.setCell ⟨Bn, 0, none⟩ (.string rest)).frozen? ⟨Bn, 0, none⟩ = false := by rw [World.frozen?_setCell]; exact hfy
          rw [hW2]; exact this
        obtain ⟨fn, tmps, assign, body, hyy, hR⟩ := HY.out pre line W2 (HJ.out _ _ _ hJp hk2) hpx
        simp only [encS] at hyy
        have HI : Hid (∀ w, CallsIn Fence.wide 0 Tryz.prog 63 #[.string s, .int .u8 10] w fun e w' => e = .returned (.int .i64 (m : Nat)) ∧ w = w') := Lib.hid (fun w => callsIn_wide.2 (by have := indexNl s w; rwa [hm] at this))
        have Hx := Lib.hid hx; have Hpx := Lib.hid hpx; have HW2 := Lib.hid hW2
        have Hline := Lib.hid hline; have Hrest := Lib.hid hrest
        have hm0 : (0 : Int) ≤ (m : Int) := by omega
        have hm1 : (m : Int) + 1 ≤ (s.size : Int) := by omega
        have hm2 : (0 : Int) ≤ (m : Int) + 1 := by omega
        have hm3 : IntKind.i64.wrap ((m : Int) + 1) = (m : Int) + 1 := by rw [IntKind.wrap_i64]; omega
        have hm4 : ((m : Int) + 1).toNat = m + 1 := by omega
        clear hx hpx hJp hst hline hrest hW2 hk2 hn hs0 hm hml
        gi_wp2
        refine ⟨trivial, rfl, (HI.out _).mono ?_⟩
        rintro e w1 ⟨rfl, rfl⟩
        gi_wp2
        gi_region
        rw [← Hrest.out, ← Hline.out, ← HW2.out]
        gi_wp2
        refine ⟨rfl, hR.mono ?_⟩
        rintro e W3 (⟨rfl, hJ3, hk3⟩ | ⟨rfl, hJx3, hk3⟩)
        · have hc3 : W3.cell? ⟨Bn, 0, none⟩ = some (.string rest) := hk3.cell hc2 (fun h => h rfl)
          have hf3 : W3.frozen? ⟨Bn, 0, none⟩ = false := (frozen_kept3 hk3 hc2 (fun h => h rfl)).trans hf2
          have HJ3 := Lib.hid hJ3
          clear hJ3 hk3
          gi_wp2
          refine ⟨⟨g, rest, pre ++ [line], by omega, by omega, by rw [← Hx.out]; simp, hc3, hf3, HJ3.out⟩, ?_⟩
          rw [leftS_eq hc3, leftS_eq hcy]; omega
        · have HJ3 := Lib.hid hJx3
          clear hJx3 hk3
          gi_wp2
          refine bodyPost_ret (results_none rfl _ _ _) rfl ?_
          exact ⟨⟨_, rfl⟩, .inr ⟨_, Hpx.out, HJ3.out⟩⟩
      · have hst : linesB (g + 1) s = [s] := by rw [linesB, if_neg hs0, if_neg hn]
        rw [hst] at hx
        have hpx : pre ++ [s] <+: linesOf t := ⟨[], by rw [← hx]; simp⟩
        have hni : nlIx s = -1 := by have := nlIx_ge s; omega
        obtain ⟨W2, hW2⟩ : ∃ W2, W2 = wr.setCell ⟨Bn, 0, none⟩ (.string { data := #[] }) := ⟨_, rfl⟩
        have hk2 : Keeps (fun k => k = Bn) wr W2 := by rw [hW2]; exact (Keeps.refl (fun k => k = Bn) wr).setCell (p := ⟨Bn, 0, none⟩) (fun _ => rfl) _
        have hc2 : W2.cell? ⟨Bn, 0, none⟩ = some (.string { data := #[] }) := by rw [hW2]; exact World.cell?_setCell_same' _ _ _ (by rw [hcy]; rfl)
        have hf2 : W2.frozen? ⟨Bn, 0, none⟩ = false := by rw [hW2, World.frozen?_setCell]; exact hfy
        obtain ⟨fn, tmps, assign, body, hyy, hR⟩ := HY.out pre s W2 (HJ.out _ _ _ hJp hk2) hpx
        simp only [encS] at hyy
        have HI : Hid (∀ w, CallsIn Fence.wide 0 Tryz.prog 63 #[.string s, .int .u8 10] w fun e w' => e = .returned (.int .i64 (-1)) ∧ w = w') := Lib.hid (fun w => callsIn_wide.2 (by have := indexNl s w; rwa [hni] at this))
        have Hx := Lib.hid hx; have Hpx := Lib.hid hpx; have HW2 := Lib.hid hW2
        clear hx hpx hJp hst hW2 hk2 hn hs0 hni
        gi_wp2
        refine ⟨trivial, rfl, (HI.out _).mono ?_⟩
        rintro e w1 ⟨rfl, rfl⟩
        gi_wp2
        rw [← HW2.out, hyy]
        gi_wp2
        refine ⟨rfl, hR.mono ?_⟩
        rintro e W3 (⟨rfl, hJ3, hk3⟩ | ⟨rfl, hJx3, hk3⟩)
        · have hc3 : W3.cell? ⟨Bn, 0, none⟩ = some (.string { data := #[] }) := hk3.cell hc2 (fun h => h rfl)
          have hf3 : W3.frozen? ⟨Bn, 0, none⟩ = false := (frozen_kept3 hk3 hc2 (fun h => h rfl)).trans hf2
          have HJ3 := Lib.hid hJ3
          clear hJ3 hk3
          gi_wp2
          have hz0 : ({ data := #[] } : ByteArray).size = 0 := rfl
          refine ⟨⟨1, { data := #[] }, pre ++ [s], by rw [hz0]; omega, by rw [hz0]; omega, by rw [← Hx.out, linesB, if_pos hz0, List.append_nil], hc3, hf3, HJ3.out⟩, ?_⟩
          rw [leftS_eq hc3, leftS_eq hcy, hz0]; omega
        · have HJ3 := Lib.hid hJx3
          clear hJx3 hk3
          gi_wp2
          refine bodyPost_ret (results_none rfl _ _ _) rfl ?_
          exact ⟨⟨_, rfl⟩, .inr ⟨_, Hpx.out, HJ3.out⟩⟩
theorem lines_any (t : ByteArray) (w : World) : Calls Tryz.prog 34 #[.string t] w fun e w' => e = .returned (.func (.func 62) #[] #[.pointer (some ⟨w.heap.size, 0, none⟩)]) ∧ w' = w.alloc (.cells #[.string t] 9) := by
  have hmf : ∀ (fn : Fn) (first cap : Array Value) (w : World), (Instr.makeFunc fn first cap).run Tryz.prog w = .ok (.func fn first cap) w := fun _ _ _ _ => rfl
  go_enter Tryz.func34, Tryz.ntmps34
  go_wp2
  go_ret
  exact ⟨rfl, rfl⟩
end Go.Proofs.YtnoodiibkchaaaaGreatDoor
namespace Go.Proofs.YtnoodiibkchaaaaGreatDoor
open Go.RowKit

theorem nlIx_at (t : ByteArray) : ∀ f a, a ≤ t.size → t.size + 1 ≤ a + f → nlIx (t.extract a t.size) = match nlAt t f a with | some e => (e : Int) - a | none => -1
  | 0, a, h1, h2 => by omega
  | f + 1, a, h1, h2 => by
    by_cases hlt : a < t.size
    · have ih := nlIx_at t f (a + 1) (by omega) (by omega)
      unfold nlIx at ih ⊢
      rw [rest_cons t a hlt, Lib.indexByte, nlAt, if_pos hlt]
      have hb := bAt_lt t a
      by_cases h10 : bAt t a = 10
      · rw [h10, if_pos (by decide), if_pos rfl]
        simp
      · rw [if_neg (by
          intro h
          have := congrArg UInt8.toNat (beq_iff_eq.1 h)
          rw [ofNat_toNat' _ hb] at this
          exact h10 this), if_neg h10, ih]
        cases hn : nlAt t f (a + 1) with
        | none => simp
        | some e =>
          obtain ⟨n1, _⟩ := nlAt_spec t f (a + 1) e hn
          simp only
          rw [if_neg (by simp; omega)]
          omega
    · have e1 : (t.extract a t.size).data.toList = [] := List.eq_nil_of_length_eq_zero (by rw [list_len, rest_size]; omega)
      unfold nlIx
      rw [e1, nlAt, if_neg hlt]
      rfl
/-- a line, by places -/
theorem line_cases {t : ByteArray} {f a : Nat} {x : ByteArray} {r : List ByteArray} (ha : a ≤ t.size) (hf : t.size + 1 ≤ a + f) (h : linesB f (t.extract a t.size) = x :: r) :
    a < t.size ∧ ((∃ e g, nlAt t (t.size + 1) a = some e ∧ a ≤ e ∧ e < t.size ∧ x = t.extract a (e + 1) ∧ r = linesB g (t.extract (e + 1) t.size) ∧ t.size + 1 ≤ e + 1 + g) ∨ (nlAt t (t.size + 1) a = none ∧ x = t.extract a t.size)) := by
  obtain ⟨g, rfl⟩ : ∃ g, f = g + 1 := ⟨f - 1, by omega⟩
  have hs := rest_size t a
  rw [linesB] at h
  split at h
  · cases h
  · rename_i h0
    have hlt : a < t.size := by omega
    refine ⟨hlt, ?_⟩
    have hix := nlIx_at t (t.size + 1) a ha (by omega)
    cases hn : nlAt t (t.size + 1) a with
    | none =>
      rw [hn] at hix
      simp only at hix
      rw [if_neg (by rw [hix]; decide)] at h
      simp only [List.cons.injEq] at h
      exact .inr ⟨rfl, h.1.symm⟩
    | some e =>
      rw [hn] at hix
      simp only at hix
      obtain ⟨n1, n2, _, _⟩ := nlAt_spec t _ a e hn
      rw [if_pos (by rw [hix]; omega)] at h
      simp only [List.cons.injEq] at h
      obtain ⟨h1, h2⟩ := h
      have hm : (nlIx (t.extract a t.size)).toNat = e - a := by rw [hix]; omega
      rw [hm] at h1 h2
      refine .inl ⟨e, g, rfl, n1, n2, ?_, ?_, by omega⟩
      · rw [← h1, ByteArray.extract_extract, Nat.add_zero, show min (a + (e - a + 1)) t.size = e + 1 by omega]
      · rw [← h2, ByteArray.extract_extract, hs]
        congr 2
        · omega
        · omega
theorem lines_end {t : ByteArray} {f a : Nat} (ha : a ≤ t.size) (hf : t.size + 1 ≤ a + f) (h : linesB f (t.extract a t.size) = []) : a = t.size := by
  obtain ⟨g, rfl⟩ : ∃ g, f = g + 1 := ⟨f - 1, by omega⟩
  have hs := rest_size t a
  rw [linesB] at h
  split at h
  · omega
  · split at h
    · cases h
    · cases h
/-- cutting the newline off a line that has one -/
theorem cutS_yes (t : ByteArray) (a e : Nat) (w : World) (h1 : a ≤ e) (h2 : e < t.size) (h3 : bAt t e = 10) (hs : t.size ≤ 1099511627776) :
    Calls Tryz.prog 35 #[.string (t.extract a (e + 1)), .string { data := #[10] }] w fun r w' => r = .returned (.tuple #[.string (t.extract a e), .bool true]) ∧ w = w' := by
  have hsz : (t.extract a (e + 1)).size = e + 1 - a := by rw [ByteArray.size_extract]; omega
  refine (Tryz.strings_CutSuffix (t.extract a (e + 1)) { data := #[10] } w (by omega)).mono ?_
  rintro r w' ⟨rfl, rfl⟩
  refine ⟨?_, rfl⟩
  have hd : (t.extract a (e + 1)).data.toList = u8L (cut t a (e - a)) ++ [10] := by
    have := cut_data t a (e - a + 1) (by omega)
    rw [show a + (e - a + 1) = e + 1 by omega] at this
    rw [this, cut_snoc, u8L_append, show a + (e - a) = e by omega, h3]
    rfl
  have hd2 : (t.extract a e).data.toList = u8L (cut t a (e - a)) := by
    have := cut_data t a (e - a) (by omega)
    rwa [show a + (e - a) = e by omega] at this
  have hsuf : Lib.hasSuffix (t.extract a (e + 1)).data.toList ({ data := #[10] } : ByteArray).data.toList = true := by
    rw [hd]
    unfold Lib.hasSuffix
    rw [List.isSuffixOf_iff_suffix]
    exact ⟨_, rfl⟩
  have htr : Lib.trimSuffix (t.extract a (e + 1)).data.toList ({ data := #[10] } : ByteArray).data.toList = (t.extract a e).data.toList := by
    unfold Lib.trimSuffix
    rw [if_pos hsuf, hd, hd2]
    rw [show ({ data := #[10] } : ByteArray).data.toList = [10] from rfl, List.length_append]
    simp
  rw [hsuf, htr]
/-- a line without a newline stays as it is -/
theorem cutS_no (x : ByteArray) (w : World) (h : ∀ k, k < x.size → bAt x k ≠ 10) (hs : x.size ≤ 1099511627776) :
    Calls Tryz.prog 35 #[.string x, .string { data := #[10] }] w fun r w' => r = .returned (.tuple #[.string x, .bool false]) ∧ w = w' := by
  refine (Tryz.strings_CutSuffix x { data := #[10] } w (by omega)).mono ?_
  rintro r w' ⟨rfl, rfl⟩
  refine ⟨?_, rfl⟩
  have hsuf : Lib.hasSuffix x.data.toList ({ data := #[10] } : ByteArray).data.toList = false := by
    rw [Bool.eq_false_iff]
    intro hh
    unfold Lib.hasSuffix at hh
    rw [List.isSuffixOf_iff_suffix] at hh
    have hm : (10 : UInt8) ∈ x.data.toList := hh.subset (by simp)
    obtain ⟨k, hk, hx⟩ := List.getElem_of_mem hm
    have hk2 : k < x.size := by rw [list_len] at hk; exact hk
    have := bAt_data x k hk2
    rw [List.getElem?_eq_getElem hk, hx] at this
    have h3 := congrArg UInt8.toNat (Option.some.inj this)
    rw [ofNat_toNat' _ (bAt_lt x k)] at h3
    exact h k hk2 h3.symm
  have htr : Lib.trimSuffix x.data.toList ({ data := #[10] } : ByteArray).data.toList = x.data.toList := by
    unfold Lib.trimSuffix
    rw [if_neg (by rw [hsuf]; decide)]
  rw [hsuf, htr]
theorem no_nl {t : ByteArray} {a : Nat} (ha : a ≤ t.size) (h : nlAt t (t.size + 1) a = none) : ∀ k, k < (t.extract a t.size).size → bAt (t.extract a t.size) k ≠ 10 := by
  intro k hk
  rw [rest_size] at hk
  rw [bAt_rest t a k (by omega)]
  exact nlAt_none t _ a (by omega) h (a + k) (by omega) (by omega)
end Go.Proofs.YtnoodiibkchaaaaGreatDoor
