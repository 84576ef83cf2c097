/-
  PLAIN: from the row's condition (what the listed variables read as) to the tables that chapter 22's walks ask.
-/
import Derived.Test.YtgleiicielmnmaaDoorWAlive22
import Derived.Test.YtgleiicielmnmaaDoorRows
import Derived.Lib.LaidTab
import Derived.Lib.LaidU8
import Derived.OpenShut
import Derived.FnData
import Derived.SizedLaws
import Derived.Lib.TrailingZeros
namespace Go.Proofs.YtgleiicielmnmaaDoor
open Go.RowKit

section
variable {H : Type} {enc : TypeId × Value → H} {P : Program} {w : World} {base : Nat} {sp : Nat → Bool} {held : Bool} {fuel : Nat}
theorem int_atD {cs : List Value} {o c : Nat} {k : IntKind} {z : Int} {t : TypeId} {y : DataW H × List MemPlace} (ht : P.underlying t = some (.int k))
    (h : DataW.trod enc P w base sp held fuel t ((cs.drop o).take c) = some y) (h1 : c = 1) (hy : y.1 = .lit (.int k z)) : cs[o]? = some (.int k z) := by
  subst h1
  obtain ⟨n, hc, hx, _⟩ := DataW.trod_int ht h
  subst hx
  simp only [DataW.lit.injEq, Lit.int.injEq, true_and] at hy
  subst hy
  have := congrArg (·[0]?) hc
  simpa [List.getElem?_take, List.getElem?_drop] using this
end
theorem cells_i32 : Tryd.prog.cellsOf 21 = 1 := by kernel_rfl
theorem cells_pair : Tryd.prog.cellsOf 75 = 2 := by kernel_rfl
theorem cells_special : Tryd.prog.cellsOf 76 = 6 := by kernel_rfl
theorem pair_at {H : Type} {enc : TypeId × Value → H} {w : World} {base : Nat} {sp : Nat → Bool} {held : Bool} {fuel : Nat} {cs : List Value} {o : Nat} {a b : Int} {y : DataW H × List MemPlace}
    (h : DataW.trod enc Tryd.prog w base sp held fuel 75 ((cs.drop o).take 2) = some y) (hy : y.1 = .agg [.lit (.int .i32 a), .lit (.int .i32 b)]) : cs[o]? = some (.int .i32 a) ∧ cs[o + 1]? = some (.int .i32 b) := by
  obtain ⟨xs, n, rfl, rfl, hl, hlen, hf⟩ := DataW.trod_array Tryd.underlying75 h
  match xs, hlen with
  | [y0, y1], _ =>
    simp only [List.map_cons, List.map_nil, DataW.agg.injEq, List.cons.injEq, and_true] at hy
    obtain ⟨e0, e1⟩ := hy
    have g0 := hf 0 (by decide)
    have g1 := hf 1 (by decide)
    simp only [cells_i32] at g0 g1
    have c0 := int_atD (cs := (cs.drop o).take 2) (o := 0) Tryd.underlying21 g0 rfl e0
    have c1 := int_atD (cs := (cs.drop o).take 2) (o := 1) Tryd.underlying21 g1 rfl e1
    simp only [List.getElem?_take, List.getElem?_drop] at c0 c1
    exact ⟨by simpa using c0, by simpa using c1⟩
set_option maxRecDepth 100000 in
theorem gSpecial : Tryd.prog.globalNamed "tsblock/escape.special" = some 0 := by kernel_rfl
set_option maxRecDepth 100000 in
theorem gSpecialType : (Tryd.prog.globals[(0 : Nat)]?).map (·.type) = some 76 := by kernel_rfl
theorem special_cells {H : Type} {enc : TypeId × Value → H} {w : World} {base : Nat} {sp : Nat → Bool} {held : Bool} {fuel : Nat} {cs : List Value} {p : List MemPlace}
    (h : DataW.trod enc Tryd.prog w base sp held fuel 76 cs = some (Rows.laid_tsblock_escape_special, p)) : cs = specCells.toList := by
  obtain ⟨xs, m, rfl, hx, hl, hlen, hf⟩ := DataW.trod_array Tryd.underlying76 h
  rw [cells_special] at hl
  match xs, hlen with
  | [y0, y1, y2], _ =>
    simp only [Rows.laid_tsblock_escape_special, Prod.mk.injEq, DataW.agg.injEq, List.map_cons, List.map_nil, List.cons.injEq, and_true] at hx
    obtain ⟨⟨e0, e1, e2⟩, _⟩ := hx
    simp only [cells_pair] at hf
    have f0 := pair_at (cs := cs) (hf 0 (by decide)) e0.symm
    have f1 := pair_at (cs := cs) (hf 1 (by decide)) e1.symm
    have f2 := pair_at (cs := cs) (hf 2 (by decide)) e2.symm
    apply List.ext_getElem?
    intro i
    by_cases hi : i < 6
    · have hcs : i = 0 ∨ i = 1 ∨ i = 2 ∨ i = 3 ∨ i = 4 ∨ i = 5 := by omega
      rcases hcs with rfl | rfl | rfl | rfl | rfl | rfl
      · exact f0.1
      · exact f0.2
      · exact f1.1
      · exact f1.2
      · exact f2.1
      · exact f2.2
    · rw [List.getElem?_eq_none (by omega), List.getElem?_eq_none (by simp [specCells]; omega)]
theorem tabS_of {W : World} (h : Lib.VarReads Tryd.prog W "tsblock/escape.special" Rows.laid_tsblock_escape_special) : TabS W := by
  obtain ⟨g', t', cs, fuel, p, hg', ht', hvar, hd⟩ := h
  have e1 : g' = 0 := (Option.some.inj (gSpecial.symm.trans hg')).symm
  subst e1
  have e2 : t' = 76 := (Option.some.inj (gSpecialType.symm.trans ht')).symm
  subst e2
  have hc := special_cells hd
  unfold World.var? at hvar
  rw [gSpecial] at hvar
  simp only [Option.bind_some] at hvar
  split at hvar
  · rename_i cs' t fr hh
    simp only [Option.some.injEq] at hvar
    subst hvar
    exact ⟨t, fr, by rw [hh, show cs' = specCells from Array.toList_inj.1 hc]⟩
  · cases hvar
theorem cells_debD : Tryd.prog.cellsOf 134 = 64 := by kernel_rfl
theorem cells_u8D : Tryd.prog.cellsOf 5 = 1 := by kernel_rfl
theorem gDebD : Tryd.prog.globalNamed "math/bits.deBruijn64tab" = some 8 := by kernel_rfl
theorem gDebTypeD : (Tryd.prog.globals[(8 : Nat)]?).map (·.type) = some 134 := by kernel_rfl
theorem tabD_of {W : World} (h : Lib.VarReads Tryd.prog W "math/bits.deBruijn64tab" Rows.laid_math_bits_deBruijn64tab) : TabD W := by
  obtain ⟨g', t', cs, fuel, p, hg', ht', hvar, hd⟩ := h
  obtain rfl := Option.some.inj (gDebD.symm.trans hg')
  obtain rfl := Option.some.inj (gDebTypeD.symm.trans ht')
  have hd2 : DataW.trod (fun _ => ()) Tryd.prog W 0 (fun _ => true) false fuel 134 cs.toList = some (Lib.tabData .u8 (Lib.deBruijn64tab.map fun z : Nat => (z : Int)), p) := hd
  have hcs := Lib.cells_of_tab Tryd.underlying134 Tryd.underlying5 cells_u8D cells_debD hd2
  unfold TabD
  rw [World.var?_cell gDebD hvar 15, ← Array.getElem?_toList, hcs]
  rfl
theorem u8Extra : U8Extra Tryd.prog Tryd.lays197_ren where
  n3 := by kernel_rfl
  n4 := by kernel_rfl
  y3 := by kernel_rfl
  y4 := by kernel_rfl
  c5 := by kernel_rfl
  c119 := by kernel_rfl
  c138 := by kernel_rfl
theorem first_data : Rows.laid_unicode_utf8_first = Lib.firstData := by kernel_rfl
theorem accept_data : (Rows.laid_unicode_utf8_acceptRanges : DataW Unit) = Lib.acceptData := by kernel_rfl
theorem utf8_of {W : World} (h3 : Lib.VarReads Tryd.prog W "unicode/utf8.first" Rows.laid_unicode_utf8_first) (h4 : Lib.VarReads Tryd.prog W "unicode/utf8.acceptRanges" Rows.laid_unicode_utf8_acceptRanges) : Lib.Utf8Tabs 1 2 W := by
  rw [first_data] at h3
  rw [accept_data] at h4
  exact utf8Tabs_of_reads { Tryd.lays197 with } u8Extra h3 h4
theorem tabsA_of {W : World} {l : List (String × DataW Unit)} (h : laidMet Tryd.prog l W) (m1 : ("tsblock/escape.special", Rows.laid_tsblock_escape_special) ∈ l) (m2 : ("unicode/utf8.first", Rows.laid_unicode_utf8_first) ∈ l)
    (m3 : ("unicode/utf8.acceptRanges", Rows.laid_unicode_utf8_acceptRanges) ∈ l) (m4 : ("math/bits.deBruijn64tab", Rows.laid_math_bits_deBruijn64tab) ∈ l) : TabsA W :=
  ⟨⟨tabS_of (Lib.laidMet.reads h m1), utf8_of (Lib.laidMet.reads h m2) (Lib.laidMet.reads h m3)⟩, tabD_of (Lib.laidMet.reads h m4)⟩
theorem wf_i64E {n : Int} (h : (Lit.int .i64 n).wf = true) : -9223372036854775808 ≤ n ∧ n ≤ 9223372036854775807 := by
  exact bounds_i64 h
theorem wf_u64E {n : Int} (h : (Lit.int .u64 n).wf = true) : ∃ N : Nat, n = N ∧ N < 18446744073709551616 := by
  have := bounds_u64 h
  exact ⟨n.toNat, by omega, by omega⟩
/-- a world for the witnesses: each listed variable holds what its initialiser lays -/
def putCells (w : World) (g : Nat) (cs : Array Value) : World :=
  { w with heap := w.heap.modify g fun
      | .cells _ t frozen => .cells cs t frozen
      | o => o }
def bytesC (l : List Nat) : Array Value := (l.map fun z : Nat => Value.int .u8 (z : Int)).toArray
def deb32L : List Nat := [0, 1, 28, 2, 29, 14, 24, 3, 30, 22, 20, 15, 25, 17, 4, 8, 31, 27, 13, 23, 21, 19, 16, 7, 26, 12, 18, 6, 11, 5, 10, 9]
def acceptL : List Nat := [128, 191, 160, 191, 128, 159, 144, 191, 128, 143, 0, 0, 0, 0, 0, 0, 0, 0, 0, 0, 0, 0, 0, 0, 0, 0, 0, 0, 0, 0, 0, 0]
def pow10L : List Nat := (List.range 20).map fun k => 10 ^ k
def laidWorldE (w : World) : World :=
  putCells (putCells (putCells (putCells (putCells (putCells w 0 specCells) 1 (bytesC Pinned.utf8FirstZ)) 2 (bytesC acceptL)) 8 (bytesC Lib.deBruijn64tab)) 7 (bytesC deb32L)) 6 ((pow10L.map fun z : Nat => Value.int .u64 (z : Int)).toArray)
theorem bound_of {s : ByteArray} (h : s.data.toList.length ≤ reachBytes) : s.size ≤ 140737488355328 := by
  rw [Array.length_toList] at h
  exact Nat.le_trans h (by decide)
end Go.Proofs.YtgleiicielmnmaaDoor
