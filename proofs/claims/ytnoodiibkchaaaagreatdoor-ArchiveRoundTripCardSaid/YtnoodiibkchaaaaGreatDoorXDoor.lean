/-
  PLAIN: from the row's condition (what the listed variables read as) to the tables that chapter 22's walks ask.
  PLAIN: from the row's condition to the tables and errors that reading and writing numbers ask.
-/
import Derived.Test.YtnoodiibkchaaaaGreatDoorXTab
import Derived.Test.YtnoodiibkchaaaaGreatDoorRows
import Derived.Lib.LaidTab
import Derived.Lib.LaidU8
import Derived.OpenShut
import Derived.FnData
import Derived.SizedLaws
import Derived.Lib.TrailingZeros
import Derived.LaidLaws
namespace Go.Proofs.YtnoodiibkchaaaaGreatDoor
open Go.RowKit

section
variable {H : Type} {enc : TypeId × Value → H} {P : Program} {w : World} {base : Nat} {sp : Nat → Bool} {held : Bool} {fuel : Nat}
theorem int_atD {cs : List Value} {o c : Nat} {k : IntKind} {z : Int} {t : TypeId} {y : DataW H × List MemPlace} (ht : P.underlying t = some (.int k))
    (h : DataW.trod enc P w base sp held fuel t ((cs.drop o).take c) = some y) (h1 : c = 1) (hy : y.1 = .lit (.int k z)) : cs[o]? = some (.int k z) := by
  subst h1
  obtain ⟨n, hc, hx, _⟩ := DataW.trod_int ht h
  subst hx
  simp only [DataW.lit.injEq, Lit.int.injEq, true_and] at hy
  subst hy
  have := congrArg (·[0]?) hc
  simpa [List.getElem?_take, List.getElem?_drop] using this
end
theorem cells_i32 : Tryz.prog.cellsOf 21 = 1 := by kernel_rfl
theorem cells_pair : Tryz.prog.cellsOf 141 = 2 := by kernel_rfl
theorem cells_special : Tryz.prog.cellsOf 142 = 6 := by kernel_rfl
theorem pair_at {H : Type} {enc : TypeId × Value → H} {w : World} {base : Nat} {sp : Nat → Bool} {held : Bool} {fuel : Nat} {cs : List Value} {o : Nat} {a b : Int} {y : DataW H × List MemPlace}
    (h : DataW.trod enc Tryz.prog w base sp held fuel 141 ((cs.drop o).take 2) = some y) (hy : y.1 = .agg [.lit (.int .i32 a), .lit (.int .i32 b)]) : cs[o]? = some (.int .i32 a) ∧ cs[o + 1]? = some (.int .i32 b) := by
  obtain ⟨xs, n, rfl, rfl, hl, hlen, hf⟩ := DataW.trod_array Tryz.underlying141 h
  match xs, hlen with
  | [y0, y1], _ =>
    simp only [List.map_cons, List.map_nil, DataW.agg.injEq, List.cons.injEq, and_true] at hy
    obtain ⟨e0, e1⟩ := hy
    have g0 := hf 0 (by decide)
    have g1 := hf 1 (by decide)
    simp only [cells_i32] at g0 g1
    have c0 := int_atD (cs := (cs.drop o).take 2) (o := 0) Tryz.underlying21 g0 rfl e0
    have c1 := int_atD (cs := (cs.drop o).take 2) (o := 1) Tryz.underlying21 g1 rfl e1
    simp only [List.getElem?_take, List.getElem?_drop] at c0 c1
    exact ⟨by simpa using c0, by simpa using c1⟩
set_option maxRecDepth 100000 in
theorem gSpecial : Tryz.prog.globalNamed "tsblock/escape.special" = some 1 := by kernel_rfl
set_option maxRecDepth 100000 in
theorem gSpecialType : (Tryz.prog.globals[(1 : Nat)]?).map (·.type) = some 142 := by kernel_rfl
theorem special_cells {H : Type} {enc : TypeId × Value → H} {w : World} {base : Nat} {sp : Nat → Bool} {held : Bool} {fuel : Nat} {cs : List Value} {p : List MemPlace}
    (h : DataW.trod enc Tryz.prog w base sp held fuel 142 cs = some (Rows.laid_tsblock_escape_special, p)) : cs = specCells.toList := by
  obtain ⟨xs, m, rfl, hx, hl, hlen, hf⟩ := DataW.trod_array Tryz.underlying142 h
  rw [cells_special] at hl
  match xs, hlen with
  | [y0, y1, y2], _ =>
    simp only [Rows.laid_tsblock_escape_special, Prod.mk.injEq, DataW.agg.injEq, List.map_cons, List.map_nil, List.cons.injEq, and_true] at hx
    obtain ⟨⟨e0, e1, e2⟩, _⟩ := hx
    simp only [cells_pair] at hf
    have f0 := pair_at (cs := cs) (hf 0 (by decide)) e0.symm
    have f1 := pair_at (cs := cs) (hf 1 (by decide)) e1.symm
    have f2 := pair_at (cs := cs) (hf 2 (by decide)) e2.symm
    apply List.ext_getElem?
    intro i
    by_cases hi : i < 6
    · have hcs : i = 0 ∨ i = 1 ∨ i = 2 ∨ i = 3 ∨ i = 4 ∨ i = 5 := by omega
      rcases hcs with rfl | rfl | rfl | rfl | rfl | rfl
      · exact f0.1
      · exact f0.2
      · exact f1.1
      · exact f1.2
      · exact f2.1
      · exact f2.2
    · rw [List.getElem?_eq_none (by omega), List.getElem?_eq_none (by simp [specCells]; omega)]
theorem tabS_of {W : World} (h : Lib.VarReads Tryz.prog W "tsblock/escape.special" Rows.laid_tsblock_escape_special) : TabS W := by
  obtain ⟨g', t', cs, fuel, p, hg', ht', hvar, hd⟩ := h
  have e1 : g' = 1 := (Option.some.inj (gSpecial.symm.trans hg')).symm
  subst e1
  have e2 : t' = 142 := (Option.some.inj (gSpecialType.symm.trans ht')).symm
  subst e2
  have hc := special_cells hd
  unfold World.var? at hvar
  rw [gSpecial] at hvar
  simp only [Option.bind_some] at hvar
  split at hvar
  · rename_i cs' t fr hh
    simp only [Option.some.injEq] at hvar
    subst hvar
    exact ⟨t, fr, by rw [hh, show cs' = specCells from Array.toList_inj.1 hc]⟩
  · cases hvar
theorem cells_debD : Tryz.prog.cellsOf 191 = 64 := by kernel_rfl
theorem cells_u8D : Tryz.prog.cellsOf 5 = 1 := by kernel_rfl
theorem gDebD : Tryz.prog.globalNamed "math/bits.deBruijn64tab" = some 6 := by kernel_rfl
theorem gDebTypeD : (Tryz.prog.globals[(6 : Nat)]?).map (·.type) = some 191 := by kernel_rfl
theorem tabD_of {W : World} (h : Lib.VarReads Tryz.prog W "math/bits.deBruijn64tab" Rows.laid_math_bits_deBruijn64tab) : TabD W := by
  obtain ⟨g', t', cs, fuel, p, hg', ht', hvar, hd⟩ := h
  obtain rfl := Option.some.inj (gDebD.symm.trans hg')
  obtain rfl := Option.some.inj (gDebTypeD.symm.trans ht')
  have hd2 : DataW.trod (fun _ => ()) Tryz.prog W 0 (fun _ => true) false fuel 191 cs.toList = some (Lib.tabData .u8 (Lib.deBruijn64tab.map fun z : Nat => (z : Int)), p) := hd
  have hcs := Lib.cells_of_tab Tryz.underlying191 Tryz.underlying5 cells_u8D cells_debD hd2
  unfold TabD
  rw [World.var?_cell gDebD hvar 15, ← Array.getElem?_toList, hcs]
  rfl
theorem u8Extra : U8Extra Tryz.prog Tryz.lays197_ren where
  n3 := by kernel_rfl
  n4 := by kernel_rfl
  y3 := by kernel_rfl
  y4 := by kernel_rfl
  c5 := by kernel_rfl
  c119 := by kernel_rfl
  c138 := by kernel_rfl
theorem first_data : Rows.laid_unicode_utf8_first = Lib.firstData := by kernel_rfl
theorem accept_data : (Rows.laid_unicode_utf8_acceptRanges : DataW Unit) = Lib.acceptData := by kernel_rfl
theorem utf8_of {W : World} (h3 : Lib.VarReads Tryz.prog W "unicode/utf8.first" Rows.laid_unicode_utf8_first) (h4 : Lib.VarReads Tryz.prog W "unicode/utf8.acceptRanges" Rows.laid_unicode_utf8_acceptRanges) : Lib.Utf8Tabs 3 4 W := by
  rw [first_data] at h3
  rw [accept_data] at h4
  exact utf8Tabs_of_reads { Tryz.lays197 with } u8Extra h3 h4
theorem tabsA_of {W : World} {l : List (String × DataW Unit)} (h : laidMet Tryz.prog l W) (m1 : ("tsblock/escape.special", Rows.laid_tsblock_escape_special) ∈ l) (m2 : ("unicode/utf8.first", Rows.laid_unicode_utf8_first) ∈ l)
    (m3 : ("unicode/utf8.acceptRanges", Rows.laid_unicode_utf8_acceptRanges) ∈ l) (m4 : ("math/bits.deBruijn64tab", Rows.laid_math_bits_deBruijn64tab) ∈ l) : TabsA W :=
  ⟨⟨tabS_of (Lib.laidMet.reads h m1), utf8_of (Lib.laidMet.reads h m2) (Lib.laidMet.reads h m3)⟩, tabD_of (Lib.laidMet.reads h m4)⟩
theorem wf_i64E {n : Int} (h : (Lit.int .i64 n).wf = true) : -9223372036854775808 ≤ n ∧ n ≤ 9223372036854775807 := by
  exact bounds_i64 h
theorem wf_u64E {n : Int} (h : (Lit.int .u64 n).wf = true) : ∃ N : Nat, n = N ∧ N < 18446744073709551616 := by
  have := bounds_u64 h
  exact ⟨n.toNat, by omega, by omega⟩
/-- a world for the witnesses: each listed variable holds what its initialiser lays -/
def putCells (w : World) (g : Nat) (cs : Array Value) : World :=
  { w with heap := w.heap.modify g fun
      | .cells _ t frozen => .cells cs t frozen
      | o => o }
def bytesC (l : List Nat) : Array Value := (l.map fun z : Nat => Value.int .u8 (z : Int)).toArray
def deb32L : List Nat := [0, 1, 28, 2, 29, 14, 24, 3, 30, 22, 20, 15, 25, 17, 4, 8, 31, 27, 13, 23, 21, 19, 16, 7, 26, 12, 18, 6, 11, 5, 10, 9]
def acceptL : List Nat := [128, 191, 160, 191, 128, 159, 144, 191, 128, 143, 0, 0, 0, 0, 0, 0, 0, 0, 0, 0, 0, 0, 0, 0, 0, 0, 0, 0, 0, 0, 0, 0]
def pow10L : List Nat := (List.range 20).map fun k => 10 ^ k
def laidWorldE (w : World) : World :=
  putCells (putCells (putCells (putCells (putCells (putCells w 1 specCells) 3 (bytesC Pinned.utf8FirstZ)) 4 (bytesC acceptL)) 6 (bytesC Lib.deBruijn64tab)) 5 (bytesC deb32L)) 2 ((pow10L.map fun z : Nat => Value.int .u64 (z : Int)).toArray)
theorem bound_of {s : ByteArray} (h : s.data.toList.length ≤ reachBytes) : s.size ≤ 140737488355328 := by
  rw [Array.length_toList] at h
  exact Nat.le_trans h (by decide)
end Go.Proofs.YtnoodiibkchaaaaGreatDoor
namespace Go.Proofs.YtnoodiibkchaaaaGreatDoor
open Go.RowKit

theorem gPow10 : Tryz.prog.globalNamed "internal/strconv.uint64pow10" = some 2 := by kernel_rfl
theorem gPow10Type : (Tryz.prog.globals[(2 : Nat)]?).map (·.type) = some 158 := by kernel_rfl
theorem cells_pow10 : Tryz.prog.cellsOf 158 = 20 := by kernel_rfl
theorem cells_u64D : Tryz.prog.cellsOf 54 = 1 := by kernel_rfl
theorem und_pow10 : Tryz.prog.underlying 158 = some (.array 20 54) := by kernel_rfl
theorem pow_of {W : World} (h : Lib.VarReads Tryz.prog W "internal/strconv.uint64pow10" Rows.laid_internal_strconv_uint64pow10) : Lib.TabIs Tryz.prog W "internal/strconv.uint64pow10" .u64 Lib.pow10Tab := by
  obtain ⟨g', t', cs, fuel, p, hg', ht', hvar, hd⟩ := h
  obtain rfl := Option.some.inj (gPow10.symm.trans hg')
  obtain rfl := Option.some.inj (gPow10Type.symm.trans ht')
  have hd2 : DataW.trod (fun _ => ()) Tryz.prog W 0 (fun _ => true) false fuel 158 cs.toList = some (Lib.tabData .u64 Lib.pow10Tab, p) := hd
  have hcs := Lib.cells_of_tab und_pow10 Tryz.underlying54 cells_u64D cells_pow10 hd2
  unfold Lib.TabIs
  rw [hvar, ← hcs]
theorem errVar_of {W : World} {n nm : String} {d : DataW Unit} {g : Nat} {ti : TypeId} {ms : Array (String × TypeId)} (hg : Tryz.prog.globalNamed n = some g) (ht : (Tryz.prog.globals[g]?).map (·.type) = some ti) (hi : Tryz.prog.underlying ti = some (.interface ms))
    (h : Lib.VarReads Tryz.prog W n (.iface nm d)) : ∃ tp p, W.var? Tryz.prog n = some #[.iface tp p] := by
  obtain ⟨g', t', cs, fuel, p, hg', ht', hvar, hd⟩ := h
  obtain rfl := Option.some.inj (hg.symm.trans hg')
  obtain rfl := Option.some.inj (ht.symm.trans ht')
  obtain ⟨f1, u, v, e, _, _⟩ := iface_of_trod hi hd
  refine ⟨u, v, ?_⟩
  rw [hvar, show cs = #[.iface u v] from Array.toList_inj.1 e]
theorem gErrS : Tryz.prog.globalNamed "strconv.ErrSyntax" = some 7 := by kernel_rfl
theorem gErrST : (Tryz.prog.globals[(7 : Nat)]?).map (·.type) = some 63 := by kernel_rfl
theorem gErrR : Tryz.prog.globalNamed "strconv.ErrRange" = some 8 := by kernel_rfl
theorem gErrRT : (Tryz.prog.globals[(8 : Nat)]?).map (·.type) = some 63 := by kernel_rfl
theorem tabsN_of {W : World} {l : List (String × DataW Unit)} (h : laidMet Tryz.prog l W) (m1 : ("tsblock/escape.special", Rows.laid_tsblock_escape_special) ∈ l) (m2 : ("unicode/utf8.first", Rows.laid_unicode_utf8_first) ∈ l)
    (m3 : ("unicode/utf8.acceptRanges", Rows.laid_unicode_utf8_acceptRanges) ∈ l) (m4 : ("math/bits.deBruijn64tab", Rows.laid_math_bits_deBruijn64tab) ∈ l)
    (m5 : ("internal/strconv.uint64pow10", Rows.laid_internal_strconv_uint64pow10) ∈ l) (m6 : ("strconv.ErrSyntax", Rows.laid_strconv_ErrSyntax) ∈ l) (m7 : ("strconv.ErrRange", Rows.laid_strconv_ErrRange) ∈ l) : TabsN W :=
  ⟨tabsA_of h m1 m2 m3 m4, pow_of (Lib.laidMet.reads h m5), errVar_of gErrS gErrST Tryz.underlying63 (Lib.laidMet.reads h m6), errVar_of gErrR gErrRT Tryz.underlying63 (Lib.laidMet.reads h m7)⟩
def synS : ByteArray := { data := #[105, 110, 118, 97, 108, 105, 100, 32, 115, 121, 110, 116, 97, 120] }
def rngS : ByteArray := { data := #[118, 97, 108, 117, 101, 32, 111, 117, 116, 32, 111, 102, 32, 114, 97, 110, 103, 101] }
/-- the world of the witnesses with the two errors: two blocks more -/
def laidWorldN (w : World) : World :=
  putCells (putCells (laidWorldE { w with heap := (w.heap.push (.cells #[.string rngS] 198)).push (.cells #[.string synS] 198) })
    8 #[.iface 196 (.pointer (some ⟨w.heap.size, 0, none⟩))]) 7 #[.iface 196 (.pointer (some ⟨w.heap.size + 1, 0, none⟩))]
end Go.Proofs.YtnoodiibkchaaaaGreatDoor
