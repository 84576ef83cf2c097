/-
  PLAIN: from the row's condition to the tables and errors that reading and writing numbers ask.
-/
import Derived.Test.YtgleiicielmnmaaDoorWDoor22
import Derived.Test.YtgleiicielmnmaaDoorWEscI
import Derived.LaidLaws
namespace Go.Proofs.YtgleiicielmnmaaDoor
open Go.RowKit

theorem gPow10 : Tryd.prog.globalNamed "internal/strconv.uint64pow10" = some 6 := by kernel_rfl
theorem gPow10Type : (Tryd.prog.globals[(6 : Nat)]?).map (·.type) = some 122 := by kernel_rfl
theorem cells_pow10 : Tryd.prog.cellsOf 122 = 20 := by kernel_rfl
theorem cells_u64D : Tryd.prog.cellsOf 37 = 1 := by kernel_rfl
theorem und_pow10 : Tryd.prog.underlying 122 = some (.array 20 37) := by kernel_rfl
theorem pow_of {W : World} (h : Lib.VarReads Tryd.prog W "internal/strconv.uint64pow10" Rows.laid_internal_strconv_uint64pow10) : Lib.TabIs Tryd.prog W "internal/strconv.uint64pow10" .u64 Lib.pow10Tab := by
  obtain ⟨g', t', cs, fuel, p, hg', ht', hvar, hd⟩ := h
  obtain rfl := Option.some.inj (gPow10.symm.trans hg')
  obtain rfl := Option.some.inj (gPow10Type.symm.trans ht')
  have hd2 : DataW.trod (fun _ => ()) Tryd.prog W 0 (fun _ => true) false fuel 122 cs.toList = some (Lib.tabData .u64 Lib.pow10Tab, p) := hd
  have hcs := Lib.cells_of_tab und_pow10 Tryd.underlying37 cells_u64D cells_pow10 hd2
  unfold Lib.TabIs
  rw [hvar, ← hcs]
theorem errVar_of {W : World} {n nm : String} {d : DataW Unit} {g : Nat} {ti : TypeId} {ms : Array (String × TypeId)} (hg : Tryd.prog.globalNamed n = some g) (ht : (Tryd.prog.globals[g]?).map (·.type) = some ti) (hi : Tryd.prog.underlying ti = some (.interface ms))
    (h : Lib.VarReads Tryd.prog W n (.iface nm d)) : ∃ tp p, W.var? Tryd.prog n = some #[.iface tp p] := by
  obtain ⟨g', t', cs, fuel, p, hg', ht', hvar, hd⟩ := h
  obtain rfl := Option.some.inj (hg.symm.trans hg')
  obtain rfl := Option.some.inj (ht.symm.trans ht')
  obtain ⟨f1, u, v, e, _, _⟩ := iface_of_trod hi hd
  refine ⟨u, v, ?_⟩
  rw [hvar, show cs = #[.iface u v] from Array.toList_inj.1 e]
theorem gErrS : Tryd.prog.globalNamed "strconv.ErrSyntax" = some 4 := by kernel_rfl
theorem gErrST : (Tryd.prog.globals[(4 : Nat)]?).map (·.type) = some 54 := by kernel_rfl
theorem gErrR : Tryd.prog.globalNamed "strconv.ErrRange" = some 5 := by kernel_rfl
theorem gErrRT : (Tryd.prog.globals[(5 : Nat)]?).map (·.type) = some 54 := by kernel_rfl
theorem tabsN_of {W : World} {l : List (String × DataW Unit)} (h : laidMet Tryd.prog l W) (m1 : ("tsblock/escape.special", Rows.laid_tsblock_escape_special) ∈ l) (m2 : ("unicode/utf8.first", Rows.laid_unicode_utf8_first) ∈ l)
    (m3 : ("unicode/utf8.acceptRanges", Rows.laid_unicode_utf8_acceptRanges) ∈ l) (m4 : ("math/bits.deBruijn64tab", Rows.laid_math_bits_deBruijn64tab) ∈ l)
    (m5 : ("internal/strconv.uint64pow10", Rows.laid_internal_strconv_uint64pow10) ∈ l) (m6 : ("strconv.ErrSyntax", Rows.laid_strconv_ErrSyntax) ∈ l) (m7 : ("strconv.ErrRange", Rows.laid_strconv_ErrRange) ∈ l) : TabsN W :=
  ⟨tabsA_of h m1 m2 m3 m4, pow_of (Lib.laidMet.reads h m5), errVar_of gErrS gErrST Tryd.underlying54 (Lib.laidMet.reads h m6), errVar_of gErrR gErrRT Tryd.underlying54 (Lib.laidMet.reads h m7)⟩
def synS : ByteArray := { data := #[105, 110, 118, 97, 108, 105, 100, 32, 115, 121, 110, 116, 97, 120] }
def rngS : ByteArray := { data := #[118, 97, 108, 117, 101, 32, 111, 117, 116, 32, 111, 102, 32, 114, 97, 110, 103, 101] }
/-- the world of the witnesses with the two errors: two blocks more -/
def laidWorldN (w : World) : World :=
  putCells (putCells (laidWorldE { w with heap := (w.heap.push (.cells #[.string rngS] 130)).push (.cells #[.string synS] 130) })
    5 #[.iface 128 (.pointer (some ⟨w.heap.size, 0, none⟩))]) 4 #[.iface 128 (.pointer (some ⟨w.heap.size + 1, 0, none⟩))]
end Go.Proofs.YtgleiicielmnmaaDoor
