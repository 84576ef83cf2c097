/-
  PLAIN: from the row's condition (what the listed variable reads as) to the cells of math/bits' de Bruijn table.
-/
import Derived.Test.YtdniaingipoggaaDoorWXorA
import Derived.Test.YtdniaingipoggaaDoorRows
import Derived.Lib.LaidTab
import Derived.OpenShut
namespace Go.Proofs.YtdniaingipoggaaDoor
open Go.RowKit

/-- the table's cells -/
def zeroCells : Array Value := (Lib.deBruijn64tab.map fun z : Nat => Value.int .u8 (z : Int)).toArray
theorem cells_deb : Tryd.prog.cellsOf 132 = 64 := by kernel_rfl
theorem cells_u8z : Tryd.prog.cellsOf 5 = 1 := by kernel_rfl
theorem gDeb : Tryd.prog.globalNamed "math/bits.deBruijn64tab" = some 1 := by kernel_rfl
theorem gDebType : (Tryd.prog.globals[(1 : Nat)]?).map (·.type) = some 132 := by kernel_rfl
theorem tabZ_of {W : World} (h : laidMetH Tryd.prog [("math/bits.deBruijn64tab", Rows.laid_math_bits_deBruijn64tab)] W) : TabZ W := by
  have h1 : laidMet Tryd.prog [("math/bits.deBruijn64tab", Lib.tabData .u8 (Lib.deBruijn64tab.map fun z : Nat => (z : Int)))] W := h
  have h2 := Lib.tabIs_of_head gDeb gDebType Tryd.underlying132 Tryd.underlying5 cells_u8z cells_deb h1
  intro j hj
  have h3 := h2.cell gDeb j (by simpa [Lib.deBruijn64tab] using hj)
  rw [h3]
  congr 2
  have hl : Lib.deBruijn64tab.length = 64 := by decide
  simp [List.getD, hl, hj]
end Go.Proofs.YtdniaingipoggaaDoor
