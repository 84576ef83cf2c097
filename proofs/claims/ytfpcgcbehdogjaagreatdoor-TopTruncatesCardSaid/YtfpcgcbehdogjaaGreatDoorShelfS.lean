/-
  the library's slices.SortFunc at this dump, laid in plain words
-/
import Derived.Shelf.LaySoft
import Derived.Shelf.Lay
import Derived.Shelf.SlSortCmp.NoneTotal
import Derived.Test.YtfpcgcbehdogjaaGreatDoorProg
namespace Go.Proofs
open Go.Shelf
shelf_try shelf_lay_g SlLaysF0.n6 Slsf 6 at Tryz 175 as Tryz.sortLab
shelf_tried
end Go.Proofs
