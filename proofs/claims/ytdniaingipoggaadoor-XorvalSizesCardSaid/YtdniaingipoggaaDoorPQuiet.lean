/-
  PLAIN: a region that draws its order, whose operations each yield one value in every world of a class of worlds that the prover picks ('nothing that was there has turned'): walked once.
-/
import Derived.Test.YtdniaingipoggaaDoorPMem
import Derived.WalkKit
import Derived.Deep.QuietTactic
namespace Go.Proofs.YtdniaingipoggaaDoor
open Go.RowKit

theorem wp_region_class {P : Program} (C : World → Prop) {id : Nat} {Q : Exit → Act → World → Prop} {a : Act} {w : World} {l : List Oper} (hm : P.follows .mixedOrders = true) (hB : Region.lexB .any l.toArray = true) (hC : C { w with drawn := w.drawn + 1 })
    (h : wpQuiet P l.toArray C (fun a' => ∀ w', C w' → Q .normal a' w') l a) : (Code.region id l.toArray true).wp P Q a w :=
  wp_region_quiet (C := C) hm hB hC (by simpa using h)

end Go.Proofs.YtdniaingipoggaaDoor
