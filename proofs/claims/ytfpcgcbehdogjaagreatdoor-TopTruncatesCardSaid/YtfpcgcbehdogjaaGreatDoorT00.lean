/-
  A short name for the library's law that hides a fact; no condition.
-/
import Derived.Lib.Hide
theorem Go.Proofs.Hj {p : Prop} (x : p) : Go.RowKit.Hid p := Go.Lib.hid x
