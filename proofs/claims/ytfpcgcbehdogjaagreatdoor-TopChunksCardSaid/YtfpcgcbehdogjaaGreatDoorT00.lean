import Derived.Lib.Hide
theorem Go.Proofs.Hj {p : Prop} (x : p) : Go.RowKit.Hid p := Go.Lib.hid x
