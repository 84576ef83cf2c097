/-
  PLAIN and joined: chapter 5's codec in the form that the laws' walks take.
-/
import Derived.Test.YtdniaingipoggaaDoorWRef05c
import Derived.Test.YtdniaingipoggaaDoorWTimesD
import Derived.Test.YtdniaingipoggaaDoorWSlices
import Derived.Test.YtdniaingipoggaaDoorWPack
import Derived.Test.YtdniaingipoggaaDoorDRef01b
namespace Go.Proofs.YtdniaingipoggaaDoor
open Go.RowKit

theorem rest_length (bs : List Nat) (i : Nat) : ((unpackB bs).drop i).length = 8 * bs.length - i := by rw [List.length_drop, unpackB_length]
theorem put5_any (base p : Nat) (v0 v : Value) (bits : List Bool) (l : List Int) (w : World) (hW : IsW w base p v0 bits) (hb0 : base ≤ w.heap.size) (hbits : bits.length ≤ 1000000000) (hl : l.length ≤ 1000000000) (hX : ∀ x ∈ l, inI x)
    (h : Holds w v (i64s l)) (hap : ∀ k, ownH v l k → ¬ foot p v0 k) (hT : TabF w) (hbase : 0 < base) :
    Calls Tryd.prog 27 #[.pointer (some ⟨p, 0, none⟩), v] w fun e w' => e = .returned (.int .i64 0) ∧ Wrote base p v0 (bits ++ enc5 l) w w' := tput_any base p v0 v bits l w hW hb0 hbits hl hX h hap hT hbase
theorem get5_any (base p : Nat) (v : Value) (bs : List Nat) (i n : Nat) (w : World) (h : IsR w base p v bs i) (hl : bs.length ≤ 1099511627776) (hi : i ≤ 8 * bs.length) (hn : n ≤ 1000000000) (hT : TabF w) (hbase : 0 < base) :
    Calls Tryd.prog 17 #[.pointer (some ⟨p, 0, none⟩), .int .i64 n] w fun e w' => ∃ v', e = .returned (.tuple #[v', .int .i64 (((dec5 n ((unpackB bs).drop i)).1 : Nat) : Int)]) ∧
      w'.ownsRow w.heap.size 2 1 v' (dec5 n ((unpackB bs).drop i)).2.1.length (i64s (dec5 n ((unpackB bs).drop i)).2.1) ∧
      (∃ i', i' ≤ 8 * bs.length ∧ IsR w' base p v bs i' ∧ (dec5 n ((unpackB bs).drop i)).2.2 = (unpackB bs).drop i') ∧ Keeps (fun k => k = p) w w' := tget_any base p v bs i n w h hl hi hn hT hbase
theorem size5_any (v : Value) (l : List Int) (w : World) (hl : l.length ≤ 1000000000) (h : Holds w v (i64s l)) (hX : ∀ x ∈ l, inI x) (hT : TabF w) :
    Calls Tryd.prog 24 #[v] w fun e w' => e = .returned (.int .i64 (((enc5 l).length : Nat) : Int)) ∧ Keeps (fun _ => False) w w' := tsize_any v l w hl h hX hT
theorem rget5_any (p : Nat) (vq : Value) (b0 : List Bool) (n : Nat) (w : World) (h : IsQ w p vq b0) (hv : ∀ g, vq.ownBlock = some g → g < w.heap.size) (hn : n ≤ 1000000000) :
    Calls Tryd.prog 20 #[.pointer (some ⟨p, 0, none⟩), .int .i64 n] w fun e w' => ∃ v', e = .returned (.tuple #[v', .int .i64 (((dec5 n b0).1 : Nat) : Int)]) ∧
      w'.ownsRow w.heap.size 2 1 v' (dec5 n b0).2.1.length (i64s (dec5 n b0).2.1) ∧
      (∃ vq', IsQ w' p vq' (dec5 n b0).2.2 ∧ ∀ g, vq'.ownBlock = some g → vq.ownBlock = some g) ∧ Keeps (fun k => k = p) w w' := ref5Get_any p vq b0 n w h hv hn
end Go.Proofs.YtdniaingipoggaaDoor
