/-
  PLAIN and joined: chapter 6's codec in the form that the laws' walks take.
-/
import Derived.Test.YtdniaingipoggaaDoorWRef06c
import Derived.Test.YtdniaingipoggaaDoorWXorC
import Derived.Test.YtdniaingipoggaaDoorWXorG
import Derived.Test.YtdniaingipoggaaDoorWSlices
import Derived.Test.YtdniaingipoggaaDoorWPack
import Derived.Test.YtdniaingipoggaaDoorDRef01b
namespace Go.Proofs.YtdniaingipoggaaDoor
open Go.RowKit

theorem rest_length (bs : List Nat) (i : Nat) : ((unpackB bs).drop i).length = 8 * bs.length - i := by rw [List.length_drop, unpackB_length]
theorem put6_any (base p : Nat) (v0 v : Value) (bits : List Bool) (l : List Nat) (w : World) (hW : IsW w base p v0 bits) (hb0 : base ≤ w.heap.size) (hbits : bits.length ≤ 1000000000) (hl : l.length ≤ 1000000000) (hX : ∀ x ∈ l, x ≤ 18446744073709551615)
    (h : Holds w v (u64s l)) (hap : ∀ k, ownH v l k → ¬ foot p v0 k) (hT : TabZ w) (hbase : 1 < base) :
    Calls Tryd.prog 39 #[.pointer (some ⟨p, 0, none⟩), v] w fun e w' => e = .returned (.int .i64 0) ∧ Wrote base p v0 (bits ++ enc6 l) w w' := xput_any base p v0 v bits l w hW hb0 hbits hl hX h hap hT hbase
theorem get6_any (base p : Nat) (v : Value) (bs : List Nat) (i n : Nat) (w : World) (h : IsR w base p v bs i) (hl : bs.length ≤ 1099511627776) (hi : i ≤ 8 * bs.length) (hn : n ≤ 1000000000) (hT : TabZ w) (hbase : 1 < base) :
    Calls Tryd.prog 35 #[.pointer (some ⟨p, 0, none⟩), .int .i64 n] w fun e w' => ∃ v', e = .returned (.tuple #[v', .int .i64 (((dec6 n ((unpackB bs).drop i)).1 : Nat) : Int)]) ∧
      w'.ownsRow w.heap.size 48 1 v' (dec6 n ((unpackB bs).drop i)).2.1.length (u64s (dec6 n ((unpackB bs).drop i)).2.1) ∧
      (∃ i', i' ≤ 8 * bs.length ∧ IsR w' base p v bs i' ∧ (dec6 n ((unpackB bs).drop i)).2.2 = (unpackB bs).drop i') ∧ Keeps (fun k => k = p) w w' := xget_any base p v bs i n w h hl hi hn hT hbase
theorem size6_any (v : Value) (l : List Nat) (w : World) (hl : l.length ≤ 1000000000) (h : Holds w v (u64s l)) (hX : ∀ x ∈ l, x ≤ 18446744073709551615) (hT : TabZ w) :
    Calls Tryd.prog 40 #[v] w fun e w' => e = .returned (.int .i64 (((enc6 l).length : Nat) : Int)) ∧ Keeps (fun _ => False) w w' := xsize_any v l w hl h hX hT
theorem rget6_any (p : Nat) (vq : Value) (b0 : List Bool) (n : Nat) (w : World) (h : IsQ w p vq b0) (hv : ∀ g, vq.ownBlock = some g → g < w.heap.size) (hn : n ≤ 1000000000) :
    Calls Tryd.prog 36 #[.pointer (some ⟨p, 0, none⟩), .int .i64 n] w fun e w' => ∃ v', e = .returned (.tuple #[v', .int .i64 (((dec6 n b0).1 : Nat) : Int)]) ∧
      w'.ownsRow w.heap.size 48 1 v' (dec6 n b0).2.1.length (u64s (dec6 n b0).2.1) ∧
      (∃ vq', IsQ w' p vq' (dec6 n b0).2.2 ∧ ∀ g, vq'.ownBlock = some g → vq.ownBlock = some g) ∧ Keeps (fun k => k = p) w w' := ref6Get_any p vq b0 n w h hv hn
end Go.Proofs.YtdniaingipoggaaDoor
