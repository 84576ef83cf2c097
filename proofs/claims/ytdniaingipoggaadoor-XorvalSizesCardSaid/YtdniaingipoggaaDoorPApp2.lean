/-
  PLAIN: append of what a slice reads as, to a slice that the call owns; the frames of 'clone, then append'. No walk here.
-/
import Derived.Test.YtdniaingipoggaaDoorPRead
import Derived.WalkKit
namespace Go.Proofs.YtdniaingipoggaaDoor
open Go.RowKit

section
variable {P : Program} {ty : TypeId}
theorem run_append_none (w : World) (t ty e : TypeId) (i : TypeInfo) (ht : P.underlying t = some (.slice e)) (hi : P.info? e = some i) (b : Option Addr) (n cap m : Nat) (h : n ≤ cap) :
    (Builtin.append_ #[t, t] ty #[.slice b n cap, .slice none 0 m]).run P w = .ok (.slice b n cap) w := by
  cases b <;> simp [Builtin.append_, run_underlying ht, sizeOf, typeInfo, hi, Builtin.lenOf, h, Builtin.firstCells, storeCells]
theorem run_append_holds (w : World) (base : Nat) (t ty e : TypeId) (i : TypeInfo) (z : Value) (bytes : Nat) (ht : P.underlying t = some (.slice e)) (hi : P.info? e = some i) (hz : i.zero = some z)
    (hsize : i.size = 1) (hby : i.bytes = bytes) (hzs : z.cells.size = 1)
    (v x : Value) (xs ys : List Value) (hown : w.ownsRow base e 1 v xs.length xs) (hx : Holds w x ys) (h1 : ∀ u ∈ ys, u.oneCell' = true)
    (h63 : xs.length + ys.length ≤ maxLen) (hbytes : (xs.length + ys.length) * bytes ≤ 140737488355328) (hbase : base ≤ w.heap.size) :
    ∃ v' w', (Builtin.append_ #[t, t] ty #[v, x]).run P w = .ok v' w' ∧ RowTo e base v w v' (xs ++ ys) w' := by
  obtain ⟨ad, cap, rfl, hc, h⟩ := hx
  cases ad with
  | none =>
    have hy : ys = [] := by
      rcases h with h | ⟨b, off, hb, _⟩
      · exact h
      · cases hb
    subst hy
    obtain ⟨a2, c2, rfl, hcc, _⟩ := holds_row hown
    refine ⟨_, w, run_append_none w t ty e i ht hi _ _ _ _ hcc, ?_⟩
    rw [List.append_nil]
    exact RowTo.refl hown
  | some a =>
    have hcell : ∀ j u, ys[j]? = some u → w.cell? (a.add j) = some u := by
      intro j u hj
      rcases h with h | ⟨b, off, hb, h⟩
      · subst h; simp at hj
      · obtain rfl := Option.some.inj hb
        rw [addr_add]
        exact h j u hj
    obtain ⟨v', w', hr, ho, hg, _, hn⟩ := run_append_new (P := P) w base t ty e i z 1 bytes ht hi hz hsize hby hzs (by decide) v xs.length xs hown a ys.length cap ys (by omega) hcell h1 h63 hbytes hbase
    refine ⟨v', w', hr, by rw [List.length_append]; exact ho, (Keeps.refl (own v) w).grown hg (fun k _ e => e), hn⟩
theorem wpList_want {w : World} {ops : Array Oper} {rest : List Oper} {o : Oper} {a : Act} {Q : Exit → Act → World → Prop} (hg : Region.wanted o (yielded ops a.tmps) = true)
    (h : ∀ K : Act → World → Prop, (∀ a w, wpList P ops Q rest a w → K a w) → o.wp P a w K Q) : wpList P ops Q (o :: rest) a w :=
  wpList_step fun K hK => by rw [if_pos hg]; exact h K hK
/-- at the list of a region's operations, behind a guard that lets it by, or with none -/
theorem wpList_append_holds (w : World) {ops : Array Oper} {rest : List Oper} {o : Oper} {a : Act} {Q : Exit → Act → World → Prop} (hgd : Region.wanted o (yielded ops a.tmps) = true) (s x : Operand) (t : TypeId)
    (ho : o.op = .call { callee := .builtin .append, args := #[s, x], argTypes := #[t, t] })
    (base : Nat) (e : TypeId) (i : TypeInfo) (z : Value) (bytes : Nat) (ht : P.underlying t = some (.slice e)) (hi : P.info? e = some i) (hz : i.zero = some z)
    (hsize : i.size = 1) (hby : i.bytes = bytes) (hzs : z.cells.size = 1)
    (v y : Value) (xs ys : List Value) (hs : a.eval s = v) (hxe : a.eval x = y) (hown : w.ownsRow base e 1 v xs.length xs) (hx : Holds w y ys) (h1 : ∀ u ∈ ys, u.oneCell' = true)
    (h63 : xs.length + ys.length ≤ maxLen) (hbytes : (xs.length + ys.length) * bytes ≤ 140737488355328) (hbase : base ≤ w.heap.size)
    (h : ∀ v' w', RowTo e base v w v' (xs ++ ys) w' → wpList P ops Q rest (a.put o.dst v') w') : wpList P ops Q (o :: rest) a w := by
  obtain ⟨v', w', hr, h2⟩ := run_append_holds (P := P) w base t o.type e i z bytes ht hi hz hsize hby hzs v y xs ys hown hx h1 h63 hbytes hbase
  refine wpList_want hgd fun K hK => ?_
  unfold Oper.wp execOp
  simp only [ho, resolve, invoke, builtin, Sem.run_bind, Sem.run_pure, Result.andThen_ok, List.map_toArray, List.map_cons, List.map_nil, hs, hxe, hr]
  exact hK _ _ (h v' w' h2)
end
/-- a clone, then an append to it: nothing that was there has turned -/
theorem RowTo.onClone {e e' : TypeId} {base n : Nat} {v v' : Value} {a b c : World} {xs ys : List Value} (k : Keeps (fun _ => False) a b) (h : b.ownsRow a.heap.size e 1 v n xs) (r : RowTo e' base v b v' ys c) : Keeps (fun _ => False) a c :=
  k.trans r.keeps (fun k hk e => by have := (h.lt k e).1; omega)
end Go.Proofs.YtdniaingipoggaaDoor
