/-
  PLAIN: from the row's condition (what the listed variable reads as) to the cells of times.forms.
-/
import Derived.Test.YtdniaingipoggaaDoorWTimesA
import Derived.Lib.LaidTab
import Derived.OpenShut
namespace Go.Proofs.YtdniaingipoggaaDoor
open Go.RowKit

section
variable {H : Type} {enc : TypeId × Value → H} {P : Program} {w : World} {base : Nat} {sp : Nat → Bool} {held : Bool} {fuel : Nat}
theorem int_at {cs : List Value} {o c : Nat} {k : IntKind} {z : Int} {t : TypeId} {y : DataW H × List MemPlace} (ht : P.underlying t = some (.int k))
    (h : DataW.trod enc P w base sp held fuel t ((cs.drop o).take c) = some y) (h1 : c = 1) (hy : y.1 = .lit (.int k z)) : cs[o]? = some (.int k z) := by
  subst h1
  obtain ⟨n, hc, hx, _⟩ := DataW.trod_int ht h
  subst hx
  simp only [DataW.lit.injEq, Lit.int.injEq, true_and] at hy
  subst hy
  have := congrArg (·[0]?) hc
  simpa [List.getElem?_take, List.getElem?_drop] using this
end
theorem cells_form : Tryd.prog.cellsOf 93 = 3 := by kernel_rfl
theorem cells_forms : Tryd.prog.cellsOf 94 = 15 := by kernel_rfl
theorem cells_u64 : Tryd.prog.cellsOf 48 = 1 := by kernel_rfl
theorem cells_int : Tryd.prog.cellsOf 3 = 1 := by kernel_rfl
/-- a form's cells -/
theorem form_at {H : Type} {enc : TypeId × Value → H} {w : World} {base : Nat} {sp : Nat → Bool} {held : Bool} {fuel : Nat} {cs : List Value} {o : Nat} {a b c : Int} {y : DataW H × List MemPlace}
    (h : DataW.trod enc Tryd.prog w base sp held fuel 93 ((cs.drop o).take 3) = some y) (hy : y.1 = .agg [.lit (.int .u64 a), .lit (.int .i64 b), .lit (.int .i64 c)]) :
    cs[o]? = some (.int .u64 a) ∧ cs[o + 1]? = some (.int .i64 b) ∧ cs[o + 2]? = some (.int .i64 c) := by
  obtain ⟨xs, n, rfl, rfl, hl, hlen, hf⟩ := DataW.trod_struct Tryd.underlying93 h
  match xs, hlen with
  | [y0, y1, y2], _ =>
    simp only [List.map_cons, List.map_nil, DataW.agg.injEq, List.cons.injEq, and_true] at hy
    obtain ⟨e0, e1, e2⟩ := hy
    have c0 := int_at (cs := (cs.drop o).take 3) (o := 0) Tryd.underlying48 (hf 0 _ rfl) cells_u64 e0
    have c1 := int_at (cs := (cs.drop o).take 3) (o := 1) Tryd.underlying3 (hf 1 _ rfl) cells_int e1
    have c2 := int_at (cs := (cs.drop o).take 3) (o := 2) Tryd.underlying3 (hf 2 _ rfl) cells_int e2
    simp only [List.getElem?_take, List.getElem?_drop] at c0 c1 c2
    exact ⟨by simpa using c0, by simpa using c1, by simpa using c2⟩
theorem forms_cells {H : Type} {enc : TypeId × Value → H} {w : World} {base : Nat} {sp : Nat → Bool} {held : Bool} {fuel : Nat} {cs : List Value} {p : List MemPlace}
    (h : DataW.trod enc Tryd.prog w base sp held fuel 94 cs = some (Rows.laid_tsblock_times_forms, p)) : cs = formCells.toList := by
  obtain ⟨xs, m, rfl, hx, hl, hlen, hf⟩ := DataW.trod_array Tryd.underlying94 h
  rw [cells_forms] at hl
  match xs, hlen with
  | [y0, y1, y2, y3, y4], _ =>
    simp only [Rows.laid_tsblock_times_forms, Prod.mk.injEq, DataW.agg.injEq, List.map_cons, List.map_nil, List.cons.injEq, and_true] at hx
    obtain ⟨⟨e0, e1, e2, e3, e4⟩, _⟩ := hx
    simp only [cells_form] at hf
    have f0 := form_at (cs := cs) (hf 0 (by decide)) e0.symm
    have f1 := form_at (cs := cs) (hf 1 (by decide)) e1.symm
    have f2 := form_at (cs := cs) (hf 2 (by decide)) e2.symm
    have f3 := form_at (cs := cs) (hf 3 (by decide)) e3.symm
    have f4 := form_at (cs := cs) (hf 4 (by decide)) e4.symm
    apply List.ext_getElem?
    intro i
    by_cases hi : i < 15
    · have hc : i = 0 ∨ i = 1 ∨ i = 2 ∨ i = 3 ∨ i = 4 ∨ i = 5 ∨ i = 6 ∨ i = 7 ∨ i = 8 ∨ i = 9 ∨ i = 10 ∨ i = 11 ∨ i = 12 ∨ i = 13 ∨ i = 14 := by omega
      rcases hc with rfl | rfl | rfl | rfl | rfl | rfl | rfl | rfl | rfl | rfl | rfl | rfl | rfl | rfl | rfl
      · exact f0.1
      · exact f0.2.1
      · exact f0.2.2
      · exact f1.1
      · exact f1.2.1
      · exact f1.2.2
      · exact f2.1
      · exact f2.2.1
      · exact f2.2.2
      · exact f3.1
      · exact f3.2.1
      · exact f3.2.2
      · exact f4.1
      · exact f4.2.1
      · exact f4.2.2
    · rw [List.getElem?_eq_none (by omega), List.getElem?_eq_none (by simp [formCells]; omega)]
theorem gForms : Tryd.prog.globalNamed "tsblock/times.forms" = some 0 := by kernel_rfl
theorem gFormsType : (Tryd.prog.globals[(0 : Nat)]?).map (·.type) = some 94 := by kernel_rfl
theorem tabF_of {W : World} (h : laidMetH Tryd.prog [("tsblock/times.forms", Rows.laid_tsblock_times_forms)] W) : TabF W := by
  obtain ⟨ps, ⟨g', t', cs, fuel, p, q, hg', ht', hvar, hd, _, _⟩, _⟩ := (show laidMet Tryd.prog [("tsblock/times.forms", Rows.laid_tsblock_times_forms)] W from h)
  obtain rfl := Option.some.inj (gForms.symm.trans hg')
  obtain rfl := Option.some.inj (gFormsType.symm.trans ht')
  have hc := forms_cells hd
  unfold World.var? at hvar
  rw [gForms] at hvar
  simp only [Option.bind_some] at hvar
  split at hvar
  · rename_i cs' t fr hh
    simp only [Option.some.injEq] at hvar
    subst hvar
    exact ⟨t, fr, by rw [hh, show cs' = formCells from Array.toList_inj.1 hc]⟩
  · cases hvar
end Go.Proofs.YtdniaingipoggaaDoor
