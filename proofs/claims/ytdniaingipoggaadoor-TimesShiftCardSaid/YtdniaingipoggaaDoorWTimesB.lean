/-
  WALKS: times.changes, an iterator over the differences of the differences (it only reads).
-/
import Derived.Test.YtdniaingipoggaaDoorWTimesA
import Derived.Test.YtdniaingipoggaaDoorPRange2
import Derived.Sort.QuietIn
import Derived.Shelf.Abstract
import Derived.Shelf.RegionOpen
import Derived.OwnWalkIn
import Derived.TacticsInMore
import Derived.LoopNIn
import Derived.LoopIn
namespace Go.Proofs.YtdniaingipoggaaDoor
open Go.RowKit Go.Shelf
attribute [local go_sem] Oper.semAt_some

def encI (x : Int) : Array Value := #[.int .i64 x]
theorem i64s_nil {l : List Int} (h : l = []) : i64s l = [] := by rw [h]; rfl
theorem ownI_lt {w : World} {v : Value} {l : List Int} (h : Holds w v (i64s l)) {k : Nat} (hk : ownH v l k) : k < w.heap.size := by
  obtain ⟨g, hg, hlt⟩ := h.lt (fun e => hk.1 (by cases l <;> simp_all [i64s]))
  have h2 := hk.2
  rw [hg] at h2
  simp only [Option.some.injEq] at h2
  omega
theorem long_cell {w : World} {ad : Option Addr} {cap : Nat} {l : List Int} (h : Holds w (.slice ad l.length cap) (i64s l)) {j : Nat} {y : Int} (hj : l[j]? = some y) :
    ∃ b off, ad = some ⟨b, off, none⟩ ∧ w.cell? ⟨b, off + j, none⟩ = some (.int .i64 y) := by
  obtain ⟨b, off, cap', hv, hc⟩ := h.index (j := j) (u := .int .i64 y) (by simp [i64s, hj])
  simp only [Value.slice.injEq] at hv
  exact ⟨b, off, hv.1, hc⟩
/-- the differences of the differences from place j on -/
def chgFrom (d : Int) (l : List Int) (j : Nat) : List Int := match l[j - 1]? with | some t => chgF d t (l.drop j) | none => []
theorem chgFrom_one (l : List Int) : chgFrom 0 l 1 = changesOf l := by cases l <;> simp [chgFrom, changesOf]
theorem W_wrap64 (x : Int) : wrap64 x = W x := (IntWalk.i64_left x).symm
theorem chgFrom_step {d t s : Int} {l : List Int} {j : Nat} (ht : l[j - 1]? = some t) (hs : l[j]? = some s) : chgFrom d l j = W (W (s - t) - d) :: chgFrom (W (s - t)) l (j + 1) := by
  have hlt : j < l.length := (List.getElem?_eq_some_iff.1 hs).1
  have e : l[j] = s := by rw [List.getElem?_eq_getElem hlt] at hs; simpa using hs
  unfold chgFrom
  rw [ht, Nat.add_sub_cancel, hs]
  simp only
  rw [List.drop_eq_getElem_cons hlt, e]
  rfl
theorem chgFrom_end {d : Int} {l : List Int} {j : Nat} (h : l.length ≤ j) : chgFrom d l j = [] := by
  unfold chgFrom
  split
  · rw [List.drop_eq_nil_of_le h]; rfl
  · rfl

set_option maxRecDepth 100000 in
set_option maxHeartbeats 2000000 in
theorem changes_seq (Bx : Nat) (v : Value) (l : List Int) (w : World) (hl : l.length ≤ 140737488351232) (hc : w.cell? ⟨Bx, 0, none⟩ = some v) (h : Holds w v (i64s l)) (hX : ∀ x ∈ l, inI x) :
    SeqR Tryd.prog 64 #[.pointer (some ⟨Bx, 0, none⟩)] encI (fun k => k = Bx ∨ ownH v l k) (fun _ => False) (fun xs => xs = changesOf l) (fun pre => pre <+: changesOf l) w := by
  intro L J Jx W0 hW hJ hJx hY h0
  have hc1 : W0.cell? ⟨Bx, 0, none⟩ = some v := hW.cell hc (fun h => h (.inl rfl))
  have h1 : Holds W0 v (i64s l) := h.keepsH hW i64s_nil (fun g hg hn => hn (.inr hg))
  have HH := Lib.hid h1; have HX := Lib.hid hX
  obtain ⟨ad, cap, rfl, hcap, hcells⟩ := h1
  clear hcells h hc hW hX
  rw [i64s_length] at hcap hc1 HH hY
  refine callsIn_of_wp Tryd.func64 rfl trivial ?_ rfl
  simp only [Tryd.ntmps64, List.size_toArray, List.length_cons, List.length_nil, Nat.reduceAdd, Nat.reduceSub, Array.replicate_succ, Array.replicate_zero, List.push_toArray, List.append_toArray, List.nil_append, List.cons_append]
  have HY := Lib.hid hY
  have HJ := Lib.hid hJ
  have HJx := Lib.hid hJx
  clear hY hJ hJx
  gi_wp2
  gi_loopw [3, 4] (fun t3 t4 wr => ∃ (j : Nat) (d : Int) (pre : List Int), 1 ≤ j ∧ (j ≤ l.length ∨ j = 1) ∧ t3 = .int .i64 d ∧ t4 = .int .i64 j ∧ inI d ∧ pre ++ chgFrom d l j = changesOf l ∧ wr.cell? ⟨Bx, 0, none⟩ = some (.slice ad l.length cap) ∧ Holds wr (.slice ad l.length cap) (i64s l) ∧ J pre wr)
    (fun _ t4 wr => l.length - (intOf t4).toNat)
  case atStart => exact ⟨1, 0, [], by omega, .inr rfl, rfl, rfl, by unfold inI; omega, by rw [chgFrom_one]; rfl, hc1, HH.out, h0⟩
  case round =>
    obtain ⟨j, d, pre, hj1, hj, rfl, rfl, hd, hx, hcb, hh, hJp⟩ := hrel
    clear hc1 h0
    by_cases hlt : j < l.length
    · obtain ⟨s, hs⟩ : ∃ s, l[j]? = some s := ⟨l[j], by simp [hlt]⟩
      obtain ⟨t, ht⟩ : ∃ t, l[j - 1]? = some t := ⟨l[j - 1], List.getElem?_eq_getElem (by omega)⟩
      obtain ⟨b, off, rfl, hcs⟩ := long_cell hh hs
      obtain ⟨b', off', hbo, hct⟩ := long_cell hh ht
      simp only [Option.some.injEq, Addr.mk.injEq] at hbo
      obtain ⟨rfl, rfl, -⟩ := hbo
      rw [chgFrom_step ht hs] at hx
      obtain ⟨d2, hd2⟩ : ∃ d2, d2 = W (s - t) := ⟨_, rfl⟩
      obtain ⟨x, hxx⟩ : ∃ x, x = W (d2 - d) := ⟨_, rfl⟩
      rw [← hd2, ← hxx] at hx
      have w1 : IntKind.i64.wrap (s - t) = d2 := hd2.symm
      have w2 : wrap64 (s - t) = d2 := by rw [hd2, W_wrap64]
      have w3 : IntKind.i64.wrap (d2 - d) = x := hxx.symm
      have w4 : wrap64 (d2 - d) = x := by rw [hxx, W_wrap64]
      have hdI : inI d2 := by rw [hd2]; exact W_in _
      obtain ⟨j1, hj1e⟩ : ∃ j1, j1 = j - 1 := ⟨_, rfl⟩
      rw [← hj1e] at hct
      have w5 : (j : Int) - 1 = j1 := by omega
      have w6 : IntKind.i64.wrap (j1 : Int) = j1 := wrap_nat j1 (by omega)
      have w7 : IntKind.i64.wrap ((j : Int) - 1) = j1 := by rw [w5, w6]
      have hjl : (j : Int) < l.length := by omega
      have hj1l : (j1 : Int) < l.length := by omega
      have hpx : pre ++ [x] <+: changesOf l := ⟨chgFrom d2 l (j + 1), by rw [← hx]; simp⟩
      have HX1 := Lib.hid hx; have HPX := Lib.hid hpx; have HJP := Lib.hid hJp; have Hh := Lib.hid hh; have HD2 := Lib.hid hd2; have HXX := Lib.hid hxx; have HJ1 := Lib.hid hj1e; have HDI := Lib.hid hdI
      clear hx hpx hJp hh hd2 hxx hs ht HH hj1e hd hdI hj
      gi_wp2
      gi_quiet (fail)
      obtain ⟨wq, hwq⟩ : ∃ wq, wq = wr.drewN nq := ⟨_, rfl⟩
      rw [← hwq]
      have hcq : wq.cell? ⟨Bx, 0, none⟩ = some (.slice (some ⟨b, off, none⟩) l.length cap) := by rw [hwq]; exact hcb
      have hhq : Holds wq (.slice (some ⟨b, off, none⟩) l.length cap) (i64s l) := Hh.out.keeps (S := fun _ => False) (by rw [hwq]; exact (Keeps.refl _ _).drewN nq) (fun _ _ h => h)
      obtain ⟨fn, tmps, assign, body, hyy, hR⟩ := HY.out pre x wq (HJ.out _ _ _ HJP.out (by rw [hwq]; exact (Keeps.refl _ _).drewN nq)) HPX.out
      simp only [encI] at hyy
      have HHQ := Lib.hid hhq
      clear hwq hhq hcs hct hcb
      gi_wp2
      refine ⟨rfl, hR.mono ?_⟩
      rintro e W3 (⟨rfl, hJ3, hk3⟩ | ⟨rfl, hJx3, hk3⟩)
      · have hc3 := hk3.cell hcq (fun h => h (.inl rfl))
        have hh3 := HHQ.out.keepsH hk3 i64s_nil (fun g hg hs => hs (.inr hg))
        have HJ3 := Lib.hid hJ3; have HH3 := Lib.hid hh3
        clear hJ3 hk3 hh3 hcq
        gi_wp2
        refine ⟨⟨j + 1, d2, pre ++ [x], by omega, .inl (by omega), rfl, by go_num, HDI.out, ?_, hc3, HH3.out, HJ3.out⟩, by simp [intOf]; omega⟩
        rw [← HX1.out]; simp
      · have HJx3 := Lib.hid hJx3
        clear hJx3 hk3 hcq
        gi_wp2
        refine bodyPost_ret (results_none rfl _ _ _) rfl ?_
        exact ⟨⟨_, rfl⟩, .inr ⟨_, HPX.out, HJx3.out⟩⟩
    · rw [chgFrom_end (by omega), List.append_nil] at hx
      have hjl : ¬ (j : Int) < l.length := by omega
      have HX1 := Lib.hid hx; have HJP := Lib.hid hJp
      clear hx hJp hh HH
      gi_wp2
      go_end0
      exact ⟨⟨_, rfl⟩, .inl (by rw [← HX1.out]; exact HJP.out)⟩

set_option maxHeartbeats 400000 in
theorem changes_any (ad : Option Addr) (len cap : Nat) (w : World) : Calls Tryd.prog 50 #[.slice ad len cap] w fun e w' => e = .returned (.func (.func 64) #[] #[.pointer (some ⟨w.heap.size, 0, none⟩)]) ∧ w' = w.alloc (.cells #[.slice ad len cap] 26) := by
  have hmf : ∀ (fn : Fn) (first cap : Array Value) (w : World), (Instr.makeFunc fn first cap).run Tryd.prog w = .ok (.func fn first cap) w := fun _ _ _ _ => rfl
  go_enter Tryd.func50, Tryd.ntmps50
  go_wp2
  go_ret
  exact ⟨rfl, rfl⟩
theorem changes_here (ad : Option Addr) (cap : Nat) (l : List Int) (w : World) (hl : l.length ≤ 140737488351232) (h : Holds w (.slice ad l.length cap) (i64s l)) (hX : ∀ x ∈ l, inI x) :
    SeqR Tryd.prog 64 #[.pointer (some ⟨w.heap.size, 0, none⟩)] encI (fun k => k = w.heap.size ∨ ownH (.slice ad l.length cap) l k) (fun _ => False) (fun xs => xs = changesOf l) (fun pre => pre <+: changesOf l) (w.alloc (.cells #[.slice ad l.length cap] 26)) :=
  changes_seq w.heap.size _ l _ hl (by rw [cell_of_row _ _ _ _ _ _ (heap_alloc_new w _)]; rfl) (h.keeps ((Keeps.refl (fun _ => False) w).alloc _) (fun _ _ h => h)) hX
end Go.Proofs.YtdniaingipoggaaDoor
