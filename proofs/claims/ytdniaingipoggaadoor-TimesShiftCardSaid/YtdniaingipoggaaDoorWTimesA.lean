/-
  WALKS: the table of forms; times.extend, times.formOf.
-/
import Derived.Test.YtdniaingipoggaaDoorPTimes2
import Derived.Test.YtdniaingipoggaaDoorDHelp
import Derived.WalkSpells
import Derived.WalkLawsBesides
import Derived.Laws.Rows
namespace Go.Proofs.YtdniaingipoggaaDoor
open Go.RowKit

/-- the cells of the table -/
def formCells : Array Value := #[.int .u64 0, .int .i64 1, .int .i64 0, .int .u64 2, .int .i64 2, .int .i64 7, .int .u64 6, .int .i64 3, .int .i64 12, .int .u64 14, .int .i64 4, .int .i64 32, .int .u64 15, .int .i64 4, .int .i64 64]
/-- the variable times.forms holds the table -/
def TabF (w : World) : Prop := ∃ t fr, w.heap[0]? = some (.cells formCells t fr)
theorem TabF.keeps {S : Nat → Prop} {a b : World} (h : TabF a) (k : Keeps S a b) (hS : ¬ S 0) : TabF b := by
  obtain ⟨t, fr, h⟩ := h
  exact ⟨t, fr, k.heap h hS⟩
theorem TabF.pos {a : World} (h : TabF a) : 0 < a.heap.size := by
  obtain ⟨t, fr, h⟩ := h
  exact (Array.getElem?_eq_some_iff.1 h).1
theorem cell_of_heap {w : World} {g i : Nat} {cs : Array Value} {t : TypeId} {fr : Nat × Nat} {v : Value} (h : w.heap[g]? = some (.cells cs t fr)) (hv : cs[i]? = some v) : w.cell? ⟨g, i, none⟩ = some v := by
  simp [World.cell?, h, hv]
theorem TabF.cell {a : World} (h : TabF a) (k : Nat) (hk : k ≤ 4) : a.cell? ⟨0, k * 3, none⟩ = some (.int .u64 ((fBits k : Nat) : Int)) ∧ a.cell? ⟨0, k * 3 + 1, none⟩ = some (.int .i64 ((fLen k : Nat) : Int)) ∧ a.cell? ⟨0, k * 3 + 2, none⟩ = some (.int .i64 ((fWidth k : Nat) : Int)) := by
  obtain ⟨t, fr, h⟩ := h
  have hc : k = 0 ∨ k = 1 ∨ k = 2 ∨ k = 3 ∨ k = 4 := by omega
  rcases hc with rfl | rfl | rfl | rfl | rfl <;> exact ⟨cell_of_heap h rfl, cell_of_heap h rfl, cell_of_heap h rfl⟩

theorem ext7 (X : Nat) : wrap64 (IntKind.u64.wrap ((X : Int) * 144115188075855872)) / 144115188075855872 = ext X 7 := by
  unfold wrap64 ext; rw [IntKind.wrap_u64]; simp; split <;> omega
theorem ext12 (X : Nat) : wrap64 (IntKind.u64.wrap ((X : Int) * 4503599627370496)) / 4503599627370496 = ext X 12 := by
  unfold wrap64 ext; rw [IntKind.wrap_u64]; simp; split <;> omega
theorem ext32 (X : Nat) : wrap64 (IntKind.u64.wrap ((X : Int) * 4294967296)) / 4294967296 = ext X 32 := by
  unfold wrap64 ext; rw [IntKind.wrap_u64]; simp; split <;> omega
theorem ext64 (X : Nat) : wrap64 (X : Int) = ext X 64 := by
  unfold wrap64 ext; simp; split <;> omega
set_option maxHeartbeats 1000000 in
theorem extend_any (X k : Nat) (w : World) (hX : X < 18446744073709551616) (hk : k ≤ 4) : Calls Tryd.prog 63 #[.int .u64 X, .int .i64 (fWidth k : Nat)] w fun e w' => e = .returned (.int .i64 (ext X (fWidth k))) ∧ w = w' := by
  have hc : k = 0 ∨ k = 1 ∨ k = 2 ∨ k = 3 ∨ k = 4 := by omega
  rcases hc with rfl | rfl | rfl | rfl | rfl
  · show Calls Tryd.prog 63 #[.int .u64 X, .int .i64 0] w _
    go_enter Tryd.func63, Tryd.ntmps63
    go_wp2
    go_ret
    exact ⟨rfl, rfl⟩
  · have H := Lib.hid (ext7 X)
    show Calls Tryd.prog 63 #[.int .u64 X, .int .i64 7] w _
    go_enter Tryd.func63, Tryd.ntmps63
    go_wp2
    go_ret
    exact ⟨ret_int H.out, rfl⟩
  · have H := Lib.hid (ext12 X)
    show Calls Tryd.prog 63 #[.int .u64 X, .int .i64 12] w _
    go_enter Tryd.func63, Tryd.ntmps63
    go_wp2
    go_ret
    exact ⟨ret_int H.out, rfl⟩
  · have H := Lib.hid (ext32 X)
    show Calls Tryd.prog 63 #[.int .u64 X, .int .i64 32] w _
    go_enter Tryd.func63, Tryd.ntmps63
    go_wp2
    go_ret
    exact ⟨ret_int H.out, rfl⟩
  · have H := Lib.hid (ext64 X)
    have hu : IntKind.u64.wrap (X : Int) = X := IntWalk.u64_in _ (by omega)
    show Calls Tryd.prog 63 #[.int .u64 X, .int .i64 64] w _
    go_enter Tryd.func63, Tryd.ntmps63
    go_wp2
    go_ret
    exact ⟨ret_int H.out, rfl⟩

theorem extend_lit (X k : Nat) (c : Int) (w : World) (hX : X < 18446744073709551616) (hk : k ≤ 4) (hc : ((fWidth k : Nat) : Int) = c) : Calls Tryd.prog 63 #[.int .u64 X, .int .i64 c] w fun e w' => e = .returned (.int .i64 (ext X (fWidth k))) ∧ w = w' := by
  rw [← hc]; exact extend_any X k w hX hk
theorem formsSize : (Tryd.prog.info? 94).map (·.size) = some formCells.size := by kernel_rfl
set_option maxRecDepth 100000 in
set_option maxHeartbeats 2000000 in
theorem formOf_any (x : Int) (w : World) (hx : inI x) (hT : TabF w) :
    Calls Tryd.prog 51 #[.int .i64 x] w fun e w' => e = .returned (.int .i64 ((formI x : Nat) : Int)) ∧ Keeps (fun _ => False) w w' := by
  have hTT := hT
  obtain ⟨t, fr, hT⟩ := hT
  have i0 : ∀ w, (Instr.index 94 (.agg formCells) (.int .i64 0)).run Tryd.prog w = .ok (.agg #[.int .u64 0, .int .i64 1, .int .i64 0]) w := fun _ => by kernel_rfl
  have i1 : ∀ w, (Instr.index 94 (.agg formCells) (.int .i64 1)).run Tryd.prog w = .ok (.agg #[.int .u64 2, .int .i64 2, .int .i64 7]) w := fun _ => by kernel_rfl
  have i2 : ∀ w, (Instr.index 94 (.agg formCells) (.int .i64 2)).run Tryd.prog w = .ok (.agg #[.int .u64 6, .int .i64 3, .int .i64 12]) w := fun _ => by kernel_rfl
  have i3 : ∀ w, (Instr.index 94 (.agg formCells) (.int .i64 3)).run Tryd.prog w = .ok (.agg #[.int .u64 14, .int .i64 4, .int .i64 32]) w := fun _ => by kernel_rfl
  have i4 : ∀ w, (Instr.index 94 (.agg formCells) (.int .i64 4)).run Tryd.prog w = .ok (.agg #[.int .u64 15, .int .i64 4, .int .i64 64]) w := fun _ => by kernel_rfl
  have hU : IntKind.u64.wrap x = ((U x : Nat) : Int) := U_wrap x
  have hUl := U_lt x
  have HX := Lib.hid hx
  go_enter Tryd.func51, Tryd.ntmps51
  go_wp2_with (refine wpList_load_row rfl 94 (.global 0) rfl 0 rfl t formCells fr _ hT Tryd.underlying94 rfl formsSize ?_)
  go_loopw [6] (fun i wr => ∃ c : Int, (c = 0 ∨ c = 1 ∨ c = 2 ∨ c = 3 ∨ c = 4) ∧ i = .int .i64 c ∧ c.toNat ≤ formI x ∧ Keeps (fun _ => False) w wr) (fun i _ => 5 - (intOf i).toNat)
  case atStart => exact ⟨0, .inl rfl, rfl, Nat.zero_le _, Keeps.refl _ _⟩
  case round =>
    obtain ⟨c, hc, rfl, hle, hkw⟩ := hrel
    have hf4 := formI_le x
    clear hT hTT
    rcases hc with rfl | rfl | rfl | rfl | rfl
    · have hle0 : 0 ≤ formI x := by simp
      by_cases hf : formI x ≤ 0
      · have hy := (ext_eq x HX.out 0 (by decide)).2 hf
        have hk : formI x = 0 := by omega
        have HK := Lib.hid hk; have HY := Lib.hid hy
        clear hf hk hy hle hle0 hf4
        go_wp2_with (go_at_call 63; refine (extend_lit (U x) 0 0 _ hUl (by decide) rfl).mono ?_; rw [HY.out]; rintro e w1 ⟨rfl, rfl⟩)
        go_ret
        exact ⟨by rw [HK.out]; rfl, hkw.alloc _⟩
      · have hy : (ext (U x) (fWidth 0) == x) = false := by
          rw [beq_eq_false_iff_ne]
          exact fun e => hf ((ext_eq x HX.out 0 (by decide)).1 e)
        obtain ⟨y, hye⟩ : ∃ y, y = ext (U x) (fWidth 0) := ⟨_, rfl⟩
        rw [← hye] at hy
        have HYE := Lib.hid hye
        have hk : 1 ≤ formI x := by omega
        have HK := Lib.hid hk
        clear hf hye hle hle0 hf4 hk
        go_wp2_with (go_at_call 63; refine (extend_lit (U x) 0 0 _ hUl (by decide) rfl).mono ?_; rw [← HYE.out]; rintro e w1 ⟨rfl, rfl⟩)
        exact ⟨⟨1, by simp, rfl, HK.out, hkw.alloc _⟩, by simp [intOf]⟩
    · have hle1 : 1 ≤ formI x := by simpa using hle
      by_cases hf : formI x ≤ 1
      · have hy := (ext_eq x HX.out 1 (by decide)).2 hf
        have hk : formI x = 1 := by omega
        have HK := Lib.hid hk; have HY := Lib.hid hy
        clear hf hk hy hle hle1 hf4
        go_wp2_with (go_at_call 63; refine (extend_lit (U x) 1 7 _ hUl (by decide) rfl).mono ?_; rw [HY.out]; rintro e w1 ⟨rfl, rfl⟩)
        go_ret
        exact ⟨by rw [HK.out]; rfl, hkw.alloc _⟩
      · have hy : (ext (U x) (fWidth 1) == x) = false := by
          rw [beq_eq_false_iff_ne]
          exact fun e => hf ((ext_eq x HX.out 1 (by decide)).1 e)
        obtain ⟨y, hye⟩ : ∃ y, y = ext (U x) (fWidth 1) := ⟨_, rfl⟩
        rw [← hye] at hy
        have HYE := Lib.hid hye
        have hk : 2 ≤ formI x := by omega
        have HK := Lib.hid hk
        clear hf hye hle hle1 hf4 hk
        go_wp2_with (go_at_call 63; refine (extend_lit (U x) 1 7 _ hUl (by decide) rfl).mono ?_; rw [← HYE.out]; rintro e w1 ⟨rfl, rfl⟩)
        exact ⟨⟨2, by simp, rfl, HK.out, hkw.alloc _⟩, by simp [intOf]⟩
    · have hle2 : 2 ≤ formI x := by simpa using hle
      by_cases hf : formI x ≤ 2
      · have hy := (ext_eq x HX.out 2 (by decide)).2 hf
        have hk : formI x = 2 := by omega
        have HK := Lib.hid hk; have HY := Lib.hid hy
        clear hf hk hy hle hle2 hf4
        go_wp2_with (go_at_call 63; refine (extend_lit (U x) 2 12 _ hUl (by decide) rfl).mono ?_; rw [HY.out]; rintro e w1 ⟨rfl, rfl⟩)
        go_ret
        exact ⟨by rw [HK.out]; rfl, hkw.alloc _⟩
      · have hy : (ext (U x) (fWidth 2) == x) = false := by
          rw [beq_eq_false_iff_ne]
          exact fun e => hf ((ext_eq x HX.out 2 (by decide)).1 e)
        obtain ⟨y, hye⟩ : ∃ y, y = ext (U x) (fWidth 2) := ⟨_, rfl⟩
        rw [← hye] at hy
        have HYE := Lib.hid hye
        have hk : 3 ≤ formI x := by omega
        have HK := Lib.hid hk
        clear hf hye hle hle2 hf4 hk
        go_wp2_with (go_at_call 63; refine (extend_lit (U x) 2 12 _ hUl (by decide) rfl).mono ?_; rw [← HYE.out]; rintro e w1 ⟨rfl, rfl⟩)
        exact ⟨⟨3, by simp, rfl, HK.out, hkw.alloc _⟩, by simp [intOf]⟩
    · have hle3 : 3 ≤ formI x := by simpa using hle
      by_cases hf : formI x ≤ 3
      · have hy := (ext_eq x HX.out 3 (by decide)).2 hf
        have hk : formI x = 3 := by omega
        have HK := Lib.hid hk; have HY := Lib.hid hy
        clear hf hk hy hle hle3 hf4
        go_wp2_with (go_at_call 63; refine (extend_lit (U x) 3 32 _ hUl (by decide) rfl).mono ?_; rw [HY.out]; rintro e w1 ⟨rfl, rfl⟩)
        go_ret
        exact ⟨by rw [HK.out]; rfl, hkw.alloc _⟩
      · have hy : (ext (U x) (fWidth 3) == x) = false := by
          rw [beq_eq_false_iff_ne]
          exact fun e => hf ((ext_eq x HX.out 3 (by decide)).1 e)
        obtain ⟨y, hye⟩ : ∃ y, y = ext (U x) (fWidth 3) := ⟨_, rfl⟩
        rw [← hye] at hy
        have HYE := Lib.hid hye
        have hk : 4 ≤ formI x := by omega
        have HK := Lib.hid hk
        clear hf hye hle hle3 hf4 hk
        go_wp2_with (go_at_call 63; refine (extend_lit (U x) 3 32 _ hUl (by decide) rfl).mono ?_; rw [← HYE.out]; rintro e w1 ⟨rfl, rfl⟩)
        exact ⟨⟨4, by simp, rfl, HK.out, hkw.alloc _⟩, by simp [intOf]⟩
    · have hle4 : 4 ≤ formI x := by simpa using hle
      by_cases hf : formI x ≤ 4
      · have hy := (ext_eq x HX.out 4 (by decide)).2 hf
        have hk : formI x = 4 := by omega
        have HK := Lib.hid hk; have HY := Lib.hid hy
        clear hf hk hy hle hle4 hf4
        go_wp2_with (go_at_call 63; refine (extend_lit (U x) 4 64 _ hUl (by decide) rfl).mono ?_; rw [HY.out]; rintro e w1 ⟨rfl, rfl⟩)
        go_ret
        exact ⟨by rw [HK.out]; rfl, hkw.alloc _⟩
      · omega
end Go.Proofs.YtdniaingipoggaaDoor
