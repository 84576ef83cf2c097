/-
  WALKS: XorvalSizes.
-/
import Derived.Test.YtdniaingipoggaaDoorWAlive06
import Derived.Test.YtdniaingipoggaaDoorWClone6
namespace Go.Proofs.YtdniaingipoggaaDoor
open Go.RowKit

section
variable {P : Program} (w : World)
/-- append by a guarded operation that is wanted -/
theorem wpList_append_wanted {ops : Array Oper} {rest : List Oper} {o : Oper} {a : Act} {Q : Exit → Act → World → Prop} (hgd : Region.wanted o (yielded ops a.tmps) = true) (s x : Operand) (t : TypeId)
    (ho : o.op = .call { callee := .builtin .append, args := #[s, x], argTypes := #[t, t] })
    (base : Nat) (e : TypeId) (i : TypeInfo) (z : Value) (size bytes : Nat) (ht : P.underlying t = some (.slice e)) (hi : P.info? e = some i) (hz : i.zero = some z)
    (hsize : i.size = size) (hby : i.bytes = bytes) (hzs : z.cells.size = size) (hsz : 0 < size)
    (v : Value) (n : Nat) (xs : List Value) (hs : a.eval s = v) (hown : w.ownsRow base e size v n xs)
    (ad : Addr) (m c : Nat) (news : List Value) (hx : a.eval x = .slice (some ad) m c) (hl : news.length = m * size) (hnews : ∀ j u, news[j]? = some u → w.cell? (ad.add j) = some u) (h1 : ∀ u ∈ news, u.oneCell' = true)
    (h63 : n + m ≤ maxLen) (hbytes : (n + m) * bytes ≤ 140737488355328) (hbase : base ≤ w.heap.size)
    (h : ∀ v' w', w'.ownsRow base e size v' (n + m) (xs ++ news) → w.grownBy w' v.ownBlock → wpList P ops Q rest (a.put o.dst v') w') : wpList P ops Q (o :: rest) a w := by
  obtain ⟨v', w', hr, h2, h3, _, h4⟩ := run_append_new (P := P) w base t o.type e i z size bytes ht hi hz hsize hby hzs hsz v n xs hown ad m c news hl hnews h1 h63 hbytes hbase
  refine wpList_step fun K hK => ?_
  simp only [hgd, if_true]
  unfold Oper.wp execOp
  simp only [ho, resolve, invoke, builtin, Sem.run_bind, Sem.run_pure, Result.andThen_ok, List.map_toArray, List.map_cons, List.map_nil, hs, hx, hr]
  exact hK _ _ (h v' w' h2 h3)
end
theorem Holds.one {w : World} {g : Nat} {u : Value} (h : w.cell? ⟨g, 0, none⟩ = some u) : Holds w (.slice (some ⟨g, 0, none⟩) 1 1) [u] := by
  refine ⟨_, 1, rfl, by simp, .inr ⟨g, 0, rfl, fun j u' hj => ?_⟩⟩
  cases j with
  | zero => simp at hj; subst hj; exact h
  | succ j => simp at hj
set_option maxRecDepth 100000 in
set_option maxHeartbeats 4000000 in
theorem xorvalSizes_any (x n : Nat) (v : Value) (l : List Nat) (w : World) (hx : x ≤ 18446744073709551615) (hn : n ≤ 255) (h : Holds w v (u64s l)) (hX : ∀ y ∈ l, y ≤ 18446744073709551615) (hT : TabZ w) :
    Calls Tryd.prog 14 #[.int .u64 x, .int .u8 n, v] w fun e w' => e = .returned (.bool true) ∧ Keeps (fun _ => False) w w' := by
  obtain ⟨i0, hii, hz0, hz1, hz2⟩ := info_parts infoU64
  have HH := Lib.hid h; have HX := Lib.hid hX; have HT := Lib.hid hT
  obtain ⟨ad, cap, rfl, hc, hlast⟩ := h
  rw [u64s_length] at hc HH ⊢
  clear hX hT
  by_cases hl : l.length ≤ 300 ∧ l ≠ []
  · obtain ⟨hl, hne⟩ := hl
    obtain ⟨ab, ao, rfl⟩ : ∃ ab ao, ad = some ⟨ab, ao, none⟩ := hlast.elim (fun e => absurd (List.map_eq_nil_iff.1 e) hne) (fun ⟨b, o, e, _⟩ => ⟨b, o, e⟩)
    have hl' : ¬ 300 < (l.length : Int) := by omega
    clear hlast hne
    obtain ⟨w1, hw1⟩ : ∃ w1, w1 = w.alloc (.cells #[.int .u64 (x : Nat)] 48) := ⟨_, rfl⟩
    have k1 : Keeps (fun _ => False) w w1 := by rw [hw1]; exact (Keeps.refl _ w).alloc _
    have c1 : w1.cell? ⟨w.heap.size, 0, none⟩ = some (.int .u64 (x : Nat)) := by rw [cell_of_row _ _ _ _ _ _ (show w1.heap[w.heap.size]? = some (.cells #[.int .u64 (x : Nat)] 48 (0, 0)) by rw [hw1]; exact heap_alloc_new w _)]; rfl
    have HX1 := Lib.hid (Holds.one c1); have HW1 := Lib.hid hw1; have K1 := Lib.hid k1
    clear k1 c1 hw1
    have n8 : IntKind.i64.wrap (n : Int) = n := wrap_nat n (by omega)
    go_enter Tryd.func14, Tryd.ntmps14
    go_wp2_with fail
    rw [← HW1.out]
    refine (repeat_any _ _ x n w1 HX1.out (by omega)).mono ?_
    rintro e w2 ⟨vm, rfl, hm, k2⟩
    have HM := Lib.hid hm; have K2 := Lib.hid (K1.out.trans k2 (fun _ _ h => h))
    clear hm k2
    have hwant : ∃ want : Nat, want = (enc6 (List.replicate n x)).length := ⟨_, rfl⟩
    obtain ⟨want, hwant⟩ := hwant
    have hwv := hwant
    rw [enc6_rep] at hwv
    have hwl : want ≤ 400 := by rw [hwv]; split <;> omega
    have HWANT := Lib.hid hwant
    clear hwant
    by_cases h0 : n = 0
    · subst h0
      have hw0 : want = 0 := hwv
      subst hw0
      clear hwv
      go_wp2_with fail
      refine (alive06_any w2 (HT.out.keeps K2.out (fun h => h))).mono ?_
      rintro e w3 ⟨rfl, k3⟩
      have K3 := Lib.hid (K2.out.trans k3 (fun _ _ h => h)); have HM3 := Lib.hid (holds_row (k3.row HM.out (fun _ _ h => h)))
      clear k3
      go_wp2_with fail
      refine (size6_any _ (List.replicate 0 x) w3 (by simp) HM3.out (fun y hy => by rw [List.eq_of_mem_replicate hy]; exact hx) (HT.out.keeps K3.out (fun h => h))).mono ?_
      rw [← HWANT.out]
      rintro e w4 ⟨rfl, k4⟩
      have K4 := Lib.hid (K3.out.trans k4 (fun _ _ h => h))
      clear k4
      obtain ⟨E, hE⟩ : ∃ E, E = (enc6 l).length := ⟨_, rfl⟩
      have hel := enc6_length l
      rw [← hE] at hel
      have hE1 : IntKind.i64.wrap (78 * (l.length : Int)) = 78 * (l.length : Int) := IntWalk.i64_in _ (by omega)
      have hE2 : (E : Int) ≤ 78 * (l.length : Int) := by omega
      have weq : ((0 : Int) == (0 : Int)) = true := by simp
      have HE := Lib.hid hE
      have HH4 := Lib.hid (HH.out.keeps K4.out (fun _ _ h => h))
      clear hE hel
      go_wp2_with fail
      refine (size6_any _ l w4 (by omega) HH4.out HX.out (HT.out.keeps K4.out (fun h => h))).mono ?_
      rw [← HE.out]
      rintro e w5 ⟨rfl, k5⟩
      have K5 := Lib.hid (K4.out.trans k5 (fun _ _ h => h)); have HH5 := Lib.hid (HH4.out.keeps k5 (fun _ _ h => h))
      clear k5
      go_wp2_with fail
      refine (cloneWords_any _ l w5 HH5.out (by omega)).mono ?_
      rintro e w6 ⟨vc, rfl, r6, k6⟩
      have K6 := Lib.hid (K5.out.trans k6 (fun _ _ h => h)); have HH6 := Lib.hid (HH5.out.keeps k6 (fun _ _ h => h)); have R6 := Lib.hid r6
      have K65 := Lib.hid k6.size
      clear r6 k6
      clear hE1 hE2 weq
      go_wp2_with (at_builtin; refine wpList_append_wanted _ (by rfl) _ _ 58 rfl w5.heap.size 48 i0 (.int .u64 0) 1 8 Tryd.underlying58 hii hz0 hz1 hz2 rfl (by decide) _ l.length (u64s l) rfl R6.out ⟨ab, ao, none⟩ l.length cap (u64s l) rfl ?c1 ?c2 ?c3 ?c4 ?c5 ?c6 ?_)
      case c1 => rw [u64s_length]; omega
      case c2 => exact (HH6.out.source).2
      case c3 => exact u64s_one l
      case c4 => unfold maxLen; omega
      case c5 => omega
      case c6 => have := (R6.out); exact Nat.le_trans (K65.out) (Nat.le_refl _)
      intro vd w7 r7 hgrow
      have K7 := Lib.hid (K6.out.grown hgrow (fun k hk e => by have := (R6.out.lt k e).1; have := K5.out.size; omega))
      have HD : Hid (Holds w7 vd (u64s (l ++ l))) := Lib.hid (by have := holds_row r7; rwa [show u64s l ++ u64s l = u64s (l ++ l) by simp [u64s]] at this)
      have HH7 := Lib.hid (HH.out.keeps K7.out (fun _ _ h => h))
      obtain ⟨F, hF⟩ : ∃ F, F = (enc6 (l ++ l)).length := ⟨_, rfl⟩
      have hEF : (E : Int) ≤ (F : Int) := by have := enc6_twice l l; have := HE.out; omega
      have HF := Lib.hid hF
      clear r7 hgrow hF
      go_wp2_with fail
      refine (size6_any _ (l ++ l) w7 (by simp; omega) HD.out (fun y hy => (List.mem_append.1 hy).elim (HX.out y) (HX.out y)) (HT.out.keeps K7.out (fun h => h))).mono ?_
      rw [← HF.out]
      rintro e w8 ⟨rfl, k8⟩
      have K8 := Lib.hid (K7.out.trans k8 (fun _ _ h => h)); have HH8 := Lib.hid (HH7.out.keeps k8 (fun _ _ h => h))
      clear k8
      go_wp2_with fail
      refine (size6_any _ l w8 (by omega) HH8.out HX.out (HT.out.keeps K8.out (fun h => h))).mono ?_
      rw [← HE.out]
      rintro e w9 ⟨rfl, k9⟩
      have K9 := Lib.hid (K8.out.trans k9 (fun _ _ h => h))
      clear k9
      go_wp2
      go_ret
      exact ⟨rfl, K9.out⟩
    · have hn0 : (0 : Int) < n := by omega
      have dn0 : decide ((0 : Int) < n) = true := by simp; omega
      have hw1 : want = 63 + n := by rw [hwv, if_neg h0]
      have hw2 : 63 + (n : Int) = (want : Int) := by omega
      have hw3 : IntKind.i64.wrap (want : Int) = want := wrap_nat want (by omega)
      clear hwv hw1
      go_wp2_with fail
      refine (alive06_any w2 (HT.out.keeps K2.out (fun h => h))).mono ?_
      rintro e w3 ⟨rfl, k3⟩
      have K3 := Lib.hid (K2.out.trans k3 (fun _ _ h => h)); have HM3 := Lib.hid (holds_row (k3.row HM.out (fun _ _ h => h)))
      clear k3
      go_wp2_with fail
      refine (size6_any _ (List.replicate n x) w3 (by simp; omega) HM3.out (fun y hy => by rw [List.eq_of_mem_replicate hy]; exact hx) (HT.out.keeps K3.out (fun h => h))).mono ?_
      rw [← HWANT.out]
      rintro e w4 ⟨rfl, k4⟩
      have K4 := Lib.hid (K3.out.trans k4 (fun _ _ h => h))
      clear k4
      obtain ⟨E, hE⟩ : ∃ E, E = (enc6 l).length := ⟨_, rfl⟩
      have hel := enc6_length l
      rw [← hE] at hel
      have hE1 : IntKind.i64.wrap (78 * (l.length : Int)) = 78 * (l.length : Int) := IntWalk.i64_in _ (by omega)
      have hE2 : (E : Int) ≤ 78 * (l.length : Int) := by omega
      have weq : ((want : Int) == (want : Int)) = true := by simp
      have HE := Lib.hid hE
      have HH4 := Lib.hid (HH.out.keeps K4.out (fun _ _ h => h))
      clear hE hel
      go_wp2_with fail
      refine (size6_any _ l w4 (by omega) HH4.out HX.out (HT.out.keeps K4.out (fun h => h))).mono ?_
      rw [← HE.out]
      rintro e w5 ⟨rfl, k5⟩
      have K5 := Lib.hid (K4.out.trans k5 (fun _ _ h => h)); have HH5 := Lib.hid (HH4.out.keeps k5 (fun _ _ h => h))
      clear k5
      go_wp2_with fail
      refine (cloneWords_any _ l w5 HH5.out (by omega)).mono ?_
      rintro e w6 ⟨vc, rfl, r6, k6⟩
      have K6 := Lib.hid (K5.out.trans k6 (fun _ _ h => h)); have HH6 := Lib.hid (HH5.out.keeps k6 (fun _ _ h => h)); have R6 := Lib.hid r6
      have K65 := Lib.hid k6.size
      clear r6 k6
      clear hE1 hE2 weq
      go_wp2_with (at_builtin; refine wpList_append_wanted _ (by rfl) _ _ 58 rfl w5.heap.size 48 i0 (.int .u64 0) 1 8 Tryd.underlying58 hii hz0 hz1 hz2 rfl (by decide) _ l.length (u64s l) rfl R6.out ⟨ab, ao, none⟩ l.length cap (u64s l) rfl ?c1 ?c2 ?c3 ?c4 ?c5 ?c6 ?_)
      case c1 => rw [u64s_length]; omega
      case c2 => exact (HH6.out.source).2
      case c3 => exact u64s_one l
      case c4 => unfold maxLen; omega
      case c5 => omega
      case c6 => have := (R6.out); exact Nat.le_trans (K65.out) (Nat.le_refl _)
      intro vd w7 r7 hgrow
      have K7 := Lib.hid (K6.out.grown hgrow (fun k hk e => by have := (R6.out.lt k e).1; have := K5.out.size; omega))
      have HD : Hid (Holds w7 vd (u64s (l ++ l))) := Lib.hid (by have := holds_row r7; rwa [show u64s l ++ u64s l = u64s (l ++ l) by simp [u64s]] at this)
      have HH7 := Lib.hid (HH.out.keeps K7.out (fun _ _ h => h))
      obtain ⟨F, hF⟩ : ∃ F, F = (enc6 (l ++ l)).length := ⟨_, rfl⟩
      have hEF : (E : Int) ≤ (F : Int) := by have := enc6_twice l l; have := HE.out; omega
      have HF := Lib.hid hF
      clear r7 hgrow hF
      go_wp2_with fail
      refine (size6_any _ (l ++ l) w7 (by simp; omega) HD.out (fun y hy => (List.mem_append.1 hy).elim (HX.out y) (HX.out y)) (HT.out.keeps K7.out (fun h => h))).mono ?_
      rw [← HF.out]
      rintro e w8 ⟨rfl, k8⟩
      have K8 := Lib.hid (K7.out.trans k8 (fun _ _ h => h)); have HH8 := Lib.hid (HH7.out.keeps k8 (fun _ _ h => h))
      clear k8
      go_wp2_with fail
      refine (size6_any _ l w8 (by omega) HH8.out HX.out (HT.out.keeps K8.out (fun h => h))).mono ?_
      rw [← HE.out]
      rintro e w9 ⟨rfl, k9⟩
      have K9 := Lib.hid (K8.out.trans k9 (fun _ _ h => h))
      clear k9
      go_wp2
      go_ret
      exact ⟨rfl, K9.out⟩
  · by_cases hl2 : l.length ≤ 300
    · obtain rfl : l = [] := Classical.byContradiction fun e => hl ⟨hl2, e⟩
      clear hlast hl hl2
      have hl' : ¬ 300 < ((0 : Nat) : Int) := by decide
      rw [List.length_nil] at hc HH ⊢
      obtain ⟨w1, hw1⟩ : ∃ w1, w1 = w.alloc (.cells #[.int .u64 (x : Nat)] 48) := ⟨_, rfl⟩
      have k1 : Keeps (fun _ => False) w w1 := by rw [hw1]; exact (Keeps.refl _ w).alloc _
      have c1 : w1.cell? ⟨w.heap.size, 0, none⟩ = some (.int .u64 (x : Nat)) := by rw [cell_of_row _ _ _ _ _ _ (show w1.heap[w.heap.size]? = some (.cells #[.int .u64 (x : Nat)] 48 (0, 0)) by rw [hw1]; exact heap_alloc_new w _)]; rfl
      have HX1 := Lib.hid (Holds.one c1); have HW1 := Lib.hid hw1; have K1 := Lib.hid k1
      clear k1 c1 hw1
      have n8 : IntKind.i64.wrap (n : Int) = n := wrap_nat n (by omega)
      go_enter Tryd.func14, Tryd.ntmps14
      go_wp2_with fail
      rw [← HW1.out]
      refine (repeat_any _ _ x n w1 HX1.out (by omega)).mono ?_
      rintro e w2 ⟨vm, rfl, hm, k2⟩
      have HM := Lib.hid hm; have K2 := Lib.hid (K1.out.trans k2 (fun _ _ h => h))
      clear hm k2
      have hwant : ∃ want : Nat, want = (enc6 (List.replicate n x)).length := ⟨_, rfl⟩
      obtain ⟨want, hwant⟩ := hwant
      have hwv := hwant
      rw [enc6_rep] at hwv
      have hwl : want ≤ 400 := by rw [hwv]; split <;> omega
      have HWANT := Lib.hid hwant
      clear hwant
      by_cases h0 : n = 0
      · subst h0
        have hw0 : want = 0 := hwv
        subst hw0
        clear hwv
        go_wp2_with fail
        refine (alive06_any w2 (HT.out.keeps K2.out (fun h => h))).mono ?_
        rintro e w3 ⟨rfl, k3⟩
        have K3 := Lib.hid (K2.out.trans k3 (fun _ _ h => h)); have HM3 := Lib.hid (holds_row (k3.row HM.out (fun _ _ h => h)))
        clear k3
        go_wp2_with fail
        refine (size6_any _ (List.replicate 0 x) w3 (by simp) HM3.out (fun y hy => by rw [List.eq_of_mem_replicate hy]; exact hx) (HT.out.keeps K3.out (fun h => h))).mono ?_
        rw [← HWANT.out]
        rintro e w4 ⟨rfl, k4⟩
        have K4 := Lib.hid (K3.out.trans k4 (fun _ _ h => h))
        clear k4
        have e0 : ((enc6 []).length : Int) = 0 := rfl
        have weq : ((0 : Int) == (0 : Int)) = true := by simp
        have HH4 := Lib.hid (HH.out.keeps K4.out (fun _ _ h => h))
        go_wp2_with fail
        refine (size6_any _ [] w4 (by simp) HH4.out (by simp) (HT.out.keeps K4.out (fun h => h))).mono ?_
        rw [e0]
        rintro e w5 ⟨rfl, k5⟩
        have K5 := Lib.hid (K4.out.trans k5 (fun _ _ h => h)); have HH5 := Lib.hid (HH4.out.keeps k5 (fun _ _ h => h))
        clear k5
        go_wp2_with fail
        refine (cloneWords_any _ [] w5 HH5.out (by simp)).mono ?_
        rintro e w6 ⟨vc, rfl, r6, k6⟩
        obtain ⟨adc, cc, rfl⟩ := row_slice r6
        have K6 := Lib.hid (K5.out.trans k6 (fun _ _ h => h)); have HH6 := Lib.hid (HH5.out.keeps k6 (fun _ _ h => h)); have HC := Lib.hid (holds_row r6)
        clear r6 k6 weq
        cases ad <;> cases adc
        all_goals (
          go_wp2_with fail
          refine (size6_any _ [] w6 (by simp) HC.out (by simp) (HT.out.keeps K6.out (fun h => h))).mono ?_
          rw [e0]
          rintro e w8 ⟨rfl, k8⟩
          have K8 := Lib.hid (K6.out.trans k8 (fun _ _ h => h)); have HH8 := Lib.hid (HH6.out.keeps k8 (fun _ _ h => h))
          clear k8
          go_wp2_with fail
          refine (size6_any _ [] w8 (by simp) HH8.out (by simp) (HT.out.keeps K8.out (fun h => h))).mono ?_
          rw [e0]
          rintro e w9 ⟨rfl, k9⟩
          have K9 := Lib.hid (K8.out.trans k9 (fun _ _ h => h))
          clear k9
          go_wp2
          go_ret
          exact ⟨rfl, K9.out⟩)
      · have hn0 : (0 : Int) < n := by omega
        have dn0 : decide ((0 : Int) < n) = true := by simp; omega
        have hw1 : want = 63 + n := by rw [hwv, if_neg h0]
        have hw2 : 63 + (n : Int) = (want : Int) := by omega
        have hw3 : IntKind.i64.wrap (want : Int) = want := wrap_nat want (by omega)
        clear hwv hw1
        go_wp2_with fail
        refine (alive06_any w2 (HT.out.keeps K2.out (fun h => h))).mono ?_
        rintro e w3 ⟨rfl, k3⟩
        have K3 := Lib.hid (K2.out.trans k3 (fun _ _ h => h)); have HM3 := Lib.hid (holds_row (k3.row HM.out (fun _ _ h => h)))
        clear k3
        go_wp2_with fail
        refine (size6_any _ (List.replicate n x) w3 (by simp; omega) HM3.out (fun y hy => by rw [List.eq_of_mem_replicate hy]; exact hx) (HT.out.keeps K3.out (fun h => h))).mono ?_
        rw [← HWANT.out]
        rintro e w4 ⟨rfl, k4⟩
        have K4 := Lib.hid (K3.out.trans k4 (fun _ _ h => h))
        clear k4
        have e0 : ((enc6 []).length : Int) = 0 := rfl
        have weq : ((want : Int) == (want : Int)) = true := by simp
        have HH4 := Lib.hid (HH.out.keeps K4.out (fun _ _ h => h))
        go_wp2_with fail
        refine (size6_any _ [] w4 (by simp) HH4.out (by simp) (HT.out.keeps K4.out (fun h => h))).mono ?_
        rw [e0]
        rintro e w5 ⟨rfl, k5⟩
        have K5 := Lib.hid (K4.out.trans k5 (fun _ _ h => h)); have HH5 := Lib.hid (HH4.out.keeps k5 (fun _ _ h => h))
        clear k5
        go_wp2_with fail
        refine (cloneWords_any _ [] w5 HH5.out (by simp)).mono ?_
        rintro e w6 ⟨vc, rfl, r6, k6⟩
        obtain ⟨adc, cc, rfl⟩ := row_slice r6
        have K6 := Lib.hid (K5.out.trans k6 (fun _ _ h => h)); have HH6 := Lib.hid (HH5.out.keeps k6 (fun _ _ h => h)); have HC := Lib.hid (holds_row r6)
        clear r6 k6 weq
        cases ad <;> cases adc
        all_goals (
          go_wp2_with fail
          refine (size6_any _ [] w6 (by simp) HC.out (by simp) (HT.out.keeps K6.out (fun h => h))).mono ?_
          rw [e0]
          rintro e w8 ⟨rfl, k8⟩
          have K8 := Lib.hid (K6.out.trans k8 (fun _ _ h => h)); have HH8 := Lib.hid (HH6.out.keeps k8 (fun _ _ h => h))
          clear k8
          go_wp2_with fail
          refine (size6_any _ [] w8 (by simp) HH8.out (by simp) (HT.out.keeps K8.out (fun h => h))).mono ?_
          rw [e0]
          rintro e w9 ⟨rfl, k9⟩
          have K9 := Lib.hid (K8.out.trans k9 (fun _ _ h => h))
          clear k9
          go_wp2
          go_ret
          exact ⟨rfl, K9.out⟩)
    · have hl' : 300 < (l.length : Int) := by omega
      go_enter Tryd.func14, Tryd.ntmps14
      go_wp2_with fail
      refine (alive06_any w HT.out).mono ?_
      rintro e w3 ⟨rfl, k3⟩
      have K3 := Lib.hid k3
      clear k3
      go_wp2
      go_ret
      exact ⟨rfl, K3.out⟩
end Go.Proofs.YtdniaingipoggaaDoor
