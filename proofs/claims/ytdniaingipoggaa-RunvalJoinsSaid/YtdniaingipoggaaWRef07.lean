/-
  WALKS: tsblockref07.Split.
-/
import Derived.Test.YtdniaingipoggaaWRunD
import Derived.WalkSpells
import Derived.WalkLawsBesides
import Derived.Deep.QuietTactic
import Derived.BigQuiet
namespace Go.Proofs.Ytdniaingipoggaa
open Go.RowKit

theorem infoInt : (Try.prog.info? 3).map (fun i => (i.zero, i.size, i.bytes)) = some (some (.int .i64 0), 1, 8) := by kernel_rfl
def natI (l : List Nat) : List Value := l.map fun c => .int .i64 ((c : Nat) : Int)
theorem natI_length (l : List Nat) : (natI l).length = l.length := by simp [natI]
theorem refStep_bound (acc : List (Nat × Nat)) (x : Nat) (h : ∀ p ∈ acc, 1 ≤ p.2 ∧ p.2 ≤ 128) : ∀ p ∈ refStep acc x, 1 ≤ p.2 ∧ p.2 ≤ 128 := by
  rcases snoc_cases acc with rfl | ⟨pre, ⟨y, c⟩, rfl⟩
  · intro p hp; rw [refStep_nil] at hp; simp at hp; subst hp; exact ⟨by simp, by simp⟩
  · by_cases h1 : y = x ∧ c < 128
    · obtain ⟨rfl, h2⟩ := h1
      rw [refStep_same _ _ _ h2]
      intro p hp
      rcases List.mem_append.1 hp with hp | hp
      · exact h p (List.mem_append_left _ hp)
      · simp at hp; subst hp; simp only; omega
    · rw [refStep_new _ _ _ _ h1]
      intro p hp
      rcases List.mem_append.1 hp with hp | hp
      · exact h p hp
      · simp at hp; subst hp; exact ⟨by simp, by simp⟩
theorem refStep_length (acc : List (Nat × Nat)) (x : Nat) : (refStep acc x).length ≤ acc.length + 1 := by
  rcases snoc_cases acc with rfl | ⟨pre, ⟨y, c⟩, rfl⟩
  · simp [refStep_nil]
  · by_cases h1 : y = x ∧ c < 128
    · obtain ⟨rfl, h2⟩ := h1
      rw [refStep_same _ _ _ h2]; simp
    · rw [refStep_new _ _ _ _ h1]; simp

set_option maxRecDepth 100000 in
set_option maxHeartbeats 2000000 in
theorem refSplit_any (v : Value) (l : List Nat) (w : World) (hl : l.length ≤ 1000000000) (h : Holds w v (u64s l)) :
    Calls Try.prog 48 #[v] w fun e w' => ∃ v1 v2, e = .returned (.tuple #[v1, v2]) ∧ w'.ownsRow w.heap.size 35 1 v1 (runsOf l).length (u64s ((runsOf l).map (·.1))) ∧ w'.ownsRow w.heap.size 3 1 v2 (runsOf l).length (natI ((runsOf l).map (·.2))) ∧ Keeps (fun _ => False) w w' := by
  obtain ⟨i0, hi, hz0, hz1, hz2⟩ := info_parts infoU64
  obtain ⟨i1, gi, gz0, gz1, gz2⟩ := info_parts infoInt
  have HH := Lib.hid h
  obtain ⟨ad, cap, rfl, hc, _⟩ := h
  rw [u64s_length] at hc HH ⊢
  go_enter Try.func48, Try.ntmps48
  go_wp2
  go_loopw [4, 5, 6] (fun t4 t5 t6 wr => ∃ (i : Nat) (acc : List (Nat × Nat)) (v1 v2 : Value), i ≤ l.length ∧ v1 = t4 ∧ v2 = t5 ∧ t6 = .int .i64 i ∧ acc = (l.take i).foldl refStep [] ∧ acc.length ≤ i ∧ (∀ p ∈ acc, 1 ≤ p.2 ∧ p.2 ≤ 128) ∧
      wr.ownsRow w.heap.size 35 1 v1 acc.length (u64s (acc.map (·.1))) ∧ wr.ownsRow w.heap.size 3 1 v2 acc.length (natI (acc.map (·.2))) ∧ Keeps (fun _ => False) w wr) (fun _ _ t6 _ => l.length - (intOf t6).toNat)
  case atStart => exact ⟨0, [], _, _, by omega, rfl, rfl, rfl, by simp, by simp, by simp, World.ownsRow_nil _ _ _ _, World.ownsRow_nil _ _ _ _, Keeps.refl _ _⟩
  case round =>
    obtain ⟨i, acc, v1, v2, hil, rfl, rfl, rfl, hacc, hal, hab, hr1, hr2, hk⟩ := hrel
    by_cases hlt : i < l.length
    · obtain ⟨x, hxi⟩ : ∃ x, l[i]? = some x := ⟨l[i], by simp [hlt]⟩
      have hh := HH.out.keeps hk (fun _ _ h => h)
      obtain ⟨b, off, rfl, hcx⟩ := drop_cell hh hxi
      have hnext : refStep acc x = (l.take (i + 1)).foldl refStep [] := by
        rw [List.take_add_one, hxi, List.foldl_append, ← hacc]; rfl
      have hnb := refStep_bound acc x hab
      have hnl := refStep_length acc x
      have hws := hk.size
      have HN := Lib.hid hnext; have HNB := Lib.hid hnb; have HNL := Lib.hid hnl; have HK := Lib.hid hk
      clear hnext hnb hnl hk hacc hh hxi
      have hlti : (i : Int) < l.length := by omega
      clear hlt
      rcases snoc_cases acc with rfl | ⟨pre, ⟨y, c⟩, rfl⟩
      · rw [List.length_nil] at hr1 hr2
        obtain ⟨a1, c1, rfl⟩ := row_slice hr1
        obtain ⟨a2, c2, rfl⟩ := row_slice hr2
        have HR1 := Lib.hid hr1; have HR2 := Lib.hid hr2
        clear hr1 hr2 hab
        go_wp2
        go_quiet (fail)
        obtain ⟨wq, hwq⟩ : ∃ wq, wq = wr.drewN nq := ⟨_, rfl⟩
        rw [← hwq]
        have hq1 : wq.ownsRow w.heap.size 35 1 (.slice a1 0 c1) 0 (u64s (([] : List (Nat × Nat)).map (·.1))) := by rw [hwq]; exact HR1.out
        have hq2 : wq.ownsRow w.heap.size 3 1 (.slice a2 0 c2) 0 (natI (([] : List (Nat × Nat)).map (·.2))) := by rw [hwq]; exact HR2.out
        have hqk : Keeps (fun _ => False) w wq := by rw [hwq]; exact HK.out.drewN nq
        have hqc : wq.cell? ⟨b, off + i, none⟩ = some (.int .u64 (x : Nat)) := by rw [hwq]; exact hcx
        have hws1 := hqk.size
        have HQ2 := Lib.hid hq2; have HQK := Lib.hid hqk
        clear hwq hq2 hqk
        go_wp2_with (at_builtin; refine wpList_append_new _ rfl _ _ 76 rfl w.heap.size 35 i0 (.int .u64 0) 1 8 Try.underlying76 hi hz0 hz1 hz2 rfl (by decide) _ _ _ rfl (hq1.alloc _) ⟨wq.heap.size, 0, none⟩ 1 1 [.int .u64 (x : Nat)] rfl rfl ?c1 ?c2 ?c3 ?c4 ?c5 ?_)
        case c1 => exact cell_one_new _ _ _
        case c2 => simp [Value.oneCell']
        case c3 => unfold maxLen; omega
        case c4 => omega
        case c5 => simp; omega
        intro v1' w1 hown1 hgrow1 hnew1
        have kg1 : Keeps (own (.slice a1 0 c1)) wq w1 := ((Keeps.refl (own _) wq).alloc _).grown hgrow1 (fun k _ e => e)
        have hq2 := kg1.row HQ2.out (fun g hg e => by
          obtain ⟨c', hc'⟩ := row_type HQ2.out hg
          obtain ⟨c'', hc''⟩ := row_type hq1 e
          exact ne_of_types hc' hc'' (by decide) rfl)
        have hkk1 := HQK.out.trans kg1 (fun k hk e => by have := (hq1.lt k e).1; omega)
        have hws2 : w.heap.size ≤ w1.heap.size := hkk1.size
        obtain ⟨a1', c1', rfl⟩ := row_slice hown1
        have HO1 := Lib.hid hown1; have HKK1 := Lib.hid hkk1; have HQ22 := Lib.hid hq2
        clear hown1 hgrow1 hnew1 kg1 hkk1 hq1 hqc hcx
        go_wp2_with (at_builtin; refine wpList_append_new _ rfl _ _ 46 rfl w.heap.size 3 i1 (.int .i64 0) 1 8 Try.underlying46 gi gz0 gz1 gz2 rfl (by decide) _ _ _ rfl (hq2.alloc _) ⟨w1.heap.size, 0, none⟩ 1 1 [.int .i64 1] rfl rfl ?c1 ?c2 ?c3 ?c4 ?c5 ?_)
        case c1 => exact cell_one_new _ _ _
        case c2 => simp [Value.oneCell']
        case c3 => unfold maxLen; omega
        case c4 => omega
        case c5 => simp; omega
        intro v2' w2 hown2 hgrow2 hnew2
        have kg2 : Keeps (own (.slice a2 0 c2)) w1 w2 := ((Keeps.refl (own _) w1).alloc _).grown hgrow2 (fun k _ e => e)
        have ho1 := kg2.row HO1.out (fun g hg e => by
          obtain ⟨c', hc'⟩ := row_type HO1.out hg
          obtain ⟨c'', hc''⟩ := row_type hq2 e
          exact ne_of_types hc' hc'' (by decide) rfl)
        have hkk2 := HKK1.out.trans kg2 (fun k hk e => by have := (hq2.lt k e).1; omega)
        obtain ⟨a2', c2', rfl⟩ := row_slice hown2
        have G1 := Lib.hid ho1; have G2 := Lib.hid hown2; have G3 := Lib.hid hkk2
        clear ho1 hown2 hkk2 hgrow2 hnew2 kg2 hq2
        go_wp2
        exact ⟨⟨i + 1, refStep ([] : List (Nat × Nat)) x, _, _, by omega, rfl, rfl, by go_num, HN.out, by simp [refStep_nil], HNB.out, by have := G1.out; simpa [refStep_nil, u64s] using this, by have := G2.out; simpa [refStep_nil, natI] using this, G3.out⟩, by simp [intOf]; omega⟩
      · have hc1 : 1 ≤ c ∧ c ≤ 128 := hab (y, c) (by simp)
        have en : (pre ++ [(y, c)]).length = pre.length + 1 := by simp
        rw [en] at hr1 hr2 hal
        obtain ⟨n, hn⟩ : ∃ n, n = pre.length := ⟨_, rfl⟩
        rw [← hn] at hr1 hr2 hal
        obtain ⟨g1, cap1, cur1, rfl, hb1, hg1, hn1, _, hs1, ht1⟩ := row_shape hr1 (by omega)
        obtain ⟨g2, cap2, cur2, rfl, hb2, hg2, hn2, _, hs2, ht2⟩ := row_shape hr2 (by omega)
        have hv1 : wr.cell? ⟨g1, n, none⟩ = some (.int .u64 (y : Nat)) := take_cell hg1 ht1 (by rw [hn]; simp [u64s])
        have hv2 : wr.cell? ⟨g2, n, none⟩ = some (.int .i64 (c : Nat)) := take_cell hg2 ht2 (by rw [hn]; simp [natI])
        have hf2 : wr.frozen? ⟨g2, n, none⟩ = false := frozen_of_row _ _ _ _ _ hg2
        have hng : ¬ g1 = g2 := ne_of_types hg1 hg2 (by decide)
        have HR1 := Lib.hid hr1; have HR2 := Lib.hid hr2; have EN := Lib.hid hn
        have hk1 : IntKind.i64.wrap (((n + 1 : Nat) : Int) - 1) = n := by rw [IntWalk.i64_in _ (by omega)]; omega
        have hk2 : ((n + 1 : Nat) : Int) - 1 = n := by omega
        have hk3 : (n : Int) + 1 - 1 = n := by omega
        have hk4 : IntKind.i64.wrap (n : Int) = n := wrap_nat _ (by omega)
        clear hr1 hr2 hg1 hg2 ht1 ht2 hs1 hs2 hn en hab
        by_cases hrep : y = x ∧ c < 128
        · obtain ⟨rfl, hc2⟩ := hrep
          have hc2' : (c : Int) < 128 := by omega
          clear hc2
          go_wp2
          go_quiet (fail)
          obtain ⟨wq, hwq⟩ : ∃ wq, wq = wr.drewN nq := ⟨_, rfl⟩
          rw [← hwq]
          have hq1 : wq.ownsRow w.heap.size 35 1 (.slice (some ⟨g1, 0, none⟩) (n + 1) cap1) (n + 1) (u64s ((pre ++ [(y, c)]).map (·.1))) := by rw [hwq]; exact HR1.out
          have hq2 : wq.ownsRow w.heap.size 3 1 (.slice (some ⟨g2, 0, none⟩) (n + 1) cap2) (n + 1) (natI ((pre ++ [(y, c)]).map (·.2))) := by rw [hwq]; exact HR2.out
          have hqk : Keeps (fun _ => False) w wq := by rw [hwq]; exact HK.out.drewN nq
          have hqv : wq.cell? ⟨g2, n, none⟩ = some (.int .i64 (c : Nat)) := by rw [hwq]; exact hv2
          have hqf : wq.frozen? ⟨g2, n, none⟩ = false := by rw [hwq]; exact hf2
          obtain ⟨s1, _⟩ := hq2.stored n (.int .i64 ((c : Int) + 1))
          have ks : Keeps (fun k => k = g2) wq (wq.setCell ⟨g2, n, none⟩ (.int .i64 ((c : Int) + 1))) := (Keeps.refl (fun k => k = g2) wq).setCell (p := ⟨g2, n, none⟩) (fun _ => rfl) _
          have s2 := ks.row hq1 (fun g hg e => by simp only [Value.ownBlock, Option.some.injEq] at hg; omega)
          have s3 := hqk.trans ks (fun k hk e => by omega)
          have e1 : (refStep (pre ++ [(y, c)]) y) = pre ++ [(y, c + 1)] := refStep_same _ _ _ (by omega)
          have S1 := Lib.hid s1; have S2 := Lib.hid s2; have S3 := Lib.hid s3; have E1 := Lib.hid e1
          clear hwq hq1 hq2 hqk s1 s2 s3 ks e1 hv1 hv2 hf2 hcx
          go_wp2
          refine ⟨⟨i + 1, refStep (pre ++ [(y, c)]) y, _, _, by omega, rfl, rfl, by go_num, HN.out, by rw [E1.out, show (pre ++ [(y, c + 1)]).length = n + 1 by rw [EN.out]; simp]; omega, HNB.out, ?_, ?_, S3.out⟩, by simp [intOf]; omega⟩
          · rw [E1.out, show (pre ++ [(y, c + 1)]).length = n + 1 by rw [EN.out]; simp]
            have := S2.out
            simpa [u64s] using this
          · rw [E1.out, show (pre ++ [(y, c + 1)]).length = n + 1 by rw [EN.out]; simp]
            have h1 := S1.out
            have h2 : (natI ((pre ++ [(y, c)]).map (·.2))).set n (.int .i64 ((c : Int) + 1)) = natI ((pre ++ [(y, c + 1)]).map (·.2)) := by
              rw [EN.out]; simp [natI]
            rw [h2] at h1
            exact h1
        · have hcs : ((y : Int) == (x : Int)) = false ∨ (y = x ∧ ¬ (c : Int) < 128) := by
            by_cases h1 : y = x
            · exact .inr ⟨h1, fun h => hrep ⟨h1, by omega⟩⟩
            · exact .inl (by simp; omega)
          have e1 : (refStep (pre ++ [(y, c)]) x) = pre ++ [(y, c)] ++ [(x, 1)] := refStep_new _ _ _ _ hrep
          have e2 : (pre ++ [(y, c)] ++ [(x, 1)]).length = n + 1 + 1 := by rw [EN.out]; simp
          have E1 := Lib.hid e1; have E2 := Lib.hid e2
          clear e1 e2 hrep
          rcases hcs with hyx | ⟨hyx, hc2⟩
          · go_wp2
            go_quiet (fail)
            obtain ⟨a1, ha1⟩ : ∃ a1, a1 = some (⟨g1, 0, none⟩ : Addr) := ⟨_, rfl⟩
            obtain ⟨a2, ha2⟩ : ∃ a2, a2 = some (⟨g2, 0, none⟩ : Addr) := ⟨_, rfl⟩
            obtain ⟨c1, hcc1⟩ : ∃ c1, c1 = cap1 := ⟨_, rfl⟩
            obtain ⟨c2, hcc2⟩ : ∃ c2, c2 = cap2 := ⟨_, rfl⟩
            rw [← ha1, ← hcc1] at HR1
            rw [← ha2, ← hcc2] at HR2
            rw [← ha1, ← ha2, ← hcc1, ← hcc2]
            clear ha1 ha2 hcc1 hcc2 hv1 hv2 hf2
            obtain ⟨wq, hwq⟩ : ∃ wq, wq = wr.drewN nq := ⟨_, rfl⟩
            rw [← hwq]
            have hq1 : wq.ownsRow w.heap.size 35 1 (.slice a1 (n + 1) c1) (n + 1) (u64s ((pre ++ [(y, c)]).map (·.1))) := by rw [hwq]; exact HR1.out
            have hq2 : wq.ownsRow w.heap.size 3 1 (.slice a2 (n + 1) c2) (n + 1) (natI ((pre ++ [(y, c)]).map (·.2))) := by rw [hwq]; exact HR2.out
            have hqk : Keeps (fun _ => False) w wq := by rw [hwq]; exact HK.out.drewN nq
            have hqc : wq.cell? ⟨b, off + i, none⟩ = some (.int .u64 (x : Nat)) := by rw [hwq]; exact hcx
            have hws1 := hqk.size
            have HQ2 := Lib.hid hq2; have HQK := Lib.hid hqk
            clear hwq hq2 hqk
            go_wp2_with (at_builtin; refine wpList_append_new _ rfl _ _ 76 rfl w.heap.size 35 i0 (.int .u64 0) 1 8 Try.underlying76 hi hz0 hz1 hz2 rfl (by decide) _ _ _ rfl (hq1.alloc _) ⟨wq.heap.size, 0, none⟩ 1 1 [.int .u64 (x : Nat)] rfl rfl ?c1 ?c2 ?c3 ?c4 ?c5 ?_)
            case c1 => exact cell_one_new _ _ _
            case c2 => simp [Value.oneCell']
            case c3 => unfold maxLen; omega
            case c4 => omega
            case c5 => simp; omega
            intro v1' w1 hown1 hgrow1 hnew1
            have kg1 : Keeps (own (.slice a1 (n + 1) c1)) wq w1 := ((Keeps.refl (own _) wq).alloc _).grown hgrow1 (fun k _ e => e)
            have hq2 := kg1.row HQ2.out (fun g hg e => by
              obtain ⟨c', hc'⟩ := row_type HQ2.out hg
              obtain ⟨c'', hc''⟩ := row_type hq1 e
              exact ne_of_types hc' hc'' (by decide) rfl)
            have hkk1 := HQK.out.trans kg1 (fun k hk e => by have := (hq1.lt k e).1; omega)
            have hws2 : w.heap.size ≤ w1.heap.size := hkk1.size
            obtain ⟨a1', c1', rfl⟩ := row_slice hown1
            have HO1 := Lib.hid hown1; have HKK1 := Lib.hid hkk1; have HQ22 := Lib.hid hq2
            clear hown1 hgrow1 hnew1 kg1 hkk1 hq1 hqc hcx
            go_wp2_with (at_builtin; refine wpList_append_new _ rfl _ _ 46 rfl w.heap.size 3 i1 (.int .i64 0) 1 8 Try.underlying46 gi gz0 gz1 gz2 rfl (by decide) _ _ _ rfl (hq2.alloc _) ⟨w1.heap.size, 0, none⟩ 1 1 [.int .i64 1] rfl rfl ?c1 ?c2 ?c3 ?c4 ?c5 ?_)
            case c1 => exact cell_one_new _ _ _
            case c2 => simp [Value.oneCell']
            case c3 => unfold maxLen; omega
            case c4 => omega
            case c5 => simp; omega
            intro v2' w2 hown2 hgrow2 hnew2
            have kg2 : Keeps (own (.slice a2 (n + 1) c2)) w1 w2 := ((Keeps.refl (own _) w1).alloc _).grown hgrow2 (fun k _ e => e)
            have ho1 := kg2.row HO1.out (fun g hg e => by
              obtain ⟨c', hc'⟩ := row_type HO1.out hg
              obtain ⟨c'', hc''⟩ := row_type hq2 e
              exact ne_of_types hc' hc'' (by decide) rfl)
            have hkk2 := HKK1.out.trans kg2 (fun k hk e => by have := (hq2.lt k e).1; omega)
            obtain ⟨a2', c2', rfl⟩ := row_slice hown2
            have G1 := Lib.hid ho1; have G2 := Lib.hid hown2; have G3 := Lib.hid hkk2
            clear ho1 hown2 hkk2 hgrow2 hnew2 kg2 hq2
            go_wp2
            exact ⟨⟨i + 1, refStep (pre ++ [(y, c)]) x, _, _, by omega, rfl, rfl, by go_num, HN.out, by rw [E1.out, E2.out]; omega, HNB.out, by have h1 := G1.out; rw [E1.out, E2.out]; simpa [u64s] using h1, by have h1 := G2.out; rw [E1.out, E2.out]; simpa [natI] using h1, G3.out⟩, by simp [intOf]; omega⟩
          · subst hyx
            have hd2 : decide ((c : Int) < 128) = false := by simpa using hc2
            go_wp2
            go_quiet (fail)
            obtain ⟨a1, ha1⟩ : ∃ a1, a1 = some (⟨g1, 0, none⟩ : Addr) := ⟨_, rfl⟩
            obtain ⟨a2, ha2⟩ : ∃ a2, a2 = some (⟨g2, 0, none⟩ : Addr) := ⟨_, rfl⟩
            obtain ⟨c1, hcc1⟩ : ∃ c1, c1 = cap1 := ⟨_, rfl⟩
            obtain ⟨c2, hcc2⟩ : ∃ c2, c2 = cap2 := ⟨_, rfl⟩
            rw [← ha1, ← hcc1] at HR1
            rw [← ha2, ← hcc2] at HR2
            rw [← ha1, ← ha2, ← hcc1, ← hcc2]
            clear ha1 ha2 hcc1 hcc2 hv1 hv2 hf2
            obtain ⟨wq, hwq⟩ : ∃ wq, wq = wr.drewN nq := ⟨_, rfl⟩
            rw [← hwq]
            have hq1 : wq.ownsRow w.heap.size 35 1 (.slice a1 (n + 1) c1) (n + 1) (u64s ((pre ++ [(y, c)]).map (·.1))) := by rw [hwq]; exact HR1.out
            have hq2 : wq.ownsRow w.heap.size 3 1 (.slice a2 (n + 1) c2) (n + 1) (natI ((pre ++ [(y, c)]).map (·.2))) := by rw [hwq]; exact HR2.out
            have hqk : Keeps (fun _ => False) w wq := by rw [hwq]; exact HK.out.drewN nq
            have hqc : wq.cell? ⟨b, off + i, none⟩ = some (.int .u64 (y : Nat)) := by rw [hwq]; exact hcx
            have hws1 := hqk.size
            have HQ2 := Lib.hid hq2; have HQK := Lib.hid hqk
            clear hwq hq2 hqk
            go_wp2_with (at_builtin; refine wpList_append_new _ rfl _ _ 76 rfl w.heap.size 35 i0 (.int .u64 0) 1 8 Try.underlying76 hi hz0 hz1 hz2 rfl (by decide) _ _ _ rfl (hq1.alloc _) ⟨wq.heap.size, 0, none⟩ 1 1 [.int .u64 (y : Nat)] rfl rfl ?c1 ?c2 ?c3 ?c4 ?c5 ?_)
            case c1 => exact cell_one_new _ _ _
            case c2 => simp [Value.oneCell']
            case c3 => unfold maxLen; omega
            case c4 => omega
            case c5 => simp; omega
            intro v1' w1 hown1 hgrow1 hnew1
            have kg1 : Keeps (own (.slice a1 (n + 1) c1)) wq w1 := ((Keeps.refl (own _) wq).alloc _).grown hgrow1 (fun k _ e => e)
            have hq2 := kg1.row HQ2.out (fun g hg e => by
              obtain ⟨c', hc'⟩ := row_type HQ2.out hg
              obtain ⟨c'', hc''⟩ := row_type hq1 e
              exact ne_of_types hc' hc'' (by decide) rfl)
            have hkk1 := HQK.out.trans kg1 (fun k hk e => by have := (hq1.lt k e).1; omega)
            have hws2 : w.heap.size ≤ w1.heap.size := hkk1.size
            obtain ⟨a1', c1', rfl⟩ := row_slice hown1
            have HO1 := Lib.hid hown1; have HKK1 := Lib.hid hkk1; have HQ22 := Lib.hid hq2
            clear hown1 hgrow1 hnew1 kg1 hkk1 hq1 hqc hcx
            go_wp2_with (at_builtin; refine wpList_append_new _ rfl _ _ 46 rfl w.heap.size 3 i1 (.int .i64 0) 1 8 Try.underlying46 gi gz0 gz1 gz2 rfl (by decide) _ _ _ rfl (hq2.alloc _) ⟨w1.heap.size, 0, none⟩ 1 1 [.int .i64 1] rfl rfl ?c1 ?c2 ?c3 ?c4 ?c5 ?_)
            case c1 => exact cell_one_new _ _ _
            case c2 => simp [Value.oneCell']
            case c3 => unfold maxLen; omega
            case c4 => omega
            case c5 => simp; omega
            intro v2' w2 hown2 hgrow2 hnew2
            have kg2 : Keeps (own (.slice a2 (n + 1) c2)) w1 w2 := ((Keeps.refl (own _) w1).alloc _).grown hgrow2 (fun k _ e => e)
            have ho1 := kg2.row HO1.out (fun g hg e => by
              obtain ⟨c', hc'⟩ := row_type HO1.out hg
              obtain ⟨c'', hc''⟩ := row_type hq2 e
              exact ne_of_types hc' hc'' (by decide) rfl)
            have hkk2 := HKK1.out.trans kg2 (fun k hk e => by have := (hq2.lt k e).1; omega)
            obtain ⟨a2', c2', rfl⟩ := row_slice hown2
            have G1 := Lib.hid ho1; have G2 := Lib.hid hown2; have G3 := Lib.hid hkk2
            clear ho1 hown2 hkk2 hgrow2 hnew2 kg2 hq2
            go_wp2
            exact ⟨⟨i + 1, refStep (pre ++ [(y, c)]) y, _, _, by omega, rfl, rfl, by go_num, HN.out, by rw [E1.out, E2.out]; omega, HNB.out, by have h1 := G1.out; rw [E1.out, E2.out]; simpa [u64s] using h1, by have h1 := G2.out; rw [E1.out, E2.out]; simpa [natI] using h1, G3.out⟩, by simp [intOf]; omega⟩
    · obtain rfl : i = l.length := by omega
      rw [List.take_length, refSplit_eq] at hacc
      subst hacc
      go_wp2
      go_ret2
      exact ⟨_, _, rfl, hr1, hr2, hk⟩
end Go.Proofs.Ytdniaingipoggaa
