/-
  WALKS: runval.runs, an iterator over the runs of a list (it only reads).
-/
import Derived.Test.YtdniaingipoggaaPRuns
import Derived.Test.YtdniaingipoggaaPArgs
import Derived.Test.YtdniaingipoggaaPRange2
import Derived.Test.YtdniaingipoggaaWVarA
import Derived.Sort.QuietIn
namespace Go.Proofs.Ytdniaingipoggaa
open Go.RowKit Go.Shelf
attribute [local go_sem] Oper.semAt_some

def encR (p : Nat × Nat) : Array Value := #[.agg #[.int .u64 ((p.1 : Nat) : Int), .int .i64 ((p.2 : Nat) : Int)]]

/-- the block that a slice reads as xs from, if it reads anything -/
def ownH {α : Type} (v : Value) (l : List α) (k : Nat) : Prop := l ≠ [] ∧ v.ownBlock = some k
theorem Holds.keepsH {α : Type} {S : Nat → Prop} {a b : World} {v : Value} {xs : List Value} {l : List α} (h : Holds a v xs) (k : Keeps S a b) (he : l = [] → xs = []) (hS : ∀ g, ownH v l g → ¬ S g) : Holds b v xs := by
  by_cases hl : l = []
  · obtain ⟨ad, cap, hv, hc, _⟩ := h
    exact ⟨ad, cap, hv, hc, .inl (he hl)⟩
  · exact h.keeps k (fun g hg => hS g ⟨hl, hg⟩)
theorem u64s_nil {l : List Nat} (h : l = []) : u64s l = [] := by rw [h]; rfl
theorem ownH_lt {w : World} {v : Value} {l : List Nat} (h : Holds w v (u64s l)) {k : Nat} (hk : ownH v l k) : k < w.heap.size := by
  obtain ⟨g, hg, hlt⟩ := h.lt (fun e => hk.1 (by cases l <;> simp_all [u64s]))
  have h2 := hk.2
  rw [hg] at h2
  simp only [Option.some.injEq] at h2
  omega
theorem drop_cell {w : World} {ad : Option Addr} {cap : Nat} {l : List Nat} (h : Holds w (.slice ad l.length cap) (u64s l)) {j y : Nat} (hj : l[j]? = some y) :
    ∃ b off, ad = some ⟨b, off, none⟩ ∧ w.cell? ⟨b, off + j, none⟩ = some (.int .u64 (y : Nat)) := by
  obtain ⟨b, off, cap', hv, hc⟩ := h.index (j := j) (u := .int .u64 (y : Nat)) (by simp [u64s, hj])
  simp only [Value.slice.injEq] at hv
  exact ⟨b, off, hv.1, hc⟩
theorem lead_more {x k j : Nat} {l : List Nat} (hk : 0 < k) (h : l[j]? = some x) : lead x k (l.drop j) = lead x (k - 1) (l.drop (j + 1)) + 1 := by
  obtain ⟨m, rfl⟩ : ∃ m, k = m + 1 := ⟨k - 1, by omega⟩
  have hlt : j < l.length := (List.getElem?_eq_some_iff.1 h).1
  rw [List.drop_eq_getElem_cons hlt]
  have e : l[j] = x := by rw [List.getElem?_eq_getElem hlt] at h; simpa using h
  simp only [lead, e, if_true, Nat.add_sub_cancel]
theorem lead_end {x k j : Nat} {l : List Nat} (h : l.length ≤ j ∨ k = 0 ∨ ∃ y, l[j]? = some y ∧ y ≠ x) : lead x k (l.drop j) = 0 := by
  rcases h with h | rfl | ⟨y, h, hn⟩
  · rw [List.drop_eq_nil_of_le h]; cases k <;> rfl
  · rfl
  · have hlt : j < l.length := (List.getElem?_eq_some_iff.1 h).1
    rw [List.drop_eq_getElem_cons hlt]
    have e : l[j] = y := by rw [List.getElem?_eq_getElem hlt] at h; simpa using h
    cases k with
    | zero => rfl
    | succ k => simp only [lead, e]; rw [if_neg hn]
theorem runsOf_at {l : List Nat} {j x : Nat} (h : l[j]? = some x) : runsOf (l.drop j) = (x, lead x 127 (l.drop (j + 1)) + 1) :: runsOf (l.drop (j + (lead x 127 (l.drop (j + 1)) + 1))) := by
  have hlt : j < l.length := (List.getElem?_eq_some_iff.1 h).1
  rw [List.drop_eq_getElem_cons hlt]
  have e : l[j] = x := by rw [List.getElem?_eq_getElem hlt] at h; simpa using h
  rw [e, runsOf_cons, List.drop_drop]
  congr 3
  omega

set_option maxRecDepth 100000 in
set_option maxHeartbeats 2000000 in
theorem runs_seq (Bx : Nat) (v : Value) (l : List Nat) (w : World) (hl : l.length ≤ 140737488351232) (hc : w.cell? ⟨Bx, 0, none⟩ = some v) (h : Holds w v (u64s l)) :
    SeqR Try.prog 73 #[.pointer (some ⟨Bx, 0, none⟩)] encR (fun k => k = Bx ∨ ownH v l k) (fun _ => False) (fun xs => xs = runsOf l) (fun pre => pre <+: runsOf l) w := by
  intro L J Jx W hW hJ hJx hY h0
  have hc1 : W.cell? ⟨Bx, 0, none⟩ = some v := hW.cell hc (fun h => h (.inl rfl))
  have h1 : Holds W v (u64s l) := h.keepsH hW u64s_nil (fun g hg hn => hn (.inr hg))
  have HH := Lib.hid h1
  obtain ⟨ad, cap, rfl, hcap, hcells⟩ := h1
  clear hcells h hc hW
  rw [u64s_length] at hcap hc1 HH hY
  refine callsIn_of_wp Try.func73 rfl trivial ?_ rfl
  simp only [Try.ntmps73, List.size_toArray, List.length_cons, List.length_nil, Nat.reduceAdd, Nat.reduceSub, Array.replicate_succ, Array.replicate_zero, List.push_toArray, List.append_toArray, List.nil_append, List.cons_append]
  have HY := Lib.hid hY
  have HJ := Lib.hid hJ
  have HJx := Lib.hid hJx
  clear hY hJ hJx
  gi_wp2
  gi_loopw [3] (fun t3 wr => ∃ (j : Nat) (pre : List (Nat × Nat)), j ≤ l.length ∧ t3 = .int .i64 j ∧ pre ++ runsOf (l.drop j) = runsOf l ∧ wr.cell? ⟨Bx, 0, none⟩ = some (.slice ad l.length cap) ∧ Holds wr (.slice ad l.length cap) (u64s l) ∧ J pre wr)
    (fun t3 wr => l.length - (intOf t3).toNat)
  case atStart => exact ⟨0, [], by omega, rfl, by simp, hc1, HH.out, h0⟩
  case round =>
    obtain ⟨j, pre, hj, rfl, hx, hcb, hh, hJp⟩ := hrel
    clear hc1 h0
    by_cases hlt : j < l.length
    · obtain ⟨x, hxj⟩ : ∃ x, l[j]? = some x := ⟨l[j], by simp [hlt]⟩
      obtain ⟨b, off, rfl, hcx⟩ := drop_cell hh hxj
      rw [runsOf_at hxj] at hx
      obtain ⟨n, hn⟩ : ∃ n, n = lead x 127 (l.drop (j + 1)) + 1 := ⟨_, rfl⟩
      rw [← hn] at hx
      have hnl : n ≤ 128 ∧ j + n ≤ l.length := by
        have := lead_le x 127 (l.drop (j + 1))
        rw [List.length_drop] at this
        omega
      have HN := Lib.hid hn; have HX := Lib.hid hx; have HJp := Lib.hid hJp; have Hh := Lib.hid hh; have Hxj := Lib.hid hxj
      have hlt' : (j : Int) < l.length := by omega
      clear hn hx hJp hh hxj HH
      gi_wp2
      gi_loopw [4] (fun t4 wq => ∃ c : Nat, 1 ≤ c ∧ c ≤ n ∧ t4 = .int .i64 ((j + c : Nat) : Int) ∧ ∃ q, wq = wr.drewN q) (fun t4 wq => l.length - (intOf t4).toNat)
      case atStart => exact ⟨1, by omega, by have := HN.out; omega, by go_num, 0, rfl⟩
      case round =>
        obtain ⟨c, hc1, hcn, rfl, q, rfl⟩ := hrel
        obtain ⟨T, hT⟩ : ∃ T, T = j + c := ⟨_, rfl⟩
        rw [← hT]
        obtain ⟨wq, hwq⟩ : ∃ wq, wq = wr.drewN q := ⟨_, rfl⟩
        have hcq : wq.cell? ⟨Bx, 0, none⟩ = some (.slice (some ⟨b, off, none⟩) l.length cap) := by rw [hwq]; exact hcb
        have hcxq : wq.cell? ⟨b, off + j, none⟩ = some (.int .u64 (x : Nat)) := by rw [hwq]; exact hcx
        rw [← hwq]
        have HWQ := Lib.hid hwq; have HT := Lib.hid hT
        have hTb : T ≤ l.length := by omega
        have hTj : (T : Int) - j = c := by omega
        have hwT : IntKind.i64.wrap ((T : Int) - j) = c := by rw [IntWalk.i64_in _ (by omega)]; omega
        have hwc : IntKind.i64.wrap (c : Int) = c := wrap_nat _ (by omega)
        clear hwq hT
        by_cases hmore : c < n
        · have hle := lead_le x 127 (l.drop (j + 1))
          have hTl : (T : Int) < l.length := by have := HN.out; have := HT.out; omega
          have hc128 : (c : Int) < 128 := by omega
          have hTx : l[T]? = some x := by
            have e1 := lead_take x 127 (l.drop (j + 1))
            have e2 : ((l.drop (j + 1)).take (lead x 127 (l.drop (j + 1))))[c - 1]? = some x := by
              rw [e1, List.getElem?_replicate, if_pos (by have := HN.out; omega)]
            rw [List.getElem?_take, if_pos (by have := HN.out; omega), List.getElem?_drop] at e2
            rw [← e2]
            congr 1
            have := HT.out; omega
          obtain ⟨b', off', hbo, hcT⟩ := drop_cell Hh.out hTx
          simp only [Option.some.injEq, Addr.mk.injEq] at hbo
          obtain ⟨rfl, rfl, _⟩ := hbo
          have hcTq : wq.cell? ⟨b, off + T, none⟩ = some (.int .u64 (x : Nat)) := by rw [HWQ.out]; exact hcT
          have d1 : decide (T < l.length) = true := by simpa using hTl
          have d2 : decide ((c : Int) < 128) = true := by simpa using hc128
          have hwT1 : IntKind.i64.wrap ((T : Int) + 1) = T + 1 := by rw [IntWalk.i64_in _ (by omega)]
          clear hTx hcT hcx hcb hle
          have HMORE := Lib.hid hmore
          clear hmore
          gi_wp2
          gi_quiet (fail)
          gi_wp2
          refine ⟨⟨c + 1, by omega, by have := HMORE.out; omega, by rw [show j + (c + 1) = T + 1 by rw [HT.out]; omega]; go_num, q + nq, by rw [HWQ.out, World.drewN_drewN]⟩, by have := HT.out; simp [intOf]; omega⟩
        · have hcn' : c = n := by omega
          have hstop : (T < l.length ∧ c < 128 ∧ ∃ y, l[T]? = some y ∧ y ≠ x) ∨ (T < l.length ∧ ¬ c < 128) ∨ ¬ T < l.length := by
            by_cases h1 : T < l.length
            · by_cases h2 : c < 128
              · refine .inl ⟨h1, h2, l[T], List.getElem?_eq_getElem h1, fun he => ?_⟩
                have e1 := lead_stop x 127 (l.drop (j + 1)) l[T] (l.drop (T + 1)) (by
                  rw [List.drop_drop, show j + 1 + lead x 127 (l.drop (j + 1)) = T by have := HN.out; have := HT.out; omega]
                  exact List.drop_eq_getElem_cons h1) (by have := HN.out; omega)
                exact e1 he
              · exact .inr (.inl ⟨h1, h2⟩)
            · exact .inr (.inr h1)
          have hpx : pre ++ [(x, n)] <+: runsOf l := ⟨runsOf (l.drop (j + n)), by rw [← HX.out]; simp⟩
          have hJq : J pre wq := HJ.out _ _ _ HJp.out (by rw [HWQ.out]; exact (Keeps.refl _ _).drewN q)
          have HCN := Lib.hid hcn'; have HPX := Lib.hid hpx; have HJQ := Lib.hid hJq
          clear hcn' hpx hJq hmore
          rcases hstop with ⟨h1, h2, y, hy, hyx⟩ | ⟨h1, h2⟩ | h1
          · obtain ⟨b', off', hbo, hcT⟩ := drop_cell Hh.out hy
            simp only [Option.some.injEq, Addr.mk.injEq] at hbo
            obtain ⟨rfl, rfl, _⟩ := hbo
            have hcTq : wq.cell? ⟨b, off + T, none⟩ = some (.int .u64 (y : Nat)) := by rw [HWQ.out]; exact hcT
            have hTl : (T : Int) < l.length := by omega
            have hc128 : (c : Int) < 128 := by omega
            have d1 : decide (T < l.length) = true := by simpa using hTl
            have d2 : decide ((c : Int) < 128) = true := by simpa using hc128
            have d3 : ((y : Int) == (x : Int)) = false := by simp; omega
            clear hy hyx hcT hcx hcb h1 h2
            gi_wp2
            gi_quiet (fail)
            obtain ⟨w2, hw2⟩ : ∃ w2, w2 = wq.drewN nq := ⟨_, rfl⟩
            rw [← hw2]
            have hc2 : w2.cell? ⟨Bx, 0, none⟩ = some (.slice (some ⟨b, off, none⟩) l.length cap) := by rw [hw2]; exact hcq
            have hcx2 : w2.cell? ⟨b, off + j, none⟩ = some (.int .u64 (x : Nat)) := by rw [hw2]; exact hcxq
            have hh2 : Holds w2 (.slice (some ⟨b, off, none⟩) l.length cap) (u64s l) := Hh.out.keeps (S := fun _ => False) (by rw [hw2, HWQ.out]; exact ((Keeps.refl _ _).drewN q).drewN nq) (fun _ _ h => h)
            obtain ⟨fn, tmps, assign, body, hyy, hR⟩ := HY.out pre (x, n) w2 (HJ.out _ _ _ HJQ.out (by rw [hw2]; exact (Keeps.refl _ _).drewN nq)) HPX.out
            simp only [encR] at hyy
            rw [← HCN.out] at hyy
            have HH2 := Lib.hid hh2
            clear hw2 hcq hcxq hh2
            gi_wp2
            refine ⟨rfl, hR.mono ?_⟩
            rintro e W3 (⟨rfl, hJ3, hk3⟩ | ⟨rfl, hJx3, hk3⟩)
            · have hc3 := hk3.cell hc2 (fun h => h (.inl rfl))
              have hh3 := HH2.out.keepsH hk3 u64s_nil (fun g hg hs => hs (.inr hg))
              have HJ3 := Lib.hid hJ3; have HH3 := Lib.hid hh3
              clear hJ3 hk3 hh3 hc2 hcx2
              gi_wp2
              refine ⟨⟨T, pre ++ [(x, n)], hTb, rfl, ?_, hc3, HH3.out, HJ3.out⟩, by have := HT.out; simp [intOf]; omega⟩
              rw [HT.out, HCN.out, ← HX.out]; simp
            · have HJx3 := Lib.hid hJx3
              clear hJx3 hk3 hc2 hcx2
              gi_wp2
              refine bodyPost_ret (results_none rfl _ _ _) rfl ?_
              exact ⟨⟨_, rfl⟩, .inr ⟨_, HPX.out, HJx3.out⟩⟩
          · have hTl : (T : Int) < l.length := by omega
            have hc128 : ¬ (c : Int) < 128 := by omega
            have d1 : decide (T < l.length) = true := by simpa using hTl
            have d2 : decide ((c : Int) < 128) = false := by simpa using hc128
            clear hcx hcb h1 h2
            gi_wp2
            gi_quiet (fail)
            obtain ⟨w2, hw2⟩ : ∃ w2, w2 = wq.drewN nq := ⟨_, rfl⟩
            rw [← hw2]
            have hc2 : w2.cell? ⟨Bx, 0, none⟩ = some (.slice (some ⟨b, off, none⟩) l.length cap) := by rw [hw2]; exact hcq
            have hcx2 : w2.cell? ⟨b, off + j, none⟩ = some (.int .u64 (x : Nat)) := by rw [hw2]; exact hcxq
            have hh2 : Holds w2 (.slice (some ⟨b, off, none⟩) l.length cap) (u64s l) := Hh.out.keeps (S := fun _ => False) (by rw [hw2, HWQ.out]; exact ((Keeps.refl _ _).drewN q).drewN nq) (fun _ _ h => h)
            obtain ⟨fn, tmps, assign, body, hyy, hR⟩ := HY.out pre (x, n) w2 (HJ.out _ _ _ HJQ.out (by rw [hw2]; exact (Keeps.refl _ _).drewN nq)) HPX.out
            simp only [encR] at hyy
            rw [← HCN.out] at hyy
            have HH2 := Lib.hid hh2
            clear hw2 hcq hcxq hh2
            gi_wp2
            refine ⟨rfl, hR.mono ?_⟩
            rintro e W3 (⟨rfl, hJ3, hk3⟩ | ⟨rfl, hJx3, hk3⟩)
            · have hc3 := hk3.cell hc2 (fun h => h (.inl rfl))
              have hh3 := HH2.out.keepsH hk3 u64s_nil (fun g hg hs => hs (.inr hg))
              have HJ3 := Lib.hid hJ3; have HH3 := Lib.hid hh3
              clear hJ3 hk3 hh3 hc2 hcx2
              gi_wp2
              refine ⟨⟨T, pre ++ [(x, n)], hTb, rfl, ?_, hc3, HH3.out, HJ3.out⟩, by have := HT.out; simp [intOf]; omega⟩
              rw [HT.out, HCN.out, ← HX.out]; simp
            · have HJx3 := Lib.hid hJx3
              clear hJx3 hk3 hc2 hcx2
              gi_wp2
              refine bodyPost_ret (results_none rfl _ _ _) rfl ?_
              exact ⟨⟨_, rfl⟩, .inr ⟨_, HPX.out, HJx3.out⟩⟩
          · have hTl : ¬ (T : Int) < l.length := by omega
            have d1 : decide (T < l.length) = false := by simpa using hTl
            clear hcx hcb h1
            gi_wp2
            gi_quiet (fail)
            obtain ⟨w2, hw2⟩ : ∃ w2, w2 = wq.drewN nq := ⟨_, rfl⟩
            rw [← hw2]
            have hc2 : w2.cell? ⟨Bx, 0, none⟩ = some (.slice (some ⟨b, off, none⟩) l.length cap) := by rw [hw2]; exact hcq
            have hcx2 : w2.cell? ⟨b, off + j, none⟩ = some (.int .u64 (x : Nat)) := by rw [hw2]; exact hcxq
            have hh2 : Holds w2 (.slice (some ⟨b, off, none⟩) l.length cap) (u64s l) := Hh.out.keeps (S := fun _ => False) (by rw [hw2, HWQ.out]; exact ((Keeps.refl _ _).drewN q).drewN nq) (fun _ _ h => h)
            obtain ⟨fn, tmps, assign, body, hyy, hR⟩ := HY.out pre (x, n) w2 (HJ.out _ _ _ HJQ.out (by rw [hw2]; exact (Keeps.refl _ _).drewN nq)) HPX.out
            simp only [encR] at hyy
            rw [← HCN.out] at hyy
            have HH2 := Lib.hid hh2
            clear hw2 hcq hcxq hh2
            gi_wp2
            refine ⟨rfl, hR.mono ?_⟩
            rintro e W3 (⟨rfl, hJ3, hk3⟩ | ⟨rfl, hJx3, hk3⟩)
            · have hc3 := hk3.cell hc2 (fun h => h (.inl rfl))
              have hh3 := HH2.out.keepsH hk3 u64s_nil (fun g hg hs => hs (.inr hg))
              have HJ3 := Lib.hid hJ3; have HH3 := Lib.hid hh3
              clear hJ3 hk3 hh3 hc2 hcx2
              gi_wp2
              refine ⟨⟨T, pre ++ [(x, n)], hTb, rfl, ?_, hc3, HH3.out, HJ3.out⟩, by have := HT.out; simp [intOf]; omega⟩
              rw [HT.out, HCN.out, ← HX.out]; simp
            · have HJx3 := Lib.hid hJx3
              clear hJx3 hk3 hc2 hcx2
              gi_wp2
              refine bodyPost_ret (results_none rfl _ _ _) rfl ?_
              exact ⟨⟨_, rfl⟩, .inr ⟨_, HPX.out, HJx3.out⟩⟩
    · have e : j = l.length := by omega
      subst e
      rw [List.drop_length, runsOf_nil, List.append_nil] at hx
      subst hx
      gi_wp2
      go_end0
      exact ⟨⟨_, rfl⟩, .inl ⟨_, rfl, hJp⟩⟩

set_option maxHeartbeats 400000 in
theorem runs_any (ad : Option Addr) (len cap : Nat) (w : World) : Calls Try.prog 68 #[.slice ad len cap] w fun e w' => e = .returned (.func (.func 73) #[] #[.pointer (some ⟨w.heap.size, 0, none⟩)]) ∧ w' = w.alloc (.cells #[.slice ad len cap] 76) := by
  have hmf : ∀ (fn : Fn) (first cap : Array Value) (w : World), (Instr.makeFunc fn first cap).run Try.prog w = .ok (.func fn first cap) w := fun _ _ _ _ => rfl
  go_enter Try.func68, Try.ntmps68
  go_wp2
  go_ret
  exact ⟨rfl, rfl⟩
end Go.Proofs.Ytdniaingipoggaa
