/-
  WALKS: tsblockref06.Put.
-/
import Derived.Test.YtdniaingipoggaaDoorWRef06
import Derived.Test.YtdniaingipoggaaDoorWXorC
import Derived.Deep.QuietTactic
import Derived.BigQuiet
namespace Go.Proofs.YtdniaingipoggaaDoor
open Go.RowKit

theorem infoBoolR : (Tryd.prog.info? 4).map (fun i => (i.zero, i.size, i.bytes)) = some (some (.bool false), 1, 1) := by kernel_rfl
/-- the window as the reference keeps it -/
def refL (s : Nat × Nat) : Int := if s = win0 then -1 else (s.1 : Nat)
def refT (s : Nat × Nat) : Nat := if s = win0 then 0 else s.2
theorem ref_win {s : Nat × Nat} (h : s.1 + s.2 ≤ 63) : refL s = (s.1 : Nat) ∧ refT s = s.2 := by
  have hne : s ≠ win0 := fun e => by rw [e] at h; simp [win0] at h
  unfold refL refT
  rw [if_neg hne, if_neg hne]
  exact ⟨rfl, rfl⟩
theorem RowTo.earlier6 {e : TypeId} {base : Nat} {v v1 : Value} {w0 w w1 : World} {xs : List Value} (h : RowTo e base v w v1 xs w1) (k : Keeps (fun _ => False) w0 w) : RowTo e base v w0 v1 xs w1 :=
  ⟨h.row, (k.mono (fun _ _ h => h.elim)).trans h.keeps (fun _ _ h => h), fun g hg => (h.new g hg).imp id (fun h => Nat.le_trans k.size h)⟩
theorem bools_cells (l m : List Bool) : bools l ++ bools m = bools (l ++ m) := by simp [bools]

set_option maxRecDepth 100000 in
set_option maxHeartbeats 8000000 in
theorem rput6_any (base : Nat) (v0 v : Value) (l0 : List Bool) (l : List Nat) (w : World) (h0 : w.ownsRow base 4 1 v0 (bools l0).length (bools l0)) (hl0 : l0.length ≤ 1000000000) (hb0 : base ≤ w.heap.size)
    (hl : l.length ≤ 1000000000) (hX : ∀ x ∈ l, x ≤ 18446744073709551615) (h : Holds w v (u64s l)) (hap : ∀ g, ownH v l g → ¬ own v0 g) :
    Calls Tryd.prog 38 #[v0, v] w fun e w' => ∃ v', e = .returned v' ∧ RowTo 4 base v0 w v' (bools (l0 ++ enc6 l)) w' := by
  obtain ⟨i0, hii, hz0, hz1, hz2⟩ := info_parts infoBoolR
  have HH := Lib.hid h; have H0 := Lib.hid h0; have HX := Lib.hid hX; have HAP := Lib.hid hap
  obtain ⟨ad, cap, rfl, hc, _⟩ := h
  rw [u64s_length] at hc HH HAP ⊢
  obtain ⟨ad0, cap0, rfl⟩ := row_slice h0
  have hel := enc6_length l
  clear h0 hX hap
  go_enter Tryd.func38, Tryd.ntmps38
  go_wp2
  go_loopw [0, 5, 6, 7] (fun b tl tt i wr => ∃ (k last : Nat) (s : Nat × Nat) (vb : Value) (cur : List Bool), k ≤ l.length ∧ vb = b ∧ tl = .int .i64 (refL s) ∧ tt = .int .i64 (refT s : Nat) ∧ i = .int .i64 k ∧ okWin s ∧ last < 18446744073709551616 ∧ (k = 0 → s = win0 ∧ last = 0) ∧ (k ≠ 0 → l[k - 1]? = some last) ∧
      cur ++ restX k s last l = l0 ++ enc6 l ∧ RowTo 4 base (.slice ad0 (bools l0).length cap0) w vb (bools cur) wr) (fun _ _ _ i _ => l.length - (intOf i).toNat)
  case atStart => exact ⟨0, 0, win0, _, l0, by omega, rfl, rfl, rfl, rfl, .inl rfl, by decide, fun _ => ⟨rfl, rfl⟩, fun h => absurd rfl h, rfl, RowTo.refl H0.out⟩
  case round =>
    obtain ⟨k, last, s, vb, cur, hk, rfl, rfl, rfl, rfl, hs, hla, hk0, hkl, hcur, hR⟩ := hrel
    by_cases hlt : k < l.length
    · have hcl : cur.length ≤ 1000000000000 := by
        have := congrArg List.length hcur
        simp only [List.length_append] at this
        omega
      have hklt : (k : Int) < l.length := by omega
      have hbw : base ≤ wr.heap.size := by have := hR.keeps.size; omega
      have hh : Holds wr (.slice ad l.length cap) (u64s l) := HH.out.keepsH hR.keeps u64s_nil (fun g hg e => HAP.out g hg e)
      obtain ⟨x, hx⟩ : ∃ x, l[k]? = some x := ⟨l[k], by simp [hlt]⟩
      have hx64 := HX.out x (List.mem_of_getElem? hx)
      by_cases hk1 : k = 0
      · subst hk1
        obtain ⟨rfl, rfl⟩ := hk0 rfl
        obtain ⟨b, off, rfl, hcell⟩ := drop_cell hh hx
        rw [restX_first hx, ← List.append_assoc] at hcur
        have hcell' : wr.cell? ⟨b, off, none⟩ = some (.int .u64 (x : Nat)) := hcell
        have HC := Lib.hid hcur; have HRR := Lib.hid hR; have HXK := Lib.hid hx
        clear hcur hR hh hx hk0 hkl hcell hs
        go_wp2_with fail
        refine (refWrite_any base vb cur x 64 wr HRR.out.row (by omega) (by decide) (by omega) hbw).mono ?_
        rintro e w4 ⟨v4, rfl, hR4⟩
        have F := Lib.hid (HRR.out.trans hR4)
        clear hR4 hcell'
        go_wp2
        exact ⟨⟨1, x, win0, v4, _, by omega, rfl, rfl, rfl, rfl, .inl rfl, by omega, fun h => by omega, fun _ => HXK.out, HC.out, F.out⟩, by simp [intOf]; omega⟩
      · have hlast := hkl hk1
        obtain ⟨b, off, rfl, hcs⟩ := drop_cell hh hx
        obtain ⟨b', off', hbo, hct⟩ := drop_cell hh hlast
        simp only [Option.some.injEq, Addr.mk.injEq] at hbo
        obtain ⟨rfl, rfl, -⟩ := hbo
        rw [restX_step hk1 hx] at hcur
        obtain ⟨d, hd⟩ : ∃ d, d = x ^^^ last := ⟨_, rfl⟩
        rw [← hd] at hcur
        have hxor : bits BinOp.xor IntKind.u64 (x : Int) (last : Int) = (d : Int) := by rw [bits_xor_u64_nat x last (by omega) hla, hd]
        have hd64 : d < 18446744073709551616 := by rw [hd]; exact xor_lt64 (by omega) hla
        obtain ⟨j1, hj1e⟩ : ∃ j1, j1 = k - 1 := ⟨_, rfl⟩
        rw [← hj1e] at hct
        have w5 : (k : Int) - 1 = j1 := by omega
        have hj1l : (j1 : Int) < l.length := by omega
        have hk1' : ((k : Int) == 0) = false := by simp; omega
        have w6 : IntKind.i64.wrap (j1 : Int) = j1 := wrap_nat j1 (by omega)
        have w7 : IntKind.i64.wrap ((k : Int) - 1) = j1 := by rw [w5, w6]
        have hx2 : x < 18446744073709551616 := by omega
        have hnx : l[k + 1 - 1]? = some x := by rw [Nat.add_sub_cancel]; exact hx
        have HC := Lib.hid hcur; have HRR := Lib.hid hR; have HD := Lib.hid hd; have HNX := Lib.hid hnx; have HS := Lib.hid hs
        clear hcur hR hh hx hk0 hkl hlast hd hj1e hnx hs hk1
        go_wp2
        go_quiet (fail)
        obtain ⟨wq, hwq⟩ : ∃ wq, wq = wr.drewN nq := ⟨_, rfl⟩
        rw [← hwq]
        have kq : Keeps (fun _ => False) wr wq := by rw [hwq]; exact (Keeps.refl _ _).drewN nq
        have hr1 := HRR.out.later kq
        have hbq : base ≤ wq.heap.size := by have := kq.size; omega
        have R1 := Lib.hid hr1
        clear hwq kq hcs hct
        by_cases hd0 : d = 0
        · subst hd0
          have e1 : bitsX s 0 = [false] := by simp [bitsX]
          have e2 : newX s 0 = s := by simp [newX]
          rw [e1, e2, ← List.append_assoc] at HC
          clear hr1
          have hrow := R1.out.row
          obtain ⟨adb, capb, hvb⟩ := row_slice hrow
          subst hvb
          rw [bools_length cur] at hrow
          rw [bools_length cur] at R1 ⊢
          have hal : cur.length ≤ 1000000000100 := by omega
          go_wp2_with (at_builtin; refine wpList_append_new _ rfl _ _ 32 rfl base 4 i0 (.bool false) 1 1 Tryd.underlying32 hii hz0 hz1 hz2 rfl (by decide) _ _ _ rfl (hrow.alloc _) ⟨wq.heap.size, 0, none⟩ 1 1 [.bool false] rfl rfl ?c1 ?c2 ?c3 ?c4 ?c5 ?_)
          case c1 =>
            intro j u hj
            have := heap_alloc_new wq (.cells #[.bool false] 4)
            rw [addr_add, Nat.zero_add, cell_of_row _ _ _ _ _ _ this]
            simpa using hj
          case c2 => simp [Value.oneCell']
          case c3 => unfold maxLen; omega
          case c4 => omega
          case c5 => simp; omega
          intro v' wRZ hown' hgrow hnew
          have RZ := Lib.hid (R1.out.append (ys := bools (cur ++ [false])) (by simpa [bools] using hown') hgrow (by simpa using hnew))
          have hsRZ : base ≤ wRZ.heap.size := by have := hgrow.size; simp at this; omega
          clear hown' hgrow hnew hrow hal
          go_wp2
          exact ⟨⟨k + 1, x, s, v', _, by omega, rfl, rfl, rfl, by go_num, HS.out, hx2, fun h => by omega, fun _ => HNX.out, HC.out, RZ.out⟩, by simp [intOf]; omega⟩
        · have hzr := zeros_any d wq hd64 hd0
          have hlt := lz_tz hd64 hd0
          have hlen : cur.length ≤ 1000000000000 := hcl
          have HLEN := Lib.hid hlen
          obtain ⟨p, hp⟩ : ∃ p, p = lz d := ⟨_, rfl⟩
          obtain ⟨q, hq⟩ : ∃ q, q = tz d := ⟨_, rfl⟩
          rw [← hp, ← hq] at hzr hlt
          obtain ⟨LI, hLI⟩ : ∃ LI, LI = refL s := ⟨_, rfl⟩
          obtain ⟨T, hTT⟩ : ∃ T, T = refT s := ⟨_, rfl⟩
          rw [← hLI, ← hTT]
          have HZR := Lib.hid hzr; have HP := Lib.hid hp; have HQ := Lib.hid hq; have HLI := Lib.hid hLI; have HTT := Lib.hid hTT
          have hd00 : ((d : Int) == 0) = false := beq_eq_false_iff_ne.2 (by omega)
          clear hzr hp hq hLI hTT hr1 hlen
          by_cases hf : fitsX s d = true
          · have hs' : s.1 + s.2 ≤ 63 := HS.out.resolve_left (fun e => by rw [e, fitsX_none hd64 hd0] at hf; cases hf)
            have hfit := hf
            unfold fitsX at hfit
            simp only [Bool.and_eq_true, decide_eq_true_eq] at hfit
            rw [← HP.out, ← HQ.out] at hfit
            obtain ⟨r1, r2⟩ := ref_win hs'
            obtain ⟨A, hA⟩ : ∃ A, A = s.1 := ⟨_, rfl⟩
            have hn : newX s d = s := by unfold newX; rw [if_neg hd0, if_pos hf]
            have hb : bitsX s d = [true, false] ++ fieldBits (d / 2 ^ s.2) (64 - s.1 - s.2) := by unfold bitsX headX; rw [if_neg hd0, if_pos hf, hn]
            have hTs : T = s.2 := by rw [HTT.out, r2]
            have hLs : LI = (A : Int) := by rw [HLI.out, r1, hA]
            rw [← hA, ← hTs] at hb hfit hs'
            rw [hb, hn] at HC
            have HA := Lib.hid hA; have HTs := Lib.hid hTs; have R1' := Lib.hid r1; have R2' := Lib.hid r2
            subst hLs
            have hAp : (A : Int) ≤ p := by omega
            have hTq : (T : Int) ≤ q := by omega
            have hA0 : (0 : Int) ≤ A := by omega
            have b1 : decide ((A : Int) ≤ (p : Int)) = true := by simp; omega
            have b2 : decide ((T : Int) ≤ (q : Int)) = true := by simp; omega
            obtain ⟨hf1, hf2⟩ := hfit
            clear hb hn hA hTs hf hd0 r1 r2
            go_wp2_with fail
            refine HZR.out.mono ?_
            rintro e w2 ⟨rfl, k2⟩
            have R2 := Lib.hid (R1.out.later k2)
            have hb2 : base ≤ w2.heap.size := Nat.le_trans hbq k2.size
            clear k2
            try clear b1 b2
            have hrow := R2.out.row
            obtain ⟨adb, capb, hvb⟩ := row_slice hrow
            subst hvb
            rw [bools_length cur] at hrow
            rw [bools_length cur] at R2 ⊢
            have hal : cur.length ≤ 1000000000100 := by have := HLEN.out; omega
            go_wp2_with (at_builtin; refine wpList_append_new _ rfl _ _ 32 rfl base 4 i0 (.bool false) 1 1 Tryd.underlying32 hii hz0 hz1 hz2 rfl (by decide) _ _ _ rfl (hrow.alloc _) ⟨w2.heap.size, 0, none⟩ 2 2 [.bool true, .bool false] rfl rfl ?c1 ?c2 ?c3 ?c4 ?c5 ?_)
            case c1 =>
              intro j u hj
              have := heap_alloc_new w2 (.cells #[.bool true, .bool false] 4)
              rw [addr_add, Nat.zero_add, cell_of_row _ _ _ _ _ _ this]
              simpa using hj
            case c2 => simp [Value.oneCell']
            case c3 => unfold maxLen; omega
            case c4 => omega
            case c5 => simp; omega
            intro v' wRF hown' hgrow hnew
            have RF := Lib.hid (R2.out.append (ys := bools (cur ++ [true, false])) (by simpa [bools] using hown') hgrow (by simpa using hnew))
            have hsRF : base ≤ wRF.heap.size := by have := hgrow.size; simp at this; omega
            clear hown' hgrow hnew hrow hal
            have hin : d / 2 ^ T < 18446744073709551616 := Nat.lt_of_le_of_lt (Nat.div_le_self _ _) hd64
            obtain ⟨Y, hY⟩ : ∃ Y, Y = d / 2 ^ T := ⟨_, rfl⟩
            have HY := Lib.hid hY
            rw [← hY] at hin
            clear hY
            have hI := inside_any d T
            have HIN := Lib.hid hI
            clear hI
            obtain ⟨W6, hW6⟩ : ∃ W6, W6 = 64 - A - T := ⟨_, rfl⟩
            have ev1 : 64 - (A : Int) - (T : Int) = (W6 : Int) := by omega
            have ev2 : IntKind.i64.wrap (W6 : Int) = W6 := wrap_nat W6 (by omega)
            have ev3 : IntKind.i64.wrap (64 - (A : Int)) = 64 - A := IntWalk.i64_in _ (by omega)
            have hW64 : W6 ≤ 64 := by omega
            have HW6 := Lib.hid hW6
            clear hW6
            go_wp2_with fail
            refine (HIN.out _ hd64 (by omega)).mono ?_
            rw [← HY.out]
            rintro e wi ⟨rfl, rfl⟩
            go_wp2_with fail
            refine (refWrite_any base _ _ Y W6 wRF RF.out.row (by omega) hW64 (by have := HLEN.out; simp only [List.length_append, List.length_cons, List.length_nil]; omega) hsRF).mono ?_
            rintro e wj ⟨vj, rfl, hRj⟩
            have RJ := Lib.hid (RF.out.trans hRj)
            clear hRj ev1 ev2 ev3
            go_wp2
            refine ⟨⟨k + 1, x, s, vj, _, by omega, rfl, ?_, ?_, by go_num, ?_, hx2, fun h => by omega, fun _ => HNX.out, ?_, RJ.out⟩, by simp [intOf]; omega⟩
            · rw [R1'.out, ← HA.out]
            · rw [R2'.out, ← HTs.out]
            · exact HS.out
            · have := HC.out
              rw [← HY.out, ← HW6.out] at this
              rw [← this]
              simp only [List.append_assoc]
          · have hf' : fitsX s d = false := by simpa using hf
            have hn : newX s d = (p, q) := by unfold newX; rw [if_neg hd0, if_neg hf, ← HP.out, ← HQ.out]
            have hb : bitsX s d = [true, true] ++ fieldBits p 6 ++ fieldBits (63 - p - q) 6 ++ fieldBits (d / 2 ^ q) (64 - p - q) := by
              unfold bitsX headX; rw [if_neg hd0, if_neg hf, hn, ← HP.out, ← HQ.out]
            rw [hb, hn] at HC
            have hwin : okWin (p, q) := .inr hlt
            obtain ⟨r1, r2⟩ := ref_win (s := (p, q)) hlt
            have hguard : LI < 0 ∨ (∃ A : Nat, LI = (A : Int) ∧ (¬ A ≤ p ∨ (A ≤ p ∧ ¬ T ≤ q))) := by
              rcases HS.out with hw | hs'
              · left; rw [HLI.out, hw]; simp [refL]
              · obtain ⟨z1, z2⟩ := ref_win hs'
                refine .inr ⟨s.1, by rw [HLI.out, z1], ?_⟩
                rw [HTT.out, z2]
                unfold fitsX at hf'
                rw [← HP.out, ← HQ.out] at hf'
                simp only [Bool.and_eq_false_iff, decide_eq_false_iff_not] at hf'
                by_cases h9 : s.1 ≤ p
                · exact .inr ⟨h9, hf'.resolve_left (fun h => h h9)⟩
                · exact .inl h9
            have HR1 := Lib.hid r1; have HR2 := Lib.hid r2; have HWN := Lib.hid hwin
            clear hn hb hf hf' hd0 r1 r2 hwin
            obtain ⟨m, hm⟩ : ∃ m, m = 63 - p - q := ⟨_, rfl⟩
            have HM := Lib.hid hm
            have hm1 : 63 - (p : Int) - (q : Int) = (m : Int) := by omega
            have hmb : m ≤ 63 := by omega
            have hm0 : IntKind.i64.wrap (63 - (p : Int)) = 63 - p := IntWalk.i64_in _ (by omega)
            have hm2 : IntKind.i64.wrap (m : Int) = m := wrap_nat m (by omega)
            have hp2 : IntKind.u64.wrap (p : Int) = p := wrap_u64' p (by omega)
            have hm3 : IntKind.u64.wrap (m : Int) = m := wrap_u64' m (by omega)
            clear hm
            rcases hguard with hg | ⟨A, rfl, hg | ⟨hg1, hg⟩⟩
            · have b1 : ¬ (0 : Int) ≤ LI := by omega
              have b2 : decide ((0 : Int) ≤ LI) = false := by simp; omega
              go_wp2_with fail
              refine HZR.out.mono ?_
              rintro e w2 ⟨rfl, k2⟩
              have R2 := Lib.hid (R1.out.later k2)
              have hb2 : base ≤ w2.heap.size := Nat.le_trans hbq k2.size
              clear k2
              have hrow := R2.out.row
              obtain ⟨adb, capb, hvb⟩ := row_slice hrow
              subst hvb
              rw [bools_length cur] at hrow
              rw [bools_length cur] at R2 ⊢
              have hal : cur.length ≤ 1000000000100 := by have := HLEN.out; omega
              go_wp2_with (at_builtin; refine wpList_append_new _ rfl _ _ 32 rfl base 4 i0 (.bool false) 1 1 Tryd.underlying32 hii hz0 hz1 hz2 rfl (by decide) _ _ _ rfl (hrow.alloc _) ⟨w2.heap.size, 0, none⟩ 2 2 [.bool true, .bool true] rfl rfl ?c1 ?c2 ?c3 ?c4 ?c5 ?_)
              case c1 =>
                intro j u hj
                have := heap_alloc_new w2 (.cells #[.bool true, .bool true] 4)
                rw [addr_add, Nat.zero_add, cell_of_row _ _ _ _ _ _ this]
                simpa using hj
              case c2 => simp [Value.oneCell']
              case c3 => unfold maxLen; omega
              case c4 => omega
              case c5 => simp; omega
              intro v' wRN hown' hgrow hnew
              have RN := Lib.hid (R2.out.append (ys := bools (cur ++ [true, true])) (by simpa [bools] using hown') hgrow (by simpa using hnew))
              have hsRN : base ≤ wRN.heap.size := by have := hgrow.size; simp at this; omega
              clear hown' hgrow hnew hrow hal
              go_wp2_with fail
              refine (refWrite_any base _ _ p 6 wRN RN.out.row (by omega) (by decide) (by have := HLEN.out; simp only [List.length_append, List.length_cons, List.length_nil]; omega) hsRN).mono ?_
              rintro e wRP ⟨vp, rfl, hRp⟩
              have RP := Lib.hid (RN.out.trans hRp)
              have hsRP : base ≤ wRP.heap.size := Nat.le_trans hsRN hRp.keeps.size
              clear hRp
              go_wp2_with fail
              refine (refWrite_any base _ _ m 6 wRP RP.out.row (by omega) (by decide) (by have := HLEN.out; simp only [List.length_append, fieldBits_length, List.length_cons, List.length_nil]; omega) hsRP).mono ?_
              rintro e wRQ ⟨vq, rfl, hRq⟩
              have RQ := Lib.hid (RP.out.trans hRq)
              have hsRQ : base ≤ wRQ.heap.size := Nat.le_trans hsRP hRq.keeps.size
              clear hRq
              have hin : d / 2 ^ q < 18446744073709551616 := Nat.lt_of_le_of_lt (Nat.div_le_self _ _) hd64
              obtain ⟨Y, hY⟩ : ∃ Y, Y = d / 2 ^ q := ⟨_, rfl⟩
              have HY := Lib.hid hY
              rw [← hY] at hin
              clear hY
              have hI := inside_any d q
              have HIN := Lib.hid hI
              clear hI
              obtain ⟨W6, hW6⟩ : ∃ W6, W6 = 64 - p - q := ⟨_, rfl⟩
              have ev1 : 64 - (p : Int) - (q : Int) = (W6 : Int) := by omega
              have ev2 : IntKind.i64.wrap (W6 : Int) = W6 := wrap_nat W6 (by omega)
              have ev3 : IntKind.i64.wrap (64 - (p : Int)) = 64 - p := IntWalk.i64_in _ (by omega)
              have hW64 : W6 ≤ 64 := by omega
              have HW6 := Lib.hid hW6
              clear hW6
              go_wp2_with fail
              refine (HIN.out _ hd64 (by omega)).mono ?_
              rw [← HY.out]
              rintro e wi ⟨rfl, rfl⟩
              go_wp2_with fail
              refine (refWrite_any base _ _ Y W6 wRQ RQ.out.row (by omega) hW64 (by have := HLEN.out; simp only [List.length_append, fieldBits_length, List.length_cons, List.length_nil]; omega) hsRQ).mono ?_
              rintro e wj ⟨vj, rfl, hRj⟩
              have RJ := Lib.hid (RQ.out.trans hRj)
              clear hRj ev1 ev2 ev3
              go_wp2
              refine ⟨⟨k + 1, x, (p, q), vj, _, by omega, rfl, ?_, ?_, by go_num, ?_, hx2, fun h => by omega, fun _ => HNX.out, ?_, RJ.out⟩, by simp [intOf]; omega⟩
              · rw [HR1.out]
              · rw [HR2.out]
              · exact HWN.out
              · have := HC.out
                rw [← HY.out, ← HW6.out, ← HM.out] at this
                rw [← this]
                simp only [List.append_assoc]
            · have b1 : ¬ (A : Int) ≤ p := by omega
              have b2 : decide ((A : Int) ≤ (p : Int)) = false := by simp; omega
              go_wp2_with fail
              refine HZR.out.mono ?_
              rintro e w2 ⟨rfl, k2⟩
              have R2 := Lib.hid (R1.out.later k2)
              have hb2 : base ≤ w2.heap.size := Nat.le_trans hbq k2.size
              clear k2
              have hrow := R2.out.row
              obtain ⟨adb, capb, hvb⟩ := row_slice hrow
              subst hvb
              rw [bools_length cur] at hrow
              rw [bools_length cur] at R2 ⊢
              have hal : cur.length ≤ 1000000000100 := by have := HLEN.out; omega
              go_wp2_with (at_builtin; refine wpList_append_new _ rfl _ _ 32 rfl base 4 i0 (.bool false) 1 1 Tryd.underlying32 hii hz0 hz1 hz2 rfl (by decide) _ _ _ rfl (hrow.alloc _) ⟨w2.heap.size, 0, none⟩ 2 2 [.bool true, .bool true] rfl rfl ?c1 ?c2 ?c3 ?c4 ?c5 ?_)
              case c1 =>
                intro j u hj
                have := heap_alloc_new w2 (.cells #[.bool true, .bool true] 4)
                rw [addr_add, Nat.zero_add, cell_of_row _ _ _ _ _ _ this]
                simpa using hj
              case c2 => simp [Value.oneCell']
              case c3 => unfold maxLen; omega
              case c4 => omega
              case c5 => simp; omega
              intro v' wRN hown' hgrow hnew
              have RN := Lib.hid (R2.out.append (ys := bools (cur ++ [true, true])) (by simpa [bools] using hown') hgrow (by simpa using hnew))
              have hsRN : base ≤ wRN.heap.size := by have := hgrow.size; simp at this; omega
              clear hown' hgrow hnew hrow hal
              go_wp2_with fail
              refine (refWrite_any base _ _ p 6 wRN RN.out.row (by omega) (by decide) (by have := HLEN.out; simp only [List.length_append, List.length_cons, List.length_nil]; omega) hsRN).mono ?_
              rintro e wRP ⟨vp, rfl, hRp⟩
              have RP := Lib.hid (RN.out.trans hRp)
              have hsRP : base ≤ wRP.heap.size := Nat.le_trans hsRN hRp.keeps.size
              clear hRp
              go_wp2_with fail
              refine (refWrite_any base _ _ m 6 wRP RP.out.row (by omega) (by decide) (by have := HLEN.out; simp only [List.length_append, fieldBits_length, List.length_cons, List.length_nil]; omega) hsRP).mono ?_
              rintro e wRQ ⟨vq, rfl, hRq⟩
              have RQ := Lib.hid (RP.out.trans hRq)
              have hsRQ : base ≤ wRQ.heap.size := Nat.le_trans hsRP hRq.keeps.size
              clear hRq
              have hin : d / 2 ^ q < 18446744073709551616 := Nat.lt_of_le_of_lt (Nat.div_le_self _ _) hd64
              obtain ⟨Y, hY⟩ : ∃ Y, Y = d / 2 ^ q := ⟨_, rfl⟩
              have HY := Lib.hid hY
              rw [← hY] at hin
              clear hY
              have hI := inside_any d q
              have HIN := Lib.hid hI
              clear hI
              obtain ⟨W6, hW6⟩ : ∃ W6, W6 = 64 - p - q := ⟨_, rfl⟩
              have ev1 : 64 - (p : Int) - (q : Int) = (W6 : Int) := by omega
              have ev2 : IntKind.i64.wrap (W6 : Int) = W6 := wrap_nat W6 (by omega)
              have ev3 : IntKind.i64.wrap (64 - (p : Int)) = 64 - p := IntWalk.i64_in _ (by omega)
              have hW64 : W6 ≤ 64 := by omega
              have HW6 := Lib.hid hW6
              clear hW6
              go_wp2_with fail
              refine (HIN.out _ hd64 (by omega)).mono ?_
              rw [← HY.out]
              rintro e wi ⟨rfl, rfl⟩
              go_wp2_with fail
              refine (refWrite_any base _ _ Y W6 wRQ RQ.out.row (by omega) hW64 (by have := HLEN.out; simp only [List.length_append, fieldBits_length, List.length_cons, List.length_nil]; omega) hsRQ).mono ?_
              rintro e wj ⟨vj, rfl, hRj⟩
              have RJ := Lib.hid (RQ.out.trans hRj)
              clear hRj ev1 ev2 ev3
              go_wp2
              refine ⟨⟨k + 1, x, (p, q), vj, _, by omega, rfl, ?_, ?_, by go_num, ?_, hx2, fun h => by omega, fun _ => HNX.out, ?_, RJ.out⟩, by simp [intOf]; omega⟩
              · rw [HR1.out]
              · rw [HR2.out]
              · exact HWN.out
              · have := HC.out
                rw [← HY.out, ← HW6.out, ← HM.out] at this
                rw [← this]
                simp only [List.append_assoc]
            · have b1 : ¬ (T : Int) ≤ q := by omega
              have b2 : decide ((T : Int) ≤ (q : Int)) = false := by simp; omega
              have b3 : (A : Int) ≤ p := by omega
              have b4 : decide ((A : Int) ≤ (p : Int)) = true := by simp; omega
              go_wp2_with fail
              refine HZR.out.mono ?_
              rintro e w2 ⟨rfl, k2⟩
              have R2 := Lib.hid (R1.out.later k2)
              have hb2 : base ≤ w2.heap.size := Nat.le_trans hbq k2.size
              clear k2
              have hrow := R2.out.row
              obtain ⟨adb, capb, hvb⟩ := row_slice hrow
              subst hvb
              rw [bools_length cur] at hrow
              rw [bools_length cur] at R2 ⊢
              have hal : cur.length ≤ 1000000000100 := by have := HLEN.out; omega
              go_wp2_with (at_builtin; refine wpList_append_new _ rfl _ _ 32 rfl base 4 i0 (.bool false) 1 1 Tryd.underlying32 hii hz0 hz1 hz2 rfl (by decide) _ _ _ rfl (hrow.alloc _) ⟨w2.heap.size, 0, none⟩ 2 2 [.bool true, .bool true] rfl rfl ?c1 ?c2 ?c3 ?c4 ?c5 ?_)
              case c1 =>
                intro j u hj
                have := heap_alloc_new w2 (.cells #[.bool true, .bool true] 4)
                rw [addr_add, Nat.zero_add, cell_of_row _ _ _ _ _ _ this]
                simpa using hj
              case c2 => simp [Value.oneCell']
              case c3 => unfold maxLen; omega
              case c4 => omega
              case c5 => simp; omega
              intro v' wRN hown' hgrow hnew
              have RN := Lib.hid (R2.out.append (ys := bools (cur ++ [true, true])) (by simpa [bools] using hown') hgrow (by simpa using hnew))
              have hsRN : base ≤ wRN.heap.size := by have := hgrow.size; simp at this; omega
              clear hown' hgrow hnew hrow hal
              go_wp2_with fail
              refine (refWrite_any base _ _ p 6 wRN RN.out.row (by omega) (by decide) (by have := HLEN.out; simp only [List.length_append, List.length_cons, List.length_nil]; omega) hsRN).mono ?_
              rintro e wRP ⟨vp, rfl, hRp⟩
              have RP := Lib.hid (RN.out.trans hRp)
              have hsRP : base ≤ wRP.heap.size := Nat.le_trans hsRN hRp.keeps.size
              clear hRp
              go_wp2_with fail
              refine (refWrite_any base _ _ m 6 wRP RP.out.row (by omega) (by decide) (by have := HLEN.out; simp only [List.length_append, fieldBits_length, List.length_cons, List.length_nil]; omega) hsRP).mono ?_
              rintro e wRQ ⟨vq, rfl, hRq⟩
              have RQ := Lib.hid (RP.out.trans hRq)
              have hsRQ : base ≤ wRQ.heap.size := Nat.le_trans hsRP hRq.keeps.size
              clear hRq
              have hin : d / 2 ^ q < 18446744073709551616 := Nat.lt_of_le_of_lt (Nat.div_le_self _ _) hd64
              obtain ⟨Y, hY⟩ : ∃ Y, Y = d / 2 ^ q := ⟨_, rfl⟩
              have HY := Lib.hid hY
              rw [← hY] at hin
              clear hY
              have hI := inside_any d q
              have HIN := Lib.hid hI
              clear hI
              obtain ⟨W6, hW6⟩ : ∃ W6, W6 = 64 - p - q := ⟨_, rfl⟩
              have ev1 : 64 - (p : Int) - (q : Int) = (W6 : Int) := by omega
              have ev2 : IntKind.i64.wrap (W6 : Int) = W6 := wrap_nat W6 (by omega)
              have ev3 : IntKind.i64.wrap (64 - (p : Int)) = 64 - p := IntWalk.i64_in _ (by omega)
              have hW64 : W6 ≤ 64 := by omega
              have HW6 := Lib.hid hW6
              clear hW6
              go_wp2_with fail
              refine (HIN.out _ hd64 (by omega)).mono ?_
              rw [← HY.out]
              rintro e wi ⟨rfl, rfl⟩
              go_wp2_with fail
              refine (refWrite_any base _ _ Y W6 wRQ RQ.out.row (by omega) hW64 (by have := HLEN.out; simp only [List.length_append, fieldBits_length, List.length_cons, List.length_nil]; omega) hsRQ).mono ?_
              rintro e wj ⟨vj, rfl, hRj⟩
              have RJ := Lib.hid (RQ.out.trans hRj)
              clear hRj ev1 ev2 ev3
              go_wp2
              refine ⟨⟨k + 1, x, (p, q), vj, _, by omega, rfl, ?_, ?_, by go_num, ?_, hx2, fun h => by omega, fun _ => HNX.out, ?_, RJ.out⟩, by simp [intOf]; omega⟩
              · rw [HR1.out]
              · rw [HR2.out]
              · exact HWN.out
              · have := HC.out
                rw [← HY.out, ← HW6.out, ← HM.out] at this
                rw [← this]
                simp only [List.append_assoc]
    · have ek : k = l.length := by omega
      rw [restX_end (by omega), List.append_nil] at hcur
      subst hcur
      have HRR := Lib.hid hR
      have hkl' : ¬ (k : Int) < l.length := by omega
      clear hR hk0 hkl ek hs
      go_wp2
      go_ret
      exact ⟨_, rfl, HRR.out⟩
end Go.Proofs.YtdniaingipoggaaDoor
