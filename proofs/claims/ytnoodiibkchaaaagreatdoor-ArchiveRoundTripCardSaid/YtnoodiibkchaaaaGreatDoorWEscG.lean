/-
  WALKS: tsblockref22.body, tsblockref22.Unquote.
-/
import Derived.Test.YtnoodiibkchaaaaGreatDoorWEscF
import Derived.Laws.AppendOwn
import Derived.Deep.AppendLies
import Derived.Laws.NewBlocks
namespace Go.Proofs.YtnoodiibkchaaaaGreatDoor
open Go.RowKit
attribute [local go_sem ↓] Go.wp_at_zero Go.wp_at_succ

/-- bytes as cells -/
def cellsL (l : List Nat) : List Value := l.map fun c => .int .u8 ((c : Nat) : Int)
theorem cellsL_length (l : List Nat) : (cellsL l).length = l.length := by simp [cellsL]
theorem cellsL_append (a b : List Nat) : cellsL (a ++ b) = cellsL a ++ cellsL b := by simp [cellsL]
/-- the slice v owns a row of its own that reads as these bytes -/
def RowB (w : World) (B : Nat) (v : Value) (l : List Nat) : Prop := w.ownsRow B 5 1 v l.length (cellsL l)
theorem infoU8 : (Tryz.prog.info? 5).map (fun i => (i.zero, i.size, i.bytes)) = some (some (.int .u8 0), 1, 1) := by kernel_rfl
theorem cell_new (w : World) (v : Value) (t : TypeId) : (w.alloc (.cells #[v] t)).cell? ⟨w.heap.size, 0, none⟩ = some v := by
  have h : (w.alloc (.cells #[v] t)).heap[w.heap.size]? = some (.cells #[v] t (0, 0)) := heap_alloc_new w _
  rw [cell_of_row _ _ _ _ _ _ h]; rfl
/-- append of one byte to a row of one's own -/
theorem app1 {ops : Array Oper} {rest : List Oper} {o : Oper} {a : Act} {Q : Exit → Act → World → Prop} {w : World} (hgd : o.guard = none) (s x : Operand)
    (ho : o.op = .call { callee := .builtin .append, args := #[s, x], argTypes := #[59, 59] }) (B : Nat) (v : Value) (l : List Nat) (c g : Nat) (hs : a.eval s = v) (hx : a.eval x = .slice (some ⟨g, 0, none⟩) 1 1)
    (hown : RowB w B v l) (hc : w.cell? ⟨g, 0, none⟩ = some (.int .u8 (c : Nat))) (hl : l.length ≤ 1099511627776) (hB : B ≤ w.heap.size)
    (h : ∀ v' w', RowB w' B v' (l ++ [c]) → Below B w w' → wpList Tryz.prog ops Q rest (a.put o.dst v') w') : wpList Tryz.prog ops Q (o :: rest) a w := by
  obtain ⟨i0, hi, hz0, hz1, hz2⟩ := info_parts infoU8
  refine wpList_append_own w hgd s x 59 ho B 5 i0 (.int .u8 0) 1 1 Tryz.underlying59 hi hz0 hz1 hz2 rfl (by decide) v l.length (cellsL l) hs hown ⟨g, 0, none⟩ 1 1 [.int .u8 (c : Nat)] hx rfl ?_ ?_ ?_ ?_ hB ?_
  · intro j u hj
    match j, hj with
    | 0, hj => simp at hj; subst hj; simpa [Addr.add] using hc
  · intro u hu; simp at hu; subst hu; rfl
  · unfold maxLen; omega
  · omega
  · intro v' w' h1 h2 _
    refine h v' w' ?_ ?_
    · rw [RowB, cellsL_append, List.length_append]; exact h1
    · exact (Below.refl B w).grown h2 hB (fun k hk => (hown.lt k hk).1)
theorem sapp1 {ops : Array Oper} {o : Oper} {a : Act} {K : Act → World → Prop} {Q : Exit → Act → World → Prop} {E : Prop} {w : World} (hgd : o.guard = none) (s x : Operand)
    (ho : o.op = .call { callee := .builtin .append, args := #[s, x], argTypes := #[59, 59] }) (B : Nat) (v : Value) (l : List Nat) (c g : Nat) (hs : a.eval s = v) (hx : a.eval x = .slice (some ⟨g, 0, none⟩) 1 1)
    (hown : RowB w B v l) (hc : w.cell? ⟨g, 0, none⟩ = some (.int .u8 (c : Nat))) (hl : l.length ≤ 1099511627776) (hB : B ≤ w.heap.size)
    (h : ∀ v' w', RowB w' B v' (l ++ [c]) → Below B w w' → K (a.put o.dst v') w') : if Region.wanted o (yielded ops a.tmps) = true then Oper.wp Tryz.prog o a w K Q else E := by
  obtain ⟨i0, hi, hz0, hz1, hz2⟩ := info_parts infoU8
  refine step_append_lies w hgd s x 59 ho B 5 i0 (.int .u8 0) 1 1 Tryz.underlying59 hi hz0 hz1 hz2 rfl (by decide) v l.length (cellsL l) hs hown ⟨g, 0, none⟩ 1 1 [.int .u8 (c : Nat)] hx rfl ?_ ?_ (by decide) ?_ ?_ hB _ rfl ?_
  · intro j u hj
    match j, hj with
    | 0, hj => simp at hj; subst hj; simpa [Addr.add] using hc
  · intro u hu; simp at hu; subst hu; rfl
  · unfold maxLen; omega
  · omega
  · intro gg cap w' h1 h2 _ _
    refine h _ w' ?_ ?_
    · rw [RowB, cellsL_append, List.length_append]; exact h1
    · exact (Below.refl B w).grown h2 hB (fun k hk => (hown.lt k hk).1)
theorem RowB.alloc {w : World} {B : Nat} {v : Value} {l : List Nat} (h : RowB w B v l) (o : Obj) : RowB (w.alloc o) B v l := World.ownsRow.alloc h o
theorem RowB.nil (w : World) (B : Nat) : RowB w B (.slice none 0 0) [] := World.ownsRow_nil w B 5 1
theorem nums_strOf (l : List Nat) : strOfNums (l.map fun c => ((c : Nat) : Int)) = strOf l := by simp [strOfNums, strOf, u8L]
/-- a row of one's own as a string -/
theorem RowB.str {w : World} {B : Nat} {v : Value} {l : List Nat} (h : RowB w B v l) : (convert 59 9 v).run Tryz.prog w = .ok (.string (strOf l)) w := by
  rcases h.2 with ⟨rfl, h0⟩ | ⟨g, cap, cur, rfl, hb, hgg, hcap, _, hcs, htk⟩
  · obtain rfl : l = [] := List.eq_nil_of_length_eq_zero h0
    exact run_convert_bytes_nil w 59 5 Tryz.underlying59 Tryz.underlying5 _ _ 9 Tryz.underlying9
  · have := run_convert_bytes_arg (P := Tryz.prog) w 59 5 Tryz.underlying59 Tryz.underlying5 g 0 l.length cap (l.map fun c => ((c : Nat) : Int)) (by simp) (fun i hi => by
      rw [cell_of_row _ _ _ _ _ _ hgg, Nat.zero_add]
      have h1 := congrArg (·[i]?) htk
      simp only [List.getElem?_take, cellsL, List.getElem?_map] at h1
      rw [if_pos (by omega)] at h1
      rw [← Array.getElem?_toList, h1]
      simp [hi, List.getD_eq_getElem?_getD]) 9 Tryz.underlying9
    rw [this, nums_strOf]
/-- one form, by the bytes of the text -/
def oneP (t : ByteArray) (pos : Nat) : List Nat × Nat :=
  if bAt t pos ≠ 92 then ([bAt t pos], 1) else if t.size < pos + 2 then ([], 0) else if bAt t (pos + 1) = 34 then ([34], 2) else if bAt t (pos + 1) = 92 then ([92], 2) else if bAt t (pos + 1) = 110 then ([10], 2) else
  if bAt t (pos + 1) ≠ 120 ∨ t.size < pos + 4 then ([], 0) else if digitI (bAt t (pos + 2)) < 0 ∨ digitI (bAt t (pos + 3)) < 0 then ([], 0) else ([(16 * digitI (bAt t (pos + 2)) + digitI (bAt t (pos + 3))).toNat], 4)
theorem bAt_rest (t : ByteArray) (pos k : Nat) (h : pos + k < t.size) : bAt (t.extract pos t.size) k = bAt t (pos + k) := by
  have hs := rest_size t pos
  rw [bAt_get _ k (by omega), bAt_get t (pos + k) h]
  simp [ByteArray.getElem_extract]
theorem oneV_at (t : ByteArray) (pos : Nat) (h : pos < t.size) : oneV (t.extract pos t.size) = oneP t pos := by
  have hs := rest_size t pos
  unfold oneV oneP
  rw [bAt_rest t pos 0 h, Nat.add_zero]
  by_cases h1 : bAt t pos ≠ 92
  · rw [if_pos h1, if_pos h1]
  · rw [if_neg h1, if_neg h1]
    by_cases h2 : t.size < pos + 2
    · rw [if_pos (by omega), if_pos h2]
    · rw [if_neg (by omega), if_neg h2, bAt_rest t pos 1 (by omega)]
      by_cases a1 : bAt t (pos + 1) = 34
      · rw [if_pos a1, if_pos a1]
      rw [if_neg a1, if_neg a1]
      by_cases a2 : bAt t (pos + 1) = 92
      · rw [if_pos a2, if_pos a2]
      rw [if_neg a2, if_neg a2]
      by_cases a3 : bAt t (pos + 1) = 110
      · rw [if_pos a3, if_pos a3]
      rw [if_neg a3, if_neg a3]
      by_cases h3 : bAt t (pos + 1) ≠ 120 ∨ t.size < pos + 4
      · rw [if_pos (by omega), if_pos h3]
      · rw [if_neg (by omega), if_neg h3, bAt_rest t pos 2 (by omega), bAt_rest t pos 3 (by omega)]
def bodyR : Option (List Nat × Nat) → Value
  | some p => .tuple #[.string (strOf p.1), .int .i64 ((p.2 : Nat) + 1)]
  | none => .tuple #[.string { data := #[] }, .int .i64 (-1)]
/-- what holds at each round's head -/
def BRel (t : ByteArray) (S : Option (List Nat × Nat)) (w : World) (a o : Value) (wr : World) : Prop :=
  ∃ (pos f : Nat) (acc : List Nat), a = .int .i64 (pos : Nat) ∧ RowB wr w.heap.size o acc ∧ Below w.heap.size w wr ∧ pos ≤ t.size ∧ acc.length ≤ pos ∧ S = (scan t f pos).map (fun p => (acc ++ p.1, p.2)) ∧ t.size + 1 ≤ pos + f
theorem BRel.next {t : ByteArray} {S : Option (List Nat × Nat)} {w wn : World} {a o : Value} {pos f n : Nat} {acc p : List Nat} (hp : pos < t.size) (hm : bAt t pos ≠ 34) (hone : oneP t pos = (p, n)) (hn : n ≠ 0)
    (hS : S = (scan t f pos).map (fun p => (acc ++ p.1, p.2))) (hf : t.size + 1 ≤ pos + f) (hal : acc.length ≤ pos) (ha : a = .int .i64 ((pos + n : Nat) : Int)) (hr : RowB wn w.heap.size o (acc ++ p)) (hb : Below w.heap.size w wn) : BRel t S w a o wn := by
  have e := oneV_at t pos hp
  rw [hone] at e
  have hle := oneV_le (t.extract pos t.size) (by rw [rest_size]; omega)
  obtain ⟨f', h1, h2⟩ := scan_go hS hp hf hm (by rw [e]; exact hn)
  rw [e] at h1 h2 hle
  have hrs := rest_size t pos
  simp only at h1 h2 hle
  exact ⟨pos + n, f', acc ++ p, ha, hr, hb, by omega, by rw [List.length_append]; omega, h1, h2⟩
theorem BRel.fail {t : ByteArray} {S : Option (List Nat × Nat)} {pos f : Nat} {acc : List Nat} (hp : pos < t.size) (hm : bAt t pos ≠ 34) (hone : oneP t pos = ([], 0)) (hS : S = (scan t f pos).map (fun p => (acc ++ p.1, p.2))) : S = none :=
  scan_fail hS hm (by rw [oneV_at t pos hp, hone])
theorem BRel.stop {t : ByteArray} {S : Option (List Nat × Nat)} {pos f : Nat} {acc : List Nat} (hp : ¬ pos < t.size) (hS : S = (scan t f pos).map (fun p => (acc ++ p.1, p.2))) : S = none := scan_end hS hp
theorem ret_bodyR {S T : Option (List Nat × Nat)} {v : Value} (h : S = T) (hv : v = bodyR T) : Ending.returned v = .returned (bodyR S) := by rw [h, hv]
set_option maxHeartbeats 4000000 in
set_option maxRecDepth 100000 in
theorem body_any (t : ByteArray) (p0 : Nat) (w : World) (hp0 : p0 ≤ t.size) (hs : t.size ≤ 1099511627776) :
    Calls Tryz.prog 105 #[.string t, .int .i64 (p0 : Nat)] w fun e w' => e = .returned (bodyR (scan t (t.size + 1) p0)) ∧ Below w.heap.size w w' := by
  obtain ⟨S, hS⟩ : ∃ S, S = scan t (t.size + 1) p0 := ⟨_, rfl⟩
  rw [← hS]
  have HR0 : Hid (BRel t S w (.int .i64 (p0 : Nat)) (.slice none 0 0) w) := Lib.hid ⟨p0, t.size + 1, [], rfl, RowB.nil w _, Below.refl _ _, hp0, Nat.zero_le _, by rw [hS]; simp, by omega⟩
  clear hS
  go_enter Tryz.func105, Tryz.ntmps105
  go_wp2
  go_loopw [1, 6] (fun a o wr => BRel t S w a o wr) (fun a _ _ => t.size - (intOf a).toNat)
  case atStart => exact HR0.out
  case round =>
    clear HR0
    obtain ⟨pos, f, acc, rfl, hown, hbw, hps, hal, hS, hf⟩ := hrel
    have hBs := hbw.size
    have hlen : acc.length ≤ 1099511627776 := by omega
    by_cases hp : pos < t.size
    · have hx0 : (t[pos]'hp).toNat = bAt t pos := (bAt_get t pos hp).symm
      have hb0 := bAt_lt t pos
      have HN := Lib.hid (fun (a o : Value) (wn : World) (p : List Nat) (n : Nat) (hm : bAt t pos ≠ 34) (hone : oneP t pos = (p, n)) (hn : n ≠ 0) (ha : a = .int .i64 ((pos + n : Nat) : Int)) (hr : RowB wn w.heap.size o (acc ++ p)) (hb : Below w.heap.size w wn) => BRel.next hp hm hone hn hS hf hal ha hr hb)
      have HF := Lib.hid (fun (hm : bAt t pos ≠ 34) (hone : oneP t pos = ([], 0)) => BRel.fail hp hm hone hS)
      have HM := Lib.hid (fun (h34 : bAt t pos = 34) => scan_mark hS hp hf h34)
      have HSTR := Lib.hid hown.str
      have HO : Hid (oneP t pos = oneP t pos) := Lib.hid rfl
      have hm1 : t.size - (pos + 1) < t.size - pos := by omega
      obtain ⟨b, hb⟩ : ∃ b, b = bAt t pos := ⟨_, rfl⟩
      have HOP := Lib.hid (show oneP t pos = _ from by unfold oneP; rw [← hb])
      rw [← hb] at hx0 hb0 HN HF HM
      clear HO
      by_cases h34 : b = 34
      · subst h34
        have hSS := Lib.hid (HM.out rfl)
        have hcv := HSTR.out
        clear hb HN HF HM hS hown
        go_wp2
        go_ret2
        exact ⟨ret_bodyR hSS.out rfl, hbw⟩
      · have e34 : ((b : Int) == 34) = false := by rw [beq_eq_false_iff_ne]; omega
        by_cases h92 : b = 92
        · subst h92
          have HOWN := Lib.hid hown
          have HF2 := Lib.hid (fun h => HF.out h34 h)
          have hS2 : Hid (∀ _ : oneP t pos = ([], 0), S = none) := Lib.hid (fun h => HF.out h34 h)
          have HOP2 := Lib.hid (HOP.out.trans (if_neg (by decide)))
          clear HOP HF HF2 HM hS hown hb HSTR hb0
          by_cases h2 : t.size < pos + 2
          · have hSS := Lib.hid (hS2.out (by rw [HOP2.out, if_pos h2]))
            clear HOP2 hS2 HN HOWN
            go_wp2
            go_ret2
            exact ⟨ret_bodyR hSS.out rfl, hbw⟩
          · have hp1 : pos + 1 < t.size := by omega
            have hx1 : (t[pos + 1]'hp1).toNat = bAt t (pos + 1) := (bAt_get t (pos + 1) hp1).symm
            have hb1 := bAt_lt t (pos + 1)
            have HOP3 := Lib.hid (HOP2.out.trans (if_neg h2))
            obtain ⟨d, hd⟩ : ∃ d, d = bAt t (pos + 1) := ⟨_, rfl⟩
            rw [← hd] at hx1 hb1 HOP3
            clear HOP2 h2 hd
            by_cases d34 : d = 34
            · subst d34
              have hone : Hid (oneP t pos = ([34], 2)) := Lib.hid (by rw [HOP3.out, if_pos rfl])
              clear HOP3 hS2
              go_wp2_with (at_builtin; refine app1 rfl _ _ rfl w.heap.size _ acc 34 wr.heap.size rfl rfl (HOWN.out.alloc _) (cell_new wr _ _) hlen (by simp; omega) ?_; intro v' w1 hown1 hb1)
              refine ⟨HN.out _ _ _ _ _ h34 hone.out (by decide) (by rfl) hown1 (hbw.trans ((Below.refl _ _).alloc hBs _ |>.trans hb1)), ?_⟩
              simp [intOf]
              omega
            have HOP4 := Lib.hid (HOP3.out.trans (if_neg d34))
            have q34 : ((d : Int) == 34) = false := by rw [beq_eq_false_iff_ne]; omega
            clear HOP3
            by_cases d92 : d = 92
            · subst d92
              have hone : Hid (oneP t pos = ([92], 2)) := Lib.hid (by rw [HOP4.out, if_pos rfl])
              clear HOP4 hS2
              go_wp2_with (at_builtin; refine app1 rfl _ _ rfl w.heap.size _ acc 92 wr.heap.size rfl rfl (HOWN.out.alloc _) (cell_new wr _ _) hlen (by simp; omega) ?_; intro v' w1 hown1 hb1)
              refine ⟨HN.out _ _ _ _ _ h34 hone.out (by decide) (by rfl) hown1 (hbw.trans ((Below.refl _ _).alloc hBs _ |>.trans hb1)), ?_⟩
              simp [intOf]
              omega
            have HOP5 := Lib.hid (HOP4.out.trans (if_neg d92))
            have q92 : ((d : Int) == 92) = false := by rw [beq_eq_false_iff_ne]; omega
            clear HOP4
            by_cases d110 : d = 110
            · subst d110
              have hone : Hid (oneP t pos = ([10], 2)) := Lib.hid (by rw [HOP5.out, if_pos rfl])
              clear HOP5 hS2
              go_wp2_with (at_builtin; refine app1 rfl _ _ rfl w.heap.size _ acc 10 wr.heap.size rfl rfl (HOWN.out.alloc _) (cell_new wr _ _) hlen (by simp; omega) ?_; intro v' w1 hown1 hb1)
              refine ⟨HN.out _ _ _ _ _ h34 hone.out (by decide) (by rfl) hown1 (hbw.trans ((Below.refl _ _).alloc hBs _ |>.trans hb1)), ?_⟩
              simp [intOf]
              omega
            have HOP6 := Lib.hid (HOP5.out.trans (if_neg d110))
            have q110 : ((d : Int) == 110) = false := by rw [beq_eq_false_iff_ne]; omega
            clear HOP5
            by_cases d120 : d = 120
            · subst d120
              clear q34 q92 q110
              by_cases h4 : t.size < pos + 4
              · have hSS := Lib.hid (hS2.out (by rw [HOP6.out, if_pos (.inr h4)]))
                clear HOP6 hS2 HN HOWN
                go_wp2
                go_ret2
                exact ⟨ret_bodyR hSS.out rfl, hbw⟩
              · have hp2 : pos + 2 < t.size := by omega
                have hp3 : pos + 3 < t.size := by omega
                have hx2 : (t[pos + 2]'hp2).toNat = bAt t (pos + 2) := (bAt_get t (pos + 2) hp2).symm
                have hx3 : (t[pos + 3]'hp3).toNat = bAt t (pos + 3) := (bAt_get t (pos + 3) hp3).symm
                have hb2 := bAt_lt t (pos + 2)
                have hb3 := bAt_lt t (pos + 3)
                have HOP7 := Lib.hid (HOP6.out.trans (if_neg (by omega)))
                obtain ⟨p, ep⟩ : ∃ p, p = bAt t (pos + 2) := ⟨_, rfl⟩
                obtain ⟨q, eq⟩ : ∃ q, q = bAt t (pos + 3) := ⟨_, rfl⟩
                rw [← ep] at hx2 hb2 HOP7
                rw [← eq] at hx3 hb3 HOP7
                have P1 := digitI_bd p
                have Q1 := digitI_bd q
                obtain ⟨P, eP⟩ : ∃ P, digitI p = P := ⟨_, rfl⟩
                obtain ⟨Q, eQ⟩ : ∃ Q, digitI q = Q := ⟨_, rfl⟩
                rw [eP] at P1 HOP7
                rw [eQ] at Q1 HOP7
                clear HOP6 ep eq
                by_cases hP : P < 0
                · have hSS := Lib.hid (hS2.out (by rw [HOP7.out, if_pos (.inl hP)]))
                  clear HOP7 hS2 HN HOWN
                  go_wp2_with (go_at_call 99; refine (digit_any _ _ (by omega)).mono ?_; rintro e w1 ⟨rfl, rfl⟩)
                  go_ret2
                  exact ⟨ret_bodyR hSS.out rfl, hbw⟩
                · have hP0 : 0 ≤ P := by omega
                  clear hP
                  by_cases hQ : Q < 0
                  · have hSS := Lib.hid (hS2.out (by rw [HOP7.out, if_pos (.inr hQ)]))
                    clear HOP7 hS2 HN HOWN
                    go_wp2_with (go_at_call 99; refine (digit_any _ _ (by omega)).mono ?_; rintro e w1 ⟨rfl, rfl⟩)
                    go_ret2
                    exact ⟨ret_bodyR hSS.out rfl, hbw⟩
                  · have hQ0 : 0 ≤ Q := by omega
                    have hone : Hid (oneP t pos = ([(16 * P + Q).toNat], 4)) := Lib.hid (by rw [HOP7.out, if_neg (by omega)])
                    obtain ⟨R, hR⟩ : ∃ R, R = (16 * P + Q).toNat := ⟨_, rfl⟩
                    have hRe : 16 * P + Q = (R : Int) := by omega
                    have hRb : R < 256 := by omega
                    rw [← hR] at hone
                    have HRE := Lib.hid hRe
                    clear HOP7 hS2 hQ hR hRe
                    go_wp2_with (go_at_call 99; refine (digit_any _ _ (by omega)).mono ?_; rintro e w1 ⟨rfl, rfl⟩)
                    have s1 : IntKind.i64.wrap ((pos : Int) + 2) = (pos : Int) + 2 := IntWalk.i64_in _ (by omega)
                    have s2 : IntKind.i64.wrap ((pos : Int) + 3) = (pos : Int) + 3 := IntWalk.i64_in _ (by omega)
                    have s3 : 0 ≤ (pos : Int) + 2 := by omega
                    have s4 : 0 ≤ (pos : Int) + 3 := by omega
                    have s5 : ((pos : Int) + 2).toNat = pos + 2 := by omega
                    have s6 : ((pos : Int) + 3).toNat = pos + 3 := by omega
                    have s7 : IntKind.i64.wrap (16 * P) = 16 * P := IntWalk.i64_in _ (by omega)
                    have s8 : IntKind.i64.wrap (16 * P + Q) = (R : Int) := by rw [HRE.out]; exact IntWalk.i64_in _ (by omega)
                    have s9 : IntKind.u8.wrap (R : Int) = R := IntWalk.u8_in _ (by omega)
                    go_region_held3 (fun _ => True) (trivial) (first
                      | (go_at_call 99; go_must (refine (digit_any _ _ (by omega)).mono ?_; rintro e w1 ⟨rfl, rfl⟩))
                      | (refine sapp1 rfl _ _ rfl w.heap.size _ acc R _ rfl rfl (HOWN.out.alloc _) (cell_new _ _ _) hlen (by simp; omega) ?_; intro v' w1 hown1 hb1))
                    all_goals
                      go_wp2
                      refine ⟨HN.out _ _ _ _ _ h34 hone.out (by decide) (by rfl) hown1 (hbw.trans (by first | exact ((Below.refl _ _).alloc hBs _).drew.trans hb1 | exact ((Below.refl _ _).drew.alloc hBs _).trans hb1 | exact ((Below.refl _ _).alloc hBs _).trans hb1)), ?_⟩
                      simp [intOf]
                      omega
            · have hSS := Lib.hid (hS2.out (by rw [HOP6.out, if_pos (.inl d120)]))
              have q120 : ((d : Int) == 120) = false := by rw [beq_eq_false_iff_ne]; omega
              clear HOP6 hS2 HN HOWN
              go_wp2
              go_ret2
              exact ⟨ret_bodyR hSS.out rfl, hbw⟩
        · have e92 : ((b : Int) != 92) = true := by simp; omega
          have hone : Hid (oneP t pos = ([b], 1)) := Lib.hid (by rw [HOP.out, if_pos h92])
          have HOWN := Lib.hid hown
          have HMS : Hid (BRel t S w (.int .i64 ((pos : Int) + 1)) (.slice none 0 0) wr → True) := Lib.hid (fun _ => trivial)
          clear HOP HMS hS HF HM hown hb HSTR
          go_wp2_with (at_builtin; refine app1 rfl _ _ rfl w.heap.size _ acc b wr.heap.size rfl rfl (HOWN.out.alloc _) (cell_new wr _ _) hlen (by simp; omega) ?_; intro v' w1 hown1 hb1)
          refine ⟨HN.out _ _ _ _ _ h34 hone.out (by decide) (by rfl) hown1 (hbw.trans ((Below.refl _ _).alloc hBs _ |>.trans hb1)), ?_⟩
          simp [intOf]
          omega
    · have hSS := Lib.hid (BRel.stop hp hS)
      clear hS hf
      go_wp2
      go_ret2
      exact ⟨ret_bodyR hSS.out rfl, hbw⟩
end Go.Proofs.YtnoodiibkchaaaaGreatDoor
