/-
  WALKS: the head of labels: the program's and the reference's.
-/
import Derived.Test.YtnoodiibkchaaaaGreatDoorWArcF
namespace Go.Proofs.YtnoodiibkchaaaaGreatDoor
open Go.RowKit
attribute [local go_sem ↓] Go.wp_at_zero Go.wp_at_succ

theorem quoteL_ge (s : ByteArray) : s.size + 2 ≤ (quoteL s).length := by
  have := quoteFrom_ge s s.size 0 (by omega)
  simp [quoteL]
  omega
theorem labsT_sizes : ∀ (l : List Lab) (x : Lab), x ∈ l → x.1.size + x.2.size ≤ (labsT l).length
  | [], _, h => by cases h
  | y :: r, x, h => by
    have h1 := quoteL_ge y.1
    have h2 := quoteL_ge y.2
    have hl : (labT y).length = (quoteL y.1).length + ((quoteL y.2).length + 1) := by simp [labT]
    rw [labsT_cons, List.length_append]
    rcases List.mem_cons.1 h with rfl | h
    · omega
    · have ih := labsT_sizes r x h
      rw [if_neg (by rintro rfl; cases h), List.length_cons]
      omega
theorem labsT_snoc : ∀ (l : List Lab) (x : Lab), labsT (l ++ [x]) = labsT l ++ ((if l = [] then [] else [44]) ++ labT x)
  | [], x => by simp [labsT]
  | y :: r, x => by
    rw [List.cons_append, labsT_cons, labsT_snoc r x, labsT_cons]
    by_cases hr : r = []
    · subst hr; simp [labsT]
    · simp [hr]
theorem labsT_app : ∀ (a b : List Lab), (labsT a).length ≤ (labsT (a ++ b)).length
  | [], _ => by simp [labsT]
  | x :: r, b => by
    have ih := labsT_app r b
    rw [List.cons_append, labsT_cons, labsT_cons, List.length_append, List.length_append]
    by_cases hr : r = []
    · subst hr; simp
    · rw [if_neg hr, if_neg (by intro h; exact hr (List.append_eq_nil_iff.1 h).1), List.length_cons, List.length_cons]; omega
theorem labsT_take (l : List Lab) (k : Nat) : (labsT (l.take k)).length ≤ (labsT l).length := by
  have := labsT_app (l.take k) (l.drop k)
  rwa [List.take_append_drop] at this
theorem quote_size (s : ByteArray) (h : s.size ≤ 1099511627776) : (strOf (quoteL s)).size ≤ 4398046511106 := by
  have := quoteL_le s
  rw [strOf_size]; omega
def partsOf (l : List Lab) : List ByteArray := l.map fun x => strOf (labT x)
theorem join_labs : ∀ l : List Lab, Lib.join ((partsOf l).map (·.data.toList)) [44] = u8L (labsT l)
  | [] => rfl
  | [x] => by simp [partsOf, Lib.join_one, labsT, strOf_list]
  | x :: y :: r => by
    have ih := join_labs (y :: r)
    have e : Lib.join ((partsOf (x :: y :: r)).map (·.data.toList)) [44] = (strOf (labT x)).data.toList ++ ([44] ++ Lib.join ((partsOf (y :: r)).map (·.data.toList)) [44]) := by
      simp [partsOf, Lib.join, List.intercalate]
    rw [e, ih, strOf_list, labsT, u8L_append]
    rfl
theorem labT_str (x y : ByteArray) : strOf (quoteL x) ++ { data := #[61] } ++ strOf (quoteL y) = strOf (labT (x, y)) := by
  rw [show ({ data := #[61] } : ByteArray) = strOf [61] from rfl, strOf_append, strOf_append]
  simp [labT]
set_option maxHeartbeats 4000000 in
set_option maxRecDepth 100000 in
theorem head_any (v : Value) (l : List Lab) (w : World) (h : RdL w v l) (hT : Tabs w) (hb : (labsT l).length ≤ 1099511627776) :
    Calls Tryz.prog 18 #[v] w fun e w' => e = .returned (.string (strOf (headL l))) ∧ Below w.heap.size w w' := by
  have HH := Lib.hid h; have HT := Lib.hid hT; have HSZ := Lib.hid (fun x hx => labsT_sizes l x hx)
  have HBL := Lib.hid hb
  have hll : l.length ≤ 1099511627776 := by have := labsT_ge l; omega
  obtain ⟨ad, cap, rfl, hcap⟩ := h.slice
  clear h hT hb
  go_enter Tryz.func18, Tryz.ntmps18
  go_wp2
  go_loopw [3, 8] (fun o i wr => ∃ k : Nat, k ≤ l.length ∧ i = .int .i64 (k : Nat) ∧ Hid (wr.ownsRow w.heap.size 9 1 o k (strC (partsOf (l.take k)))) ∧ Below w.heap.size w wr) (fun _ i _ => l.length - (intOf i).toNat)
  case atStart => exact ⟨0, by omega, rfl, Lib.hid (World.ownsRow_nil _ _ _ _), Below.refl _ _⟩
  case round =>
    obtain ⟨k, hk, rfl, HOWN, hbr⟩ := hrel
    obtain ⟨ao, co, rfl⟩ := row_slice HOWN.out
    by_cases hlt : k < l.length
    · obtain ⟨⟨x, y⟩, hx⟩ := at_some hlt
      obtain ⟨b1, o1, rfl, c1, c2⟩ := (HH.out.below hbr).at hx
      have hklt : (k : Int) < l.length := by omega
      have hsxy := HSZ.out (x, y) (List.mem_of_getElem? hx)
      have hxs : x.size ≤ 1099511627776 := by have := HBL.out; simp at hsxy; omega
      have hys : y.size ≤ 1099511627776 := by have := HBL.out; simp at hsxy; omega
      have hqx := quote_size x hxs
      have hqy := quote_size y hys
      have hn1 : ¬ 9223372036854775807 < (strOf (quoteL x)).size + 1 := by omega
      have hn2 : ¬ 9223372036854775807 < (strOf (quoteL x)).size + 1 + (strOf (quoteL y)).size := by omega
      have HX : Hid (partsOf (l.take (k + 1)) = partsOf (l.take k) ++ [strOf (labT (x, y))]) := Lib.hid (by rw [List.take_add_one, hx]; simp [partsOf])
      have hsz := hbr.size
      obtain ⟨W1, hW1⟩ : ∃ W1, W1 = wr.alloc (.cells #[.string x, .string y] 46) := ⟨_, rfl⟩
      have hrow : W1.heap[wr.heap.size]? = some (.cells #[.string x, .string y] 46 (0, 0)) := by rw [hW1]; exact heap_alloc_new wr _
      have hba : Below wr.heap.size wr W1 := by rw [hW1]; exact (Below.refl _ _).alloc (Nat.le_refl _) _
      have HSX : Hid (∀ q, Below W1.heap.size W1 q → q.cell? ⟨wr.heap.size, 0, none⟩ = some (.string x) ∧ q.cell? ⟨wr.heap.size, 1, none⟩ = some (.string y)) := Lib.hid (fun q hq => by
        have hr : q.heap[wr.heap.size]? = some (.cells #[.string x, .string y] 46 (0, 0)) := by rw [hq.block _ (Array.getElem?_eq_some_iff.1 hrow).1]; exact hrow
        constructor <;> (rw [cell_of_row _ _ _ _ _ _ hr]; rfl))
      have HBW : Hid (Below w.heap.size w W1) := Lib.hid (hbr.trans (hba.mono hsz))
      have HO1 : Hid (W1.ownsRow w.heap.size 9 1 (.slice ao k co) k (strC (partsOf (l.take k)))) := Lib.hid (by rw [hW1]; exact HOWN.out.alloc _)
      have hszW : wr.heap.size < W1.heap.size := (Array.getElem?_eq_some_iff.1 hrow).1
      have HQ1 : Hid (∀ q, Below W1.heap.size W1 q → Calls Tryz.prog 42 #[.string x] q fun e w' => e = .returned (.string (strOf (quoteL x))) ∧ Below W1.heap.size W1 w') := Lib.hid (fun q hq =>
        (quote_any x q hxs (HT.out.below (HBW.out.trans (hq.mono HBW.out.size)))).mono fun e w' ⟨he, hb⟩ => ⟨he, hq.trans (hb.mono hq.size)⟩)
      have HQ2 : Hid (∀ q, Below W1.heap.size W1 q → Calls Tryz.prog 42 #[.string y] q fun e w' => e = .returned (.string (strOf (quoteL y))) ∧ Below W1.heap.size W1 w') := Lib.hid (fun q hq =>
        (quote_any y q hys (HT.out.below (HBW.out.trans (hq.mono HBW.out.size)))).mono fun e w' ⟨he, hb⟩ => ⟨he, hq.trans (hb.mono hq.size)⟩)
      have HLT : Hid (strOf (quoteL x) ++ { data := #[61] } ++ strOf (quoteL y) = strOf (labT (x, y))) := Lib.hid (labT_str x y)
      obtain ⟨Q1, hQ1⟩ : ∃ Q, Q = strOf (quoteL x) := ⟨_, rfl⟩
      obtain ⟨Q2, hQ2⟩ : ∃ Q, Q = strOf (quoteL y) := ⟨_, rfl⟩
      rw [← hQ1] at HQ1 HLT hqx hn1 hn2
      rw [← hQ2] at HQ2 HLT hqy hn2
      have HAPP : Hid (∀ wq, Below W1.heap.size W1 wq → ∀ v' w4, w4.ownsRow w.heap.size 9 1 v' (k + 1) (strC (partsOf (l.take k)) ++ [.string (Q1 ++ { data := #[61] } ++ Q2)]) → (wq.alloc (.cells #[.string (Q1 ++ { data := #[61] } ++ Q2)] 9)).grownBy w4 (Value.slice ao k co).ownBlock →
          (w4.cell? ⟨wr.heap.size, 0, none⟩ = some (.string x) ∧ w4.cell? ⟨wr.heap.size, 1, none⟩ = some (.string y)) ∧ Below w.heap.size w w4 ∧ w4.ownsRow w.heap.size 9 1 v' (k + 1) (strC (partsOf (l.take (k + 1))))) := Lib.hid (fun wq hq v' w4 hown4 hg4 => by
        have hA := HSX.out _ (hq.alloc hq.size (.cells #[.string (Q1 ++ { data := #[61] } ++ Q2)] 9))
        have hlt4 : wr.heap.size < (wq.alloc (.cells #[.string (Q1 ++ { data := #[61] } ++ Q2)] 9)).heap.size := by have := hq.size; simp; omega
        have hne4 : some wr.heap.size ≠ (Value.slice ao k co).ownBlock := fun e => by have := (HOWN.out.lt _ e.symm).2; omega
        have g2 := HBW.out.trans ((hq.alloc hq.size (.cells #[.string (Q1 ++ { data := #[61] } ++ Q2)] 9)).mono HBW.out.size)
        refine ⟨⟨(hg4.cell_far ⟨wr.heap.size, 0, none⟩ hlt4 hne4).trans hA.1, (hg4.cell_far ⟨wr.heap.size, 1, none⟩ hlt4 hne4).trans hA.2⟩, g2.trans (below_grown ((row_below HO1.out hq).alloc _) hg4 (by have := g2.size; simpa using this)), ?_⟩
        rw [HX.out, strC_append, ← HLT.out]; exact hown4)
      have HS1 : Hid (∀ wq, Below W1.heap.size W1 wq → w.heap.size ≤ (wq.alloc (.cells #[.string (Q1 ++ { data := #[61] } ++ Q2)] 9)).heap.size) := Lib.hid (fun wq hq => by have := hq.size; have := HBW.out.size; simp; omega)
      have hd1 := (HSX.out _ (Below.refl _ _)).1
      have hd2 := (HSX.out _ (Below.refl _ _)).2
      clear hx hlt hbr hsxy hrow hba hQ1 hQ2 hqx hqy hxs hys
      go_wp2_with fail
      rw [← hW1]
      clear hW1 c1 c2
      have hkb : k + 1 ≤ 8796093022208 := by omega
      go_region_held3 (fun q => q.cell? ⟨wr.heap.size, 0, none⟩ = some (.string x) ∧ q.cell? ⟨wr.heap.size, 1, none⟩ = some (.string y))
        (first | exact HSX.out _ (Below.refl _ _) | exact HSX.out _ (Below.refl _ _).drew | exact HSX.out _ hb3 | exact HSX.out _ hb2 | exact HSX.out _ (hb3.alloc hb3.size _) | exact hF.1)
        (first
          | (go_at_call 42; (with_reducible refine (HQ1.out _ (Below.refl _ _).drew).mono ?_); rintro e w2 ⟨rfl, hb2⟩)
          | (go_at_call 42; (with_reducible refine (HQ2.out _ hb2).mono ?_); rintro e w3 ⟨rfl, hb3⟩)
          | (refine sappE elS rfl _ _ rfl w.heap.size _ _ k 1 _ [.string (Q1 ++ { data := #[61] } ++ Q2)] rfl rfl ((row_below HO1.out hb3).alloc _) (rd_new _ 1 1 [.string (Q1 ++ { data := #[61] } ++ Q2)] 9 1 rfl (Nat.le_refl _)) (by simp [Value.oneCell']) hkb (HS1.out _ hb3) ?_
             intro v' w4 hown4 hg4 hn4
             have hF := HAPP.out _ hb3 v' w4 hown4 hg4))
      have hbF := hF.2.1
      have hown5 := hF.2.2
      have HBF := Lib.hid hbF; have HO5 := Lib.hid hown5
      obtain ⟨ao2, co2, rfl⟩ := row_slice hown5
      clear hF hbF hown5 hown4 hg4 hn4 hb2 hb3
      go_wp2
      exact ⟨⟨k + 1, by omega, rfl, HO5.out, HBF.out⟩, by simp [intOf]; omega⟩
    · obtain rfl : k = l.length := by omega
      have hrow := HOWN.out
      rw [List.take_length] at hrow
      have hpl : (partsOf l).length = l.length := by simp [partsOf]
      have HJ : Hid (Calls Tryz.prog 43 #[.slice ao l.length co, .string { data := #[44] }] wr fun e w' => e = .returned (.string (strOf (labsT l))) ∧ Below wr.heap.size wr w') := Lib.hid (by
        by_cases h0 : l.length = 0
        · obtain rfl : l = [] := List.eq_nil_of_length_eq_zero h0
          refine (Tryz.strings_Join_none ao co _ wr).mono ?_
          rintro e w' ⟨rfl, rfl⟩
          exact ⟨rfl, Below.refl _ _⟩
        · obtain ⟨g, cc, cur, hv, hg1, hg2, hg3, hg4, hg5, hg6⟩ := row_shape hrow h0
          simp only [Value.slice.injEq] at hv
          obtain ⟨rfl, _, rfl⟩ := hv
          have hj := Tryz.strings_Join g 0 co (partsOf l) { data := #[44] } wr (fun j x hx => by
            have := hrow.cells (g := g) rfl j (.string x) (by simp [strC, hx])
            rw [show ((⟨g, 0, none⟩ : Addr).add j) = ⟨g, 0 + j, none⟩ from by unfold Addr.add; split <;> simp_all] at this
            exact this) (Array.getElem?_eq_some_iff.1 hg2).1 (by omega) (by omega) (by
              rw [show ({ data := #[44] } : ByteArray).data.toList = [44] from rfl, join_labs, u8L_length]; have := HBL.out; omega)
          rw [hpl, show ({ data := #[44] } : ByteArray).data.toList = [44] from rfl, join_labs] at hj
          exact hj)
      have HFE : Hid ({ data := #[123] } ++ strOf (labsT l) ++ { data := #[125] } = strOf (headL l)) := Lib.hid (by
        rw [show ({ data := #[123] } : ByteArray) = strOf [123] from rfl, show ({ data := #[125] } : ByteArray) = strOf [125] from rfl, strOf_append, strOf_append]
        rfl)
      have hls : (strOf (labsT l)).size ≤ 1099511627776 := by rw [strOf_size]; exact HBL.out
      clear hrow hpl
      go_wp2_with (go_at_call 43; refine HJ.out.mono ?_; rintro e w2 ⟨rfl, hb2⟩)
      go_ret
      exact ⟨ret_str HFE.out, hbr.trans (hb2.mono hbr.size)⟩
set_option maxHeartbeats 4000000 in
set_option maxRecDepth 100000 in
theorem refHead_any (v : Value) (l : List Lab) (w : World) (h : RdL w v l) (hT : Tabs w) (hb : (labsT l).length ≤ 1099511627776) :
    Calls Tryz.prog 20 #[v] w fun e w' => e = .returned (.string (strOf (headL l))) ∧ Below w.heap.size w w' := by
  have HH := Lib.hid h; have HT := Lib.hid hT; have HSZ := Lib.hid (fun x hx => labsT_sizes l x hx)
  have HBL := Lib.hid hb
  have hll : l.length ≤ 1099511627776 := by have := labsT_ge l; omega
  obtain ⟨ad, cap, rfl, hcap⟩ := h.slice
  clear h hT hb
  go_enter Tryz.func20, Tryz.ntmps20
  go_wp2
  go_loopw [3, 4] (fun o i wr => ∃ (k : Nat) (s : ByteArray), k ≤ l.length ∧ i = .int .i64 (k : Nat) ∧ o = .string s ∧ Hid (s = strOf (123 :: labsT (l.take k))) ∧ Below w.heap.size w wr) (fun _ i _ => l.length - (intOf i).toNat)
  case atStart => exact ⟨0, _, by omega, rfl, rfl, Lib.hid rfl, Below.refl _ _⟩
  case round =>
    obtain ⟨k, s, hk, rfl, rfl, HS, hbr⟩ := hrel
    by_cases hlt : k < l.length
    · obtain ⟨⟨x, y⟩, hx⟩ := at_some hlt
      obtain ⟨b1, o1, rfl, c1, c2⟩ := (HH.out.below hbr).at hx
      have hklt : (k : Int) < l.length := by omega
      have hk0 : (0 : Int) ≤ (k : Int) := by omega
      have hsxy := HSZ.out (x, y) (List.mem_of_getElem? hx)
      have hxs : x.size ≤ 1099511627776 := by have := HBL.out; simp at hsxy; omega
      have hys : y.size ≤ 1099511627776 := by have := HBL.out; simp at hsxy; omega
      have hqx := quote_size x hxs
      have hqy := quote_size y hys
      have hss : s.size ≤ 1099511627777 := by
        have := labsT_take l k
        have := HBL.out
        rw [HS.out, strOf_size, List.length_cons]; omega
      have hn1 : ¬ 9223372036854775807 < (strOf (quoteL x)).size + 1 := by omega
      have hn2 : ¬ 9223372036854775807 < (strOf (quoteL x)).size + 1 + (strOf (quoteL y)).size := by omega
      have hn3 : ¬ 9223372036854775807 < s.size + ((strOf (quoteL x)).size + 1 + (strOf (quoteL y)).size) := by omega
      have hn4 : ¬ 9223372036854775807 < s.size + 1 + ((strOf (quoteL x)).size + 1 + (strOf (quoteL y)).size) := by omega
      have hn5 : ¬ 9223372036854775807 < s.size + 1 := by omega
      have hsz := hbr.size
      have HTK : Hid (labsT (l.take (k + 1)) = labsT (l.take k) ++ ((if k = 0 then [] else [44]) ++ labT (x, y))) := Lib.hid (by
        rw [List.take_add_one, hx]
        show labsT (l.take k ++ [(x, y)]) = _
        rw [labsT_snoc]
        congr 2
        by_cases e : k = 0
        · subst e; simp
        · rw [if_neg e, if_neg]
          intro h0
          have := congrArg List.length h0
          rw [List.length_take] at this
          have h9 : min k l.length = 0 := this
          omega)
      have CC : Hid (∀ wq, Below wr.heap.size wr wq → wq.cell? ⟨b1, o1 + k * 2, none⟩ = some (.string x) ∧ wq.cell? ⟨b1, o1 + k * 2 + 1, none⟩ = some (.string y) ∧ True ∧ True ∧ True) := Lib.hid (fun wq h => by
        refine ⟨?_, ?_, trivial, trivial, trivial⟩
        · rw [h.cell (World.block_lt_of_cell? wr _ c1)]; exact c1
        · rw [h.cell (World.block_lt_of_cell? wr _ c2)]; exact c2)
      have HQ : Hid (∀ s q, s.size ≤ 1099511627776 → Below wr.heap.size wr q → Calls Tryz.prog 46 #[.string s] q fun e w' => e = .returned (.string (strOf (quoteL s))) ∧ Below wr.heap.size wr w') := Lib.hid (fun s q hs hq =>
        (refQuote_any s q hs (HT.out.below (hbr.trans (hq.mono hsz)))).mono fun e w' ⟨he, hb⟩ => ⟨he, hq.trans (hb.mono hq.size)⟩)
      have HBR := Lib.hid hbr
      clear hx hlt hbr hsxy c1 c2
      by_cases hk1 : k = 0
      · subst hk1
        simp only [Nat.zero_mul, Nat.add_zero] at CC
        have HN : Hid (s ++ (strOf (quoteL x) ++ { data := #[61] } ++ strOf (quoteL y)) = strOf (123 :: labsT (l.take (0 + 1)))) := Lib.hid (by
          rw [labT_str, HS.out, HTK.out, strOf_append]
          simp)
        go_wp2_with fail
        refine wp_region_class (fun x => Below wr.heap.size wr x) (by kernel_rfl) (by kernel_rfl) ((Below.refl _ _).drew) ?_
        repeat (
          refine wpQuiet_step (fun K hK => ?_)
          go_simp
          first
            | (refine hK _ ?_; clear hK K)
            | (refine ⟨_, fun _ _ => rfl, hK _ ?_⟩; clear hK K)
            | (apply Exists.intro
               refine ⟨fun wq hwq => ?_, hK _ ?_⟩
               (first
                | (go_at_call 46; exact HQ.out _ _ (by assumption) hwq)
                | (have hc := CC.out _ hwq; go_simp; exact rfl)
                | (obtain ⟨hc0, hc1, hc2, hc3, hc4⟩ := CC.out _ hwq; go_simp; exact rfl))
               clear hK K))
        refine wpQuiet_nil ?_
        intro wq hwq
        have HBQ := Lib.hid (HBR.out.trans (hwq.mono hsz))
        clear hwq CC HQ
        go_wp2
        exact ⟨⟨1, _, by omega, rfl, rfl, HN, HBQ.out⟩, by simp [intOf]; omega⟩
      · have hk2 : (0 : Int) < (k : Int) := by omega
        have HN : Hid (s ++ { data := #[44] } ++ (strOf (quoteL x) ++ { data := #[61] } ++ strOf (quoteL y)) = strOf (123 :: labsT (l.take (k + 1)))) := Lib.hid (by
          rw [labT_str, HS.out, HTK.out, if_neg hk1, show ({ data := #[44] } : ByteArray) = strOf [44] from rfl, strOf_append, strOf_append]
          simp)
        clear hk1
        go_wp2_with fail
        refine wp_region_class (fun x => Below wr.heap.size wr x) (by kernel_rfl) (by kernel_rfl) ((Below.refl _ _).drew) ?_
        repeat (
          refine wpQuiet_step (fun K hK => ?_)
          go_simp
          first
            | (refine hK _ ?_; clear hK K)
            | (refine ⟨_, fun _ _ => rfl, hK _ ?_⟩; clear hK K)
            | (apply Exists.intro
               refine ⟨fun wq hwq => ?_, hK _ ?_⟩
               (first
                | (go_at_call 46; exact HQ.out _ _ (by assumption) hwq)
                | (have hc := CC.out _ hwq; go_simp; exact rfl)
                | (obtain ⟨hc0, hc1, hc2, hc3, hc4⟩ := CC.out _ hwq; go_simp; exact rfl))
               clear hK K))
        refine wpQuiet_nil ?_
        intro wq hwq
        have HBQ := Lib.hid (HBR.out.trans (hwq.mono hsz))
        clear hwq CC HQ
        go_wp2
        exact ⟨⟨k + 1, _, by omega, rfl, rfl, HN, HBQ.out⟩, by simp [intOf]; omega⟩
    · obtain rfl : k = l.length := by omega
      have hss : s.size ≤ 1099511627777 := by
        have := HBL.out
        rw [HS.out, List.take_length, strOf_size, List.length_cons]; omega
      have HFE : Hid (s ++ { data := #[125] } = strOf (headL l)) := Lib.hid (by
        rw [HS.out, List.take_length, show ({ data := #[125] } : ByteArray) = strOf [125] from rfl, strOf_append]
        rfl)
      go_wp2
      go_ret
      exact ⟨ret_str HFE.out, hbr⟩
end Go.Proofs.YtnoodiibkchaaaaGreatDoor
