/-
  WALKS: comparing equal lists of labels, of samples, of series.
  WALKS: the strings of labels; which lists are too large to be tested.
  WALKS: which series are too large to be tested.
-/
import Derived.Test.YtnoodiibkchaaaaGreatDoorXMod
import Derived.Test.YtnoodiibkchaaaaGreatDoorXApp
import Derived.Deep.RegionHeld3
import Derived.Deep.DrawnRows
namespace Go.Proofs.YtnoodiibkchaaaaGreatDoor
open Go.RowKit
attribute [local go_sem ↓] Go.wp_at_zero Go.wp_at_succ

set_option maxRecDepth 100000 in
set_option maxHeartbeats 1000000 in
theorem eqLabels_same (v v' : Value) (l : List Lab) (w : World) (h : RdL w v l) (h' : RdL w v' l) (hl : l.length ≤ 1099511627776) :
    Calls Tryz.prog 21 #[v, v'] w fun e w' => e = .returned (.bool true) ∧ Below w.heap.size w w' := by
  have HH := Lib.hid h; have HH' := Lib.hid h'
  obtain ⟨ad, cap, rfl, hcap⟩ := h.slice
  obtain ⟨ad', cap', rfl, hcap'⟩ := h'.slice
  clear h h'
  go_enter Tryz.func21, Tryz.ntmps21
  go_wp2
  go_loopw [13] (fun c wr => ∃ k : Nat, k ≤ l.length ∧ c = .int .i64 (k : Nat) ∧ Below w.heap.size w wr) (fun c _ => l.length - (intOf c).toNat)
  case atStart => exact ⟨0, by omega, rfl, Below.refl _ _⟩
  case round =>
    obtain ⟨k, hk, rfl, hbr⟩ := hrel
    have g1 := HH.out.below hbr
    have g2 := HH'.out.below hbr
    by_cases hlt : k < l.length
    · obtain ⟨⟨x, y⟩, hx⟩ := at_some hlt
      obtain ⟨b1, o1, rfl, c1, c1'⟩ := g1.at hx
      obtain ⟨b2, o2, rfl, c2, c2'⟩ := g2.at hx
      have hklt : (k : Int) < l.length := by omega
      have hk0 : (0 : Int) ≤ (k : Int) := by omega
      have HBR := Lib.hid hbr
      clear hx g1 g2 hlt hbr
      go_wp2
      go_quiet (fail)
      go_wp2
      exact ⟨⟨k + 1, by omega, rfl, lbelow_drewN HBR.out _⟩, by simp [intOf]; omega⟩
    · obtain rfl : k = l.length := by omega
      go_wp2
      go_ret
      exact ⟨rfl, hbr⟩
set_option maxRecDepth 100000 in
set_option maxHeartbeats 1000000 in
theorem same_same (v v' : Value) (l : List Smp) (w : World) (h : RdS w v l) (h' : RdS w v' l) (hl : l.length ≤ 1099511627776) :
    Calls Tryz.prog 40 #[v, v'] w fun e w' => e = .returned (.bool true) ∧ Below w.heap.size w w' := by
  have HH := Lib.hid h; have HH' := Lib.hid h'
  obtain ⟨ad, cap, rfl, hcap⟩ := Rd.slice h
  obtain ⟨ad', cap', rfl, hcap'⟩ := Rd.slice h'
  clear h h'
  go_enter Tryz.func40, Tryz.ntmps40
  go_wp2
  go_loopw [5] (fun c wr => ∃ k : Nat, k ≤ l.length ∧ c = .int .i64 (k : Nat) ∧ Below w.heap.size w wr) (fun c _ => l.length - (intOf c).toNat)
  case atStart => exact ⟨0, by omega, rfl, Below.refl _ _⟩
  case round =>
    obtain ⟨k, hk, rfl, hbr⟩ := hrel
    have g1 := HH.out.below hbr
    have g2 := HH'.out.below hbr
    by_cases hlt : k < l.length
    · obtain ⟨⟨x, y⟩, hx⟩ := at_some hlt
      obtain ⟨b1, o1, rfl, c1, c1'⟩ := RdS.at g1 hx
      obtain ⟨b2, o2, rfl, c2, c2'⟩ := RdS.at g2 hx
      have hklt : (k : Int) < l.length := by omega
      have hk0 : (0 : Int) ≤ (k : Int) := by omega
      have HBR := Lib.hid hbr
      clear hx g1 g2 hlt hbr
      go_wp2
      go_quiet (fail)
      go_wp2
      exact ⟨⟨k + 1, by omega, rfl, lbelow_drewN HBR.out _⟩, by simp [intOf]; omega⟩
    · obtain rfl : k = l.length := by omega
      go_wp2
      go_ret
      exact ⟨rfl, hbr⟩
set_option maxRecDepth 100000 in
set_option maxHeartbeats 2000000 in
theorem equal_same (v v' : Value) (hs hs' : List Hdr) (b : List Ser) (w : World) (h : RdB w v hs b) (h' : RdB w v' hs' b) (hl : b.length ≤ 1099511627776) (hf : ∀ x ∈ b, Fit x) :
    Calls Tryz.prog 15 #[v, v'] w fun e w' => e = .returned (.bool true) ∧ Below w.heap.size w w' := by
  have HH := Lib.hid h; have HH' := Lib.hid h'
  have hlen : hs.length = b.length := h.1
  have hlen' : hs'.length = b.length := h'.1
  obtain ⟨ad, cap, rfl, hcap⟩ := Rd.slice h.2.1
  obtain ⟨ad', cap', rfl, hcap'⟩ := Rd.slice h'.2.1
  rw [hlen] at hcap HH ⊢
  rw [hlen'] at hcap' HH' ⊢
  clear h h'
  go_enter Tryz.func15, Tryz.ntmps15
  go_wp2
  go_loopw [5] (fun c wr => ∃ k : Nat, k ≤ b.length ∧ c = .int .i64 (k : Nat) ∧ Below w.heap.size w wr) (fun c _ => b.length - (intOf c).toNat)
  case atStart => exact ⟨0, by omega, rfl, Below.refl _ _⟩
  case round =>
    obtain ⟨k, hk, rfl, hbr⟩ := hrel
    have g1 := HH.out.below hbr
    have g2 := HH'.out.below hbr
    by_cases hlt : k < b.length
    · obtain ⟨p, hp⟩ := at_some hlt
      obtain ⟨x, hx⟩ := at_some (l := hs) (k := k) (by omega)
      obtain ⟨y, hy⟩ := at_some (l := hs') (k := k) (by omega)
      rw [← hlen] at g1
      rw [← hlen'] at g2
      obtain ⟨b1, o1, rfl, c1, c1'⟩ := RdH.at g1.2.1 hx
      obtain ⟨b2, o2, rfl, c2, c2'⟩ := RdH.at g2.2.1 hy
      have s1 := g1.2.2 _ _ _ hx hp
      have s2 := g2.2.2 _ _ _ hy hp
      have hfp := hf _ (List.mem_of_getElem? hp)
      have CM : Hid (∀ wq, Below wr.heap.size wr wq → Calls Tryz.prog 39 #[.slice x.la x.ln x.lc, .slice y.la y.ln y.lc] wq fun e w' => e = .returned (.int .i64 0) ∧ Below wr.heap.size wr w') := Lib.hid (fun wq hq => by
        have := refCompare_any x.lv y.lv p.1 p.1 wq (s1.below hq).1 (s2.below hq).1 hfp.1 hfp.1
        rw [(cmpL_zero p.1 p.1).2 rfl] at this
        exact this.mono fun e w' ⟨he, hb⟩ => ⟨he, hq.trans (hb.mono hq.size)⟩)
      have CS : Hid (∀ wq, Below wr.heap.size wr wq → Calls Tryz.prog 40 #[.slice x.sa x.sn x.sc, .slice y.sa y.sn y.sc] wq fun e w' => e = .returned (.bool true) ∧ Below wr.heap.size wr w') := Lib.hid (fun wq hq =>
        (same_same x.sv y.sv p.2 wq (s1.below hq).2 (s2.below hq).2 hfp.2).mono fun e w' ⟨he, hb⟩ => ⟨he, hq.trans (hb.mono hq.size)⟩)
      obtain ⟨xa, xn, xc, xsa, xsn, xsc⟩ := x
      obtain ⟨ya, yn, yc, ysa, ysn, ysc⟩ := y
      have CC : Hid (∀ wq, Below wr.heap.size wr wq → wq.cell? ⟨b1, o1 + k * 2, none⟩ = some (.slice xa xn xc) ∧ wq.cell? ⟨b1, o1 + k * 2 + 1, none⟩ = some (.slice xsa xsn xsc) ∧ wq.cell? ⟨b2, o2 + k * 2, none⟩ = some (.slice ya yn yc) ∧ wq.cell? ⟨b2, o2 + k * 2 + 1, none⟩ = some (.slice ysa ysn ysc) ∧ True) := Lib.hid (fun wq hq => by
        refine ⟨?_, ?_, ?_, ?_, trivial⟩
        · rw [hq.cell (World.block_lt_of_cell? wr _ c1)]; exact c1
        · rw [hq.cell (World.block_lt_of_cell? wr _ c1')]; exact c1'
        · rw [hq.cell (World.block_lt_of_cell? wr _ c2)]; exact c2
        · rw [hq.cell (World.block_lt_of_cell? wr _ c2')]; exact c2')
      have hklt : (k : Int) < b.length := by omega
      have hk0 : (0 : Int) ≤ (k : Int) := by omega
      have HBR := Lib.hid hbr
      clear hx hy hp g1 g2 hlt hbr s1 s2 c1 c1' c2 c2' hlen hlen' hfp
      go_wp2_with fail
      refine wp_region_class (fun x => Below wr.heap.size wr x) (by kernel_rfl) (by kernel_rfl) ((Below.refl _ _).drew) ?_
      repeat (
        refine wpQuiet_step (fun K hK => ?_)
        go_simp
        first
          | (refine hK _ ?_; clear hK K)
          | (refine ⟨_, fun _ _ => rfl, hK _ ?_⟩; clear hK K)
          | (apply Exists.intro
             refine ⟨fun wq hwq => ?_, hK _ ?_⟩
             (first
              | (go_at_call 39; exact CM.out _ hwq)
              | (go_at_call 40; exact CS.out _ hwq)
              | (have hc := CC.out _ hwq; go_simp; exact rfl)
              | (obtain ⟨hc0, hc1, hc2, hc3, hc4⟩ := CC.out _ hwq; go_simp; exact rfl))
             clear hK K))
      refine wpQuiet_nil ?_
      intro wq hwq
      have HBQ := Lib.hid (HBR.out.trans (hwq.mono HBR.out.size))
      clear hwq CC CM CS
      go_wp2
      exact ⟨⟨k + 1, by omega, rfl, HBQ.out⟩, by simp [intOf]; omega⟩
    · obtain rfl : k = b.length := by omega
      go_wp2
      go_ret
      exact ⟨rfl, hbr⟩
end Go.Proofs.YtnoodiibkchaaaaGreatDoor
namespace Go.Proofs.YtnoodiibkchaaaaGreatDoor
open Go.RowKit
attribute [local go_sem ↓] Go.wp_at_zero Go.wp_at_succ

def strsL (l : List Lab) : List ByteArray := l.flatMap fun x => [x.1, x.2]
theorem strsL_length (l : List Lab) : (strsL l).length = 2 * l.length := by
  induction l with
  | nil => rfl
  | cons x r ih => simp only [strsL, List.flatMap_cons, List.length_append, List.length_cons, List.length_nil] at ih ⊢; omega
theorem strsL_take (l : List Lab) {k : Nat} {x : Lab} (h : l[k]? = some x) : strsL (l.take (k + 1)) = strsL (l.take k) ++ [x.1, x.2] := by
  rw [List.take_add_one, h]
  simp [strsL]
theorem strC_append (a b : List ByteArray) : strC (a ++ b) = strC a ++ strC b := by simp [strC]
set_option maxRecDepth 100000 in
set_option maxHeartbeats 1000000 in
theorem strings_any (v : Value) (l : List Lab) (w : World) (h : RdL w v l) (hl : l.length ≤ 4398046511104) :
    Calls Tryz.prog 17 #[v] w fun e w' => ∃ v', e = .returned v' ∧ w'.ownsRow w.heap.size 9 1 v' (2 * l.length) (strC (strsL l)) ∧ Below w.heap.size w w' := by
  have HH := Lib.hid h
  obtain ⟨ad, cap, rfl, hcap⟩ := h.slice
  clear h
  go_enter Tryz.func17, Tryz.ntmps17
  go_wp2
  go_loopw [3, 4] (fun o i wr => ∃ k : Nat, k ≤ l.length ∧ i = .int .i64 (k : Nat) ∧ wr.ownsRow w.heap.size 9 1 o (2 * k) (strC (strsL (l.take k))) ∧ Below w.heap.size w wr) (fun _ i _ => l.length - (intOf i).toNat)
  case atStart => exact ⟨0, by omega, rfl, World.ownsRow_nil _ _ _ _, Below.refl _ _⟩
  case round =>
    obtain ⟨k, hk, rfl, hown, hbr⟩ := hrel
    by_cases hlt : k < l.length
    · obtain ⟨⟨x, y⟩, hx⟩ := at_some hlt
      obtain ⟨b1, o1, rfl, c1, c2⟩ := HH.out.at hx
      have CC : Hid (∀ q, Below w.heap.size w q → q.cell? ⟨b1, o1 + k * 2, none⟩ = some (.string x) ∧ q.cell? ⟨b1, o1 + k * 2 + 1, none⟩ = some (.string y)) := Lib.hid (fun q hq =>
        ⟨(hq.cell (World.block_lt_of_cell? w _ c1)).trans c1, (hq.cell (World.block_lt_of_cell? w _ c2)).trans c2⟩)
      have hklt : (k : Int) < l.length := by omega
      have hk0 : (0 : Int) ≤ (k : Int) := by omega
      have HBR := Lib.hid hbr; have HOWN := Lib.hid hown; have HX := Lib.hid (strsL_take l hx)
      have hsz := hbr.size
      have HALL : Hid (Below w.heap.size w (wr.drew.alloc (.cells #[.string x, .string y] 9))) := Lib.hid (hbr.drew.alloc hsz _)
      obtain ⟨ao, co, rfl⟩ := row_slice hown
      clear hx hlt hbr hown c1 c2
      go_wp2_with fail
      go_region_held3 (fun q => q.cell? ⟨b1, o1 + k * 2, none⟩ = some (.string x) ∧ q.cell? ⟨b1, o1 + k * 2 + 1, none⟩ = some (.string y)) (first | exact CC.out _ HBR.out.drew | exact CC.out _ HALL.out | exact CC.out _ hb1) (first | (refine sappE elS rfl _ _ rfl w.heap.size _ _ _ 2 _ [.string x, .string y] rfl rfl (HOWN.out.alloc _) (rd_new _ 1 2 [.string x, .string y] 9 2 rfl (by omega)) (by simp [Value.oneCell']) (by omega) (by simp; omega) ?_; intro v' w1 hown1 hg1 hn1; have hb1 : Below w.heap.size w w1 := HALL.out.trans (below_grown (HOWN.out.alloc _) hg1 (by simp; omega))))
      have HB1 := Lib.hid hb1
      have hr : w1.ownsRow w.heap.size 9 1 v' (2 * (k + 1)) (strC (strsL (l.take (k + 1)))) := by rw [HX.out, strC_append]; exact hown1
      have HR := Lib.hid hr
      obtain ⟨ao2, co2, rfl⟩ := row_slice hr
      clear hown1 hg1 hn1 hb1 hr
      go_wp2
      exact ⟨⟨k + 1, by omega, rfl, HR.out, HB1.out⟩, by simp [intOf]; omega⟩
    · obtain rfl : k = l.length := by omega
      have hr := hown
      rw [List.take_length] at hr
      have HR := Lib.hid hr
      obtain ⟨ao, co, rfl⟩ := row_slice hown
      clear hown hr
      go_wp2
      go_ret
      exact ⟨_, rfl, HR.out, hbr⟩
set_option maxRecDepth 100000 in
set_option maxHeartbeats 1000000 in
theorem large10_any (v : Value) (ss : List ByteArray) (w : World) (h : RdT w v ss) (hl : ss.length ≤ 8796093022208) :
    Calls Tryz.prog 41 #[v] w fun e w' => (e = .returned (.int .i64 0) ∨ e = .returned (.int .i64 1)) ∧ Below w.heap.size w w' := by
  have HH := Lib.hid h
  obtain ⟨ad, cap, rfl, hcap⟩ := Rd.slice h
  clear h
  go_enter Tryz.func41, Tryz.ntmps41
  go_wp2
  go_loopw [3, 8] (fun n i wr => ∃ (k : Nat) (m : Int), k ≤ ss.length ∧ n = .int .i64 m ∧ 0 ≤ m ∧ m ≤ 200000 ∧ i = .int .i64 (k : Nat) ∧ Below w.heap.size w wr) (fun _ i _ => ss.length - (intOf i).toNat)
  case atStart => exact ⟨0, 0, by omega, rfl, by omega, by omega, rfl, Below.refl _ _⟩
  case round =>
    obtain ⟨k, m, hk, rfl, hm0, hm1, rfl, hbr⟩ := hrel
    by_cases hlt : k < ss.length
    · obtain ⟨s, hx⟩ := at_some hlt
      have g1 := HH.out.below hbr
      obtain ⟨b1, o1, rfl, c1⟩ := RdT.at g1 hx
      have hklt : (k : Int) < ss.length := by omega
      have HBR := Lib.hid hbr
      have hs0 : (0 : Int) ≤ (s.size : Int) := by omega
      clear hx g1 hlt hbr
      go_wp2
      all_goals first
        | (go_ret; exact ⟨.inr rfl, HBR.out⟩)
        | (exact ⟨⟨k + 1, _, by omega, rfl, by omega, by omega, rfl, HBR.out⟩, by simp [intOf]; omega⟩)
    · obtain rfl : k = ss.length := by omega
      go_wp2
      go_ret
      exact ⟨.inl rfl, hbr⟩
theorem rdT_row {w : World} {base : Nat} {v : Value} {n : Nat} {ss : List ByteArray} (h : w.ownsRow base 9 1 v n (strC ss)) : RdT w v ss := by
  have h2 := rd_row h
  have : n = ss.length := by have := h.1; simp [strC] at this; omega
  subst this
  exact h2
theorem large11_any (v : Value) (l : List Lab) (w : World) (h : RdL w v l) (hl : l.length ≤ 4398046511104) :
    Calls Tryz.prog 16 #[v] w fun e w' => (e = .returned (.int .i64 0) ∨ e = .returned (.int .i64 1)) ∧ Below w.heap.size w w' := by
  have HS := Lib.hid (strings_any v l w h hl)
  obtain ⟨ad, cap, rfl, hcap⟩ := h.slice
  clear h
  by_cases h1 : 200 < l.length
  · have h1' : (200 : Int) < (l.length : Int) := by omega
    clear h1
    go_enter Tryz.func16, Tryz.ntmps16
    go_wp2
    go_ret
    exact ⟨.inr rfl, Below.refl _ _⟩
  · have h1' : (l.length : Int) ≤ 200 := by omega
    clear h1
    go_enter Tryz.func16, Tryz.ntmps16
    go_wp2_with (go_at_call 17; refine HS.out.mono ?_; rintro e w1 ⟨v', rfl, hr, hb1⟩)
    have hL := large10_any v' (strsL l) w1 (rdT_row hr) (by rw [strsL_length]; omega)
    have HL := Lib.hid hL
    obtain ⟨a1, c1, rfl⟩ := row_slice hr
    clear hr hL
    go_wp2_with (go_at_call 41; refine HL.out.mono ?_; rintro e w2 ⟨he, hb2⟩; rcases he with rfl | rfl)
    · go_ret
      exact ⟨.inl rfl, hb1.trans (hb2.mono hb1.size)⟩
    · go_ret
      exact ⟨.inr rfl, hb1.trans (hb2.mono hb1.size)⟩
end Go.Proofs.YtnoodiibkchaaaaGreatDoor
namespace Go.Proofs.YtnoodiibkchaaaaGreatDoor
open Go.RowKit
attribute [local go_sem ↓] Go.wp_at_zero Go.wp_at_succ

theorem labC_append (a b : List Lab) : labC (a ++ b) = labC a ++ labC b := by simp [labC, cells2]
theorem labC_one (l : List Lab) : ∀ u ∈ labC l, u.oneCell' = true := by
  intro u hu
  simp only [labC, cells2, List.mem_flatMap, List.mem_cons, List.not_mem_nil, or_false] at hu
  obtain ⟨x, _, rfl | rfl⟩ := hu <;> rfl
theorem labC_length (l : List Lab) : (labC l).length = l.length * 2 := cells2_length _ _ l
theorem rdL_row {w : World} {base : Nat} {v : Value} {n : Nat} {l : List Lab} (h : w.ownsRow base 46 2 v n (labC l)) : RdL w v l := by
  have h2 := rd_row h
  have : n = l.length := by have := h.1; rw [labC_length] at this; omega
  subst this
  exact h2
def Small (b : List Ser) : Prop := b.length ≤ 300 ∧ ∀ x ∈ b, x.1.length ≤ 200 ∧ x.2.length ≤ 3000
def SmallTo (b : List Ser) (k : Nat) : Prop := (k = 0 ∨ b.length ≤ 300) ∧ ∀ (j : Nat) (x : Ser), j < k → b[j]? = some x → x.1.length ≤ 200 ∧ x.2.length ≤ 3000
theorem SmallTo.next {b : List Ser} {k : Nat} {p : Ser} (h : SmallTo b k) (hp : b[k]? = some p) (h1 : b.length ≤ 300) (h2 : p.1.length ≤ 200) (h3 : p.2.length ≤ 3000) : SmallTo b (k + 1) :=
  ⟨.inr h1, fun j x hj hx => by
    by_cases e : j = k
    · subst e; rw [hp] at hx; obtain rfl := Option.some.inj hx; exact ⟨h2, h3⟩
    · exact h.2 j x (by omega) hx⟩
theorem SmallTo.all {b : List Ser} (h : SmallTo b b.length) : Small b := by
  refine ⟨by rcases h.1 with h | h <;> omega, fun x hx => ?_⟩
  obtain ⟨j, hj, e⟩ := List.getElem_of_mem hx
  exact h.2 j x hj (by rw [List.getElem?_eq_getElem hj, e])
set_option maxRecDepth 100000 in
set_option maxHeartbeats 2000000 in
theorem large12_any (v : Value) (hs : List Hdr) (b : List Ser) (w : World) (h : RdB w v hs b) (hl : b.length ≤ 4398046511104) :
    Calls Tryz.prog 26 #[v] w fun e w' => (e = .returned (.int .i64 1) ∨ e = .returned (.int .i64 0) ∧ Small b) ∧ Below w.heap.size w w' := by
  have HH := Lib.hid h
  have hlen : hs.length = b.length := h.1
  obtain ⟨ad, cap, rfl, hcap⟩ := Rd.slice h.2.1
  rw [hlen] at hcap HH ⊢
  clear h
  go_enter Tryz.func26, Tryz.ntmps26
  go_wp2
  go_loopw [3, 4, 9] (fun n l i wr => ∃ (k : Nat) (m : Int) (acc : List Lab), k ≤ b.length ∧ n = .int .i64 m ∧ 0 ≤ m ∧ m ≤ 3000 ∧ i = .int .i64 (k : Nat) ∧ Hid (wr.ownsRow w.heap.size 46 2 l acc.length (labC acc)) ∧ acc.length ≤ 200 * k ∧ Hid (SmallTo b k) ∧ Below w.heap.size w wr) (fun _ _ i _ => b.length - (intOf i).toNat)
  case atStart => exact ⟨0, 0, [], by omega, rfl, by omega, by omega, rfl, Lib.hid (World.ownsRow_nil _ _ _ _), by simp, Lib.hid ⟨.inl rfl, fun j x hj => by omega⟩, Below.refl _ _⟩
  case round =>
    obtain ⟨k, m, acc, hk, rfl, hm0, hm1, rfl, HOWN, hacc, HS, hbr⟩ := hrel
    obtain ⟨al, cl, rfl⟩ := row_slice HOWN.out
    by_cases hlt : k < b.length
    · obtain ⟨p, hp⟩ := at_some hlt
      obtain ⟨x, hx⟩ := at_some (l := hs) (k := k) (by omega)
      have g1 := HH.out.below hbr
      rw [← hlen] at g1
      obtain ⟨b1, o1, rfl, c1, c1'⟩ := RdH.at g1.2.1 hx
      have s1 := g1.2.2 _ _ _ hx hp
      obtain ⟨e1, e2⟩ := s1.lens
      obtain ⟨xa, xn, xc, xsa, xsn, xsc⟩ := x
      simp only at e1 e2 c1 c1'
      subst e1
      subst e2
      have hkl : (k : Int) < (b.length : Int) := by omega
      have hs0 : (0 : Int) ≤ (p.2.length : Int) := by omega
      have HP := Lib.hid hp; have HBR := Lib.hid hbr
      have hsz := hbr.size
      have hba : Below wr.heap.size wr (wr.alloc (.cells #[.slice xa p.1.length xc, .slice xsa p.2.length xsc] 53)) := (Below.refl _ _).alloc (Nat.le_refl _) _
      have HBA : Hid (Below w.heap.size w (wr.alloc (.cells #[.slice xa p.1.length xc, .slice xsa p.2.length xsc] 53))) := Lib.hid (hbr.trans (hba.mono hsz))
      have HRL : Hid (RdL (wr.alloc (.cells #[.slice xa p.1.length xc, .slice xsa p.2.length xsc] 53)) (.slice xa p.1.length xc) p.1) := Lib.hid (s1.1.below hba)
      have HOA : Hid ((wr.alloc (.cells #[.slice xa p.1.length xc, .slice xsa p.2.length xsc] 53)).ownsRow w.heap.size 46 2 (.slice al acc.length cl) acc.length (labC acc)) := Lib.hid (HOWN.out.alloc _)
      have hszA : w.heap.size ≤ (wr.alloc (.cells #[.slice xa p.1.length xc, .slice xsa p.2.length xsc] 53)).heap.size := HBA.out.size
      clear hp hx g1 hlt hbr s1 hba hlen
      by_cases hb300 : b.length ≤ 300
      · by_cases hp200 : p.1.length ≤ 200
        · have i1 : (b.length : Int) ≤ 300 := by omega
          have i2 : (p.1.length : Int) ≤ 200 := by omega
          have hbnd : acc.length + p.1.length ≤ 4398046511104 := by omega
          have hacc2 : (acc ++ p.1).length ≤ 200 * (k + 1) := by rw [List.length_append]; omega
          go_wp2_with (at_builtin; refine appE elL rfl _ _ rfl w.heap.size _ _ acc.length p.1.length (labC acc) (labC p.1) rfl rfl HOA.out HRL.out (labC_one _) hbnd hszA ?_; intro v' w1 hown1 hg1 hn1; obtain ⟨al2, cl2, rfl⟩ := row_slice hown1)
          all_goals first
            | (go_ret; exact ⟨.inl rfl, HBA.out⟩)
            | (refine ⟨⟨k + 1, _, acc ++ p.1, by omega, rfl, by omega, by omega, rfl, Lib.hid (by rw [List.length_append, labC_append]; exact hown1), hacc2, Lib.hid (HS.out.next HP.out hb300 hp200 (by omega)), HBA.out.trans (below_grown HOA.out hg1 hszA)⟩, by simp [intOf]; omega⟩)
        · have i2 : (200 : Int) < (p.1.length : Int) := by omega
          clear hp200
          go_wp2
          all_goals (go_ret; exact ⟨.inl rfl, HBA.out⟩)
      · have i1 : (300 : Int) < (b.length : Int) := by omega
        clear hb300
        go_wp2
        all_goals (go_ret; exact ⟨.inl rfl, HBA.out⟩)
    · obtain rfl : k = b.length := by omega
      have hal : acc.length ≤ 60000 := by rcases HS.out.1 with h | h <;> omega
      have HL := Lib.hid (large11_any (.slice al acc.length cl) acc wr (rdL_row HOWN.out) (by omega))
      go_wp2_with (go_at_call 16; refine HL.out.mono ?_; rintro e w2 ⟨he, hb2⟩; rcases he with rfl | rfl)
      · go_ret
        exact ⟨.inr ⟨rfl, HS.out.all⟩, hbr.trans (hb2.mono hbr.size)⟩
      · go_ret
        exact ⟨.inl rfl, hbr.trans (hb2.mono hbr.size)⟩
/-- the strings are not long -/
def Short (l : List Lab) : Prop := ∀ s ∈ strsL l, s.size ≤ 20000
set_option maxRecDepth 100000 in
set_option maxHeartbeats 2000000 in
theorem large23_any (v : Value) (hs : List Hdr) (b : List Ser) (w : World) (h : RdB w v hs b) (hl : b.length ≤ 4398046511104) (hf : ∀ x ∈ b, x.1.length ≤ 4398046511104) :
    Calls Tryz.prog 9 #[v] w fun e w' => (e = .returned (.int .i64 1) ∨ e = .returned (.int .i64 0) ∧ Small b ∧ ∀ x ∈ b, Short x.1) ∧ Below w.heap.size w w' := by
  have HH := Lib.hid h
  have HL12 := Lib.hid (fun wq hq => large12_any v hs b wq (h.below hq) hl)
  have hlen : hs.length = b.length := h.1
  obtain ⟨ad, cap, rfl, hcap⟩ := Rd.slice h.2.1
  rw [hlen] at hcap HH HL12 ⊢
  have HF := Lib.hid hf
  clear h hf
  go_enter Tryz.func9, Tryz.ntmps9
  go_wp2
  go_loopw [3, 10] (fun n i wr => ∃ (k : Nat) (m : Int), k ≤ b.length ∧ n = .int .i64 m ∧ 0 ≤ m ∧ m ≤ 20000 ∧ i = .int .i64 (k : Nat) ∧ Hid (∀ (j : Nat) (x : Ser), j < k → b[j]? = some x → Short x.1) ∧ Below w.heap.size w wr) (fun _ i _ => b.length - (intOf i).toNat)
  case atStart => exact ⟨0, 0, by omega, rfl, by omega, by omega, rfl, Lib.hid (fun j x hj => by omega), Below.refl _ _⟩
  case round =>
    obtain ⟨k, m, hk, rfl, hm0, hm1, rfl, HS, hbr⟩ := hrel
    by_cases hlt : k < b.length
    · obtain ⟨p, hp⟩ := at_some hlt
      obtain ⟨x, hx⟩ := at_some (l := hs) (k := k) (by omega)
      have g1 := HH.out.below hbr
      rw [← hlen] at g1
      obtain ⟨b1, o1, rfl, c1, c1'⟩ := RdH.at g1.2.1 hx
      have s1 := g1.2.2 _ _ _ hx hp
      obtain ⟨e1, e2⟩ := s1.lens
      obtain ⟨xa, xn, xc, xsa, xsn, xsc⟩ := x
      simp only at e1 e2 c1 c1'
      subst e1
      subst e2
      have hkl : (k : Int) < (b.length : Int) := by omega
      have hs0 : (0 : Int) ≤ (p.2.length : Int) := by omega
      have HP := Lib.hid hp; have HBR := Lib.hid hbr
      have hsz := hbr.size
      have hlb := HF.out p (List.mem_of_getElem? hp)
      obtain ⟨W1, hW1⟩ : ∃ W1, W1 = wr.alloc (.cells #[.slice xa p.1.length xc, .slice xsa p.2.length xsc] 53) := ⟨_, rfl⟩
      have hba : Below wr.heap.size wr W1 := by rw [hW1]; exact (Below.refl _ _).alloc (Nat.le_refl _) _
      have HBA : Hid (Below w.heap.size w W1) := Lib.hid (hbr.trans (hba.mono hsz))
      have HST := Lib.hid (strings_any (.slice xa p.1.length xc) p.1 W1 (s1.1.below hba) hlb)
      clear hp hx g1 hlt hbr s1 hba hlen
      go_wp2_with (go_at_call 17; rw [← hW1]; refine HST.out.mono ?_; rintro e w1 ⟨vv, rfl, hr, hb1⟩; obtain ⟨ao, co, rfl⟩ := row_slice hr)
      all_goals
        have HB1 := Lib.hid (HBA.out.trans (hb1.mono HBA.out.size))
        have HR : Hid (RdT w1 (.slice ao (strsL p.1).length co) (strsL p.1)) := Lib.hid (by have := rdT_row hr; rwa [← strsL_length] at this)
        have hsl : (2 * p.1.length : Nat) = (strsL p.1).length := (strsL_length p.1).symm
        have hsl2 : (strsL p.1).length ≤ 8796093022208 := by omega
        rw [hsl]
        clear hr hb1
        obtain ⟨M0, hM0⟩ : ∃ M0 : Int, M0 = m + 40 * (min (p.2.length : Int) 20000) := ⟨_, rfl⟩
        have hM0b : 0 ≤ M0 ∧ M0 ≤ 820000 := by omega
        go_loopw [3, 25] (fun n i wr => ∃ (q : Nat) (z : Int), q ≤ (strsL p.1).length ∧ n = .int .i64 z ∧ 0 ≤ z ∧ z ≤ 820000 + 80000 * (q : Int) ∧ i = .int .i64 (q : Nat) ∧ Hid (∀ (j : Nat) (s : ByteArray), j < q → (strsL p.1)[j]? = some s → 4 * min (s.size : Int) 20000 ≤ z) ∧ Below w1.heap.size w1 wr) (fun _ i _ => (strsL p.1).length - (intOf i).toNat)
        case atStart => exact ⟨0, _, by omega, rfl, by omega, by omega, rfl, Lib.hid (fun j s hj => by omega), Below.refl _ _⟩
        case round =>
          obtain ⟨q, z, hq, rfl, hz0, hz1, rfl, HZ, hbq⟩ := hrel
          by_cases hql : q < (strsL p.1).length
          · obtain ⟨s, hx⟩ := at_some hql
            have g1 := HR.out.below hbq
            obtain ⟨b2, o2, rfl, c2⟩ := RdT.at g1 hx
            have hqi : (q : Int) < ((strsL p.1).length : Int) := by omega
            have hz9 : z ≤ 9000000000000000000 := by omega
            have hss : (0 : Int) ≤ (s.size : Int) := by omega
            have HX := Lib.hid hx
            have NX : Hid (∀ z' : Int, z ≤ z' → 4 * min (s.size : Int) 20000 ≤ z' → ∀ (j : Nat) (s : ByteArray), j < q + 1 → (strsL p.1)[j]? = some s → 4 * min (s.size : Int) 20000 ≤ z') := Lib.hid (fun z' h1 h2 j s' hj hs' => by
              by_cases e : j = q
              · subst e; rw [HX.out] at hs'; obtain rfl := Option.some.inj hs'; exact h2
              · have := HZ.out j s' (by omega) hs'; omega)
            clear hx g1 hql
            go_wp2
            all_goals
              exact ⟨⟨q + 1, _, by omega, rfl, by omega, by omega, rfl, Lib.hid (NX.out _ (by omega) (by omega)), hbq⟩, by simp [intOf]; omega⟩
          · obtain rfl : q = (strsL p.1).length := by omega
            have HBQ := Lib.hid (HB1.out.trans (hbq.mono HB1.out.size))
            clear hbq
            by_cases hzb : 20000 < z
            · go_wp2
              go_ret
              exact ⟨.inl rfl, HBQ.out⟩
            · have hzb' : z ≤ 20000 := by omega
              have HSH : Hid (Short p.1) := Lib.hid (fun s hs => by
                obtain ⟨j, hj, e⟩ := List.getElem_of_mem hs
                have := HZ.out j s hj (by rw [List.getElem?_eq_getElem hj, e])
                omega)
              clear hzb
              go_wp2
              exact ⟨⟨k + 1, z, by omega, rfl, hz0, hzb', rfl, Lib.hid (fun j x hj hx => by
                by_cases e : j = k
                · subst e; rw [HP.out] at hx; obtain rfl := Option.some.inj hx; exact HSH.out
                · exact HS.out j x (by omega) hx), HBQ.out⟩, by simp [intOf]; omega⟩
    · obtain rfl : k = b.length := by omega
      have HALL : Hid (∀ x ∈ b, Short x.1) := Lib.hid (fun x hx => by
        obtain ⟨j, hj, e⟩ := List.getElem_of_mem hx
        exact HS.out j x hj (by rw [List.getElem?_eq_getElem hj, e]))
      go_wp2_with (go_at_call 26; refine (HL12.out _ hbr).mono ?_; rintro e w2 ⟨he, hb2⟩; rcases he with rfl | ⟨rfl, hsm⟩)
      · go_ret
        exact ⟨.inl rfl, hbr.trans (hb2.mono hbr.size)⟩
      · go_ret
        exact ⟨.inr ⟨rfl, hsm, HALL.out⟩, hbr.trans (hb2.mono hbr.size)⟩
end Go.Proofs.YtnoodiibkchaaaaGreatDoor
