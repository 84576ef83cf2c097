/-
  Lemmas on which LTopChunks rests, packed out of the texts WDictA WDictB WRunE WDictC WXorF; each for all arguments under the hypotheses it names.
-/
import Derived.Test.YtfpcgcbehdogjaaGreatDoorT12
import Derived.Sort.OwnSorted
import Derived.OwnWalk
import Derived.Test.YtfpcgcbehdogjaaGreatDoorT13
import Derived.Test.YtfpcgcbehdogjaaGreatDoorT11
namespace Go.Proofs.YtfpcgcbehdogjaaGreatDoor
section
set_option maxHeartbeats 4000000
set_option maxRecDepth 100000
open Go.RowKit Go.Maps
theorem lawU : Keyed Tryz.prog 23 := int_keyed Tryz.underlying23
theorem keyU (x : Nat) (h : x ≤ 18446744073709551615) : keyOf Tryz.prog 23 (.int .u64 (x : Int)) = some (.int .u64 (x : Int)) := keyOf_int_mk Tryz.underlying23 (by
 have h0 : (0 : Int) ≤ (x : Int) := by omega
 have h1 : (x : Int) ≤ 18446744073709551615 := by omega
 exact Bool.and_eq_true_iff.2 ⟨decide_eq_true h0, decide_eq_true h1⟩)
def SetOf (D : DataW Nat) (l : List Nat) : Prop := (∀ x : Nat, has D (.int .u64 (x : Int)) = true ↔ x ∈ l)
theorem SetOf.nil : SetOf (.map []) [] := fun x => by simp [has]
theorem SetOf.put {D : DataW Nat} {l : List Nat} (h : SetOf D l) (hD : IsMap D) (x : Nat) (d : DataW Nat) : SetOf (D.put (.int .u64 (x : Int)) d) (l ++ [x]) := fun y => by
 by_cases hy : y = x
 · subst hy; simp [has_put_same hD (show WideAt.IsKeyLit (.int .u64 (y : Int)) from trivial)]
 · have hne : (Lit.int .u64 (y : Int)) ≠ .int .u64 (x : Int) := by simp; omega
   rw [has_put_other hne, h y]; simp [hy]
theorem arr_of_row {w : World} {base g cap : Nat} {e : TypeId} {ss : List Nat} (h : w.ownsRow base e 1 (.slice (some ⟨g, 0, none⟩) ss.length cap) ss.length (u64s ss)) : Arr w w g 0 ss.toArray := by
 rcases h.2 with ⟨hn, _⟩ | ⟨g', cap', cur, hv, hbase, hb, h1, h2, h3, h4⟩
 · cases hn
 · cases hv
   have hl : cur.toList.take ss.length = u64s ss := by simpa using h4
   refine ⟨rfl, rfl, rfl, Nat.le_refl _, fun _ _ _ => rfl, fun j hj => ?_, fun j hj => by simp [World.frozen?, hb]⟩
   have hj' : j < ss.length := by simpa using hj
   have h5 : (cur.toList.take ss.length)[j]? = (u64s ss)[j]? := by rw [hl]
   rw [List.getElem?_take_of_lt hj'] at h5
   simp only [World.cell?, hb, Nat.zero_add, Option.isSome_none, Bool.false_eq_true, if_false]
   rw [← Array.getElem?_toList, h5]
   simp [u64s, hj']
theorem Arr.holds {w0 w : World} {blk cap : Nat} {d : Array Nat} (h : Arr w0 w blk 0 d) (hc : d.size ≤ cap) : Holds w (.slice (some ⟨blk, 0, none⟩) d.size cap) (u64s d.toList) := by
 refine ⟨some ⟨blk, 0, none⟩, cap, by simp [u64s], by simpa [u64s] using hc, .inr ⟨blk, 0, rfl, fun j u hj => ?_⟩⟩
 have hj' : j < d.size := by
  have := (List.getElem?_eq_some_iff.1 hj).1
  simpa [u64s] using this
 have h1 := h.cell j hj'
 rw [h1]
 simp only [u64s, List.getElem?_map, Array.getElem?_toList, Array.getElem?_eq_getElem hj', Option.map_some, Option.some.injEq] at hj
 rw [← hj, getElem!_pos d j hj']
theorem Arr.keeps {w0 w : World} {blk : Nat} {d : Array Nat} (h : Arr w0 w blk 0 d) : Keeps (fun k => k = blk) w0 w := ⟨h.os, h.tape, h.output, h.size, h.block⟩
theorem dict_any (v : Value) (l : List Nat) (w : World) (h : Holds w v (u64s l)) (hl : l.length ≤ 1000000000) (hX : ∀ x ∈ l, x ≤ 18446744073709551615) :
 Calls Tryz.prog 105 #[v] w fun e w' => ∃ g cap, e = .returned (.slice (some ⟨g, 0, none⟩) (dictO l).length cap) ∧ w.heap.size ≤ g ∧ Holds w' (.slice (some ⟨g, 0, none⟩) (dictO l).length cap) (u64s (dictO l)) ∧ Keeps (fun _ => False) w w' := by
 obtain ⟨i0, hi, hz0, hz1, hz2⟩ := info_parts infoU64
 obtain ⟨ad, cp, hv, _, _⟩ := id h
 rw [qbz] at hv
 subst hv
 have HH := Hj h; have HX := Hj hX
 clear h hX
 have HK0 : Hid (Keeps (fun _ => False) w w) := Hj (Keeps.refl _ _)
 have hm0 := World.ownsMap_made w Tryz.prog 23 (plainElem (H := Nat) Tryz.prog 4)
 have HM0 := Hj hm0
 clear hm0
 have hmk : (Instr.makeMap 206 none).run Tryz.prog w = .ok (.map (some w.heap.size)) (w.alloc (.map #[] 0)) := run_makeMap 206 w
 go_enter Tryz.func105, Tryz.ntmps105
 go_wp2
 clear hmk
 go_loopw [11] (fun c wr => ∃ (j : Nat) (D : DataW Nat), c = .int .i64 (j : Int) ∧ j ≤ l.length ∧ Hid (wr.ownsMap Tryz.prog 23 (plainElem (H := Nat) Tryz.prog 4) w.heap.size j D) ∧ Hid (SetOf D (l.take j)) ∧ Hid (Keeps (fun _ => False) w wr)) (fun c _ => l.length - (intOf c).toNat)
 case atStart => exact ⟨0, .map [], rfl, Nat.zero_le _, HM0, Hj SetOf.nil, Hj (HK0.out.alloc _)⟩
 case round =>
  clear HM0 HK0
  obtain ⟨j, D, rfl, hjl, HM, HS, HK⟩ := hrel
  by_cases hlt : j < l.length
  · have hlti : (j : Int) < (l.length : Int) := by omega
    obtain ⟨x, hx⟩ : ∃ x, l[j]? = some x := ⟨l[j], by simp [hlt]⟩
    have hx64 := HX.out x (List.mem_of_getElem? hx)
    obtain ⟨b, off, rfl, hcell⟩ := qdc (HH.out.keeps HK.out (fun _ _ h => h)) hx
    have HT : Hid (l.take (j + 1) = l.take j ++ [x]) := Hj (by rw [List.take_add_one, hx]; rfl)
    have HKY := Hj (keyU x hx64)
    clear hx hx64
    go_wp2_with (first
     | (refine wpList_mapUpdate_own _ rfl _ _ _ 206 rfl 23 4 lawU Tryz.underlying206 (plainElem (H := Nat) Tryz.prog 4) w.heap.size j D rfl HM.out (by unfold maxLen; omega) _ _ _ rfl rfl HKY.out _ _ (plainElem_bool Tryz.underlying4 true) ?_; intro w1 hm1 hg1)
     | go_in)
    exact ⟨⟨j + 1, _, by simp, by omega, Hj hm1, Hj (by rw [HT.out]; exact HS.out.put HM.out.isMap x _), Hj (HK.out.grown hg1 (fun k hk e => by simp only [Option.some.injEq] at e; omega))⟩, by simp [intOf]; omega⟩
  · obtain rfl : j = l.length := by omega
    rw [List.take_length] at HS
    have hsz := HM.out.size_le
    obtain ⟨N, hN⟩ : ∃ N, N = Maps.size D := ⟨_, rfl⟩
    rw [← hN] at hsz
    have HN := Hj hN
    have HLN : Hid (∀ ty, (Builtin.len_ #[206] ty #[.map (some w.heap.size)]).run Tryz.prog wr = .ok (.int .i64 ((N : Nat) : Int)) wr) := Hj (fun ty => by rw [hN]; exact HM.out.len Tryz.underlying206 ty)
    clear hN
    go_wp2_with (first
     | (at_len; refine wpList_len_own _ rfl _ 206 rfl 23 4 Tryz.underlying206 _ w.heap.size l.length D rfl HM.out ?_; rw [← HN.out])
     | (at_make; refine wpList_make_own _ rfl _ _ 55 rfl (w.heap.size + 1) 23 i0 (.int .u64 0) 1 Tryz.underlying55 hi hz0 hz1 _ _ _ N rfl rfl rfl (by rw [hz2]; omega) (by unfold maxLen; omega) HM.out.lt ?_; intro w1 hrow1 hg1)
     | (at_range; refine wpList_range_own _ rfl _ 206 rfl 23 4 lawU Tryz.underlying206 _ w.heap.size l.length D rfl (HM.out.kept hg1 (by simp)) ?_; intro w0 hrg0 hg0 hs0)
     | go_in)
    go_frame
    have HRG0 := Hj hrg0; have HROW0 := Hj (hrow1.kept hg0 (Or.inr (by simp [Value.ownBlock])))
    have HK1 := Hj ((HK.out.grown hg1 (fun k _ e => by cases e)).grown hg0 (fun k _ e => by cases e))
    have hw1 : w.heap.size ≤ w1.heap.size := Nat.le_trans HK.out.size hg1.size
    have hbw1 : w.heap.size < w1.heap.size := Nat.lt_of_lt_of_le HM.out.lt hg1.size
    have HW1 := Hj hw1; have HBW := Hj hbw1
    have HSZ := Hj hsz
    clear hrg0 hrow1 hg1 hg0 hs0 hw1 hbw1 hsz HLN
    go_loopw [6] (fun v wr => ∃ (left : Lit → Bool) (cnt : Nat) (ss : List Nat), Hid (wr.ranges Tryz.prog 23 (plainElem (H := Nat) Tryz.prog 4) w.heap.size w1.heap.size l.length D left cnt) ∧ ss.length + cnt ≤ N ∧
     Hid (wr.ownsRow (w.heap.size + 1) 23 1 v ss.length (u64s ss)) ∧ v ≠ .slice none 0 0 ∧ Hid (CollN D left ss) ∧ Hid (Keeps (fun _ => False) w wr)) (fun _ wr => wr.rangeLeft w.heap.size w1.heap.size)
    case atStart => exact ⟨_, _, [], HRG0, by simp [HN.out], HROW0, by simp, Hj (CollN.start D), HK1⟩
    case round =>
     obtain ⟨left, cnt, ss, HRG, hcs, HROW, hnn, HC, HKr⟩ := hrel
     go_wp2_with (first
      | (at_next; refine wpList_next_ranges _ rfl _ rfl 23 lawU (plainElem (H := Nat) Tryz.prog 4) (Value.int .u64) (fun v : Value => v) (fun key kl hk => by obtain ⟨x, hx, _⟩ := Maps.keyOf_int_inv Tryz.underlying23 hk; exact ⟨x, hx⟩) (fun v y hv => ⟨v, rfl⟩) w.heap.size w1.heap.size l.length _ _ _ rfl HRG.out ?_ ?_)
      | go_in)
     · intro hc0 hl0
       have hmem : ∀ z, z ∈ ss ↔ z ∈ l := fun z => by rw [HC.out.done hl0 z, HS.out z]
       have hnd := HC.out.1
       rcases hrow' : HROW.out.2 with ⟨hnil, _⟩ | ⟨g, cap, cur, hv, hbase, hb, h1, h2, h3, h4⟩
       · exact absurd hnil hnn
       subst hv
       have hA := arr_of_row HROW.out
       have HQ := Hj (uSort_any wr wr g 0 cap ss.length ss.toArray hA (by simp) (by have := HSZ.out; omega))
       have HM2 := Hj hmem; have HND := Hj hnd; have HBS := Hj hbase; have HCAP := Hj h1
       clear hmem hnd hrow' hbase hb h1 h2 h3 h4 hA hl0 hnn
       go_wp2_with (go_at_call 156; refine HQ.out.mono ?_; rintro e w3 ⟨rfl, d', hp, hs, hA3⟩)
       go_ret
       have hd := dictO_of hp hs HND.out HM2.out
       have hsz : d'.size = ss.length := by rw [hp.1]; simp
       have hlen : ss.length = (dictO l).length := by rw [← hd]; simp [hsz]
       have hh := hA3.holds (cap := cap) (by rw [hsz]; exact HCAP.out)
       rw [hd, hsz, hlen] at hh
       exact ⟨g, cap, by rw [← hlen]; rfl, Nat.le_of_succ_le HBS.out, hh, HKr.out.trans hA3.keeps (fun k hk e => by have := HBS.out; omega)⟩
     · intro x c kl ya yb w2 cnt2 hkey hlk hv hat hrg2 hlt hg2 hs2 hen
       obtain ⟨x', ex, rfl, hwf⟩ := Maps.keyOf_int_inv Tryz.underlying23 hkey
       obtain rfl : x = x' := by simpa using ex
       obtain ⟨z, rfl⟩ : ∃ z : Nat, x = (z : Int) := ⟨x.toNat, by
        have h0 := of_decide_eq_true (Bool.and_eq_true_iff.1 hwf).1
        have h1 : (0 : Int) ≤ x := h0
        omega⟩
       have HROW2 := Hj (HROW.out.kept hg2 (Or.inr (row_ne_iter HROW.out HRG.out).symm))
       have HK2 := Hj (HKr.out.grown hg2 (fun k hk e => by simp only [Option.some.injEq] at e; have := HBW.out; omega))
       have HRG2 := Hj hrg2; have HC2 := Hj (HC.out.step hlk hat); have HLT := Hj hlt; have HS2 := Hj hs2
       clear hs2 hrg2 hg2 hat hlk hv hkey hwf hlt ex
       go_wp2_with (first
        | (at_builtin; refine wpList_append_own _ rfl _ _ 55 rfl (w.heap.size + 1) 23 i0 (.int .u64 0) 1 8 Tryz.underlying55 hi hz0 hz1 hz2 rfl (by decide) _ _ _ rfl (HROW2.out.alloc _) ⟨w2.heap.size, 0, none⟩ 1 1 [.int .u64 (z : Int)] rfl rfl (cell_one_new _ _ _) (by simp [Value.oneCell']) (by have := HSZ.out; unfold maxLen; omega) (by have := HSZ.out; omega) (by have := HK2.out.size; simp; omega) ?_; intro v' w3 hown' hg3 hnil3)
        | go_in)
       have hrg3 := (HRG2.out.alloc _).kept hg3 (row_ne_low HROW2.out (show w.heap.size < w.heap.size + 1 by omega)) (row_ne_iter HROW2.out HRG2.out)
       go_roundw
       case rel =>
        refine ⟨_, cnt2, ss ++ [z], Hj hrg3, by have := HLT.out; simp; omega, Hj (by simpa [u64s] using hown'), fun hv' => by have := (hnil3.1 hv').2; omega, HC2, ?_⟩
        exact Hj ((HK2.out.alloc _).grown hg3 (fun k hk e => by have := (HROW2.out.lt k e).1; omega))
       case measure => rw [hrg3.left_eq, HRG.out.left_eq]; exact HLT.out
end
section
set_option maxHeartbeats 1000000
set_option maxRecDepth 100000
open Go.RowKit
def widthO (k : Nat) : Nat := if k < 1 then 0 else Lib.bitLen (k - 1)
theorem width_any (k : Nat) (w : World) (hk : k ≤ 1099511627776) : Calls Tryz.prog 106 #[.int .i64 (k : Int)] w fun e w' => e = .returned (.int .i64 ((widthO k : Nat) : Int)) ∧ w' = w := by
 by_cases h : k < 1
 · have hz : (k : Int) < 1 := by omega
   have HE : Hid (widthO k = 0) := Hj (by unfold widthO; rw [if_pos h])
   clear h
   go_enter Tryz.func106, Tryz.ntmps106
   go_wp2
   go_ret
   exact ⟨by rw [HE.out]; rfl, rfl⟩
 · have hz : ¬ (k : Int) < 1 := by omega
   obtain ⟨q, hq⟩ : ∃ q, k = q + 1 := ⟨k - 1, by omega⟩
   have eq1 : (k : Int) - 1 = (q : Int) := by omega
   have HE : Hid (widthO k = Lib.bitLen q) := Hj (by unfold widthO; rw [if_neg h, hq]; rfl)
   have HL : Hid (∀ w, Calls Tryz.prog 157 #[.int .u64 (q : Int)] w fun e w' => e = .returned (.int .i64 (Lib.bitLen q)) ∧ w' = w) := Hj (fun w => by
    have h := len_any (q : Int) w (by omega) (by omega)
    rwa [Int.toNat_natCast] at h)
   have hq0 : (q : Int) ≤ 1099511627776 := by omega
   clear hq h
   generalize Lib.bitLen q = m at *
   go_enter Tryz.func106, Tryz.ntmps106
   go_wp2_with (go_at_call 157; refine (HL.out _).mono ?_; rintro e w' ⟨rfl, rfl⟩)
   go_ret
   exact ⟨by rw [HE.out]; rfl, rfl⟩
theorem ubs_any (ad : Option Addr) (cap : Nat) (d : List Nat) (x k : Nat) (w : World) (h : Holds w (.slice ad d.length cap) (u64s d)) (hs : d.Pairwise (· < ·)) (hk : d[k]? = some x) (hl : d.length ≤ 1099511627776) :
 Calls Tryz.prog 107 #[.slice ad d.length cap, .int .u64 (x : Int)] w fun e w' => e = .returned (.tuple #[.int .i64 (k : Int), .bool true]) ∧ ∃ n, w' = w.drewN n := by
 have HH := Hj h; have HS := Hj hs; have HK := Hj hk
 have hkl : k < d.length := (List.getElem?_eq_some_iff.1 hk).1
 have HW : Hid (∃ n, w = w.drewN n) := Hj ⟨0, rfl⟩
 clear h hs hk
 go_enter Tryz.func107, Tryz.ntmps107
 go_wp2
 go_loopw [7, 8] (fun ci cj wr => ∃ (i j : Nat), ci = .int .i64 (i : Int) ∧ cj = .int .i64 (j : Int) ∧ i ≤ k ∧ k ≤ j ∧ j ≤ d.length ∧ Hid (∃ n, wr = w.drewN n)) (fun ci cj _ => (intOf cj - intOf ci).toNat)
 case atStart => exact ⟨0, d.length, rfl, rfl, Nat.zero_le _, by omega, Nat.le_refl _, HW⟩
 case round =>
  clear HW
  obtain ⟨i, j, rfl, rfl, hik, hkj, hjl, HW⟩ := hrel
  by_cases hlt : i < j
  · have hlti : (i : Int) < (j : Int) := by omega
    obtain ⟨m, hm⟩ : ∃ m, m = (i + j) / 2 := ⟨_, rfl⟩
    have e1 : ((i : Int) + (j : Int)) / 2 = (m : Int) := by omega
    have hsum : (i : Int) + (j : Int) ≤ 9999999999999 := by omega
    have hmj : m < j := by omega
    have him : i ≤ m := by omega
    have hml : (m : Int) < (d.length : Int) := by omega
    obtain ⟨y, hy⟩ : ∃ y, d[m]? = some y := ⟨d[m]'(by omega), by simp⟩
    obtain ⟨b, off, rfl, hcell⟩ : ∃ b off, ad = some ⟨b, off, none⟩ ∧ wr.cell? ⟨b, off + m, none⟩ = some (.int .u64 (y : Int)) := by
     obtain ⟨n, hn⟩ := HW.out
     obtain ⟨b, off, h1, h2⟩ := qdc HH.out hy
     exact ⟨b, off, h1, by rw [hn]; exact h2⟩
    have HM := Hj hm
    have hord : (ltN y x = true → m < k) ∧ (ltN y x = false → k ≤ m) := by
     have hp := List.pairwise_iff_getElem.1 HS.out
     obtain ⟨hk1, hk2⟩ := List.getElem?_eq_some_iff.1 HK.out
     obtain ⟨hm1, hm2⟩ := List.getElem?_eq_some_iff.1 hy
     refine ⟨fun hl => ?_, fun hl => ?_⟩
     · simp only [ltN, decide_eq_true_eq] at hl
       rcases Nat.lt_trichotomy m k with h | h | h
       · exact h
       · subst h; omega
       · have := hp k m hk1 hm1 h; omega
     · simp only [ltN, decide_eq_false_iff_not] at hl
       rcases Nat.lt_trichotomy m k with h | h | h
       · have := hp m k hm1 hk1 h; omega
       · omega
       · omega
    have HO := Hj hord
    clear hm hord hy
    cases hl : ltN y x with
    | true =>
      have hmk := HO.out.1 hl
      go_wp2_with (go_at_call 158; refine (qai _ _ _).mono ?_; rintro e w' ⟨rfl, rfl⟩)
      exact ⟨⟨m + 1, j, by simp, rfl, by omega, hkj, hjl, HW⟩, by simp [intOf]; omega⟩
    | false =>
      have hmk := HO.out.2 hl
      go_wp2_with (go_at_call 158; refine (qai _ _ _).mono ?_; rintro e w' ⟨rfl, rfl⟩)
      exact ⟨⟨i, m, rfl, rfl, hik, hmk, by omega, HW⟩, by simp [intOf]; omega⟩
  · have hge : ¬ (i : Int) < (j : Int) := by omega
    obtain rfl : i = k := by omega
    obtain rfl : j = i := by omega
    have hjs : (j : Int) < (d.length : Int) := by omega
    obtain ⟨b, off, rfl, hcell⟩ : ∃ b off, ad = some ⟨b, off, none⟩ ∧ wr.cell? ⟨b, off + j, none⟩ = some (.int .u64 (x : Int)) := by
     obtain ⟨n, hn⟩ := HW.out
     obtain ⟨b, off, h1, h2⟩ := qdc HH.out HK.out
     exact ⟨b, off, h1, by rw [hn]; exact h2⟩
    go_wp2
    go_ret2
    exact ⟨rfl, HW.out⟩
def size8 (l : List Nat) : Int := if 128 < (dictO l).length then -1 else if (dictO l).length = 0 then 0 else ((7 + (dictO l).length * 64 + l.length * widthO (dictO l).length : Nat) : Int)
theorem widthO_le (k : Nat) (h : k ≤ 128) : widthO k ≤ 7 := by
 unfold widthO; split
 · omega
 · exact Lib.bitLen_le (k - 1) 7 (by omega) (by omega)
theorem size8_any (v : Value) (l : List Nat) (w : World) (hl : l.length ≤ 1000000000) (h : Holds w v (u64s l)) (hX : ∀ x ∈ l, x ≤ 18446744073709551615) :
 Calls Tryz.prog 49 #[v] w fun e w' => e = .returned (.int .i64 (size8 l)) ∧ Keeps (fun _ => False) w w' := by
 have HC := Hj (dict_any v l w h hl hX)
 have hdl := dictO_length l
 obtain ⟨ad, cp, hv, _, _⟩ := id h
 rw [qbz] at hv
 subst hv
 have HW := Hj (fun w => width_any (dictO l).length w (by omega))
 obtain ⟨k, hk⟩ : ∃ k, (dictO l).length = k := ⟨_, rfl⟩
 have HS : Hid (size8 l = if 128 < k then -1 else if k = 0 then 0 else ((7 + k * 64 + l.length * widthO k : Nat) : Int)) := Hj (by unfold size8; rw [hk])
 rw [hk] at HC HW hdl
 have HWL := Hj (widthO_le k)
 clear h hX hk
 by_cases h1 : 128 < k
 · have h1' : (128 : Int) < (k : Int) := by omega
   have HE : Hid (size8 l = -1) := Hj (by rw [HS.out, if_pos h1])
   clear h1
   go_enter Tryz.func49, Tryz.ntmps49
   go_wp2_with (go_at_call 105; refine HC.out.mono ?_; rintro e w1 ⟨g, cap, rfl, hg, hh, hK⟩; have HK := Hj hK; clear hh hK hg)
   go_ret
   exact ⟨by rw [HE.out]; rfl, HK.out⟩
 · have h1' : ¬ (128 : Int) < (k : Int) := by omega
   by_cases h2 : k = 0
   · have HE : Hid (size8 l = 0) := Hj (by rw [HS.out, if_neg h1, if_pos h2])
     subst h2
     clear h1
     go_enter Tryz.func49, Tryz.ntmps49
     go_wp2_with (go_at_call 105; refine HC.out.mono ?_; rintro e w1 ⟨g, cap, rfl, hg, hh, hK⟩; have HK := Hj hK; clear hh hK hg)
     go_ret
     exact ⟨by rw [HE.out]; rfl, HK.out⟩
   · have h2' : ¬ (k : Int) = 0 := by omega
     obtain ⟨m, hm⟩ : ∃ m, m = widthO k := ⟨_, rfl⟩
     rw [← hm] at HS HW HWL
     have hm7 : m ≤ 7 := HWL.out (by omega)
     obtain ⟨t, ht⟩ : ∃ t, t = l.length * m := ⟨_, rfl⟩
     have ht0 : t ≤ l.length * 7 := by rw [ht]; exact Nat.mul_le_mul_left _ hm7
     have et : (l.length : Int) * (m : Int) = (t : Int) := by rw [ht]; simp
     have htb : (t : Int) ≤ 7000000000 := by omega
     have HE : Hid (size8 l = ((7 + k * 64 + t : Nat) : Int)) := Hj (by rw [HS.out, if_neg h1, if_neg h2, ht])
     clear h1 h2 hm ht
     go_enter Tryz.func49, Tryz.ntmps49
     go_wp2_with (first
      | (go_at_call 105; refine HC.out.mono ?_; rintro e w1 ⟨g, cap, rfl, hg, hh, hK⟩; have HK := Hj hK; clear hh hK hg)
      | (go_at_call 106; refine (HW.out _).mono ?_; rintro e w' ⟨rfl, rfl⟩))
     go_ret
     refine ⟨?_, HK.out⟩
     rw [HE.out]
     exact ret_int (by push_cast; omega)
end
section
set_option maxHeartbeats 1000000
set_option maxRecDepth 100000
open Go.RowKit
def getB (b : List Bool) : Nat × Nat × Nat × Nat :=
 if b.length < 64 then (0, 0, 3, 0) else if b.length < 71 then (qae (b.take 64), 1, 3, 64) else (qae (b.take 64), qae ((b.drop 64).take 7) + 1, 0, 71)
theorem getB_le (b : List Bool) : (getB b).2.2.2 ≤ b.length := by
 unfold getB
 split
 · exact Nat.zero_le _
 · split
   · show 64 ≤ _; omega
   · show 71 ≤ _; omega
theorem getRun_any (base p : Nat) (v : Value) (bs : List Nat) (i : Nat) (w : World) (h : IsR w base p v bs i) (hl : bs.length ≤ 1099511627776) (hi : i ≤ 8 * bs.length) :
 Calls Tryz.prog 103 #[.pointer (some ⟨p, 0, none⟩)] w fun e w' => e = .returned (.tuple #[.agg #[.int .u64 (((getB ((qad bs).drop i)).1 : Nat) : Int), .int .i64 (((getB ((qad bs).drop i)).2.1 : Nat) : Int)], .int .i64 (((getB ((qad bs).drop i)).2.2.1 : Nat) : Int)]) ∧
  IsR w' base p v bs (i + (getB ((qad bs).drop i)).2.2.2) ∧ Keeps (fun k => k = p) w w' := by
 have hlen := rest_length bs i
 have hR := Hj h
 have hp := h.lt
 have hpo : ∀ g, v.ownBlock = some g → g < w.heap.size := fun g hg => h.own_lt hg
 have HPO := Hj hpo
 clear h hpo
 obtain ⟨w0, hw0⟩ : ∃ w0, w0 = w.alloc (.cells #[.int .u64 0, .int .i64 0] 197) := ⟨_, rfl⟩
 have hk0 : ∀ S, Keeps S w w0 := fun S => by rw [hw0]; exact (Keeps.refl S w).alloc _
 have hR0 : IsR w0 base p v bs i := hR.out.keeps (hk0 (fun _ => False)) (fun h => h) (fun _ _ h => h)
 have hD : w0.heap[w.heap.size]? = some (.cells #[.int .u64 0, .int .i64 0] 197 (0, 0)) := by rw [hw0]; exact heap_alloc_new w _
 have HR0 := Hj hR0; have HK0 := Hj hk0; have HW0 := Hj hw0; have HD := Hj hD
 clear hR0 hk0 hw0 hD
 by_cases h1 : 8 * bs.length < i + 64
 · have e : getB ((qad bs).drop i) = (0, 0, 3, 0) := by unfold getB; rw [if_pos (by omega)]
   have HE := Hj e
   clear e hlen
   go_enter Tryz.func103, Tryz.ntmps103
   go_wp2_with fail
   rw [← HW0.out]
   refine (rbits_eof base p v bs i 64 w0 HR0.out (by omega) hi (by decide) h1).mono ?_
   rintro e w1 ⟨rfl, n, hw1⟩
   have hd1 : w1.heap[w.heap.size]? = some (.cells #[.int .u64 0, .int .i64 0] 197 (0, 0)) := by rw [hw1]; exact HD.out
   have hc0 : w1.cell? ⟨w.heap.size, 0, none⟩ = some (.int .u64 0) := by rw [cell_of_row _ _ _ _ _ _ hd1]; rfl
   have hc1 : w1.cell? ⟨w.heap.size, 1, none⟩ = some (.int .i64 0) := by rw [cell_of_row _ _ _ _ _ _ hd1]; rfl
   have hf0 : w1.frozen? ⟨w.heap.size, 0, none⟩ = false := frozen_of_row _ _ _ _ _ hd1
   have hf1 : w1.frozen? ⟨w.heap.size, 1, none⟩ = false := frozen_of_row _ _ _ _ _ hd1
   have hR1 : IsR w1 base p v bs i := by rw [hw1]; exact HR0.out.drewN n
   have hk1 : Keeps (fun _ => False) w w1 := by rw [hw1]; exact (HK0.out _).drewN n
   have HR1 := Hj hR1; have HK1 := Hj hk1
   clear hw1 hR1 hk1
   have HD1 := Hj hd1
   clear hd1
   go_wp2
   obtain ⟨w2, hw2⟩ : ∃ w2, w2 = (w1.setCell ⟨w.heap.size, 0, none⟩ (.int .u64 0)).setCell ⟨w.heap.size, 1, none⟩ (.int .i64 0) := ⟨_, rfl⟩
   rw [← hw2]
   have g2 := heap_setCell_same _ w.heap.size 1 _ _ (.int .i64 0) (heap_setCell_same _ w.heap.size 0 _ _ (.int .u64 0) HD1.out)
   rw [← hw2] at g2
   have e0 : w2.cell? ⟨w.heap.size, 0, none⟩ = some (.int .u64 0) := by rw [cell_of_row _ _ _ _ _ _ g2]; rfl
   have e1 : w2.cell? ⟨w.heap.size, 1, none⟩ = some (.int .i64 0) := by rw [cell_of_row _ _ _ _ _ _ g2]; rfl
   have k2 : Keeps (fun k => k = w.heap.size) w1 w2 := by rw [hw2]; exact ((Keeps.refl (fun k => k = w.heap.size) _).setCell (p := ⟨w.heap.size, 0, none⟩) (fun _ => rfl) _).setCell (p := ⟨w.heap.size, 1, none⟩) (fun _ => rfl) _
   have hR2 := HR1.out.keeps k2 (by omega) (fun g hg e => by have := HPO.out g hg; omega)
   have hk2 := HK1.out.trans k2 (fun k hk e => by omega)
   refine bodyPost_ret (v := .tuple #[.agg #[.int .u64 0, .int .i64 0], .int .i64 3]) (by simp [results, Tryz.results103, go_sem, e0, e1]) rfl ⟨?_, ?_, ?_⟩
   · rw [HE.out]; rfl
   · rw [HE.out]; exact hR2
   · exact hk2.mono (fun _ _ h => h.elim)
 · obtain ⟨x, hx⟩ : ∃ x, x = qae (qaw bs i 64) := ⟨_, rfl⟩
   have hx1 := bitsFrom_lt bs i 64
   rw [← hx] at hx1
   by_cases h2 : 8 * bs.length < i + 71
   · have e : getB ((qad bs).drop i) = (x, 1, 3, 64) := by unfold getB; rw [if_neg (by omega), if_pos (by omega), hx]; rfl
     have HE := Hj e; have HX := Hj hx
     clear e hlen hx
     go_enter Tryz.func103, Tryz.ntmps103
     go_wp2_with fail
     rw [← HW0.out]
     refine (rbits_any base p v bs i 64 w0 HR0.out (by omega) (by decide) (by omega)).mono ?_
     rw [← HX.out]
     rintro e wa ⟨rfl, hRa, hka⟩
     have hkwa : Keeps (fun k => k = p) w wa := (HK0.out (fun k => k = p)).trans hka (fun _ _ h => h)
     have hda := hka.heap HD.out (show ¬ w.heap.size = p by omega)
     have HRA := Hj hRa; have HKWA := Hj hkwa; have HDA := Hj hda
     clear hRa hkwa hda hka
     go_wp2_with fail
     refine (rbits_eof base p v bs (i + 64) 7 wa HRA.out (by omega) (by omega) (by decide) (by omega)).mono ?_
     rintro e w1 ⟨rfl, n, hw1⟩
     have hd1 : w1.heap[w.heap.size]? = some (.cells #[.int .u64 0, .int .i64 0] 197 (0, 0)) := by rw [hw1]; exact HDA.out
     have hR1 : IsR w1 base p v bs (i + 64) := by rw [hw1]; exact HRA.out.drewN n
     have hk1 : Keeps (fun k => k = p) w w1 := by rw [hw1]; exact HKWA.out.drewN n
     clear hw1
     have hc0 : w1.cell? ⟨w.heap.size, 0, none⟩ = some (.int .u64 0) := by rw [cell_of_row _ _ _ _ _ _ hd1]; rfl
     have hc1 : w1.cell? ⟨w.heap.size, 1, none⟩ = some (.int .i64 0) := by rw [cell_of_row _ _ _ _ _ _ hd1]; rfl
     have hf0 : w1.frozen? ⟨w.heap.size, 0, none⟩ = false := frozen_of_row _ _ _ _ _ hd1
     have hf1 : w1.frozen? ⟨w.heap.size, 1, none⟩ = false := frozen_of_row _ _ _ _ _ hd1
     have HR1 := Hj hR1; have HK1 := Hj hk1; have HD1 := Hj hd1
     clear hR1 hk1 hd1
     go_wp2
     obtain ⟨w2, hw2⟩ : ∃ w2, w2 = (w1.setCell ⟨w.heap.size, 0, none⟩ (.int .u64 (x : Nat))).setCell ⟨w.heap.size, 1, none⟩ (.int .i64 1) := ⟨_, rfl⟩
     rw [← hw2]
     have g2 := heap_setCell_same _ w.heap.size 1 _ _ (.int .i64 1) (heap_setCell_same _ w.heap.size 0 _ _ (.int .u64 (x : Nat)) HD1.out)
     rw [← hw2] at g2
     have e0 : w2.cell? ⟨w.heap.size, 0, none⟩ = some (.int .u64 (x : Nat)) := by rw [cell_of_row _ _ _ _ _ _ g2]; rfl
     have e1 : w2.cell? ⟨w.heap.size, 1, none⟩ = some (.int .i64 1) := by rw [cell_of_row _ _ _ _ _ _ g2]; rfl
     have k2 : Keeps (fun k => k = w.heap.size) w1 w2 := by rw [hw2]; exact ((Keeps.refl (fun k => k = w.heap.size) _).setCell (p := ⟨w.heap.size, 0, none⟩) (fun _ => rfl) _).setCell (p := ⟨w.heap.size, 1, none⟩) (fun _ => rfl) _
     have hR2 := HR1.out.keeps k2 (by omega) (fun g hg e => by have := HPO.out g hg; omega)
     have hk2 := HK1.out.trans k2 (fun k hk e => by omega)
     refine bodyPost_ret (v := .tuple #[.agg #[.int .u64 (x : Nat), .int .i64 1], .int .i64 3]) (by simp [results, Tryz.results103, go_sem, e0, e1]) rfl ⟨?_, ?_, ?_⟩
     · rw [HE.out]; rfl
     · rw [HE.out]; exact hR2
     · exact hk2
   · obtain ⟨c, hc⟩ : ∃ c, c = qae (qaw bs (i + 64) 7) := ⟨_, rfl⟩
     have hc1 := bitsFrom_lt bs (i + 64) 7
     rw [← hc] at hc1
     have e : getB ((qad bs).drop i) = (x, c + 1, 0, 71) := by
      unfold getB
      rw [if_neg (by omega), if_neg (by omega), hx, hc, List.drop_drop]; rfl
     have HC := Hj hc
     have hwc : IntKind.i64.wrap (c : Int) = c := qbk _ (by omega)
     have hwc1 : IntKind.i64.wrap ((c : Int) + 1) = c + 1 := IntWalk.i64_in _ (by omega)
     clear hc
     have HE := Hj e; have HX := Hj hx
     clear e hlen hx
     go_enter Tryz.func103, Tryz.ntmps103
     go_wp2_with fail
     rw [← HW0.out]
     refine (rbits_any base p v bs i 64 w0 HR0.out (by omega) (by decide) (by omega)).mono ?_
     rw [← HX.out]
     rintro e wa ⟨rfl, hRa, hka⟩
     have hkwa : Keeps (fun k => k = p) w wa := (HK0.out (fun k => k = p)).trans hka (fun _ _ h => h)
     have hda := hka.heap HD.out (show ¬ w.heap.size = p by omega)
     have HRA := Hj hRa; have HKWA := Hj hkwa; have HDA := Hj hda
     clear hRa hkwa hda hka
     go_wp2_with fail
     refine (rbits_any base p v bs (i + 64) 7 wa HRA.out (by omega) (by decide) (by omega)).mono ?_
     rw [← HC.out]
     rintro e w1 ⟨rfl, hR1', hk1'⟩
     have hd1 := hk1'.heap HDA.out (show ¬ w.heap.size = p by omega)
     have hR1 : IsR w1 base p v bs (i + 71) := hR1'
     have hk1 : Keeps (fun k => k = p) w w1 := HKWA.out.trans hk1' (fun _ _ h => h)
     clear hR1' hk1' hc1
     have hc0 : w1.cell? ⟨w.heap.size, 0, none⟩ = some (.int .u64 0) := by rw [cell_of_row _ _ _ _ _ _ hd1]; rfl
     have hc1 : w1.cell? ⟨w.heap.size, 1, none⟩ = some (.int .i64 0) := by rw [cell_of_row _ _ _ _ _ _ hd1]; rfl
     have hf0 : w1.frozen? ⟨w.heap.size, 0, none⟩ = false := frozen_of_row _ _ _ _ _ hd1
     have hf1 : w1.frozen? ⟨w.heap.size, 1, none⟩ = false := frozen_of_row _ _ _ _ _ hd1
     have HR1 := Hj hR1; have HK1 := Hj hk1; have HD1 := Hj hd1
     clear hR1 hk1 hd1
     go_wp2
     obtain ⟨w2, hw2⟩ : ∃ w2, w2 = (w1.setCell ⟨w.heap.size, 0, none⟩ (.int .u64 (x : Nat))).setCell ⟨w.heap.size, 1, none⟩ (.int .i64 ((c : Int) + 1)) := ⟨_, rfl⟩
     rw [← hw2]
     have g2 := heap_setCell_same _ w.heap.size 1 _ _ (.int .i64 ((c : Int) + 1)) (heap_setCell_same _ w.heap.size 0 _ _ (.int .u64 (x : Nat)) HD1.out)
     rw [← hw2] at g2
     have e0 : w2.cell? ⟨w.heap.size, 0, none⟩ = some (.int .u64 (x : Nat)) := by rw [cell_of_row _ _ _ _ _ _ g2]; rfl
     have e1 : w2.cell? ⟨w.heap.size, 1, none⟩ = some (.int .i64 ((c : Int) + 1)) := by rw [cell_of_row _ _ _ _ _ _ g2]; rfl
     have k2 : Keeps (fun k => k = w.heap.size) w1 w2 := by rw [hw2]; exact ((Keeps.refl (fun k => k = w.heap.size) _).setCell (p := ⟨w.heap.size, 0, none⟩) (fun _ => rfl) _).setCell (p := ⟨w.heap.size, 1, none⟩) (fun _ => rfl) _
     have hR2 := HR1.out.keeps k2 (by omega) (fun g hg e => by have := HPO.out g hg; omega)
     have hk2 := HK1.out.trans k2 (fun k hk e => by omega)
     refine bodyPost_ret (v := .tuple #[.agg #[.int .u64 (x : Nat), .int .i64 ((c : Int) + 1)], .int .i64 0]) (by simp [results, Tryz.results103, go_sem, e0, e1]) rfl ⟨?_, ?_, ?_⟩
     · rw [HE.out]; rfl
     · rw [HE.out]; exact hR2
     · exact hk2
end
section
set_option maxHeartbeats 4000000
set_option maxRecDepth 100000
open Go.RowKit
def words8 (d : List Nat) : List Bool := d.flatMap fun x => qaa x 64
def index8 (d l : List Nat) : List Bool := l.flatMap fun x => qaa (d.idxOf x) (widthO d.length)
def enc8 (l : List Nat) : List Bool := qaa ((dictO l).length - 1) 7 ++ words8 (dictO l) ++ index8 (dictO l) l
theorem flat_snoc {α : Type} (f : α → List Bool) {d : List α} {j : Nat} {x : α} (h : d[j]? = some x) : (d.take (j + 1)).flatMap f = (d.take j).flatMap f ++ f x := by
 rw [List.take_add_one, h, List.flatMap_append]
 simp
theorem flat_length {α : Type} (f : α → List Bool) (m : Nat) (h : ∀ x, (f x).length = m) (d : List α) : (d.flatMap f).length = m * d.length := by
 induction d with
 | nil => simp
 | cons x r ih => rw [List.flatMap_cons, List.length_append, ih, h, List.length_cons, Nat.mul_add]; omega
theorem qco (d : List Nat) : (words8 d).length = 64 * d.length := flat_length _ 64 (fun x => qab x 64) d
theorem index8_length (d l : List Nat) : (index8 d l).length = widthO d.length * l.length := flat_length _ _ (fun _ => qab _ _) l
theorem Wrote.start {base p : Nat} {v0 : Value} {l : List Bool} {w w1 : World} (h : IsW w base p v0 l) (hk : Keeps (fun _ => False) w w1) : IsW w1 base p v0 l := h.keeps hk (fun h => h) (fun _ _ h => h)
theorem Wrote.front {base p : Nat} {v0 : Value} {l : List Bool} {w w1 w2 : World} (hk : Keeps (fun _ => False) w w1) (h : Wrote base p v0 l w1 w2) : Wrote base p v0 l w w2 := by
 obtain ⟨v', h1, h2, h3⟩ := h
 exact ⟨v', h1, (hk.mono (S' := foot p v0) (fun _ _ e => e.elim)).trans h2 (fun _ _ e => e), fun g hg => (h3 g hg).imp id (fun e => Nat.le_trans hk.size e)⟩
theorem put8_any (base p : Nat) (v0 v : Value) (bits : List Bool) (l : List Nat) (w : World) (hW : IsW w base p v0 bits) (hb0 : base ≤ w.heap.size) (hbits : bits.length ≤ 1000000000) (hl : l.length ≤ 1000000000) (hX : ∀ x ∈ l, x ≤ 18446744073709551615)
 (h : Holds w v (u64s l)) (hap : ∀ k, ownH v l k → ¬ foot p v0 k) (hne : l ≠ []) (hk : (dictO l).length ≤ 128) :
 Calls Tryz.prog 50 #[.pointer (some ⟨p, 0, none⟩), v] w fun e w' => e = .returned (.int .i64 0) ∧ Wrote base p v0 (bits ++ enc8 l) w w' := by
 have HC := Hj (dict_any v l w h hl hX)
 have hkpos := dictO_pos hne
 have hlpos := List.length_pos_iff.2 hne
 have HDX : Hid (∀ x ∈ dictO l, x ≤ 18446744073709551615) := Hj (fun x hx => hX x ((qcn x l).1 hx))
 have HDS := Hj (qby l)
 have HMEM : Hid (∀ x ∈ l, x ∈ dictO l) := Hj (fun x hx => (qcn x l).2 hx)
 obtain ⟨ad, cp, hv, _, _⟩ := id h
 rw [qbz] at hv
 subst hv
 have HH := Hj h; have HX := Hj hX; have HAP := Hj hap; have HW := Hj hW; have HB0 := Hj hb0; have HNE := Hj hne
 have hpl := hW.lt
 have hvl : ∀ k, v0.ownBlock = some k → k < w.heap.size := fun k hk => hW.own_lt hk
 have HPL := Hj hpl; have HVL := Hj hvl
 have HEN : Hid (enc8 l = qaa ((dictO l).length - 1) 7 ++ words8 (dictO l) ++ index8 (dictO l) l) := Hj rfl
 generalize dictO l = d at *
 obtain ⟨k, hkd⟩ : ∃ k, d.length = k := ⟨_, rfl⟩
 obtain ⟨m, hm⟩ : ∃ m, m = widthO k := ⟨_, rfl⟩
 have hm7 : m ≤ 7 := by rw [hm]; exact widthO_le k (by omega)
 have HWD := Hj (fun w => width_any k w (by omega))
 rw [← hm] at HWD
 rw [hkd] at HC
 obtain ⟨q, hq⟩ : ∃ q, k = q + 1 := ⟨k - 1, by omega⟩
 have eq1 : (k : Int) - 1 = (q : Int) := by omega
 have HEQ : Hid (enc8 l = qaa q 7 ++ words8 d ++ index8 d l) := Hj (by rw [HEN.out, hkd, hq]; rfl)
 have HKD := Hj hkd; have HM := Hj hm; have HQ := Hj hq
 have hk1 : ¬ (128 : Int) < (k : Int) := by omega
 have hl1 : ¬ (l.length : Int) = 0 := by omega
 have hqb : (q : Int) ≤ 127 := by omega
 clear h hX hap hW hb0 hpl hvl hkd hm hq hkpos hlpos HEN hne
 go_enter Tryz.func50, Tryz.ntmps50
 go_wp2_with (first
  | (go_at_call 105; refine HC.out.mono ?_; rintro e w1 ⟨g, cap, rfl, hg, hh, hK⟩; have HK := Hj hK; have HD := Hj hh; have HG := Hj hg; have HW1 := Hj (Wrote.start HW.out hK); have HS1 := Hj hK.size; clear hh hK hg)
  | (go_at_call 22; refine (qbx base p v0 bits q 7 _ HW1.out (by omega) (by decide) (by omega) (Nat.le_trans HB0.out HS1.out)).mono ?_; rintro e w2 ⟨rfl, hw2⟩))
 have HWR := Hj hw2
 clear hw2
 have HHL := Hj (HH.out.keeps HK.out (fun _ _ h => h))
 have hfd : ∀ z, (Value.slice (some ⟨g, 0, none⟩) k cap).ownBlock = some z → ¬ foot p v0 z := fun z hz e => by
  simp only [Value.ownBlock, Option.some.injEq] at hz
  have h1 := HG.out
  rcases e with e | e
  · have := HPL.out; omega
  · have := HVL.out z e; omega
 have hfl : ∀ z, (Value.slice ad l.length cp).ownBlock = some z → ¬ foot p v0 z := fun z hz => HAP.out z ⟨HNE.out, hz⟩
 have HFD := Hj hfd; have HFL := Hj hfl
 clear hfd hfl
 have HSTEP : Hid (∀ (L : List Bool) (x n : Nat) (wr : World), Wrote base p v0 L w1 wr → x ≤ 18446744073709551615 → n ≤ 64 → L.length ≤ 1099511627776 →
  Calls Tryz.prog 22 #[.pointer (some ⟨p, 0, none⟩), .int .u64 (x : Int), .int .i64 (n : Int)] wr fun e w' => e = .returned (.int .i64 0) ∧ Wrote base p v0 (L ++ qaa x n) w1 w') := Hj (fun L x n wr hwr hx hn hL => by
  obtain ⟨v', h1, h2, h3⟩ := hwr
  refine (qbx base p v' L x n wr h1 hx hn hL (Nat.le_trans HB0.out (Nat.le_trans HS1.out h2.size))).mono ?_
  rintro e w' ⟨rfl, h4⟩
  exact ⟨rfl, Wrote.trans h2 h3 h4⟩)
 clear HC
 go_loopw [33] (fun c wr => ∃ j : Nat, c = .int .i64 (j : Int) ∧ j ≤ k ∧ Hid (Wrote base p v0 (bits ++ qaa q 7 ++ words8 (d.take j)) w1 wr)) (fun c _ => k - (intOf c).toNat)
 case atStart => exact ⟨0, rfl, Nat.zero_le _, Hj (by rw [List.take_zero]; simpa [words8] using HWR.out)⟩
 case round =>
  clear HWR
  obtain ⟨j, rfl, hjk, HWR⟩ := hrel
  by_cases hlt : j < k
  · have hlti : (j : Int) < (k : Int) := by omega
    obtain ⟨x, hx⟩ : ∃ x, d[j]? = some x := ⟨d[j]'(by have := HKD.out; omega), by simp⟩
    have hx64 := HDX.out x (List.mem_of_getElem? hx)
    obtain ⟨_, _, hk2, _⟩ := id HWR.out
    have hD2 := HD.out.keeps hk2 HFD.out
    rw [← HKD.out] at hD2
    obtain ⟨b, off, hbo, hcell⟩ := qdc hD2 hx
    simp only [Option.some.injEq, Addr.mk.injEq, and_true] at hbo
    obtain ⟨rfl, rfl⟩ := hbo
    rw [Nat.zero_add] at hcell
    have HCL := Hj (HSTEP.out _ x 64 _ HWR.out hx64 (by decide) (by rw [List.length_append, List.length_append, qab, qco, List.length_take]; omega))
    have HN : Hid (bits ++ qaa q 7 ++ words8 (d.take (j + 1)) = bits ++ qaa q 7 ++ words8 (d.take j) ++ qaa x 64) := Hj (by unfold words8; rw [flat_snoc _ hx]; simp only [List.append_assoc])
    clear hx hx64 hk2 hD2
    go_wp2_with (go_at_call 22; refine HCL.out.mono ?_; rintro e w3 ⟨rfl, hw3⟩)
    exact ⟨⟨j + 1, by simp, by omega, Hj (by rw [HN.out]; exact hw3)⟩, by simp [intOf]; omega⟩
  · obtain rfl : j = k := by omega
    have HWQ : Hid (Wrote base p v0 (bits ++ qaa q 7 ++ words8 d) w1 wr) := Hj (by have := HWR.out; rwa [List.take_of_length_le (by have := HKD.out; omega)] at this)
    clear HWR
    go_wp2
    go_loopw [43] (fun c wr => ∃ i : Nat, c = .int .i64 (i : Int) ∧ i ≤ l.length ∧ Hid (Wrote base p v0 (bits ++ qaa q 7 ++ words8 d ++ index8 d (l.take i)) w1 wr)) (fun c _ => l.length - (intOf c).toNat)
    case atStart => exact ⟨0, rfl, Nat.zero_le _, Hj (by rw [List.take_zero]; simpa [index8] using HWQ.out)⟩
    case round =>
     clear HWQ
     obtain ⟨i, rfl, hil, HWR⟩ := hrel
     by_cases hlt : i < l.length
     · have hlti : (i : Int) < (l.length : Int) := by omega
       obtain ⟨x, hx⟩ : ∃ x, l[i]? = some x := ⟨l[i], by simp⟩
       have hmx := HMEM.out x (List.mem_of_getElem? hx)
       obtain ⟨_, _, hk2, _⟩ := id HWR.out
       have hD2 := HD.out.keeps hk2 HFD.out
       rw [← HKD.out] at hD2
       have hL2 := HHL.out.keeps hk2 HFL.out
       obtain ⟨b, off, hbo, hcell⟩ := qdc hL2 hx
       obtain ⟨z, hz⟩ : ∃ z, d.idxOf x = z := ⟨_, rfl⟩
       have hzl : z < d.length := by rw [← hz]; exact List.idxOf_lt_length_iff.2 hmx
       have hdz : d[z]? = some x := by rw [← hz]; simp [List.idxOf_lt_length_iff.2 hmx]
       have HBS := Hj (ubs_any _ cap d x z _ hD2 HDS.out hdz (by omega))
       rw [HKD.out] at HBS hzl
       have HN : Hid (bits ++ qaa q 7 ++ words8 d ++ index8 d (l.take (i + 1)) = bits ++ qaa q 7 ++ words8 d ++ index8 d (l.take i) ++ qaa z m) := Hj (by
        unfold index8; rw [flat_snoc _ hx, hz, HKD.out, ← HM.out]; simp only [List.append_assoc])
       have HLB : Hid ((bits ++ qaa q 7 ++ words8 d ++ index8 d (l.take i)).length ≤ 1099511627776) := Hj (by
        rw [List.length_append, List.length_append, List.length_append, qab, qco, index8_length, List.length_take, HKD.out, ← HM.out]
        have : m * min i l.length ≤ 7 * 1000000000 := Nat.mul_le_mul hm7 (by omega)
        omega)
       have hz0 : (z : Int) ≤ 128 := by omega
       subst hbo
       clear hx hmx hk2 hD2 hL2 hz hdz hzl
       go_wp2_with (first
        | (go_at_call 107; refine HBS.out.mono ?_; rintro e w3 ⟨rfl, n3, rfl⟩)
        | (go_at_call 106; refine (HWD.out _).mono ?_; rintro e w' ⟨rfl, rfl⟩)
        | (go_at_call 22; refine (HSTEP.out _ z m _ (show Wrote base p v0 _ w1 (_ : World) from by obtain ⟨v', h1, h2, h3⟩ := HWR.out; exact ⟨v', ⟨h1.blk, h1.row, h1.base⟩, h2.drewN _, h3⟩) (by omega) (by omega) HLB.out).mono ?_; rintro e w4 ⟨rfl, hw4⟩))
       exact ⟨⟨i + 1, by simp, by omega, Hj (by rw [HN.out]; exact hw4)⟩, by simp [intOf]; omega⟩
     · obtain rfl : i = l.length := by omega
       go_wp2
       go_ret
       refine ⟨rfl, ?_⟩
       rw [HEQ.out]
       have := HWR.out
       rw [List.take_length] at this
       have h2 := Wrote.front HK.out this
       simpa only [List.append_assoc] using h2
end
section
open Go.RowKit
theorem qbf (n : Int) (r : List Bool) : readD 0 n r = stepB n r := by unfold readD; rw [if_pos rfl]
theorem readD_ne {e : Nat} (n : Int) (r : List Bool) (h : e ≠ 0) : readD e n r = (0, e, 0) := by unfold readD; rw [if_neg h]
theorem shl_nat {u T c : Nat} (hu : u < 2 ^ c) (h : c + T ≤ 64) : IntKind.u64.wrap ((u : Int) * 2 ^ T) = ((u * 2 ^ T : Nat) : Int) ∧ u * 2 ^ T < 18446744073709551616 := by
 have h1 : u * 2 ^ T < 2 ^ c * 2 ^ T := Nat.mul_lt_mul_of_pos_right hu (Nat.pow_pos (by decide))
 rw [← Nat.pow_add] at h1
 have h2 : 2 ^ (c + T) ≤ 2 ^ 64 := Nat.pow_le_pow_right (by decide) h
 have h3 : u * 2 ^ T < 18446744073709551616 := by omega
 refine ⟨?_, h3⟩
 have e : ((u * 2 ^ T : Nat) : Int) = (u : Int) * 2 ^ T := by rw [Int.natCast_mul, Int.natCast_pow]; rfl
 rw [← e]
 exact IntWalk.u64_in _ (by omega)
theorem GetD.of {base p : Nat} {v : Value} {bs : List Nat} {D last : Nat} {w : World} {x e i' : Nat} {s' : Nat × Nat} {x2 e2 i2 : Nat} {s2 : Nat × Nat} {e' : Ending} {w' : World} (h : GetD base p v bs D last w x e i' s' e' w') (he : e = e2) (hi : i' = i2) (hx : e = 0 → x = x2 ∧ s' = s2) :
 GetD base p v bs D last w x2 e2 i2 s2 e' w' := by
 obtain ⟨y, l2, s3, h1, h2, h3, h4⟩ := h
 subst he; subst hi
 exact ⟨y, l2, s3, h1, fun h0 => by obtain ⟨rfl, rfl⟩ := hx h0; exact h2 h0, h3, h4⟩
section
variable (base p : Nat) (v : Value) (bs : List Nat) (i D last : Nat) (s : Nat × Nat) (w : World)
theorem dget_any (h : DS w base p v bs i D last s 0) (hl : bs.length ≤ 1099511627776) (hi : i ≤ 8 * bs.length) (hs : okWin s) (hla : last < 18446744073709551616) (hT : TabZ w) (hbp : 2 < base) (hbD : 2 < D)
 (x e m : Nat) (s' : Nat × Nat) (hg : getX s ((qad bs).drop i) = (x, e, m, s')) :
 Calls Tryz.prog 101 #[.pointer (some ⟨D, 0, none⟩)] w (GetD base p v bs D last w x e (i + m) s') := by
 have hrl : ∀ j, ((qad bs).drop j).length = 8 * bs.length - j := fun j => rest_length' bs j
 cases hb : (qad bs).drop i with
 | nil =>
   rw [hb] at hg
   simp only [getX, Prod.mk.injEq] at hg
   obtain ⟨rfl, rfl, rfl, rfl⟩ := hg
   exact dget_same base p v bs i D last s w 3 0 h hl hi (by rw [qbf, hb]; rfl)
 | cons b0 r =>
   obtain ⟨hd1, hi1⟩ := drop_next hb
   have hr1 : readD 0 ((1 : Nat) : Int) ((qad bs).drop i) = (b0.toNat, 0, 1) := by rw [qbf, hb]; exact qdm _ _
   cases b0 with
   | false =>
     rw [hb] at hg
     simp only [getX, Prod.mk.injEq] at hg
     obtain ⟨rfl, rfl, rfl, rfl⟩ := hg
     exact dget_same base p v bs i D last s w 0 1 h hl hi hr1
   | true =>
     cases hr : r with
     | nil =>
       subst hr
       rw [hb] at hg
       simp only [getX, Prod.mk.injEq] at hg
       obtain ⟨rfl, rfl, rfl, rfl⟩ := hg
       have hr2 : readD 0 ((1 : Nat) : Int) ((qad bs).drop (i + 1)) = (0, 3, 0) := by rw [qbf, hd1]; rfl
       rcases hs with hw | hs
       · exact dget_none base p v bs i D last s w 3 0 3 h hl hi1 hr1 hr2 hw rfl (by decide)
       · exact dget_stop0 base p v bs i D last s w 3 0 3 h hl hi1 hr1 hr2 hs rfl (by decide)
     | cons b1 r2 =>
       subst hr
       obtain ⟨hd2, hi2⟩ := drop_next hd1
       have hr2 : readD 0 ((1 : Nat) : Int) ((qad bs).drop (i + 1)) = (b1.toNat, 0, 1) := by rw [qbf, hd1]; exact qdm _ _
       have hl2 := hrl (i + 1 + 1)
       rw [hd2] at hl2
       cases b1 with
       | false =>
         rw [hb] at hg
         simp only [getX] at hg
         split at hg
         · rename_i hw
           simp only [Prod.mk.injEq] at hg
           obtain ⟨rfl, rfl, rfl, rfl⟩ := hg
           exact (dget_none base p v bs i D last s w 0 1 8 h hl hi1 hr1 hr2 hw rfl (by decide))
         · rename_i hw
           have hs' : s.1 + s.2 ≤ 63 := hs.resolve_left hw
           by_cases hsh : r2.length < 64 - s.1 - s.2
           · rw [if_pos hsh] at hg
             simp only [Prod.mk.injEq] at hg
             obtain ⟨rfl, rfl, rfl, rfl⟩ := hg
             exact dget_go0 base p v bs i D last s w 1 0 3 0 0 3 s.2 false h hl hi1 hr1 hr2 hs' rfl hi2 (by rw [qbf, hd2]; exact qdd _ _ (by omega) hsh) hla (by decide) (by simp [IntKind.wrap_u64]) rfl rfl
           · rw [if_neg hsh] at hg
             have hr5 : readD 0 ((64 - s.1 - s.2 : Nat) : Int) ((qad bs).drop (i + 1 + 1)) = (qae (r2.take (64 - s.1 - s.2)), 0, 64 - s.1 - s.2) := by rw [qbf, hd2]; exact stepB_in _ _ (by omega) (by omega)
             have hu : qae (r2.take (64 - s.1 - s.2)) < 2 ^ (64 - s.1 - s.2) := bitsNat_lt' (List.length_take_le _ _)
             obtain ⟨u, huu⟩ : ∃ u, u = qae (r2.take (64 - s.1 - s.2)) := ⟨_, rfl⟩
             rw [← huu] at hg hr5 hu
             obtain ⟨q1, q2⟩ := shl_nat (T := s.2) hu (by omega)
             by_cases h0 : u = 0
             · rw [if_pos h0] at hg
               simp only [Prod.mk.injEq] at hg
               obtain ⟨rfl, rfl, rfl, rfl⟩ := hg
               subst h0
               refine (dget_go0 base p v bs i D last s w 1 0 0 _ 0 8 s.2 false h hl hi1 hr1 hr2 hs' rfl hi2 hr5 hla (by decide) (by simp [IntKind.wrap_u64]) rfl rfl).mono fun e' w' hq => hq.of rfl (by omega) (fun h => by cases h)
             · rw [if_neg h0] at hg
               simp only [Prod.mk.injEq] at hg
               obtain ⟨rfl, rfl, rfl, rfl⟩ := hg
               have hx0 : u * 2 ^ s.2 ≠ 0 := Nat.mul_ne_zero h0 (Nat.ne_of_gt (Nat.pow_pos (by decide)))
               refine (dget_go0 base p v bs i D last s w 1 u 0 _ (u * 2 ^ s.2) 0 s.2 true h hl hi1 hr1 hr2 hs' rfl hi2 hr5 hla q2 q1 (by simp only [bne_iff_ne, ne_eq]; omega) rfl).mono fun e' w' hq => hq.of rfl (by omega) (fun _ => ⟨rfl, rfl⟩)
       | true =>
         rw [hb] at hg
         simp only [getX] at hg
         have h6 : (2 : Nat) ^ 6 = 64 := by decide
         have ha64 : qae (r2.take 6) < 2 ^ 6 := bitsNat_lt' (List.length_take_le _ _)
         have hy64 : qae ((r2.drop 6).take 6) < 2 ^ 6 := bitsNat_lt' (List.length_take_le _ _)
         by_cases hl6 : r2.length < 6
         · rw [if_pos hl6] at hg
           simp only [Prod.mk.injEq] at hg
           obtain ⟨rfl, rfl, rfl, rfl⟩ := hg
           refine (dget_stop1 base p v bs i D last s w 1 0 3 0 0 3 0 1 3 h hl hi1 hr1 hr2 hi2 (by rw [qbf, hd2]; exact qdd 6 _ (by decide) hl6) (by decide) hi2 (readD_ne _ _ (by decide)) (by decide) rfl rfl (by decide)).mono fun e' w' hq => hq.of rfl (by omega) (fun h => by cases h)
         · rw [if_neg hl6] at hg
           have hr3 : readD 0 ((6 : Nat) : Int) ((qad bs).drop (i + 1 + 1)) = (qae (r2.take 6), 0, 6) := by rw [qbf, hd2]; exact stepB_in 6 _ (by decide) (by omega)
           have hd3 : (qad bs).drop (i + 1 + 1 + 6) = r2.drop 6 := by rw [← List.drop_drop, hd2]
           by_cases hl12 : r2.length < 12
           · rw [if_pos hl12] at hg
             simp only [Prod.mk.injEq] at hg
             obtain ⟨rfl, rfl, rfl, rfl⟩ := hg
             refine (dget_stop1 base p v bs i D last s w 1 (qae (r2.take 6)) 0 6 0 3 0 1 3 h hl hi1 hr1 hr2 hi2 hr3 (by omega) (by omega) (by rw [qbf, hd3]; exact qdd 6 _ (by decide) (by rw [List.length_drop]; omega)) (by decide) rfl rfl (by decide)).mono fun e' w' hq => hq.of rfl (by omega) (fun h => by cases h)
           · rw [if_neg hl12] at hg
             have hr4 : readD 0 ((6 : Nat) : Int) ((qad bs).drop (i + 1 + 1 + 6)) = (qae ((r2.drop 6).take 6), 0, 6) := by rw [qbf, hd3]; exact stepB_in 6 _ (by decide) (by rw [List.length_drop]; omega)
             obtain ⟨a, haa⟩ : ∃ a, a = qae (r2.take 6) := ⟨_, rfl⟩
             obtain ⟨y, hyy⟩ : ∃ y, y = qae ((r2.drop 6).take 6) := ⟨_, rfl⟩
             rw [← haa] at hg hr3 ha64
             rw [← hyy] at hg hr4 hy64
             by_cases hay : 63 < a + y
             · rw [if_pos hay] at hg
               simp only [Prod.mk.injEq] at hg
               obtain ⟨rfl, rfl, rfl, rfl⟩ := hg
               have hck : checkE 0 (decide (a + (y + 1) ≤ 64)) = 8 := by unfold checkE; rw [if_pos ⟨rfl, by simp; omega⟩]
               refine (dget_stop1 base p v bs i D last s w 1 a 0 6 y 0 6 (y + 1) 8 h hl hi1 hr1 hr2 hi2 hr3 (by omega) (by omega) hr4 (by omega) rfl hck (by decide)).mono fun e' w' hq => hq.of rfl (by omega) (fun h => by cases h)
             · rw [if_neg hay] at hg
               have hck : checkE 0 (decide (a + (y + 1) ≤ 64)) = 0 := by
                unfold checkE
                rw [if_neg]
                rintro ⟨_, h2⟩
                simp at h2
                omega
               have hiP : i + 1 + 1 + 6 + 6 ≤ 8 * bs.length := by omega
               have hd5 : (qad bs).drop (i + 1 + 1 + 6 + 6) = r2.drop 12 := by
                rw [show i + 1 + 1 + 6 + 6 = (i + 1 + 1) + 12 by omega, ← List.drop_drop, hd2]
               by_cases hsh : r2.length < 13 + y
               · rw [if_pos hsh] at hg
                 simp only [Prod.mk.injEq] at hg
                 obtain ⟨rfl, rfl, rfl, rfl⟩ := hg
                 refine (dget_go1a base p v bs i D last s w 1 a 0 6 y 0 6 (y + 1) (63 - a - y) 0 3 0 0 3 false h hl hi1 hr1 hr2 hi2 hr3 (by omega) (by omega) hr4 (by omega) rfl hck (by omega) rfl hiP (by rw [qbf, hd5]; exact qdd _ _ (by omega) (by rw [List.length_drop]; omega)) hla (by decide) (by simp [IntKind.wrap_u64]) rfl rfl (by decide)).mono fun e' w' hq => hq.of rfl (by omega) (fun h => by cases h)
               · rw [if_neg hsh] at hg
                 have hr5 : readD 0 ((y + 1 : Nat) : Int) ((qad bs).drop (i + 1 + 1 + 6 + 6)) = (qae ((r2.drop 12).take (y + 1)), 0, y + 1) := by rw [qbf, hd5]; exact stepB_in _ _ (by omega) (by rw [List.length_drop]; omega)
                 rw [show 1 + y = y + 1 by omega] at hg
                 have hu : qae ((r2.drop 12).take (y + 1)) < 2 ^ (y + 1) := bitsNat_lt' (List.length_take_le _ _)
                 obtain ⟨u, huu⟩ : ∃ u, u = qae ((r2.drop 12).take (y + 1)) := ⟨_, rfl⟩
                 rw [← huu] at hg hr5 hu
                 obtain ⟨q1, q2⟩ := shl_nat (T := 63 - a - y) hu (by omega)
                 by_cases h0 : u = 0
                 · rw [if_pos h0] at hg
                   simp only [Prod.mk.injEq] at hg
                   obtain ⟨rfl, rfl, rfl, rfl⟩ := hg
                   subst h0
                   refine (dget_go1a base p v bs i D last s w 1 a 0 6 y 0 6 (y + 1) (63 - a - y) 0 0 _ 0 8 false h hl hi1 hr1 hr2 hi2 hr3 (by omega) (by omega) hr4 (by omega) rfl hck (by omega) rfl hiP hr5 hla (by decide) (by simp [IntKind.wrap_u64]) rfl rfl (by decide)).mono fun e' w' hq => hq.of rfl (by omega) (fun h => by cases h)
                 · rw [if_neg h0] at hg
                   obtain ⟨X, hXX⟩ : ∃ X, X = u * 2 ^ (63 - a - y) := ⟨_, rfl⟩
                   rw [← hXX] at hg q1 q2
                   have hx0 : X ≠ 0 := by rw [hXX]; exact Nat.mul_ne_zero h0 (Nat.ne_of_gt (Nat.pow_pos (by decide)))
                   have hok : ((X : Int) != 0) = true := by simp only [bne_iff_ne, ne_eq]; omega
                   have hw := fun e6 hc => dget_go1b base p v bs i D last s w 1 a 0 6 y 0 6 (y + 1) (63 - a - y) u 0 (y + 1) X e6 true h hl hi1 hr1 hr2 hi2 hr3 (by omega) (by omega) hr4 (by omega) rfl hck (by omega) rfl hiP hr5 hla q2 q1 hok rfl hx0 hT hbp hbD hs hc
                   by_cases hc : lz X ≠ a ∨ tz X ≠ 63 - a - y ∨ fitsX s X = true
                   · rw [if_pos hc] at hg
                     simp only [Prod.mk.injEq] at hg
                     obtain ⟨rfl, rfl, rfl, rfl⟩ := hg
                     refine (hw 8 ?_).mono fun e' w' hq => hq.of rfl (by omega) (fun h => by cases h)
                     by_cases e1 : a = lz X ∧ 63 - a - y = tz X
                     · refine .inr (.inl ⟨e1.1, e1.2, ?_, rfl⟩)
                       rcases hc with hc | hc | hc
                       · exact absurd e1.1.symm hc
                       · exact absurd e1.2.symm hc
                       · exact hc
                     · have hlt := lz_tz q2 hx0
                       exact .inr (.inr ⟨fun h2 => e1 ⟨h2.1, by omega⟩, rfl⟩)
                   · rw [if_neg hc] at hg
                     simp only [Prod.mk.injEq] at hg
                     obtain ⟨rfl, rfl, rfl, rfl⟩ := hg
                     simp only [not_or, Decidable.not_not, Bool.not_eq_true] at hc
                     exact (hw 0 (.inl ⟨hc.1.symm, hc.2.1.symm, hc.2.2, rfl⟩)).mono fun e' w' hq => hq.of rfl (by omega) (fun _ => ⟨rfl, rfl⟩)
end
end
end Go.Proofs.YtfpcgcbehdogjaaGreatDoor
