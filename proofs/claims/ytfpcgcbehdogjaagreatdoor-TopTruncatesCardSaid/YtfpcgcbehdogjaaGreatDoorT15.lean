/-
  Lemmas on which LTopTruncates rests, packed out of the texts WDictA WDictB WDictC WCodec07 WCodec06 WDictD WDictE WChunkA XStr WChunkB PChunk PChunk2; each for all arguments under the hypotheses it names.
-/
import Derived.Test.YtfpcgcbehdogjaaGreatDoorT12
import Derived.Sort.OwnSorted
import Derived.OwnWalk
import Derived.Test.YtfpcgcbehdogjaaGreatDoorT13
namespace Go.Proofs.YtfpcgcbehdogjaaGreatDoor
section
set_option maxHeartbeats 4000000
set_option maxRecDepth 100000
open Go.RowKit Go.Maps
theorem lawU : Keyed Tryz.prog 23 := int_keyed Tryz.underlying23
theorem keyU (x : Nat) (h : x ≤ 18446744073709551615) : keyOf Tryz.prog 23 (.int .u64 (x : Int)) = some (.int .u64 (x : Int)) := keyOf_int_mk Tryz.underlying23 (by
 have h0 : (0 : Int) ≤ (x : Int) := by omega
 have h1 : (x : Int) ≤ 18446744073709551615 := by omega
 exact Bool.and_eq_true_iff.2 ⟨decide_eq_true h0, decide_eq_true h1⟩)
def SetOf (D : DataW Nat) (l : List Nat) : Prop := (∀ x : Nat, has D (.int .u64 (x : Int)) = true ↔ x ∈ l)
theorem SetOf.nil : SetOf (.map []) [] := fun x => by simp [has]
theorem SetOf.put {D : DataW Nat} {l : List Nat} (h : SetOf D l) (hD : IsMap D) (x : Nat) (d : DataW Nat) : SetOf (D.put (.int .u64 (x : Int)) d) (l ++ [x]) := fun y => by
 by_cases hy : y = x
 · subst hy; simp [has_put_same hD (show WideAt.IsKeyLit (.int .u64 (y : Int)) from trivial)]
 · have hne : (Lit.int .u64 (y : Int)) ≠ .int .u64 (x : Int) := by simp; omega
   rw [has_put_other hne, h y]; simp [hy]
theorem arr_of_row {w : World} {base g cap : Nat} {e : TypeId} {ss : List Nat} (h : w.ownsRow base e 1 (.slice (some ⟨g, 0, none⟩) ss.length cap) ss.length (u64s ss)) : Arr w w g 0 ss.toArray := by
 rcases h.2 with ⟨hn, _⟩ | ⟨g', cap', cur, hv, hbase, hb, h1, h2, h3, h4⟩
 · cases hn
 · cases hv
   have hl : cur.toList.take ss.length = u64s ss := by simpa using h4
   refine ⟨rfl, rfl, rfl, Nat.le_refl _, fun _ _ _ => rfl, fun j hj => ?_, fun j hj => by simp [World.frozen?, hb]⟩
   have hj' : j < ss.length := by simpa using hj
   have h5 : (cur.toList.take ss.length)[j]? = (u64s ss)[j]? := by rw [hl]
   rw [List.getElem?_take_of_lt hj'] at h5
   simp only [World.cell?, hb, Nat.zero_add, Option.isSome_none, Bool.false_eq_true, if_false]
   rw [← Array.getElem?_toList, h5]
   simp [u64s, hj']
theorem Arr.holds {w0 w : World} {blk cap : Nat} {d : Array Nat} (h : Arr w0 w blk 0 d) (hc : d.size ≤ cap) : Holds w (.slice (some ⟨blk, 0, none⟩) d.size cap) (u64s d.toList) := by
 refine ⟨some ⟨blk, 0, none⟩, cap, by simp [u64s], by simpa [u64s] using hc, .inr ⟨blk, 0, rfl, fun j u hj => ?_⟩⟩
 have hj' : j < d.size := by
  have := (List.getElem?_eq_some_iff.1 hj).1
  simpa [u64s] using this
 have h1 := h.cell j hj'
 rw [h1]
 simp only [u64s, List.getElem?_map, Array.getElem?_toList, Array.getElem?_eq_getElem hj', Option.map_some, Option.some.injEq] at hj
 rw [← hj, getElem!_pos d j hj']
theorem Arr.keeps {w0 w : World} {blk : Nat} {d : Array Nat} (h : Arr w0 w blk 0 d) : Keeps (fun k => k = blk) w0 w := ⟨h.os, h.tape, h.output, h.size, h.block⟩
theorem dict_any (v : Value) (l : List Nat) (w : World) (h : Holds w v (u64s l)) (hl : l.length ≤ 1000000000) (hX : ∀ x ∈ l, x ≤ 18446744073709551615) :
 Calls Tryz.prog 105 #[v] w fun e w' => ∃ g cap, e = .returned (.slice (some ⟨g, 0, none⟩) (dictO l).length cap) ∧ w.heap.size ≤ g ∧ Holds w' (.slice (some ⟨g, 0, none⟩) (dictO l).length cap) (u64s (dictO l)) ∧ Keeps (fun _ => False) w w' := by
 obtain ⟨i0, hi, hz0, hz1, hz2⟩ := info_parts infoU64
 obtain ⟨ad, cp, hv, _, _⟩ := id h
 rw [qcg] at hv
 subst hv
 have HH := Hj h; have HX := Hj hX
 clear h hX
 have HK0 : Hid (Keeps (fun _ => False) w w) := Hj (Keeps.refl _ _)
 have hm0 := World.ownsMap_made w Tryz.prog 23 (plainElem (H := Nat) Tryz.prog 4)
 have HM0 := Hj hm0
 clear hm0
 have hmk : (Instr.makeMap 206 none).run Tryz.prog w = .ok (.map (some w.heap.size)) (w.alloc (.map #[] 0)) := run_makeMap 206 w
 go_enter Tryz.func105, Tryz.ntmps105
 go_wp2
 clear hmk
 go_loopw [11] (fun c wr => ∃ (j : Nat) (D : DataW Nat), c = .int .i64 (j : Int) ∧ j ≤ l.length ∧ Hid (wr.ownsMap Tryz.prog 23 (plainElem (H := Nat) Tryz.prog 4) w.heap.size j D) ∧ Hid (SetOf D (l.take j)) ∧ Hid (Keeps (fun _ => False) w wr)) (fun c _ => l.length - (intOf c).toNat)
 case atStart => exact ⟨0, .map [], rfl, Nat.zero_le _, HM0, Hj SetOf.nil, Hj (HK0.out.alloc _)⟩
 case round =>
  clear HM0 HK0
  obtain ⟨j, D, rfl, hjl, HM, HS, HK⟩ := hrel
  by_cases hlt : j < l.length
  · have hlti : (j : Int) < (l.length : Int) := by omega
    obtain ⟨x, hx⟩ : ∃ x, l[j]? = some x := ⟨l[j], by simp [hlt]⟩
    have hx64 := HX.out x (List.mem_of_getElem? hx)
    obtain ⟨b, off, rfl, hcell⟩ := qdb (HH.out.keeps HK.out (fun _ _ h => h)) hx
    have HT : Hid (l.take (j + 1) = l.take j ++ [x]) := Hj (by rw [List.take_add_one, hx]; rfl)
    have HKY := Hj (keyU x hx64)
    clear hx hx64
    go_wp2_with (first
     | (refine wpList_mapUpdate_own _ rfl _ _ _ 206 rfl 23 4 lawU Tryz.underlying206 (plainElem (H := Nat) Tryz.prog 4) w.heap.size j D rfl HM.out (by unfold maxLen; omega) _ _ _ rfl rfl HKY.out _ _ (plainElem_bool Tryz.underlying4 true) ?_; intro w1 hm1 hg1)
     | go_in)
    exact ⟨⟨j + 1, _, by simp, by omega, Hj hm1, Hj (by rw [HT.out]; exact HS.out.put HM.out.isMap x _), Hj (HK.out.grown hg1 (fun k hk e => by simp only [Option.some.injEq] at e; omega))⟩, by simp [intOf]; omega⟩
  · obtain rfl : j = l.length := by omega
    rw [List.take_length] at HS
    have hsz := HM.out.size_le
    obtain ⟨N, hN⟩ : ∃ N, N = Maps.size D := ⟨_, rfl⟩
    rw [← hN] at hsz
    have HN := Hj hN
    have HLN : Hid (∀ ty, (Builtin.len_ #[206] ty #[.map (some w.heap.size)]).run Tryz.prog wr = .ok (.int .i64 ((N : Nat) : Int)) wr) := Hj (fun ty => by rw [hN]; exact HM.out.len Tryz.underlying206 ty)
    clear hN
    go_wp2_with (first
     | (at_len; refine wpList_len_own _ rfl _ 206 rfl 23 4 Tryz.underlying206 _ w.heap.size l.length D rfl HM.out ?_; rw [← HN.out])
     | (at_make; refine wpList_make_own _ rfl _ _ 55 rfl (w.heap.size + 1) 23 i0 (.int .u64 0) 1 Tryz.underlying55 hi hz0 hz1 _ _ _ N rfl rfl rfl (by rw [hz2]; omega) (by unfold maxLen; omega) HM.out.lt ?_; intro w1 hrow1 hg1)
     | (at_range; refine wpList_range_own _ rfl _ 206 rfl 23 4 lawU Tryz.underlying206 _ w.heap.size l.length D rfl (HM.out.kept hg1 (by simp)) ?_; intro w0 hrg0 hg0 hs0)
     | go_in)
    go_frame
    have HRG0 := Hj hrg0; have HROW0 := Hj (hrow1.kept hg0 (Or.inr (by simp [Value.ownBlock])))
    have HK1 := Hj ((HK.out.grown hg1 (fun k _ e => by cases e)).grown hg0 (fun k _ e => by cases e))
    have hw1 : w.heap.size ≤ w1.heap.size := Nat.le_trans HK.out.size hg1.size
    have hbw1 : w.heap.size < w1.heap.size := Nat.lt_of_lt_of_le HM.out.lt hg1.size
    have HW1 := Hj hw1; have HBW := Hj hbw1
    have HSZ := Hj hsz
    clear hrg0 hrow1 hg1 hg0 hs0 hw1 hbw1 hsz HLN
    go_loopw [6] (fun v wr => ∃ (left : Lit → Bool) (cnt : Nat) (ss : List Nat), Hid (wr.ranges Tryz.prog 23 (plainElem (H := Nat) Tryz.prog 4) w.heap.size w1.heap.size l.length D left cnt) ∧ ss.length + cnt ≤ N ∧
     Hid (wr.ownsRow (w.heap.size + 1) 23 1 v ss.length (u64s ss)) ∧ v ≠ .slice none 0 0 ∧ Hid (CollN D left ss) ∧ Hid (Keeps (fun _ => False) w wr)) (fun _ wr => wr.rangeLeft w.heap.size w1.heap.size)
    case atStart => exact ⟨_, _, [], HRG0, by simp [HN.out], HROW0, by simp, Hj (CollN.start D), HK1⟩
    case round =>
     obtain ⟨left, cnt, ss, HRG, hcs, HROW, hnn, HC, HKr⟩ := hrel
     go_wp2_with (first
      | (at_next; refine wpList_next_ranges _ rfl _ rfl 23 lawU (plainElem (H := Nat) Tryz.prog 4) (Value.int .u64) (fun v : Value => v) (fun key kl hk => by obtain ⟨x, hx, _⟩ := Maps.keyOf_int_inv Tryz.underlying23 hk; exact ⟨x, hx⟩) (fun v y hv => ⟨v, rfl⟩) w.heap.size w1.heap.size l.length _ _ _ rfl HRG.out ?_ ?_)
      | go_in)
     · intro hc0 hl0
       have hmem : ∀ z, z ∈ ss ↔ z ∈ l := fun z => by rw [HC.out.done hl0 z, HS.out z]
       have hnd := HC.out.1
       rcases hrow' : HROW.out.2 with ⟨hnil, _⟩ | ⟨g, cap, cur, hv, hbase, hb, h1, h2, h3, h4⟩
       · exact absurd hnil hnn
       subst hv
       have hA := arr_of_row HROW.out
       have HQ := Hj (uSort_any wr wr g 0 cap ss.length ss.toArray hA (by simp) (by have := HSZ.out; omega))
       have HM2 := Hj hmem; have HND := Hj hnd; have HBS := Hj hbase; have HCAP := Hj h1
       clear hmem hnd hrow' hbase hb h1 h2 h3 h4 hA hl0 hnn
       go_wp2_with (go_at_call 156; refine HQ.out.mono ?_; rintro e w3 ⟨rfl, d', hp, hs, hA3⟩)
       go_ret
       have hd := dictO_of hp hs HND.out HM2.out
       have hsz : d'.size = ss.length := by rw [hp.1]; simp
       have hlen : ss.length = (dictO l).length := by rw [← hd]; simp [hsz]
       have hh := hA3.holds (cap := cap) (by rw [hsz]; exact HCAP.out)
       rw [hd, hsz, hlen] at hh
       exact ⟨g, cap, by rw [← hlen]; rfl, Nat.le_of_succ_le HBS.out, hh, HKr.out.trans hA3.keeps (fun k hk e => by have := HBS.out; omega)⟩
     · intro x c kl ya yb w2 cnt2 hkey hlk hv hat hrg2 hlt hg2 hs2 hen
       obtain ⟨x', ex, rfl, hwf⟩ := Maps.keyOf_int_inv Tryz.underlying23 hkey
       obtain rfl : x = x' := by simpa using ex
       obtain ⟨z, rfl⟩ : ∃ z : Nat, x = (z : Int) := ⟨x.toNat, by
        have h0 := of_decide_eq_true (Bool.and_eq_true_iff.1 hwf).1
        have h1 : (0 : Int) ≤ x := h0
        omega⟩
       have HROW2 := Hj (HROW.out.kept hg2 (Or.inr (row_ne_iter HROW.out HRG.out).symm))
       have HK2 := Hj (HKr.out.grown hg2 (fun k hk e => by simp only [Option.some.injEq] at e; have := HBW.out; omega))
       have HRG2 := Hj hrg2; have HC2 := Hj (HC.out.step hlk hat); have HLT := Hj hlt; have HS2 := Hj hs2
       clear hs2 hrg2 hg2 hat hlk hv hkey hwf hlt ex
       go_wp2_with (first
        | (at_builtin; refine wpList_append_own _ rfl _ _ 55 rfl (w.heap.size + 1) 23 i0 (.int .u64 0) 1 8 Tryz.underlying55 hi hz0 hz1 hz2 rfl (by decide) _ _ _ rfl (HROW2.out.alloc _) ⟨w2.heap.size, 0, none⟩ 1 1 [.int .u64 (z : Int)] rfl rfl (cell_one_new _ _ _) (by simp [Value.oneCell']) (by have := HSZ.out; unfold maxLen; omega) (by have := HSZ.out; omega) (by have := HK2.out.size; simp; omega) ?_; intro v' w3 hown' hg3 hnil3)
        | go_in)
       have hrg3 := (HRG2.out.alloc _).kept hg3 (row_ne_low HROW2.out (show w.heap.size < w.heap.size + 1 by omega)) (row_ne_iter HROW2.out HRG2.out)
       go_roundw
       case rel =>
        refine ⟨_, cnt2, ss ++ [z], Hj hrg3, by have := HLT.out; simp; omega, Hj (by simpa [u64s] using hown'), fun hv' => by have := (hnil3.1 hv').2; omega, HC2, ?_⟩
        exact Hj ((HK2.out.alloc _).grown hg3 (fun k hk e => by have := (HROW2.out.lt k e).1; omega))
       case measure => rw [hrg3.left_eq, HRG.out.left_eq]; exact HLT.out
end
section
set_option maxHeartbeats 1000000
set_option maxRecDepth 100000
open Go.RowKit
def widthO (k : Nat) : Nat := if k < 1 then 0 else Lib.bitLen (k - 1)
theorem width_any (k : Nat) (w : World) (hk : k ≤ 1099511627776) : Calls Tryz.prog 106 #[.int .i64 (k : Int)] w fun e w' => e = .returned (.int .i64 ((widthO k : Nat) : Int)) ∧ w' = w := by
 by_cases h : k < 1
 · have hz : (k : Int) < 1 := by omega
   have HE : Hid (widthO k = 0) := Hj (by unfold widthO; rw [if_pos h])
   clear h
   go_enter Tryz.func106, Tryz.ntmps106
   go_wp2
   go_ret
   exact ⟨by rw [HE.out]; rfl, rfl⟩
 · have hz : ¬ (k : Int) < 1 := by omega
   obtain ⟨q, hq⟩ : ∃ q, k = q + 1 := ⟨k - 1, by omega⟩
   have eq1 : (k : Int) - 1 = (q : Int) := by omega
   have HE : Hid (widthO k = Lib.bitLen q) := Hj (by unfold widthO; rw [if_neg h, hq]; rfl)
   have HL : Hid (∀ w, Calls Tryz.prog 157 #[.int .u64 (q : Int)] w fun e w' => e = .returned (.int .i64 (Lib.bitLen q)) ∧ w' = w) := Hj (fun w => by
    have h := len_any (q : Int) w (by omega) (by omega)
    rwa [Int.toNat_natCast] at h)
   have hq0 : (q : Int) ≤ 1099511627776 := by omega
   clear hq h
   generalize Lib.bitLen q = m at *
   go_enter Tryz.func106, Tryz.ntmps106
   go_wp2_with (go_at_call 157; refine (HL.out _).mono ?_; rintro e w' ⟨rfl, rfl⟩)
   go_ret
   exact ⟨by rw [HE.out]; rfl, rfl⟩
theorem ubs_any (ad : Option Addr) (cap : Nat) (d : List Nat) (x k : Nat) (w : World) (h : Holds w (.slice ad d.length cap) (u64s d)) (hs : d.Pairwise (· < ·)) (hk : d[k]? = some x) (hl : d.length ≤ 1099511627776) :
 Calls Tryz.prog 107 #[.slice ad d.length cap, .int .u64 (x : Int)] w fun e w' => e = .returned (.tuple #[.int .i64 (k : Int), .bool true]) ∧ ∃ n, w' = w.drewN n := by
 have HH := Hj h; have HS := Hj hs; have HK := Hj hk
 have hkl : k < d.length := (List.getElem?_eq_some_iff.1 hk).1
 have HW : Hid (∃ n, w = w.drewN n) := Hj ⟨0, rfl⟩
 clear h hs hk
 go_enter Tryz.func107, Tryz.ntmps107
 go_wp2
 go_loopw [7, 8] (fun ci cj wr => ∃ (i j : Nat), ci = .int .i64 (i : Int) ∧ cj = .int .i64 (j : Int) ∧ i ≤ k ∧ k ≤ j ∧ j ≤ d.length ∧ Hid (∃ n, wr = w.drewN n)) (fun ci cj _ => (intOf cj - intOf ci).toNat)
 case atStart => exact ⟨0, d.length, rfl, rfl, Nat.zero_le _, by omega, Nat.le_refl _, HW⟩
 case round =>
  clear HW
  obtain ⟨i, j, rfl, rfl, hik, hkj, hjl, HW⟩ := hrel
  by_cases hlt : i < j
  · have hlti : (i : Int) < (j : Int) := by omega
    obtain ⟨m, hm⟩ : ∃ m, m = (i + j) / 2 := ⟨_, rfl⟩
    have e1 : ((i : Int) + (j : Int)) / 2 = (m : Int) := by omega
    have hsum : (i : Int) + (j : Int) ≤ 9999999999999 := by omega
    have hmj : m < j := by omega
    have him : i ≤ m := by omega
    have hml : (m : Int) < (d.length : Int) := by omega
    obtain ⟨y, hy⟩ : ∃ y, d[m]? = some y := ⟨d[m]'(by omega), by simp⟩
    obtain ⟨b, off, rfl, hcell⟩ : ∃ b off, ad = some ⟨b, off, none⟩ ∧ wr.cell? ⟨b, off + m, none⟩ = some (.int .u64 (y : Int)) := by
     obtain ⟨n, hn⟩ := HW.out
     obtain ⟨b, off, h1, h2⟩ := qdb HH.out hy
     exact ⟨b, off, h1, by rw [hn]; exact h2⟩
    have HM := Hj hm
    have hord : (ltN y x = true → m < k) ∧ (ltN y x = false → k ≤ m) := by
     have hp := List.pairwise_iff_getElem.1 HS.out
     obtain ⟨hk1, hk2⟩ := List.getElem?_eq_some_iff.1 HK.out
     obtain ⟨hm1, hm2⟩ := List.getElem?_eq_some_iff.1 hy
     refine ⟨fun hl => ?_, fun hl => ?_⟩
     · simp only [ltN, decide_eq_true_eq] at hl
       rcases Nat.lt_trichotomy m k with h | h | h
       · exact h
       · subst h; omega
       · have := hp k m hk1 hm1 h; omega
     · simp only [ltN, decide_eq_false_iff_not] at hl
       rcases Nat.lt_trichotomy m k with h | h | h
       · have := hp m k hm1 hk1 h; omega
       · omega
       · omega
    have HO := Hj hord
    clear hm hord hy
    cases hl : ltN y x with
    | true =>
      have hmk := HO.out.1 hl
      go_wp2_with (go_at_call 158; refine (qah _ _ _).mono ?_; rintro e w' ⟨rfl, rfl⟩)
      exact ⟨⟨m + 1, j, by simp, rfl, by omega, hkj, hjl, HW⟩, by simp [intOf]; omega⟩
    | false =>
      have hmk := HO.out.2 hl
      go_wp2_with (go_at_call 158; refine (qah _ _ _).mono ?_; rintro e w' ⟨rfl, rfl⟩)
      exact ⟨⟨i, m, rfl, rfl, hik, hmk, by omega, HW⟩, by simp [intOf]; omega⟩
  · have hge : ¬ (i : Int) < (j : Int) := by omega
    obtain rfl : i = k := by omega
    obtain rfl : j = i := by omega
    have hjs : (j : Int) < (d.length : Int) := by omega
    obtain ⟨b, off, rfl, hcell⟩ : ∃ b off, ad = some ⟨b, off, none⟩ ∧ wr.cell? ⟨b, off + j, none⟩ = some (.int .u64 (x : Int)) := by
     obtain ⟨n, hn⟩ := HW.out
     obtain ⟨b, off, h1, h2⟩ := qdb HH.out HK.out
     exact ⟨b, off, h1, by rw [hn]; exact h2⟩
    go_wp2
    go_ret2
    exact ⟨rfl, HW.out⟩
def size8 (l : List Nat) : Int := if 128 < (dictO l).length then -1 else if (dictO l).length = 0 then 0 else ((7 + (dictO l).length * 64 + l.length * widthO (dictO l).length : Nat) : Int)
theorem qin (k : Nat) (h : k ≤ 128) : widthO k ≤ 7 := by
 unfold widthO; split
 · omega
 · exact Lib.bitLen_le (k - 1) 7 (by omega) (by omega)
theorem size8_any (v : Value) (l : List Nat) (w : World) (hl : l.length ≤ 1000000000) (h : Holds w v (u64s l)) (hX : ∀ x ∈ l, x ≤ 18446744073709551615) :
 Calls Tryz.prog 49 #[v] w fun e w' => e = .returned (.int .i64 (size8 l)) ∧ Keeps (fun _ => False) w w' := by
 have HC := Hj (dict_any v l w h hl hX)
 have hdl := dictO_length l
 obtain ⟨ad, cp, hv, _, _⟩ := id h
 rw [qcg] at hv
 subst hv
 have HW := Hj (fun w => width_any (dictO l).length w (by omega))
 obtain ⟨k, hk⟩ : ∃ k, (dictO l).length = k := ⟨_, rfl⟩
 have HS : Hid (size8 l = if 128 < k then -1 else if k = 0 then 0 else ((7 + k * 64 + l.length * widthO k : Nat) : Int)) := Hj (by unfold size8; rw [hk])
 rw [hk] at HC HW hdl
 have HWL := Hj (qin k)
 clear h hX hk
 by_cases h1 : 128 < k
 · have h1' : (128 : Int) < (k : Int) := by omega
   have HE : Hid (size8 l = -1) := Hj (by rw [HS.out, if_pos h1])
   clear h1
   go_enter Tryz.func49, Tryz.ntmps49
   go_wp2_with (go_at_call 105; refine HC.out.mono ?_; rintro e w1 ⟨g, cap, rfl, hg, hh, hK⟩; have HK := Hj hK; clear hh hK hg)
   go_ret
   exact ⟨by rw [HE.out]; rfl, HK.out⟩
 · have h1' : ¬ (128 : Int) < (k : Int) := by omega
   by_cases h2 : k = 0
   · have HE : Hid (size8 l = 0) := Hj (by rw [HS.out, if_neg h1, if_pos h2])
     subst h2
     clear h1
     go_enter Tryz.func49, Tryz.ntmps49
     go_wp2_with (go_at_call 105; refine HC.out.mono ?_; rintro e w1 ⟨g, cap, rfl, hg, hh, hK⟩; have HK := Hj hK; clear hh hK hg)
     go_ret
     exact ⟨by rw [HE.out]; rfl, HK.out⟩
   · have h2' : ¬ (k : Int) = 0 := by omega
     obtain ⟨m, hm⟩ : ∃ m, m = widthO k := ⟨_, rfl⟩
     rw [← hm] at HS HW HWL
     have hm7 : m ≤ 7 := HWL.out (by omega)
     obtain ⟨t, ht⟩ : ∃ t, t = l.length * m := ⟨_, rfl⟩
     have ht0 : t ≤ l.length * 7 := by rw [ht]; exact Nat.mul_le_mul_left _ hm7
     have et : (l.length : Int) * (m : Int) = (t : Int) := by rw [ht]; simp
     have htb : (t : Int) ≤ 7000000000 := by omega
     have HE : Hid (size8 l = ((7 + k * 64 + t : Nat) : Int)) := Hj (by rw [HS.out, if_neg h1, if_neg h2, ht])
     clear h1 h2 hm ht
     go_enter Tryz.func49, Tryz.ntmps49
     go_wp2_with (first
      | (go_at_call 105; refine HC.out.mono ?_; rintro e w1 ⟨g, cap, rfl, hg, hh, hK⟩; have HK := Hj hK; clear hh hK hg)
      | (go_at_call 106; refine (HW.out _).mono ?_; rintro e w' ⟨rfl, rfl⟩))
     go_ret
     refine ⟨?_, HK.out⟩
     rw [HE.out]
     exact qdw (by push_cast; omega)
end
section
set_option maxHeartbeats 4000000
set_option maxRecDepth 100000
open Go.RowKit
def words8 (d : List Nat) : List Bool := d.flatMap fun x => qab x 64
def index8 (d l : List Nat) : List Bool := l.flatMap fun x => qab (d.idxOf x) (widthO d.length)
def enc8 (l : List Nat) : List Bool := qab ((dictO l).length - 1) 7 ++ words8 (dictO l) ++ index8 (dictO l) l
theorem flat_snoc {α : Type} (f : α → List Bool) {d : List α} {j : Nat} {x : α} (h : d[j]? = some x) : (d.take (j + 1)).flatMap f = (d.take j).flatMap f ++ f x := by
 rw [List.take_add_one, h, List.flatMap_append]
 simp
theorem qio {α : Type} (f : α → List Bool) (m : Nat) (h : ∀ x, (f x).length = m) (d : List α) : (d.flatMap f).length = m * d.length := by
 induction d with
 | nil => simp
 | cons x r ih => rw [List.flatMap_cons, List.length_append, ih, h, List.length_cons, Nat.mul_add]; omega
theorem qea (d : List Nat) : (words8 d).length = 64 * d.length := qio _ 64 (fun x => qad x 64) d
theorem qge (d l : List Nat) : (index8 d l).length = widthO d.length * l.length := qio _ _ (fun _ => qad _ _) l
theorem Wrote.start {base p : Nat} {v0 : Value} {l : List Bool} {w w1 : World} (h : IsW w base p v0 l) (hk : Keeps (fun _ => False) w w1) : IsW w1 base p v0 l := h.keeps hk (fun h => h) (fun _ _ h => h)
theorem Wrote.front {base p : Nat} {v0 : Value} {l : List Bool} {w w1 w2 : World} (hk : Keeps (fun _ => False) w w1) (h : Wrote base p v0 l w1 w2) : Wrote base p v0 l w w2 := by
 obtain ⟨v', h1, h2, h3⟩ := h
 exact ⟨v', h1, (hk.mono (S' := foot p v0) (fun _ _ e => e.elim)).trans h2 (fun _ _ e => e), fun g hg => (h3 g hg).imp id (fun e => Nat.le_trans hk.size e)⟩
theorem put8_any (base p : Nat) (v0 v : Value) (bits : List Bool) (l : List Nat) (w : World) (hW : IsW w base p v0 bits) (hb0 : base ≤ w.heap.size) (hbits : bits.length ≤ 1000000000) (hl : l.length ≤ 1000000000) (hX : ∀ x ∈ l, x ≤ 18446744073709551615)
 (h : Holds w v (u64s l)) (hap : ∀ k, ownH v l k → ¬ foot p v0 k) (hne : l ≠ []) (hk : (dictO l).length ≤ 128) :
 Calls Tryz.prog 50 #[.pointer (some ⟨p, 0, none⟩), v] w fun e w' => e = .returned (.int .i64 0) ∧ Wrote base p v0 (bits ++ enc8 l) w w' := by
 have HC := Hj (dict_any v l w h hl hX)
 have hkpos := dictO_pos hne
 have hlpos := List.length_pos_iff.2 hne
 have HDX : Hid (∀ x ∈ dictO l, x ≤ 18446744073709551615) := Hj (fun x hx => hX x ((qga x l).1 hx))
 have HDS := Hj (qhh l)
 have HMEM : Hid (∀ x ∈ l, x ∈ dictO l) := Hj (fun x hx => (qga x l).2 hx)
 obtain ⟨ad, cp, hv, _, _⟩ := id h
 rw [qcg] at hv
 subst hv
 have HH := Hj h; have HX := Hj hX; have HAP := Hj hap; have HW := Hj hW; have HB0 := Hj hb0; have HNE := Hj hne
 have hpl := hW.lt
 have hvl : ∀ k, v0.ownBlock = some k → k < w.heap.size := fun k hk => hW.own_lt hk
 have HPL := Hj hpl; have HVL := Hj hvl
 have HEN : Hid (enc8 l = qab ((dictO l).length - 1) 7 ++ words8 (dictO l) ++ index8 (dictO l) l) := Hj rfl
 generalize dictO l = d at *
 obtain ⟨k, hkd⟩ : ∃ k, d.length = k := ⟨_, rfl⟩
 obtain ⟨m, hm⟩ : ∃ m, m = widthO k := ⟨_, rfl⟩
 have hm7 : m ≤ 7 := by rw [hm]; exact qin k (by omega)
 have HWD := Hj (fun w => width_any k w (by omega))
 rw [← hm] at HWD
 rw [hkd] at HC
 obtain ⟨q, hq⟩ : ∃ q, k = q + 1 := ⟨k - 1, by omega⟩
 have eq1 : (k : Int) - 1 = (q : Int) := by omega
 have HEQ : Hid (enc8 l = qab q 7 ++ words8 d ++ index8 d l) := Hj (by rw [HEN.out, hkd, hq]; rfl)
 have HKD := Hj hkd; have HM := Hj hm; have HQ := Hj hq
 have hk1 : ¬ (128 : Int) < (k : Int) := by omega
 have hl1 : ¬ (l.length : Int) = 0 := by omega
 have hqb : (q : Int) ≤ 127 := by omega
 clear h hX hap hW hb0 hpl hvl hkd hm hq hkpos hlpos HEN hne
 go_enter Tryz.func50, Tryz.ntmps50
 go_wp2_with (first
  | (go_at_call 105; refine HC.out.mono ?_; rintro e w1 ⟨g, cap, rfl, hg, hh, hK⟩; have HK := Hj hK; have HD := Hj hh; have HG := Hj hg; have HW1 := Hj (Wrote.start HW.out hK); have HS1 := Hj hK.size; clear hh hK hg)
  | (go_at_call 22; refine (qbp base p v0 bits q 7 _ HW1.out (by omega) (by decide) (by omega) (Nat.le_trans HB0.out HS1.out)).mono ?_; rintro e w2 ⟨rfl, hw2⟩))
 have HWR := Hj hw2
 clear hw2
 have HHL := Hj (HH.out.keeps HK.out (fun _ _ h => h))
 have hfd : ∀ z, (Value.slice (some ⟨g, 0, none⟩) k cap).ownBlock = some z → ¬ foot p v0 z := fun z hz e => by
  simp only [Value.ownBlock, Option.some.injEq] at hz
  have h1 := HG.out
  rcases e with e | e
  · have := HPL.out; omega
  · have := HVL.out z e; omega
 have hfl : ∀ z, (Value.slice ad l.length cp).ownBlock = some z → ¬ foot p v0 z := fun z hz => HAP.out z ⟨HNE.out, hz⟩
 have HFD := Hj hfd; have HFL := Hj hfl
 clear hfd hfl
 have HSTEP : Hid (∀ (L : List Bool) (x n : Nat) (wr : World), Wrote base p v0 L w1 wr → x ≤ 18446744073709551615 → n ≤ 64 → L.length ≤ 1099511627776 →
  Calls Tryz.prog 22 #[.pointer (some ⟨p, 0, none⟩), .int .u64 (x : Int), .int .i64 (n : Int)] wr fun e w' => e = .returned (.int .i64 0) ∧ Wrote base p v0 (L ++ qab x n) w1 w') := Hj (fun L x n wr hwr hx hn hL => by
  obtain ⟨v', h1, h2, h3⟩ := hwr
  refine (qbp base p v' L x n wr h1 hx hn hL (Nat.le_trans HB0.out (Nat.le_trans HS1.out h2.size))).mono ?_
  rintro e w' ⟨rfl, h4⟩
  exact ⟨rfl, Wrote.trans h2 h3 h4⟩)
 clear HC
 go_loopw [33] (fun c wr => ∃ j : Nat, c = .int .i64 (j : Int) ∧ j ≤ k ∧ Hid (Wrote base p v0 (bits ++ qab q 7 ++ words8 (d.take j)) w1 wr)) (fun c _ => k - (intOf c).toNat)
 case atStart => exact ⟨0, rfl, Nat.zero_le _, Hj (by rw [List.take_zero]; simpa [words8] using HWR.out)⟩
 case round =>
  clear HWR
  obtain ⟨j, rfl, hjk, HWR⟩ := hrel
  by_cases hlt : j < k
  · have hlti : (j : Int) < (k : Int) := by omega
    obtain ⟨x, hx⟩ : ∃ x, d[j]? = some x := ⟨d[j]'(by have := HKD.out; omega), by simp⟩
    have hx64 := HDX.out x (List.mem_of_getElem? hx)
    obtain ⟨_, _, hk2, _⟩ := id HWR.out
    have hD2 := HD.out.keeps hk2 HFD.out
    rw [← HKD.out] at hD2
    obtain ⟨b, off, hbo, hcell⟩ := qdb hD2 hx
    simp only [Option.some.injEq, Addr.mk.injEq, and_true] at hbo
    obtain ⟨rfl, rfl⟩ := hbo
    rw [Nat.zero_add] at hcell
    have HCL := Hj (HSTEP.out _ x 64 _ HWR.out hx64 (by decide) (by rw [List.length_append, List.length_append, qad, qea, List.length_take]; omega))
    have HN : Hid (bits ++ qab q 7 ++ words8 (d.take (j + 1)) = bits ++ qab q 7 ++ words8 (d.take j) ++ qab x 64) := Hj (by unfold words8; rw [flat_snoc _ hx]; simp only [List.append_assoc])
    clear hx hx64 hk2 hD2
    go_wp2_with (go_at_call 22; refine HCL.out.mono ?_; rintro e w3 ⟨rfl, hw3⟩)
    exact ⟨⟨j + 1, by simp, by omega, Hj (by rw [HN.out]; exact hw3)⟩, by simp [intOf]; omega⟩
  · obtain rfl : j = k := by omega
    have HWQ : Hid (Wrote base p v0 (bits ++ qab q 7 ++ words8 d) w1 wr) := Hj (by have := HWR.out; rwa [List.take_of_length_le (by have := HKD.out; omega)] at this)
    clear HWR
    go_wp2
    go_loopw [43] (fun c wr => ∃ i : Nat, c = .int .i64 (i : Int) ∧ i ≤ l.length ∧ Hid (Wrote base p v0 (bits ++ qab q 7 ++ words8 d ++ index8 d (l.take i)) w1 wr)) (fun c _ => l.length - (intOf c).toNat)
    case atStart => exact ⟨0, rfl, Nat.zero_le _, Hj (by rw [List.take_zero]; simpa [index8] using HWQ.out)⟩
    case round =>
     clear HWQ
     obtain ⟨i, rfl, hil, HWR⟩ := hrel
     by_cases hlt : i < l.length
     · have hlti : (i : Int) < (l.length : Int) := by omega
       obtain ⟨x, hx⟩ : ∃ x, l[i]? = some x := ⟨l[i], by simp⟩
       have hmx := HMEM.out x (List.mem_of_getElem? hx)
       obtain ⟨_, _, hk2, _⟩ := id HWR.out
       have hD2 := HD.out.keeps hk2 HFD.out
       rw [← HKD.out] at hD2
       have hL2 := HHL.out.keeps hk2 HFL.out
       obtain ⟨b, off, hbo, hcell⟩ := qdb hL2 hx
       obtain ⟨z, hz⟩ : ∃ z, d.idxOf x = z := ⟨_, rfl⟩
       have hzl : z < d.length := by rw [← hz]; exact List.idxOf_lt_length_iff.2 hmx
       have hdz : d[z]? = some x := by rw [← hz]; simp [List.idxOf_lt_length_iff.2 hmx]
       have HBS := Hj (ubs_any _ cap d x z _ hD2 HDS.out hdz (by omega))
       rw [HKD.out] at HBS hzl
       have HN : Hid (bits ++ qab q 7 ++ words8 d ++ index8 d (l.take (i + 1)) = bits ++ qab q 7 ++ words8 d ++ index8 d (l.take i) ++ qab z m) := Hj (by
        unfold index8; rw [flat_snoc _ hx, hz, HKD.out, ← HM.out]; simp only [List.append_assoc])
       have HLB : Hid ((bits ++ qab q 7 ++ words8 d ++ index8 d (l.take i)).length ≤ 1099511627776) := Hj (by
        rw [List.length_append, List.length_append, List.length_append, qad, qea, qge, List.length_take, HKD.out, ← HM.out]
        have : m * min i l.length ≤ 7 * 1000000000 := Nat.mul_le_mul hm7 (by omega)
        omega)
       have hz0 : (z : Int) ≤ 128 := by omega
       subst hbo
       clear hx hmx hk2 hD2 hL2 hz hdz hzl
       go_wp2_with (first
        | (go_at_call 107; refine HBS.out.mono ?_; rintro e w3 ⟨rfl, n3, rfl⟩)
        | (go_at_call 106; refine (HWD.out _).mono ?_; rintro e w' ⟨rfl, rfl⟩)
        | (go_at_call 22; refine (HSTEP.out _ z m _ (show Wrote base p v0 _ w1 (_ : World) from by obtain ⟨v', h1, h2, h3⟩ := HWR.out; exact ⟨v', ⟨h1.blk, h1.row, h1.base⟩, h2.drewN _, h3⟩) (by omega) (by omega) HLB.out).mono ?_; rintro e w4 ⟨rfl, hw4⟩))
       exact ⟨⟨i + 1, by simp, by omega, Hj (by rw [HN.out]; exact hw4)⟩, by simp [intOf]; omega⟩
     · obtain rfl : i = l.length := by omega
       go_wp2
       go_ret
       refine ⟨rfl, ?_⟩
       rw [HEQ.out]
       have := HWR.out
       rw [List.take_length] at this
       have h2 := Wrote.front HK.out this
       simpa only [List.append_assoc] using h2
end
section
open Go.RowKit
def enc7 (l : List Nat) : List Bool := qay (runsOf l)
theorem enc7_length (l : List Nat) : (enc7 l).length ≤ 71 * l.length := by
 unfold enc7; rw [qce]; have := qee l; omega
theorem put7_any (base p : Nat) (v0 v : Value) (bits : List Bool) (l : List Nat) (w : World) (hW : IsW w base p v0 bits) (hb0 : base ≤ w.heap.size) (hbits : bits.length ≤ 1000000000) (hl : l.length ≤ 1000000000) (hX : ∀ x ∈ l, x ≤ 18446744073709551615)
 (h : Holds w v (u64s l)) (hap : ∀ k, ownH v l k → ¬ foot p v0 k) :
 Calls Tryz.prog 47 #[.pointer (some ⟨p, 0, none⟩), v] w fun e w' => e = .returned (.int .i64 0) ∧ Wrote base p v0 (bits ++ enc7 l) w w' := put_any base p v0 v bits l w hW hb0 hbits hl hX h hap
theorem size7_any (v : Value) (l : List Nat) (w : World) (hl : l.length ≤ 1099511627776) (h : Holds w v (u64s l)) :
 Calls Tryz.prog 46 #[v] w fun e w' => e = .returned (.int .i64 (((enc7 l).length : Nat) : Int)) ∧ Keeps (fun _ => False) w w' := by
 unfold enc7; rw [qce]; exact size_any v l w hl h
end
section
open Go.RowKit
theorem put6_any (base p : Nat) (v0 v : Value) (bits : List Bool) (l : List Nat) (w : World) (hW : IsW w base p v0 bits) (hb0 : base ≤ w.heap.size) (hbits : bits.length ≤ 1000000000) (hl : l.length ≤ 1000000000) (hX : ∀ x ∈ l, x ≤ 18446744073709551615)
 (h : Holds w v (u64s l)) (hap : ∀ k, ownH v l k → ¬ foot p v0 k) (hT : TabZ w) (hbase : 2 < base) :
 Calls Tryz.prog 44 #[.pointer (some ⟨p, 0, none⟩), v] w fun e w' => e = .returned (.int .i64 0) ∧ Wrote base p v0 (bits ++ enc6 l) w w' := xput_any base p v0 v bits l w hW hb0 hbits hl hX h hap hT hbase
theorem size6_any (v : Value) (l : List Nat) (w : World) (hl : l.length ≤ 1000000000) (h : Holds w v (u64s l)) (hX : ∀ x ∈ l, x ≤ 18446744073709551615) (hT : TabZ w) :
 Calls Tryz.prog 43 #[v] w fun e w' => e = .returned (.int .i64 (((enc6 l).length : Nat) : Int)) ∧ Keeps (fun _ => False) w w' := xsize_any v l w hl h hX hT
end
section
open Go.RowKit Go.Maps
end
section
open Go.RowKit Go.Maps
end
section
set_option maxHeartbeats 4000000
set_option maxRecDepth 100000
open Go.RowKit
theorem qae {P : Program} (w : World) {ops : Array Oper} {rest : List Oper} {o : Oper} {a : Act} {Q : Exit → Act → World → Prop} (hgd : o.guard = none) (t : TypeId) (x i : Operand) (ho : o.op = .index t x i)
 (u z v : Value) (hx : a.eval x = u) (hi : a.eval i = z) (hrun : (Instr.index t u z).run P w = .ok v w) (h : wpList P ops Q rest (a.put o.dst v) w) : wpList P ops Q (o :: rest) a w :=
 wpList_plain hgd fun K hK => by
  unfold Oper.wp
  simp [execOp, ho, hx, hi, hrun, Result.andThen]
  exact hK _ _ h
theorem qef (w : World) : Calls Tryz.prog 24 #[] w fun e w' => e = .returned (.agg #[.func (.func 43) #[] #[], .func (.func 44) #[] #[], .func (.func 45) #[] #[], .func (.func 46) #[] #[], .func (.func 47) #[] #[], .func (.func 48) #[] #[], .func (.func 49) #[] #[], .func (.func 50) #[] #[], .func (.func 51) #[] #[]]) ∧ Keeps (fun _ => False) w w' := by
 go_enter Tryz.func24, Tryz.ntmps24
 go_wp2
 refine bodyPost_ret (results_cell_row Tryz.results24 _ _ w.heap.size 65 _ (0, 0) _ rfl (heap_alloc_new w _) Tryz.underlying65 rfl (by kernel_rfl)) rfl ⟨rfl, (Keeps.refl _ _).alloc _⟩
theorem sizes_any (v : Value) (l : List Nat) (w : World) (hl : l.length ≤ 1000000000) (h : Holds w v (u64s l)) (hX : ∀ x ∈ l, x ≤ 18446744073709551615) (hT : TabZ w) :
 Calls Tryz.prog 40 #[v] w fun e w' => e = .returned (.agg #[.int .i64 (((enc6 l).length : Nat) : Int), .int .i64 (((enc7 l).length : Nat) : Int), .int .i64 (size8 l)]) ∧ Keeps (fun _ => False) w w' := by
 have C6 := Hj (fun wq (hk : Keeps (fun _ => False) w wq) => size6_any v l wq hl (h.keeps hk (fun _ _ e => e)) hX (hT.keeps hk (fun e => e)))
 have C7 := Hj (fun wq (hk : Keeps (fun _ => False) w wq) => size7_any v l wq (by omega) (h.keeps hk (fun _ _ e => e)))
 have C8 := Hj (fun wq (hk : Keeps (fun _ => False) w wq) => size8_any v l wq hl (h.keeps hk (fun _ _ e => e)) hX)
 obtain ⟨S6, hS6⟩ : ∃ S6 : Int, S6 = (((enc6 l).length : Nat) : Int) := ⟨_, rfl⟩
 obtain ⟨S7, hS7⟩ : ∃ S7 : Int, S7 = (((enc7 l).length : Nat) : Int) := ⟨_, rfl⟩
 rw [← hS6] at C6 ⊢
 rw [← hS7] at C7 ⊢
 generalize size8 l = S8 at C8 ⊢
 obtain ⟨W0, hW0⟩ : ∃ W0, W0 = (w.alloc (.cells #[.int .i64 0, .int .i64 0, .int .i64 0] 99)).alloc (.cells #[.int .i64 0, .int .i64 0, .int .i64 0] 99) := ⟨_, rfl⟩
 have hk0 : Keeps (fun _ => False) w W0 := by rw [hW0]; exact ((Keeps.refl _ _).alloc _).alloc _
 have hA0 : W0.heap[w.heap.size + 1]? = some (.cells #[.int .i64 0, .int .i64 0, .int .i64 0] 99 (0, 0)) := by rw [hW0]; exact heap_alloc2_new w _ _
 have hB0 : W0.heap[w.heap.size]? = some (.cells #[.int .i64 0, .int .i64 0, .int .i64 0] 99 (0, 0)) := by rw [hW0]; exact (Below.heap_alloc _ _ _ (by simp)).trans (heap_alloc_new w _)
 have HK0 := Hj hk0; have HA0 := Hj hA0; have HB0 := Hj hB0
 have HCE := Hj (qef W0)
 clear hk0 hA0 hB0 h hX hT hS6 hS7
 go_enter Tryz.func40, Tryz.ntmps40
 go_wp2_with (go_at_call 24; rw [← hW0]; refine HCE.out.mono ?_; rintro e w1 ⟨rfl, hk1⟩; have HK1 := Hj (HK0.out.trans hk1 (fun _ _ e => e)); have HA1 := Hj (hk1.heap HA0.out (fun e => e)); have HB1 := Hj (hk1.heap HB0.out (fun e => e)); clear hk1)
 clear hW0 HA0 HB0 HK0 HCE
 go_loopw [7] (fun c wr => ∃ (i : Nat), c = .int .i64 (i : Int) ∧ i ≤ 3 ∧ Hid (Keeps (fun _ => False) w wr) ∧ Hid (wr.heap[w.heap.size]? = some (.cells #[.int .i64 0, .int .i64 0, .int .i64 0] 99 (0, 0))) ∧
  Hid (wr.heap[w.heap.size + 1]? = some (.cells #[.int .i64 (if 0 < i then S6 else 0), .int .i64 (if 1 < i then S7 else 0), .int .i64 (if 2 < i then S8 else 0)] 99 (0, 0)))) (fun c _ => 3 - (intOf c).toNat)
 case atStart => exact ⟨0, rfl, by omega, HK1, HB1, HA1⟩
 case round =>
  clear HK1 HA1 HB1
  obtain ⟨i, rfl, hi3, HK, HB, HA⟩ := hrel
  rcases (by omega : i = 0 ∨ i = 1 ∨ i = 2 ∨ i = 3) with rfl | rfl | rfl | rfl
  · go_wp2_with (first | (refine qae _ rfl 65 _ _ rfl _ _ (.agg #[.func (.func 43) #[] #[], .func (.func 44) #[] #[], .func (.func 45) #[] #[]]) rfl rfl rfl ?_) | (go_at_call 43; refine (C6.out _ (HK.out.alloc _)).mono ?_; rintro e w2 ⟨rfl, hk2⟩; have hA2 := hk2.heap (((Keeps.refl (fun _ => False) wr).alloc _).heap HA.out (fun e => e)) (fun e => e); have hB2 := hk2.heap (((Keeps.refl (fun _ => False) wr).alloc _).heap HB.out (fun e => e)) (fun e => e); have HA2 := Hj hA2; have HB2 := Hj hB2; have HK2 := Hj ((HK.out.alloc _).trans hk2 (fun _ _ e => e)); have c0 : w2.cell? ⟨w.heap.size + 1, 0, none⟩ = _ := cell_of_row _ _ _ _ _ _ hA2; have f0 : w2.frozen? ⟨w.heap.size + 1, 0, none⟩ = false := frozen_of_row _ _ _ _ _ hA2; clear hk2 hA2 hB2))
    exact ⟨⟨1, rfl, by omega, Hj (HK2.out.setCell (p := ⟨w.heap.size + 1, 0, none⟩) (fun h => by simp at h; omega) _), Hj (((Keeps.refl (fun k => k = w.heap.size + 1) w2).setCell (p := ⟨w.heap.size + 1, 0, none⟩) (fun _ => rfl) _).heap HB2.out (by omega)), Hj (heap_setCell_same _ _ _ _ _ _ HA2.out)⟩, by simp [intOf]⟩
  · go_wp2_with (first | (refine qae _ rfl 65 _ _ rfl _ _ (.agg #[.func (.func 46) #[] #[], .func (.func 47) #[] #[], .func (.func 48) #[] #[]]) rfl rfl rfl ?_) | (go_at_call 46; refine (C7.out _ (HK.out.alloc _)).mono ?_; rintro e w2 ⟨rfl, hk2⟩; have hA2 := hk2.heap (((Keeps.refl (fun _ => False) wr).alloc _).heap HA.out (fun e => e)) (fun e => e); have hB2 := hk2.heap (((Keeps.refl (fun _ => False) wr).alloc _).heap HB.out (fun e => e)) (fun e => e); have HA2 := Hj hA2; have HB2 := Hj hB2; have HK2 := Hj ((HK.out.alloc _).trans hk2 (fun _ _ e => e)); have c0 : w2.cell? ⟨w.heap.size + 1, 1, none⟩ = _ := cell_of_row _ _ _ _ _ _ hA2; have f0 : w2.frozen? ⟨w.heap.size + 1, 1, none⟩ = false := frozen_of_row _ _ _ _ _ hA2; clear hk2 hA2 hB2))
    exact ⟨⟨2, rfl, by omega, Hj (HK2.out.setCell (p := ⟨w.heap.size + 1, 1, none⟩) (fun h => by simp at h; omega) _), Hj (((Keeps.refl (fun k => k = w.heap.size + 1) w2).setCell (p := ⟨w.heap.size + 1, 1, none⟩) (fun _ => rfl) _).heap HB2.out (by omega)), Hj (heap_setCell_same _ _ _ _ _ _ HA2.out)⟩, by simp [intOf]⟩
  · go_wp2_with (first | (refine qae _ rfl 65 _ _ rfl _ _ (.agg #[.func (.func 49) #[] #[], .func (.func 50) #[] #[], .func (.func 51) #[] #[]]) rfl rfl rfl ?_) | (go_at_call 49; refine (C8.out _ (HK.out.alloc _)).mono ?_; rintro e w2 ⟨rfl, hk2⟩; have hA2 := hk2.heap (((Keeps.refl (fun _ => False) wr).alloc _).heap HA.out (fun e => e)) (fun e => e); have hB2 := hk2.heap (((Keeps.refl (fun _ => False) wr).alloc _).heap HB.out (fun e => e)) (fun e => e); have HA2 := Hj hA2; have HB2 := Hj hB2; have HK2 := Hj ((HK.out.alloc _).trans hk2 (fun _ _ e => e)); have c0 : w2.cell? ⟨w.heap.size + 1, 2, none⟩ = _ := cell_of_row _ _ _ _ _ _ hA2; have f0 : w2.frozen? ⟨w.heap.size + 1, 2, none⟩ = false := frozen_of_row _ _ _ _ _ hA2; clear hk2 hA2 hB2))
    exact ⟨⟨3, rfl, by omega, Hj (HK2.out.setCell (p := ⟨w.heap.size + 1, 2, none⟩) (fun h => by simp at h; omega) _), Hj (((Keeps.refl (fun k => k = w.heap.size + 1) w2).setCell (p := ⟨w.heap.size + 1, 2, none⟩) (fun _ => rfl) _).heap HB2.out (by omega)), Hj (heap_setCell_same _ _ _ _ _ _ HA2.out)⟩, by simp [intOf]⟩
  · have a0 : wr.cell? ⟨w.heap.size + 1, 0, none⟩ = some (.int .i64 S6) := by rw [cell_of_row _ _ _ _ _ _ HA.out]; rfl
    have a1 : wr.cell? ⟨w.heap.size + 1, 1, none⟩ = some (.int .i64 S7) := by rw [cell_of_row _ _ _ _ _ _ HA.out]; rfl
    have a2 : wr.cell? ⟨w.heap.size + 1, 2, none⟩ = some (.int .i64 S8) := by rw [cell_of_row _ _ _ _ _ _ HA.out]; rfl
    have h1 := heap_setCell_same wr w.heap.size 0 _ _ (.int .i64 S6) HB.out
    have h2 := heap_setCell_same _ w.heap.size 1 _ _ (.int .i64 S7) h1
    have h3 := heap_setCell_same _ w.heap.size 2 _ _ (.int .i64 S8) h2
    have b0 : wr.cell? ⟨w.heap.size, 0, none⟩ = some (.int .i64 0) := by rw [cell_of_row _ _ _ _ _ _ HB.out]; rfl
    have b1 : (wr.setCell ⟨w.heap.size, 0, none⟩ (.int .i64 S6)).cell? ⟨w.heap.size, 1, none⟩ = some (.int .i64 0) := by rw [cell_of_row _ _ _ _ _ _ h1]; rfl
    have b2 : ((wr.setCell ⟨w.heap.size, 0, none⟩ (.int .i64 S6)).setCell ⟨w.heap.size, 1, none⟩ (.int .i64 S7)).cell? ⟨w.heap.size, 2, none⟩ = some (.int .i64 0) := by rw [cell_of_row _ _ _ _ _ _ h2]; rfl
    have f0 : wr.frozen? ⟨w.heap.size, 0, none⟩ = false := frozen_of_row _ _ _ _ _ HB.out
    have f1 : (wr.setCell ⟨w.heap.size, 0, none⟩ (.int .i64 S6)).frozen? ⟨w.heap.size, 1, none⟩ = false := frozen_of_row _ _ _ _ _ h1
    have f2 : ((wr.setCell ⟨w.heap.size, 0, none⟩ (.int .i64 S6)).setCell ⟨w.heap.size, 1, none⟩ (.int .i64 S7)).frozen? ⟨w.heap.size, 2, none⟩ = false := frozen_of_row _ _ _ _ _ h2
    have H3 := Hj h3
    clear h1 h2 h3
    go_wp2
    refine bodyPost_ret (results_cell_row Tryz.results40 _ _ w.heap.size 99 _ (0, 0) _ rfl H3.out Tryz.underlying99 rfl (by kernel_rfl)) rfl ⟨rfl, ?_⟩
    exact ((HK.out.setCell (p := ⟨w.heap.size, 0, none⟩) (fun h => by simp at h) _).setCell (p := ⟨w.heap.size, 1, none⟩) (fun h => by simp at h) _).setCell (p := ⟨w.heap.size, 2, none⟩) (fun h => by simp at h) _
end
section
set_option maxHeartbeats 1000000
set_option maxRecDepth 100000
open Go.RowKit
attribute [local go_sem ↓] Go.wp_at_zero Go.wp_at_succ
def strsL (l : List Lab) : List ByteArray := l.flatMap fun x => [x.1, x.2]
theorem qci (l : List Lab) : (strsL l).length = 2 * l.length := by
 induction l with
 | nil => rfl
 | cons x r ih => simp only [strsL, List.flatMap_cons, List.length_append, List.length_cons, List.length_nil] at ih ⊢; omega
theorem qkq (l : List Lab) {k : Nat} {x : Lab} (h : l[k]? = some x) : strsL (l.take (k + 1)) = strsL (l.take k) ++ [x.1, x.2] := by
 rw [List.take_add_one, h]
 simp [strsL]
theorem qbr {a b : World} {base n k : Nat} {e : TypeId} {v : Value} {xs : List Value} (h : a.ownsRow base e k v n xs) (hb : Below a.heap.size a b) : b.ownsRow base e k v n xs := (Keeps.ofBelow hb).row h (fun _ _ e => e)
theorem qdd (a b : List ByteArray) : strC (a ++ b) = strC a ++ strC b := by simp [strC]
def halfS (x : Lab) : Nat → List ByteArray
 | 0 => []
 | 1 => [x.1]
 | _ => [x.1, x.2]
theorem lstr_any (v : Value) (l : List Lab) (w : World) (h : RdL w v l) (hl : l.length ≤ 1099511627776) :
 Calls Tryz.prog 120 #[v] w fun e w' => ∃ v', e = .returned v' ∧ w'.ownsRow w.heap.size 9 1 v' (2 * l.length) (strC (strsL l)) ∧ Below w.heap.size w w' := by
 have HH := Hj h
 obtain ⟨ad, cap, rfl, hcap⟩ := h.slice
 clear h
 go_enter Tryz.func120, Tryz.ntmps120
 go_wp2
 go_loopw [3, 10] (fun o i wr => ∃ k : Nat, k ≤ l.length ∧ i = .int .i64 (k : Nat) ∧ Hid (wr.ownsRow w.heap.size 9 1 o (2 * k) (strC (strsL (l.take k)))) ∧ Hid (Below w.heap.size w wr)) (fun _ i _ => l.length - (intOf i).toNat)
 case atStart => exact ⟨0, by omega, rfl, Hj (World.ownsRow_nil _ _ _ _), Hj (Below.refl _ _)⟩
 case round =>
  obtain ⟨k, hk, rfl, HO, HB⟩ := hrel
  obtain ⟨wo, rfl⟩ : ∃ wo, wo = wr := ⟨_, rfl⟩
  by_cases hlt : k < l.length
  · obtain ⟨⟨x, y⟩, hx⟩ := qaj hlt
    obtain ⟨b1, o1, rfl, c1, c2⟩ := (HH.out.below HB.out).at hx
    have hklt : (k : Int) < l.length := by omega
    have hk0 : (0 : Int) ≤ (k : Int) := by omega
    have HX := Hj (qkq l hx)
    have HLT := Hj hlt
    obtain ⟨W1, hW1⟩ : ∃ W1, W1 = wo.alloc (.cells #[.string x, .string y] 94) := ⟨_, rfl⟩
    have hr1 : W1.heap[wo.heap.size]? = some (.cells #[.string x, .string y] 94 (0, 0)) := by rw [hW1]; exact heap_alloc_new wo _
    have hb1 : Below w.heap.size w W1 := by rw [hW1]; exact HB.out.alloc HB.out.size _
    have ho1 : W1.ownsRow w.heap.size 9 1 u3 (2 * k) (strC (strsL (l.take k))) := by rw [hW1]; exact HO.out.alloc _
    have hs1 : W1.heap.size = wo.heap.size + 1 := by rw [hW1]; simp
    have HR1 := Hj hr1; have HB1 := Hj hb1; have HO1 := Hj ho1; have HS1 := Hj hs1; have HW1 := Hj hW1
    have HSZ := Hj HB.out.size
    clear hx hlt hr1 hb1 ho1 hs1 hW1 HO HB
    go_wp2_with (go_at_call 166; rw [← HW1.out]; refine (qig _).mono ?_; rintro e w2 ⟨rfl, hb2⟩; have HB2 := Hj hb2; clear hb2)
    go_loopw [3, 15] (fun o i w3 => ∃ j : Nat, j ≤ 2 ∧ i = .int .i64 (j : Nat) ∧ Hid (w3.ownsRow w.heap.size 9 1 o (2 * k + j) (strC (strsL (l.take k) ++ halfS (x, y) j))) ∧ Hid (w3.heap[wo.heap.size]? = some (.cells #[.string x, .string y] 94 (0, 0))) ∧ Hid (Below w.heap.size w w3)) (fun _ i _ => 2 - (intOf i).toNat)
    case atStart => exact ⟨0, by omega, rfl, Hj (by rw [halfS, List.append_nil]; exact qbr HO1.out HB2.out), Hj ((HB2.out.block _ (Array.getElem?_eq_some_iff.1 HR1.out).1).trans HR1.out), Hj (HB1.out.trans (HB2.out.mono HB1.out.size))⟩
    case round =>
     clear HO1 HB1 HR1 HB2
     obtain ⟨j, hj, rfl, HO3, HR3, HB3⟩ := hrel
     rcases (by omega : j = 0 ∨ j = 1 ∨ j = 2) with rfl | rfl | rfl
     · have hx0 := fun w => ix0 (.func (.func 202) #[] #[]) (.func (.func 203) #[] #[]) w
       have hf0 := fun w => fd0 202 w
       obtain ⟨W4, hW4⟩ : ∃ W4, W4 = wr.alloc (.cells #[.func (.func 202) #[] #[]] 285) := ⟨_, rfl⟩
       have hr4 : W4.heap[wo.heap.size]? = some (.cells #[.string x, .string y] 94 (0, 0)) := by rw [hW4]; exact (Below.heap_alloc _ _ _ (Array.getElem?_eq_some_iff.1 HR3.out).1).trans HR3.out
       have e1 : W4.cell? ⟨wo.heap.size, 0, none⟩ = some (.string x) := by rw [cell_of_row _ _ _ _ _ _ hr4]; rfl
       have e2 : W4.cell? ⟨wo.heap.size, 1, none⟩ = some (.string y) := by rw [cell_of_row _ _ _ _ _ _ hr4]; rfl
       have e3 : W4.cell? ⟨wr.heap.size, 0, none⟩ = some (.func (.func 202) #[] #[]) := by rw [hW4]; exact qeu _ _ _
       have HR4 := Hj hr4; have HW4 := Hj hW4
       have HB4 : Hid (Below w.heap.size w W4) := Hj (by rw [hW4]; exact HB3.out.alloc HB3.out.size _)
       have HO4 : Hid (W4.ownsRow w.heap.size 9 1 u3 (2 * k + 0) (strC (strsL (l.take k) ++ halfS (x, y) 0))) := Hj (by rw [hW4]; exact HO3.out.alloc _)
       clear hr4 hW4
       go_upto_region 8 with fail
       rw [← HW4.out]
       go_wp2_with (first
        | (go_at_call 202; refine (part1_any (x, y) _).mono ?_; rintro e w5 ⟨rfl, hb5⟩; have HB5 := Hj hb5; clear hb5 e1 e2 e3)
        | (at_builtin; refine appE elS rfl _ _ rfl w.heap.size _ _ (2 * k + 0) 1 _ [.string x] rfl rfl ((qbr HO4.out HB5.out).alloc _) (rd_new _ 1 1 [.string x] 9 1 rfl (Nat.le_refl _)) (by simp [Value.oneCell']) (by omega) (by have := HB5.out.size; have := HB4.out.size; simp; omega) ?_; intro v' w6 hown6 hg6 hn6))
       exact ⟨⟨1, by omega, rfl, Hj (by rw [show halfS (x, y) 1 = halfS (x, y) 0 ++ [x] from rfl, ← List.append_assoc, qdd]; exact hown6), Hj (qkk hg6 ((qbr HO4.out HB5.out).alloc _) (heap_alloc _ (qfg HB5.out HR4.out)) (by decide)), Hj (((HB4.out.trans (HB5.out.mono HB4.out.size)).alloc (by have := HB5.out.size; have := HB4.out.size; omega) _).trans (qcx ((qbr HO4.out HB5.out).alloc _) hg6 (by have := HB5.out.size; have := HB4.out.size; simp; omega)))⟩, by simp [intOf]⟩
     · have hx1 := fun w => ix1 (.func (.func 202) #[] #[]) (.func (.func 203) #[] #[]) w
       have hf0 := fun w => fd0 203 w
       obtain ⟨W4, hW4⟩ : ∃ W4, W4 = wr.alloc (.cells #[.func (.func 203) #[] #[]] 285) := ⟨_, rfl⟩
       have hr4 : W4.heap[wo.heap.size]? = some (.cells #[.string x, .string y] 94 (0, 0)) := by rw [hW4]; exact (Below.heap_alloc _ _ _ (Array.getElem?_eq_some_iff.1 HR3.out).1).trans HR3.out
       have e1 : W4.cell? ⟨wo.heap.size, 0, none⟩ = some (.string x) := by rw [cell_of_row _ _ _ _ _ _ hr4]; rfl
       have e2 : W4.cell? ⟨wo.heap.size, 1, none⟩ = some (.string y) := by rw [cell_of_row _ _ _ _ _ _ hr4]; rfl
       have e3 : W4.cell? ⟨wr.heap.size, 0, none⟩ = some (.func (.func 203) #[] #[]) := by rw [hW4]; exact qeu _ _ _
       have HR4 := Hj hr4; have HW4 := Hj hW4
       have HB4 : Hid (Below w.heap.size w W4) := Hj (by rw [hW4]; exact HB3.out.alloc HB3.out.size _)
       have HO4 : Hid (W4.ownsRow w.heap.size 9 1 u3 (2 * k + 1) (strC (strsL (l.take k) ++ halfS (x, y) 1))) := Hj (by rw [hW4]; exact HO3.out.alloc _)
       clear hr4 hW4
       go_upto_region 8 with fail
       rw [← HW4.out]
       go_wp2_with (first
        | (go_at_call 203; refine (part2_any (x, y) _).mono ?_; rintro e w5 ⟨rfl, hb5⟩; have HB5 := Hj hb5; clear hb5 e1 e2 e3)
        | (at_builtin; refine appE elS rfl _ _ rfl w.heap.size _ _ (2 * k + 1) 1 _ [.string y] rfl rfl ((qbr HO4.out HB5.out).alloc _) (rd_new _ 1 1 [.string y] 9 1 rfl (Nat.le_refl _)) (by simp [Value.oneCell']) (by omega) (by have := HB5.out.size; have := HB4.out.size; simp; omega) ?_; intro v' w6 hown6 hg6 hn6))
       exact ⟨⟨2, by omega, rfl, Hj (by rw [show halfS (x, y) 2 = halfS (x, y) 1 ++ [y] from rfl, ← List.append_assoc, qdd]; exact hown6), Hj (qkk hg6 ((qbr HO4.out HB5.out).alloc _) (heap_alloc _ (qfg HB5.out HR4.out)) (by decide)), Hj (((HB4.out.trans (HB5.out.mono HB4.out.size)).alloc (by have := HB5.out.size; have := HB4.out.size; omega) _).trans (qcx ((qbr HO4.out HB5.out).alloc _) hg6 (by have := HB5.out.size; have := HB4.out.size; simp; omega)))⟩, by simp [intOf]⟩
     · have hlt := HLT.out
       go_wp2_with fail
       exact ⟨⟨k + 1, by omega, rfl, Hj (by rw [HX.out]; exact HO3.out), HB3⟩, by simp [intOf]; omega⟩
  · obtain rfl : k = l.length := by omega
    have hr := HO.out
    rw [List.take_length] at hr
    have HR := Hj hr
    obtain ⟨ao, co, rfl⟩ := qac hr
    clear hr HO
    go_wp2
    go_ret
    exact ⟨_, rfl, HR.out, HB.out⟩
end
section
set_option maxHeartbeats 4000000
set_option maxRecDepth 100000
open Go.RowKit
def best2 (a b : Int) : Nat := if b < a then 1 else 0
def best3 (a b c : Int) : Nat := if 0 ≤ c ∧ c < (if b < a then b else a) then 2 else best2 a b
def tagO (l : List Nat) : Nat := best3 (((enc6 l).length : Nat) : Int) (((enc7 l).length : Nat) : Int) (size8 l) + 1
theorem best3_or (a b c : Int) : (best3 a b c = 2 ∧ 0 ≤ c) ∨ best3 a b c ≤ 1 := by
 by_cases h : 0 ≤ c ∧ c < (if b < a then b else a)
 · exact .inl ⟨by unfold best3; rw [if_pos h], h.1⟩
 · right
   unfold best3; rw [if_neg h]; unfold best2; split <;> omega
theorem qha (l : List Nat) : tagO l = 1 ∨ tagO l = 2 ∨ tagO l = 3 := by
 unfold tagO
 rcases best3_or (((enc6 l).length : Nat) : Int) (((enc7 l).length : Nat) : Int) (size8 l) with h | h <;> omega
theorem qjf {l : List Nat} (h : tagO l = 3) : 0 ≤ size8 l := by
 unfold tagO at h
 rcases best3_or (((enc6 l).length : Nat) : Int) (((enc7 l).length : Nat) : Int) (size8 l) with h' | h'
 · exact h'.2
 · omega
theorem qhb {l : List Nat} (h : 0 ≤ size8 l) : (dictO l).length ≤ 128 := by
 unfold size8 at h
 split at h
 · omega
 · omega
theorem qkt (v : Value) (l : List Nat) (w : World) (hl : l.length ≤ 1000000000) (h : Holds w v (u64s l)) (hX : ∀ x ∈ l, x ≤ 18446744073709551615) (hT : TabZ w) :
 Calls Tryz.prog 20 #[v] w fun e w' => e = .returned (.int .i64 ((tagO l : Nat) : Int)) ∧ Keeps (fun _ => False) w w' := by
 have HC := Hj (sizes_any v l w hl h hX hT)
 have ha0 : (0 : Int) ≤ (((enc6 l).length : Nat) : Int) := by omega
 have hb0 : (0 : Int) ≤ (((enc7 l).length : Nat) : Int) := by omega
 have HTG : Hid (tagO l = best3 (((enc6 l).length : Nat) : Int) (((enc7 l).length : Nat) : Int) (size8 l) + 1) := Hj rfl
 generalize (((enc6 l).length : Nat) : Int) = a at *
 generalize (((enc7 l).length : Nat) : Int) = b at *
 generalize size8 l = c at *
 clear h hX hT
 go_enter Tryz.func20, Tryz.ntmps20
 go_wp2_with (go_at_call 40; refine HC.out.mono ?_; rintro e w1 ⟨rfl, hk1⟩; have HK1 := Hj hk1; clear hk1)
 have hA1 : Hid ((w1.alloc (.cells #[.int .i64 a, .int .i64 b, .int .i64 c] 99)).heap[w1.heap.size]? = some (.cells #[.int .i64 a, .int .i64 b, .int .i64 c] 99 (0, 0))) := Hj (heap_alloc_new _ _)
 have HK2 := Hj (HK1.out.alloc (.cells #[.int .i64 a, .int .i64 b, .int .i64 c] 99))
 clear HK1
 go_loopw [3, 10] (fun c3 c10 wr => ∃ (i m : Nat), c10 = .int .i64 (i : Int) ∧ c3 = .int .i64 (m : Int) ∧ i ≤ 3 ∧ (i ≤ 1 → m = 0) ∧ (i = 2 → m = best2 a b) ∧ (i = 3 → m = best3 a b c) ∧
  Hid (wr.heap[w1.heap.size]? = some (.cells #[.int .i64 a, .int .i64 b, .int .i64 c] 99 (0, 0))) ∧ Hid (Keeps (fun _ => False) w wr)) (fun _ c10 _ => 3 - (intOf c10).toNat)
 case atStart => exact ⟨0, 0, rfl, rfl, by omega, fun _ => rfl, by omega, by omega, hA1, HK2⟩
 case round =>
  clear hA1 HK2
  obtain ⟨i, m, rfl, rfl, hi3, hm1, hm2, hm3, HA, HK⟩ := hrel
  have a0 : wr.cell? ⟨w1.heap.size, 0, none⟩ = some (.int .i64 a) := by rw [cell_of_row _ _ _ _ _ _ HA.out]; rfl
  have a1 : wr.cell? ⟨w1.heap.size, 1, none⟩ = some (.int .i64 b) := by rw [cell_of_row _ _ _ _ _ _ HA.out]; rfl
  rcases (by omega : i = 0 ∨ i = 1 ∨ i = 2 ∨ i = 3) with rfl | rfl | rfl | rfl
  · obtain rfl := hm1 (by omega)
    clear hm1 hm2 hm3
    have haa : ¬ a < a := by omega
    go_wp2_with (refine qae _ rfl 99 _ _ rfl _ _ (.int .i64 a) rfl rfl rfl ?_)
    exact ⟨⟨1, 0, rfl, rfl, by omega, fun _ => rfl, by omega, by omega, HA, HK⟩, by simp [intOf]⟩
  · obtain rfl := hm1 (by omega)
    clear hm1 hm2 hm3
    by_cases hba : b < a
    · have HB : Hid (best2 a b = 1) := Hj (by unfold best2; rw [if_pos hba])
      go_wp2_with (refine qae _ rfl 99 _ _ rfl _ _ (.int .i64 b) rfl rfl rfl ?_)
      exact ⟨⟨2, 1, rfl, rfl, by omega, by omega, fun _ => HB.out.symm, by omega, HA, HK⟩, by simp [intOf]⟩
    · have HB : Hid (best2 a b = 0) := Hj (by unfold best2; rw [if_neg hba])
      go_wp2_with (refine qae _ rfl 99 _ _ rfl _ _ (.int .i64 b) rfl rfl rfl ?_)
      exact ⟨⟨2, 0, rfl, rfl, by omega, by omega, fun _ => HB.out.symm, by omega, HA, HK⟩, by simp [intOf]⟩
  · have hm := hm2 rfl
    have hmb : (m = 1 ∧ b < a) ∨ (m = 0 ∧ ¬ b < a) := by
     rw [hm]; unfold best2; split <;> simp_all
    have HM := Hj hm
    clear hm1 hm2 hm3 hm
    by_cases hc0 : 0 ≤ c
    · rcases hmb with ⟨rfl, hba⟩ | ⟨rfl, hba⟩
      · by_cases hcb : c < b
        · have HB : Hid (best3 a b c = 2) := Hj (by unfold best3; rw [if_pos ⟨hc0, by rw [if_pos hba]; exact hcb⟩])
          go_wp2_with (refine qae _ rfl 99 _ _ rfl _ _ (.int .i64 c) rfl rfl rfl ?_)
          exact ⟨⟨3, 2, rfl, rfl, by omega, by omega, by omega, fun _ => HB.out.symm, HA, HK⟩, by simp [intOf]⟩
        · have HB : Hid (best3 a b c = 1) := Hj (by unfold best3; rw [if_neg (fun h => by rw [if_pos hba] at h; exact hcb h.2)]; exact HM.out.symm)
          go_wp2_with (refine qae _ rfl 99 _ _ rfl _ _ (.int .i64 c) rfl rfl rfl ?_)
          exact ⟨⟨3, 1, rfl, rfl, by omega, by omega, by omega, fun _ => HB.out.symm, HA, HK⟩, by simp [intOf]⟩
      · by_cases hcb : c < a
        · have HB : Hid (best3 a b c = 2) := Hj (by unfold best3; rw [if_pos ⟨hc0, by rw [if_neg hba]; exact hcb⟩])
          go_wp2_with (refine qae _ rfl 99 _ _ rfl _ _ (.int .i64 c) rfl rfl rfl ?_)
          exact ⟨⟨3, 2, rfl, rfl, by omega, by omega, by omega, fun _ => HB.out.symm, HA, HK⟩, by simp [intOf]⟩
        · have HB : Hid (best3 a b c = 0) := Hj (by unfold best3; rw [if_neg (fun h => by rw [if_neg hba] at h; exact hcb h.2)]; exact HM.out.symm)
          go_wp2_with (refine qae _ rfl 99 _ _ rfl _ _ (.int .i64 c) rfl rfl rfl ?_)
          exact ⟨⟨3, 0, rfl, rfl, by omega, by omega, by omega, fun _ => HB.out.symm, HA, HK⟩, by simp [intOf]⟩
    · have HB : Hid (best3 a b c = m) := Hj (by unfold best3; rw [if_neg (fun h => hc0 h.1)]; exact HM.out.symm)
      have hdc : (decide (0 ≤ c)) = false := by simp; omega
      clear hmb
      go_wp2_with (refine qae _ rfl 99 _ _ rfl _ _ (.int .i64 c) rfl rfl rfl ?_)
      exact ⟨⟨3, m, rfl, rfl, by omega, by omega, by omega, fun _ => HB.out.symm, HA, HK⟩, by simp [intOf]⟩
  · have hm := hm3 rfl
    have HM := Hj hm
    have hm2' : m ≤ 2 := by rw [hm]; rcases best3_or a b c with h | h <;> omega
    clear hm1 hm2 hm3 hm
    have hmz : (m : Int) ≤ 2 := by omega
    go_wp2
    go_ret
    exact ⟨by rw [HTG.out, ← HM.out]; rfl, HK.out⟩
end
section
open Go.RowKit
def encV (tag : Nat) (l : List Nat) : List Bool := if tag = 1 then enc6 l else if tag = 2 then enc7 l else enc8 l
def timesS (l : List Smp) : List Int := l.map (·.1)
def valsS (l : List Smp) : List Nat := l.map fun x => x.2.toNat
def bitsC (l : List Smp) : List Bool := qab (tagO (valsS l)) 8 ++ qab (l.length - 1) 8 ++ enc5 (timesS l) ++ encV (tagO (valsS l)) (valsS l)
def chunkC (l : List Smp) : List Nat := packed (bitsC l)
def FitS (l : List Smp) : Prop := ∀ x ∈ l, inI x.1 ∧ 0 ≤ x.2 ∧ x.2 ≤ 18446744073709551615
theorem qej (l : List Smp) : (timesS l).length = l.length := by simp [timesS]
theorem qey (l : List Smp) : (valsS l).length = l.length := by simp [valsS]
theorem FitS.times {l : List Smp} (h : FitS l) : ∀ x ∈ timesS l, inI x := by
 intro x hx
 obtain ⟨y, hy, rfl⟩ := List.mem_map.1 hx
 exact (h y hy).1
theorem FitS.vals {l : List Smp} (h : FitS l) : ∀ x ∈ valsS l, x ≤ 18446744073709551615 := by
 intro x hx
 obtain ⟨y, hy, rfl⟩ := List.mem_map.1 hx
 have := (h y hy).2
 omega
theorem packed_front (L : List Bool) : ∃ pad, qap (packed L) = L ++ pad := by
 have h1 := qij L 0 L.length (by omega)
 unfold qbi at h1
 rw [List.drop_zero, List.drop_zero, List.take_length] at h1
 refine ⟨(qap (packed L)).drop L.length, ?_⟩
 have := List.take_append_drop L.length (qap (packed L))
 rw [h1] at this
 exact this.symm
theorem qfw (tag : Nat) (l : List Nat) (h : tag = 3 → (dictO l).length ≤ 128) (ht : tag = 1 ∨ tag = 2 ∨ tag = 3) : (encV tag l).length ≤ 78 * l.length + 8200 := by
 unfold encV
 rcases ht with rfl | rfl | rfl
 · rw [if_pos rfl]; have := qik l; omega
 · rw [if_neg (by decide), if_pos rfl]; have := enc7_length l; omega
 · rw [if_neg (by decide), if_neg (by decide)]
   have hk := h rfl
   unfold enc8
   rw [List.length_append, List.length_append, qad, qea, qge]
   have : widthO (dictO l).length * l.length ≤ 7 * l.length := Nat.mul_le_mul_right _ (qin _ hk)
   omega
end
section
open Go.RowKit
theorem bitAt_left (f L : List Bool) (k : Nat) (h : k < f.length) : bitAt (f ++ L) k = bitAt f k := by
 unfold bitAt; simp [List.getD, List.getElem?_append_left h]
theorem byteAt_field : ∀ X : Fin 256, byteAt (qab X.val 8) 0 = X.val := by decide +kernel
theorem qjt (X : Nat) (hX : X < 256) (L : List Bool) : packed (qab X 8 ++ L) = X :: packed L := by
 have hf : (qab X 8).length = 8 := qad X 8
 unfold packed
 rw [List.length_append, hf, show (8 + L.length + 7) / 8 = (L.length + 7) / 8 + 1 by omega, List.range_succ_eq_map, List.map_cons, List.map_map]
 congr 1
 · have h0 : ∀ k, k < 8 → bitAt (qab X 8 ++ L) k = bitAt (qab X 8) k := fun k hk => bitAt_left _ _ k (by omega)
   refine Eq.trans ?_ (byteAt_field ⟨X, hX⟩)
   unfold byteAt
   simp only [Nat.mul_zero, Nat.zero_add]
   rw [h0 0 (by omega), h0 1 (by omega), h0 2 (by omega), h0 3 (by omega), h0 4 (by omega), h0 5 (by omega), h0 6 (by omega), h0 7 (by omega)]
def restC (l : List Smp) : List Nat := packed (enc5 (timesS l) ++ encV (tagO (valsS l)) (valsS l))
theorem chunkC_eq (l : List Smp) (h1 : 1 ≤ l.length) (h2 : l.length ≤ 120) : chunkC l = tagO (valsS l) :: (l.length - 1) :: restC l := by
 have ht := qha (valsS l)
 unfold chunkC bitsC restC
 rw [List.append_assoc, List.append_assoc, qjt _ (by omega), qjt _ (by omega)]
theorem endOf_pad (L : List Bool) (r : List Bool) (h : qap (packed L) = L ++ r) : endOf r = 0 := by
 have := endOf_packed L
 rwa [h, List.drop_left] at this
end
end Go.Proofs.YtfpcgcbehdogjaaGreatDoor
