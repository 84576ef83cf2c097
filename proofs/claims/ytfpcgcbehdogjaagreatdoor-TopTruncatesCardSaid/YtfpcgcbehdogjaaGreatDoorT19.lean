/-
  Lemmas on which LTopTruncates rests, packed out of the texts XRec XPst XKey XKeys XSrt XSrt2 WChunkD; each for all arguments under the hypotheses it names.
-/
import Derived.Test.YtfpcgcbehdogjaaGreatDoorT16
import Derived.Test.YtfpcgcbehdogjaaGreatDoorT05
import Derived.DeepKeys4
import Derived.Laws.IdiomRangeMap
import Derived.MapKept
import Derived.Sort.CutIn
import Derived.Test.YtfpcgcbehdogjaaGreatDoorT17
namespace Go.Proofs.YtfpcgcbehdogjaaGreatDoor
section
set_option maxHeartbeats 4000000
set_option maxRecDepth 100000
open Go.RowKit
abbrev Rec := List Lab × List Nat
def intC (l : List Nat) : List Value := l.map fun n => .int .i64 ((n : Nat) : Int)
def RdI (w : World) (v : Value) (l : List Nat) : Prop := Rd 1 w v l.length (intC l)
theorem RdI.at {w : World} {ad : Option Addr} {cap : Nat} {l : List Nat} (h : RdI w (.slice ad l.length cap) l) {i : Nat} {x : Nat} (hx : l[i]? = some x) :
 ∃ b off, ad = some ⟨b, off, none⟩ ∧ w.cell? ⟨b, off + i, none⟩ = some (.int .i64 (x : Int)) := by
 obtain ⟨b, off, e, h⟩ := Rd.at h (List.getElem?_eq_some_iff.1 hx).1
 exact ⟨b, off, e, by have := h 0 (.int .i64 (x : Int)) (by simp [intC, hx]); simpa using this⟩
def RdR (w : World) (v : Value) (hs : List Hdr) (rs : List Rec) : Prop := hs.length = rs.length ∧ RdH w v hs ∧ ∀ (i : Nat) (h : Hdr) (r : Rec), hs[i]? = some h → rs[i]? = some r → RdL w h.lv r.1 ∧ RdI w h.sv r.2
theorem RdR.below {a b : World} {v : Value} {hs : List Hdr} {rs : List Rec} (h : RdR a v hs rs) (hb : Below a.heap.size a b) : RdR b v hs rs :=
 ⟨h.1, h.2.1.below hb, fun i x y h1 h2 => ⟨(h.2.2 i x y h1 h2).1.below hb, Rd.below (h.2.2 i x y h1 h2).2 hb⟩⟩
section
variable (pos : ByteArray → Nat)
def posO (ss : List ByteArray) : List Nat := ss.flatMap fun s => venc (pos s)
def recO1 (r : Rec) : List Nat := venc r.1.length ++ posO pos (strsL r.1) ++ venc r.2.length ++ r.2.flatMap venc
def recO (rs : List Rec) : List Nat := venc rs.length ++ rs.flatMap (recO1 pos)
def recPre (rs : List Rec) (k : Nat) : List Nat := venc rs.length ++ (rs.take k).flatMap (recO1 pos)
variable {pos}
theorem recPre_succ (rs : List Rec) {k : Nat} {r : Rec} (h : rs[k]? = some r) : recPre pos rs (k + 1) = recPre pos rs k ++ recO1 pos r := by
 unfold recPre; rw [List.take_add_one, h]; simp
theorem recPre_all (rs : List Rec) : recPre pos rs rs.length = recO pos rs := by unfold recPre recO; rw [List.take_length]
theorem recPre_le (rs : List Rec) (k : Nat) : (recPre pos rs k).length ≤ (recO pos rs).length := by
 unfold recPre recO
 have : rs.flatMap (recO1 pos) = (rs.take k).flatMap (recO1 pos) ++ (rs.drop k).flatMap (recO1 pos) := by rw [← List.flatMap_append, List.take_append_drop]
 rw [this]; simp only [List.length_append]; omega
theorem posO_take {ss : List ByteArray} {k : Nat} {s : ByteArray} (h : ss[k]? = some s) : posO pos (ss.take (k + 1)) = posO pos (ss.take k) ++ venc (pos s) := by
 unfold posO; rw [List.take_add_one, h]; simp
theorem posO_le (ss : List ByteArray) (k : Nat) : (posO pos (ss.take k)).length ≤ (posO pos ss).length := by
 have : posO pos ss = posO pos (ss.take k) ++ posO pos (ss.drop k) := by unfold posO; rw [← List.flatMap_append, List.take_append_drop]
 rw [this, List.length_append]; omega
theorem lens_take {l : List Nat} {k : Nat} {n : Nat} (h : l[k]? = some n) : (l.take (k + 1)).flatMap venc = (l.take k).flatMap venc ++ venc n := by
 rw [List.take_add_one, h]; simp
theorem lens_le (l : List Nat) (k : Nat) : ((l.take k).flatMap venc).length ≤ (l.flatMap venc).length := by
 have : l.flatMap venc = (l.take k).flatMap venc ++ (l.drop k).flatMap venc := by rw [← List.flatMap_append, List.take_append_drop]
 rw [this, List.length_append]; omega
end
def Has (w w' : World) (b : Value) (x : List Nat) : Prop := w'.ownsRow w.heap.size 5 1 b (u8s x).length (u8s x) ∧ Below w.heap.size w w'
theorem Has.slice {w w' : World} {b : Value} {x : List Nat} (h : Has w w' b x) : ∃ ad cap, b = .slice ad (u8s x).length cap := qac h.1
theorem Has.below {w w1 w2 : World} {b : Value} {x : List Nat} (h : Has w w1 b x) (hb : Below w1.heap.size w1 w2) : Has w w2 b x := ⟨qbr h.1 hb, h.2.trans (hb.mono h.2.size)⟩
theorem Has.alloc {w w1 : World} {b : Value} {x : List Nat} (h : Has w w1 b x) (o : Obj) : Has w (w1.alloc o) b x := ⟨h.1.alloc o, h.2.alloc h.2.size o⟩
theorem Has.app {w w1 : World} {b : Value} {x : List Nat} (h : Has w w1 b x) (n : Nat) (hn : n ≤ 18446744073709551615) (hx : x.length ≤ 1000000000) :
 Calls Tryz.prog 125 #[b, .int .u64 (n : Int)] w1 fun e w' => ∃ v', e = .returned v' ∧ Has w w' v' (x ++ venc n) ∧ Keeps (own b) w1 w' :=
 (qby w.heap.size b x n w1 h.1 hn (by omega) h.2.size).mono fun e w' ⟨v', he, hr⟩ => ⟨v', he, ⟨hr.row, (h.2).trans (hr.keeps.below h.2.size (fun k _ e => (h.1.lt k e).1))⟩, hr.keeps⟩
theorem Has.row {w w1 w' : World} {b v : Value} {x : List Nat} {base n : Nat} {xs : List Value} (h : Has w w1 b x) (k : Keeps (own b) w1 w') (r : w1.ownsRow base 9 1 v n xs) : w'.ownsRow base 9 1 v n xs :=
 k.row r (fun g hg hb => by
  obtain ⟨c1, h1⟩ := qak r hg
  obtain ⟨c2, h2⟩ := qak h.1 hb
  exact qaf h1 h2 (by decide) rfl)
theorem Has.heap {w w1 w' : World} {b : Value} {x : List Nat} {g : Nat} {c : Array Value} {t : TypeId} {fr : Nat × Nat} (h : Has w w1 b x) (k : Keeps (own b) w1 w') (hb : w1.heap[g]? = some (.cells c t fr)) (ht : t ≠ 5) : w'.heap[g]? = some (.cells c t fr) :=
 k.heap hb (fun hb2 => by
  obtain ⟨c2, h2⟩ := qak h.1 hb2
  exact qaf hb h2 ht rfl)
theorem recenc_any (pos : ByteArray → Nat) (ta : Option Addr) (tc : Nat) (t : List ByteArray) (v : Value) (hs : List Hdr) (rs : List Rec) (w : World) (h : RdR w v hs rs) (hl : hs.length ≤ 1000000) (hT : RdT w (.slice ta t.length tc) t) (hTl : t.length ≤ 1000000)
 (hlab : ∀ r ∈ rs, r.1.length ≤ 1000000 ∧ r.2.length ≤ 1000000 ∧ r.2 ≠ []) (hP : ∀ r ∈ rs, ∀ s ∈ strsL r.1, Pos t s (pos s)) (hC : ∀ r ∈ rs, ∀ n ∈ r.2, 1 ≤ n ∧ n ≤ 2147483647) (hN : (recO pos rs).length ≤ 1000000000) :
 Calls Tryz.prog 66 #[.slice ta t.length tc, v] w fun e w' => ∃ v', e = .returned (.tuple #[v', .int .i64 0]) ∧ Has w w' v' (recO pos rs) := by
 have HH := Hj h; have HT := Hj hT; have HLB := Hj hlab; have HP := Hj hP; have HC := Hj hC
 have HLN := Hj h.1
 obtain ⟨ad, cap, rfl, hcap⟩ := Rd.slice h.2.1
 have hl0 : (0 : Int) ≤ (hs.length : Int) := by omega
 have hl1 : (hs.length : Int) ≤ 1000000 := by omega
 have HV := Hj (qby w.heap.size (.slice none 0 0) [] hs.length w (World.ownsRow_nil _ _ _ _) (by omega) (by simp) (Nat.le_refl _))
 clear h hT hlab hP hC
 go_enter Tryz.func66, Tryz.ntmps66
 go_wp2_with (go_at_call 125; refine HV.out.mono ?_; rintro e w4 ⟨v4, rfl, hrow4⟩; have HR4 := Hj hrow4; clear hrow4 HV)
 have H4 : Hid (Has w w4 v4 (recPre pos rs 0)) := Hj ⟨by have := HR4.out.row; simpa [recPre, HLN.out] using this, HR4.out.keeps.below (Nat.le_refl _) (fun k hk e => by simp [own, Value.ownBlock] at e)⟩
 clear HR4
 go_loopw [6, 21] (fun c6 c wr => ∃ k : Nat, k ≤ hs.length ∧ c = .int .i64 (k : Nat) ∧ Hid (Has w wr c6 (recPre pos rs k))) (fun _ c _ => hs.length - (intOf c).toNat)
 case atStart => exact ⟨0, by omega, rfl, H4⟩
 case round =>
  clear H4
  obtain ⟨k, hk, rfl, HO⟩ := hrel
  obtain ⟨wo, rfl⟩ : ∃ wo, wo = wr := ⟨_, rfl⟩
  by_cases hlt : k < hs.length
  · obtain ⟨x, hx⟩ := qaj hlt
    obtain ⟨⟨labs, lens⟩, hp⟩ := qaj (l := rs) (k := k) (by have := HLN.out; omega)
    have hrd := HH.out.below HO.out.2
    have s1 := hrd.2.2 _ _ _ hx hp
    obtain ⟨bb, off, rfl, c1, c2⟩ := RdH.at hrd.2.1 hx
    have hmem := List.mem_of_getElem? hp
    have hlb := HLB.out _ hmem
    have HPk := Hj (HP.out _ hmem); have HCk := Hj (HC.out _ hmem)
    have hsucc := recPre_succ (pos := pos) rs hp
    have hle := recPre_le (pos := pos) rs (k + 1)
    have HSU := Hj hsucc
    have hlen : (recPre pos rs k ++ recO1 pos (labs, lens)).length ≤ 1000000000 := by rw [← hsucc]; omega
    have HLEN := Hj hlen
    obtain ⟨xa, xn, xc, xsa, xsn, xsc⟩ := x
    have e1 : xn = labs.length := by obtain ⟨_, _, _, hv, _⟩ := s1.1; simp only [Hdr.lv, Value.slice.injEq] at hv; exact hv.2.1
    have e2 : xsn = lens.length := by obtain ⟨_, _, _, hv, _⟩ := s1.2; simp only [Hdr.sv, Value.slice.injEq] at hv; exact hv.2.1
    subst e1 e2
    simp only [Hdr.lv, Hdr.sv] at c1 c2 s1
    obtain ⟨W1, hW1⟩ : ∃ W1, W1 = wo.alloc (.cells #[.slice xa labs.length xc, .slice xsa lens.length xsc] 127) := ⟨_, rfl⟩
    have hbw : Below wo.heap.size wo W1 := by rw [hW1]; exact (Below.refl _ _).alloc (Nat.le_refl _) _
    have hr1 : W1.heap[wo.heap.size]? = some (.cells #[.slice xa labs.length xc, .slice xsa lens.length xsc] 127 (0, 0)) := by rw [hW1]; exact heap_alloc_new wo _
    have HR1 := Hj hr1; have HW1 := Hj hW1; have HO1 := Hj (HO.out.below hbw)
    have HBW := Hj (HO.out.2.trans (hbw.mono HO.out.2.size))
    have HRL : Hid (∀ q, Below w.heap.size w q → RdL q (.slice xa labs.length xc) labs) := Hj (fun q hq => (HH.out.2.2 _ _ _ hx hp).1.below hq)
    have HRI : Hid (∀ q, Below w.heap.size w q → RdI q (.slice xsa lens.length xsc) lens) := Hj (fun q hq => Rd.below (HH.out.2.2 _ _ _ hx hp).2 hq)
    have hll : labs.length ≤ 1000000 := hlb.1
    have hln : lens.length ≤ 1000000 := hlb.2.1
    have hln0 : ¬ (lens.length : Int) = 0 := by have h9 : lens ≠ [] := hlb.2.2; have := List.length_pos_iff.2 h9; omega
    have hlnb : ((lens.length : Int) == 0) = false := beq_eq_false_iff_ne.2 hln0
    have hll1 : (labs.length : Int) ≤ 1000000 := by omega
    have hll0 : (0 : Int) ≤ (labs.length : Int) := by omega
    have hln1 : (lens.length : Int) ≤ 1000000 := by omega
    have hln00 : (0 : Int) ≤ (lens.length : Int) := by omega
    have hklt : (k : Int) < hs.length := by omega
    have hk0 : (0 : Int) ≤ (k : Int) := by omega
    have HX : Hid (recO1 pos (labs, lens) = venc labs.length ++ posO pos (strsL labs) ++ venc lens.length ++ lens.flatMap venc) := Hj rfl
    have HLT := Hj hlt
    rw [HX.out] at hlen
    simp only [List.length_append] at hlen
    have HV5 := Hj (HO1.out.app labs.length (by omega) (by omega))
    have b1 : (recPre pos rs k).length + (venc labs.length).length + (posO pos (strsL labs)).length + (venc lens.length).length + (lens.flatMap venc).length ≤ 1000000000 := by omega
    have HB1 := Hj b1
    clear hx hp hrd s1 hmem hlb hsucc hle hlen hW1 hbw hr1 hlt HO b1
    go_upto_region 5 with fail
    rw [← HW1.out]
    have d1 : W1.cell? ⟨wo.heap.size, 0, none⟩ = some (.slice xa labs.length xc) := by rw [cell_of_row _ _ _ _ _ _ HR1.out]; rfl
    go_upto_region 6 with (go_at_call 125; refine HV5.out.mono ?_; rintro e w5 ⟨v5, rfl, h5, hk5⟩; have H5 := Hj h5; have HR5 := Hj (HO1.out.heap hk5 HR1.out (by decide)); have HK5 := Hj (hk5.below (B := w.heap.size) HO1.out.2.size (fun k hk e => (HO1.out.1.lt k e).1)); clear h5 hk5 d1)
    have d5 : w5.cell? ⟨wo.heap.size, 0, none⟩ = some (.slice xa labs.length xc) := by rw [cell_of_row _ _ _ _ _ _ HR5.out]; rfl
    have HS5 := Hj (lstr_any (.slice xa labs.length xc) labs w5 (HRL.out _ H5.out.2) (by omega))
    go_wp2_with (go_at_call 120; refine HS5.out.mono ?_; rintro e w6 ⟨v6, rfl, hr6, hb6⟩; obtain ⟨a6, c6, rfl⟩ := qac hr6; have HS6 := Hj (qao hr6 (fun g hg => Nat.le_trans H5.out.2.size (hr6.lt g hg).1)); have H6 := Hj (H5.out.below hb6); have HR6 := Hj (qfg hb6 HR5.out); clear hr6 hb6 d5)
    have hsl : (strsL labs).length = 2 * labs.length := qci labs
    have HSL := Hj hsl
    clear hsl
    go_loopw [6, 35] (fun c6' c wr => ∃ j : Nat, j ≤ 2 * labs.length ∧ c = .int .i64 (j : Nat) ∧ Hid (Has w wr c6' (recPre pos rs k ++ venc labs.length ++ posO pos ((strsL labs).take j))) ∧ Hid (wr.ownsRow w.heap.size 9 1 (.slice a6 (2 * labs.length) c6) (2 * labs.length) (strC (strsL labs))) ∧ Hid (wr.heap[wo.heap.size]? = some (.cells #[.slice xa labs.length xc, .slice xsa lens.length xsc] 127 (0, 0)))) (fun _ c _ => 2 * labs.length - (intOf c).toNat)
    case atStart => exact ⟨0, by omega, rfl, by simpa [posO] using H6, HS6, HR6⟩
    case round =>
     clear H6 HS6 HR6 H5 HR5 HK5
     obtain ⟨j, hj, rfl, HA, HSr, HRr⟩ := hrel
     by_cases hjl : j < 2 * labs.length
     · obtain ⟨s, hs⟩ := qaj (l := strsL labs) (k := j) (by have := HSL.out; omega)
       obtain ⟨b7, o7, rfl, c7⟩ := RdT.at (show RdT wr (.slice a6 (strsL labs).length c6) (strsL labs) by have := rd_row HSr.out; rw [← HSL.out] at this; exact this) hs
       have hPs := HPk.out s (List.mem_of_getElem? hs)
       have HIX := Hj (qjd ta tc t s (pos s) wr (Rd.below HT.out HA.out.2) hPs (by omega))
       have hps : pos s < t.length := (List.getElem?_eq_some_iff.1 hPs.1).1
       have hps1 : (pos s : Int) ≤ 1000000 := by omega
       have hps0 : (0 : Int) ≤ (pos s : Int) := by omega
       have hle := posO_le (pos := pos) (strsL labs) j
       have HV7 := Hj (HA.out.app (pos s) (by omega) (by have := HB1.out; simp only [List.length_append]; omega))
       have HTK := Hj (posO_take (pos := pos) hs)
       have hjl1 : (j : Int) < 2 * labs.length := by omega
       have hj0 : (0 : Int) ≤ (j : Int) := by omega
       have HJL := Hj hjl
       clear hs hPs hle hps hjl
       go_wp2_with (first
        | (go_at_call 127; refine HIX.out.mono ?_; rintro e w8 ⟨rfl, hw⟩; obtain rfl := hw.symm)
        | (go_at_call 125; refine HV7.out.mono ?_; rintro e w8 ⟨v8, rfl, h8, hk8⟩; have H8 := Hj h8; have HK8 := Hj hk8; clear h8 hk8))
       exact ⟨⟨j + 1, by have := HJL.out; omega, rfl, Hj (by rw [HTK.out, ← List.append_assoc]; exact H8.out), Hj (HA.out.row HK8.out HSr.out), Hj (HA.out.heap HK8.out HRr.out (by decide))⟩, by have := HJL.out; simp [intOf]; omega⟩
     · obtain rfl : j = 2 * labs.length := by omega
       have hA := HA.out
       rw [List.take_of_length_le (by rw [HSL.out]; exact Nat.le_refl _)] at hA
       have e1 : wr.cell? ⟨wo.heap.size, 1, none⟩ = some (.slice xsa lens.length xsc) := by rw [cell_of_row _ _ _ _ _ _ HRr.out]; rfl
       have HV9 := Hj (hA.app lens.length (by omega) (by have := HB1.out; simp only [List.length_append]; omega))
       have HA9 := Hj hA
       clear hA hjl HA
       go_upto_region 17 with (go_at_call 125; refine HV9.out.mono ?_; rintro e w9 ⟨v9, rfl, h9, hk9⟩; have H9 := Hj h9; have HR9 := Hj (HA9.out.heap hk9 HRr.out (by decide)); clear h9 hk9)
       have e9 : w9.cell? ⟨wo.heap.size, 1, none⟩ = some (.slice xsa lens.length xsc) := by rw [cell_of_row _ _ _ _ _ _ HR9.out]; rfl
       go_wp2_with fail
       clear e1 e9 HRr HSr
       go_loopw [6, 65] (fun c6' c wr => ∃ j : Nat, j ≤ lens.length ∧ c = .int .i64 (j : Nat) ∧ Hid (Has w wr c6' (recPre pos rs k ++ venc labs.length ++ posO pos (strsL labs) ++ venc lens.length ++ (lens.take j).flatMap venc))) (fun _ c _ => lens.length - (intOf c).toNat)
       case atStart => exact ⟨0, by omega, rfl, by simpa using H9⟩
       case round =>
        clear H9 HR9
        obtain ⟨j, hj, rfl, HA⟩ := hrel
        by_cases hjl : j < lens.length
        · obtain ⟨n, hn⟩ := qaj hjl
          obtain ⟨b7, o7, rfl, c7⟩ := RdI.at (HRI.out wr HA.out.2) hn
          obtain ⟨hn1, hn2⟩ := HCk.out n (List.mem_of_getElem? hn)
          have hle := lens_le lens j
          have hv := HA.out.app n (by omega) (by have := HB1.out; simp only [List.length_append]; omega)
          have HV7 := Hj hv
          have HTK := Hj (lens_take hn)
          have hjl1 : (j : Int) < lens.length := by omega
          have hj0 : (0 : Int) ≤ (j : Int) := by omega
          have q1 : decide ((n : Int) < 1) = false := decide_eq_false (by omega)
          have q2 : decide ((2147483647 : Int) < (n : Int)) = false := decide_eq_false (by omega)
          have q3 : (n : Int) ≤ 2147483647 := by omega
          have q4 : (0 : Int) ≤ (n : Int) := by omega
          have HJL := Hj hjl
          clear hn hle hjl hn1 hn2 hv
          go_wp2_with (go_at_call 125; refine HV7.out.mono ?_; rintro e w8 ⟨v8, rfl, h8, hk8⟩; have H8 := Hj h8; clear h8 hk8)
          exact ⟨⟨j + 1, by have := HJL.out; omega, rfl, Hj (by rw [HTK.out, ← List.append_assoc]; exact H8.out)⟩, by have := HJL.out; simp [intOf]; omega⟩
        · obtain rfl : j = lens.length := by omega
          have hA := HA.out
          rw [List.take_length] at hA
          have HA2 : Hid (Has w wr u6 (recPre pos rs (k + 1))) := Hj (by rw [HSU.out, HX.out]; simpa only [List.append_assoc] using hA)
          clear hA hjl HA
          have hlt := HLT.out
          go_wp2_with fail
          exact ⟨⟨k + 1, by omega, rfl, HA2⟩, by simp [intOf]; omega⟩
  · obtain rfl : k = hs.length := by omega
    have hA := HO.out
    rw [HLN.out, recPre_all] at hA
    have HA := Hj hA
    obtain ⟨a9, c9, rfl⟩ := hA.slice
    clear hA HO
    go_wp2
    go_ret2
    exact ⟨_, rfl, HA.out⟩
end
section
set_option maxHeartbeats 4000000
set_option maxRecDepth 100000
open Go.RowKit
abbrev Ent := Lab × List Nat
structure EntH where
 lab : Lab
 sa : Option Addr
 sn : Nat
 sc : Nat
def EntH.sv (h : EntH) : Value := .slice h.sa h.sn h.sc
def entC (hs : List EntH) : List Value := hs.flatMap fun h => [.string h.lab.1, .string h.lab.2, h.sv]
theorem entC_get : ∀ (hs : List EntH) (i : Nat) (h : EntH), hs[i]? = some h → (entC hs)[i * 3]? = some (.string h.lab.1) ∧ (entC hs)[i * 3 + 1]? = some (.string h.lab.2) ∧ (entC hs)[i * 3 + 2]? = some h.sv
 | [], i, h, e => by simp at e
 | x :: r, 0, h, e => by simp at e; subst e; simp [entC]
 | x :: r, i + 1, h, e => by
   have e' : r[i]? = some h := by simpa using e
   have := entC_get r i h e'
   have q : ∀ c, (entC (x :: r))[(i + 1) * 3 + c]? = (entC r)[i * 3 + c]? := fun c => by
    have : (i + 1) * 3 + c = i * 3 + c + 3 := by omega
    rw [this]; simp [entC]
   have q0 := q 0
   simp only [Nat.add_zero] at q0
   exact ⟨q0.trans this.1, (q 1).trans this.2.1, (q 2).trans this.2.2⟩
def RdE (w : World) (v : Value) (hs : List EntH) (es : List Ent) : Prop := hs.length = es.length ∧ Rd 3 w v hs.length (entC hs) ∧ ∀ (i : Nat) (h : EntH) (e : Ent), hs[i]? = some h → es[i]? = some e → h.lab = e.1 ∧ RdI w h.sv e.2
theorem RdE.below {a b : World} {v : Value} {hs : List EntH} {es : List Ent} (h : RdE a v hs es) (hb : Below a.heap.size a b) : RdE b v hs es :=
 ⟨h.1, h.2.1.below hb, fun i x y h1 h2 => ⟨(h.2.2 i x y h1 h2).1, Rd.below (h.2.2 i x y h1 h2).2 hb⟩⟩
theorem RdE.at {w : World} {ad : Option Addr} {cap : Nat} {hs : List EntH} {es : List Ent} (h : RdE w (.slice ad hs.length cap) hs es) {i : Nat} {x : EntH} (hx : hs[i]? = some x) :
 ∃ b off, ad = some ⟨b, off, none⟩ ∧ w.cell? ⟨b, off + i * 3, none⟩ = some (.string x.lab.1) ∧ w.cell? ⟨b, off + i * 3 + 1, none⟩ = some (.string x.lab.2) ∧ w.cell? ⟨b, off + i * 3 + 2, none⟩ = some x.sv := by
 obtain ⟨b, off, e, hc⟩ := Rd.at h.2.1 (List.getElem?_eq_some_iff.1 hx).1
 have hg := entC_get hs i x hx
 exact ⟨b, off, e, by simpa using hc 0 _ hg.1, hc 1 _ hg.2.1, hc 2 _ hg.2.2⟩
def prevN (l : List Nat) (j : Nat) : Nat := if j = 0 then 0 else l.getD (j - 1) 0
def dlPre (l : List Nat) : Nat → List Nat
 | 0 => []
 | j + 1 => dlPre l j ++ venc (l.getD j 0 - prevN l j)
theorem dlPre_le (l : List Nat) (j d : Nat) : (dlPre l j).length ≤ (dlPre l (j + d)).length := by
 induction d with
 | zero => exact Nat.le_refl _
 | succ d ih => rw [← Nat.add_assoc, dlPre, List.length_append]; omega
def Mono (l : List Nat) : Prop := ∀ j, j < l.length → prevN l j ≤ l.getD j 0
section
variable (pos : ByteArray → Nat)
def postO1 (e : Ent) : List Nat := posO pos [e.1.1, e.1.2] ++ venc e.2.length ++ dlPre e.2 e.2.length
def postO (es : List Ent) : List Nat := venc es.length ++ es.flatMap (postO1 pos)
def qcc (es : List Ent) (k : Nat) : List Nat := venc es.length ++ (es.take k).flatMap (postO1 pos)
variable {pos}
theorem postPre_succ (es : List Ent) {k : Nat} {e : Ent} (h : es[k]? = some e) : qcc pos es (k + 1) = qcc pos es k ++ postO1 pos e := by
 unfold qcc; rw [List.take_add_one, h]; simp
theorem postPre_all (es : List Ent) : qcc pos es es.length = postO pos es := by unfold qcc postO; rw [List.take_length]
theorem postPre_le (es : List Ent) (k : Nat) : (qcc pos es k).length ≤ (postO pos es).length := by
 unfold qcc postO
 have : es.flatMap (postO1 pos) = (es.take k).flatMap (postO1 pos) ++ (es.drop k).flatMap (postO1 pos) := by rw [← List.flatMap_append, List.take_append_drop]
 rw [this]; simp only [List.length_append]; omega
end
theorem postenc_any (pos : ByteArray → Nat) (ta : Option Addr) (tc : Nat) (t : List ByteArray) (v : Value) (hs : List EntH) (es : List Ent) (w : World) (h : RdE w v hs es) (hl : hs.length ≤ 1000000) (hT : RdT w (.slice ta t.length tc) t) (hTl : t.length ≤ 1000000)
 (hP : ∀ e ∈ es, Pos t e.1.1 (pos e.1.1) ∧ Pos t e.1.2 (pos e.1.2)) (hM : ∀ e ∈ es, e.2.length ≤ 1000000 ∧ Mono e.2 ∧ ∀ n ∈ e.2, n ≤ 1000000) (hN : (postO pos es).length ≤ 1000000000) :
 Calls Tryz.prog 67 #[.slice ta t.length tc, v] w fun e w' => ∃ v', e = .returned (.tuple #[v', .int .i64 0]) ∧ Has w w' v' (postO pos es) := by
 have HH := Hj h; have HT := Hj hT; have HP := Hj hP; have HM := Hj hM
 have HLN := Hj h.1
 obtain ⟨ad, cap, rfl, hcap⟩ := Rd.slice h.2.1
 have hl0 : (0 : Int) ≤ (hs.length : Int) := by omega
 have hl1 : (hs.length : Int) ≤ 1000000 := by omega
 have HV := Hj (qby w.heap.size (.slice none 0 0) [] hs.length w (World.ownsRow_nil _ _ _ _) (by omega) (by simp) (Nat.le_refl _))
 clear h hT hP hM
 go_enter Tryz.func67, Tryz.ntmps67
 go_wp2_with (go_at_call 125; refine HV.out.mono ?_; rintro e w4 ⟨v4, rfl, hrow4⟩; have HR4 := Hj hrow4; clear hrow4 HV)
 have H4 : Hid (Has w w4 v4 (qcc pos es 0)) := Hj ⟨by have := HR4.out.row; simpa [qcc, HLN.out] using this, HR4.out.keeps.below (Nat.le_refl _) (fun k hk e => by simp [own, Value.ownBlock] at e)⟩
 clear HR4
 go_loopw [6, 22] (fun c6 c wr => ∃ k : Nat, k ≤ hs.length ∧ c = .int .i64 (k : Nat) ∧ Hid (Has w wr c6 (qcc pos es k))) (fun _ c _ => hs.length - (intOf c).toNat)
 case atStart => exact ⟨0, by omega, rfl, H4⟩
 case round =>
  clear H4
  obtain ⟨k, hk, rfl, HO⟩ := hrel
  obtain ⟨wo, rfl⟩ : ∃ wo, wo = wr := ⟨_, rfl⟩
  by_cases hlt : k < hs.length
  · obtain ⟨x, hx⟩ := qaj hlt
    obtain ⟨⟨⟨ln, lv⟩, nums⟩, hp⟩ := qaj (l := es) (k := k) (by have := HLN.out; omega)
    have hrd := HH.out.below HO.out.2
    obtain ⟨s1, s2⟩ := HH.out.2.2 _ _ _ hx hp
    obtain ⟨bb, off, rfl, c1, c2, c3⟩ := hrd.at hx
    have hmem := List.mem_of_getElem? hp
    obtain ⟨hp1, hp2⟩ := HP.out _ hmem
    obtain ⟨hm1, hm2, hm3⟩ := HM.out _ hmem
    have hsucc := postPre_succ (pos := pos) es hp
    have hle := postPre_le (pos := pos) es (k + 1)
    have HSU := Hj hsucc
    have hlen : (qcc pos es k ++ postO1 pos ((ln, lv), nums)).length ≤ 1000000000 := by rw [← hsucc]; omega
    obtain ⟨xl, xsa, xsn, xsc⟩ := x
    simp only at s1
    subst s1
    simp only [EntH.sv] at s2 c3
    have e2 : xsn = nums.length := by obtain ⟨_, _, _, hv, _⟩ := s2; simp only [Value.slice.injEq] at hv; exact hv.2.1
    subst e2
    simp only at c1 c2
    obtain ⟨W1, hW1⟩ : ∃ W1, W1 = wo.alloc (.cells #[.string ln, .string lv, .slice xsa nums.length xsc] 229) := ⟨_, rfl⟩
    have hbw : Below wo.heap.size wo W1 := by rw [hW1]; exact (Below.refl _ _).alloc (Nat.le_refl _) _
    have hr1 : W1.heap[wo.heap.size]? = some (.cells #[.string ln, .string lv, .slice xsa nums.length xsc] 229 (0, 0)) := by rw [hW1]; exact heap_alloc_new wo _
    have HR1 := Hj hr1; have HW1 := Hj hW1; have HO1 := Hj (HO.out.below hbw)
    have HRI : Hid (∀ q, Below w.heap.size w q → RdI q (.slice xsa nums.length xsc) nums) := Hj (fun q hq => Rd.below s2 hq)
    have HX : Hid (postO1 pos ((ln, lv), nums) = posO pos [ln, lv] ++ venc nums.length ++ dlPre nums nums.length) := Hj rfl
    have HLT := Hj hlt
    rw [HX.out] at hlen
    simp only [List.length_append] at hlen
    have b1 : (qcc pos es k).length + (posO pos [ln, lv]).length + (venc nums.length).length + (dlPre nums nums.length).length ≤ 1000000000 := by omega
    have HB1 := Hj b1
    have HP1 : Hid (∀ s ∈ [ln, lv], Pos t s (pos s)) := Hj (fun s hs => by
     simp only [List.mem_cons, List.not_mem_nil, or_false] at hs
     rcases hs with rfl | rfl
     · exact hp1
     · exact hp2)
    have HMO := Hj hm2; have HM3 := Hj hm3
    have hln1 : (nums.length : Int) ≤ 1000000 := by have : nums.length ≤ 1000000 := hm1; omega
    have hln00 : (0 : Int) ≤ (nums.length : Int) := by omega
    have hklt : (k : Int) < hs.length := by omega
    have hk0 : (0 : Int) ≤ (k : Int) := by omega
    clear hx hp hrd s2 hmem hsucc hle hlen hW1 hbw hr1 hlt HO b1 hp1 hp2 hm1 hm2 hm3
    go_upto_region 5 with fail
    rw [← HW1.out]
    have d1 : W1.cell? ⟨wo.heap.size, 0, none⟩ = some (.string ln) := by rw [cell_of_row _ _ _ _ _ _ HR1.out]; rfl
    have d2 : W1.cell? ⟨wo.heap.size, 1, none⟩ = some (.string lv) := by rw [cell_of_row _ _ _ _ _ _ HR1.out]; rfl
    go_wp2_with fail
    obtain ⟨W2, hW2⟩ : ∃ W2, W2 = W1.alloc (.cells #[.string ln, .string lv] 9) := ⟨_, rfl⟩
    rw [← hW2]
    have HO2 : Hid (Has w W2 u6 (qcc pos es k)) := Hj (by rw [hW2]; exact HO1.out.alloc _)
    have HS2 : Hid (W2.heap[W1.heap.size]? = some (.cells #[.string ln, .string lv] 9 (0, 0))) := Hj (by rw [hW2]; exact heap_alloc_new _ _)
    have HR2 : Hid (W2.heap[wo.heap.size]? = some (.cells #[.string ln, .string lv, .slice xsa nums.length xsc] 229 (0, 0))) := Hj (by rw [hW2]; exact heap_alloc _ HR1.out)
    clear hW2 d1 d2
    go_loopw [6, 34] (fun c6' c wr => ∃ j : Nat, j ≤ 2 ∧ c = .int .i64 (j : Nat) ∧ Hid (Has w wr c6' (qcc pos es k ++ posO pos ([ln, lv].take j))) ∧ Hid (wr.heap[W1.heap.size]? = some (.cells #[.string ln, .string lv] 9 (0, 0))) ∧ Hid (wr.heap[wo.heap.size]? = some (.cells #[.string ln, .string lv, .slice xsa nums.length xsc] 229 (0, 0)))) (fun _ c _ => 2 - (intOf c).toNat)
    case atStart => exact ⟨0, by omega, rfl, by simpa [posO] using HO2, HS2, HR2⟩
    case round =>
     clear HO2 HS2 HR2 HO1 HR1
     obtain ⟨j, hj, rfl, HA, HSr, HRr⟩ := hrel
     rcases (by omega : j = 0 ∨ j = 1 ∨ j = 2) with rfl | rfl | rfl
     · have c7 : wr.cell? ⟨W1.heap.size, 0, none⟩ = some (.string ln) := by rw [cell_of_row _ _ _ _ _ _ HSr.out]; rfl
       have hPs := HP1.out ln (by simp)
       have HIX := Hj (qjd ta tc t ln (pos ln) wr (Rd.below HT.out HA.out.2) hPs (by omega))
       have hps : pos ln < t.length := (List.getElem?_eq_some_iff.1 hPs.1).1
       have hps1 : (pos ln : Int) ≤ 1000000 := by omega
       have hps0 : (0 : Int) ≤ (pos ln : Int) := by omega
       have hle := posO_le (pos := pos) [ln, lv] 0
       have HV7 := Hj (HA.out.app (pos ln) (by omega) (by have := HB1.out; simp only [List.length_append]; omega))
       clear hPs hle hps
       go_wp2_with (first
        | (go_at_call 127; refine HIX.out.mono ?_; rintro e w8 ⟨rfl, hw⟩; obtain rfl := hw.symm)
        | (go_at_call 125; refine HV7.out.mono ?_; rintro e w8 ⟨v8, rfl, h8, hk8⟩; have H8 := Hj h8; have HK8 := Hj hk8; clear h8 hk8))
       exact ⟨⟨1, by omega, rfl, Hj (by have := H8.out; simpa [posO, List.append_assoc] using this), Hj (HA.out.heap HK8.out HSr.out (by decide)), Hj (HA.out.heap HK8.out HRr.out (by decide))⟩, by simp [intOf]⟩
     · have c7 : wr.cell? ⟨W1.heap.size, 1, none⟩ = some (.string lv) := by rw [cell_of_row _ _ _ _ _ _ HSr.out]; rfl
       have hPs := HP1.out lv (by simp)
       have HIX := Hj (qjd ta tc t lv (pos lv) wr (Rd.below HT.out HA.out.2) hPs (by omega))
       have hps : pos lv < t.length := (List.getElem?_eq_some_iff.1 hPs.1).1
       have hps1 : (pos lv : Int) ≤ 1000000 := by omega
       have hps0 : (0 : Int) ≤ (pos lv : Int) := by omega
       have hle := posO_le (pos := pos) [ln, lv] 1
       have HV7 := Hj (HA.out.app (pos lv) (by omega) (by have := HB1.out; simp only [List.length_append]; omega))
       clear hPs hle hps
       go_wp2_with (first
        | (go_at_call 127; refine HIX.out.mono ?_; rintro e w8 ⟨rfl, hw⟩; obtain rfl := hw.symm)
        | (go_at_call 125; refine HV7.out.mono ?_; rintro e w8 ⟨v8, rfl, h8, hk8⟩; have H8 := Hj h8; have HK8 := Hj hk8; clear h8 hk8))
       exact ⟨⟨2, by omega, rfl, Hj (by have := H8.out; simpa [posO, List.append_assoc] using this), Hj (HA.out.heap HK8.out HSr.out (by decide)), Hj (HA.out.heap HK8.out HRr.out (by decide))⟩, by simp [intOf]⟩
     · have hA := HA.out
       simp only [List.take_succ_cons, List.take_zero] at hA
       have e1 : wr.cell? ⟨wo.heap.size, 2, none⟩ = some (.slice xsa nums.length xsc) := by rw [cell_of_row _ _ _ _ _ _ HRr.out]; rfl
       have HV9 := Hj (hA.app nums.length (by omega) (by have := HB1.out; simp only [List.length_append]; omega))
       have HA9 := Hj hA
       clear hA HA
       go_upto_region 14 with (go_at_call 125; refine HV9.out.mono ?_; rintro e w9 ⟨v9, rfl, h9, hk9⟩; have H9 := Hj h9; have HR9 := Hj (HA9.out.heap hk9 HRr.out (by decide)); clear h9 hk9)
       have e9 : w9.cell? ⟨wo.heap.size, 2, none⟩ = some (.slice xsa nums.length xsc) := by rw [cell_of_row _ _ _ _ _ _ HR9.out]; rfl
       go_wp2_with fail
       clear e1 e9 HRr HSr
       go_loopw [6, 13, 60] (fun c6' c13 c wr => ∃ j : Nat, j ≤ nums.length ∧ c = .int .i64 (j : Nat) ∧ c13 = .int .i64 ((prevN nums j : Nat) : Int) ∧ Hid (Has w wr c6' (qcc pos es k ++ posO pos [ln, lv] ++ venc nums.length ++ dlPre nums j))) (fun _ _ c _ => nums.length - (intOf c).toNat)
       case atStart => exact ⟨0, by omega, rfl, rfl, by simpa [dlPre] using H9⟩
       case round =>
        clear H9 HR9
        obtain ⟨j, hj, rfl, rfl, HA⟩ := hrel
        by_cases hjl : j < nums.length
        · obtain ⟨n, hn⟩ := qaj hjl
          obtain ⟨b7, o7, rfl, c7⟩ := RdI.at (HRI.out wr HA.out.2) hn
          have hn2 := HM3.out n (List.mem_of_getElem? hn)
          have hgd : nums.getD j 0 = n := by rw [List.getD_eq_getElem?_getD, hn]; rfl
          have hmo := HMO.out j hjl
          rw [hgd] at hmo
          have hle := dlPre_le nums j (nums.length - j)
          rw [show j + (nums.length - j) = nums.length by omega] at hle
          obtain ⟨q, hq⟩ : ∃ q, q = prevN nums j := ⟨_, rfl⟩
          rw [← hq] at hmo ⊢
          obtain ⟨d, hd⟩ : ∃ d, d = n - q := ⟨_, rfl⟩
          have hv := HA.out.app d (by omega) (by have := HB1.out; simp only [List.length_append]; omega)
          have HV7 := Hj hv
          have HTK : Hid (dlPre nums (j + 1) = dlPre nums j ++ venc d) := Hj (by rw [dlPre, hgd, ← hq, ← hd])
          have HPV : Hid (prevN nums (j + 1) = n) := Hj (by unfold prevN; rw [if_neg (by omega), Nat.add_sub_cancel, hgd])
          have hjl1 : (j : Int) < nums.length := by omega
          have hj0 : (0 : Int) ≤ (j : Int) := by omega
          have q3 : (n : Int) - (q : Int) = (d : Int) := by omega
          have q4 : (n : Int) ≤ 1000000 := by omega
          have q5 : (q : Int) ≤ (n : Int) := by omega
          have q6 : (0 : Int) ≤ (q : Int) := by omega
          have q7 : (d : Int) ≤ 1000000 := by omega
          have q8 : (0 : Int) ≤ (d : Int) := by omega
          have HJL := Hj hjl
          clear hn hle hjl hn2 hv hmo hgd hq hd
          go_wp2_with (go_at_call 125; refine HV7.out.mono ?_; rintro e w8 ⟨v8, rfl, h8, hk8⟩; have H8 := Hj h8; clear h8 hk8)
          exact ⟨⟨j + 1, by have := HJL.out; omega, rfl, by rw [HPV.out], Hj (by rw [HTK.out, ← List.append_assoc]; exact H8.out)⟩, by have := HJL.out; simp [intOf]; omega⟩
        · obtain rfl : j = nums.length := by omega
          have hA := HA.out
          have HA2 : Hid (Has w wr u6 (qcc pos es (k + 1))) := Hj (by rw [HSU.out, HX.out]; simpa only [List.append_assoc] using hA)
          clear hA hjl HA
          have hlt := HLT.out
          go_wp2_with fail
          exact ⟨⟨k + 1, by omega, rfl, HA2⟩, by simp [intOf]; omega⟩
  · obtain rfl : k = hs.length := by omega
    have hA := HO.out
    rw [HLN.out, postPre_all] at hA
    have HA := Hj hA
    obtain ⟨a9, c9, rfl⟩ := hA.slice
    clear hA HO
    go_wp2
    go_ret2
    exact ⟨_, rfl, HA.out⟩
end
section
open Go.RowKit
section
variable {P : Program}
theorem qfv {w : World} {r : Nat} {m : Option Nat} {s c : Nat} {l : Array Nat} (h : w.heap[r]? = some (.mapIter m s l c)) : (getObj r).run P w = .ok (.mapIter m s l c) w := by
 simp [getObj, Sem.run, h]
theorem run_setIter {w : World} {r : Nat} {m : Option Nat} {s c : Nat} {l : Array Nat} (o : Obj) (h : w.heap[r]? = some (.mapIter m s l c)) : (setObj r o).run P w = .ok () (w.putObj r o) := by
 simp [setObj, Sem.run, h, World.putObj]
theorem run_next1 {w : World} {r M : Nat} {key val : Value} (hr : w.heap[r]? = some (.mapIter (some M) 1 #[] 1)) (hM : w.heap[M]? = some (.map #[⟨key, val, 0⟩] 1)) (ty : TypeId) :
 (Instr.next (.pointer (some ⟨r, 0, none⟩)) false ty).run P w = .ok (.tuple #[.bool true, key, val]) (w.putObj r (.mapIter (some M) 1 #[0] 1)) := by
 simp [Instr.next, qfv hr, MapKept.run_getObj_map hM, Question.forced, run_setIter _ hr, Result.andThen]
theorem run_next2 {w : World} {r M : Nat} {key val : Value} (hr : w.heap[r]? = some (.mapIter (some M) 1 #[0] 1)) (hM : w.heap[M]? = some (.map #[⟨key, val, 0⟩] 1)) (ty : TypeId) :
 (Instr.next (.pointer (some ⟨r, 0, none⟩)) false ty).run P w = .ok (.tuple #[.bool false]) w := by
 simp [Instr.next, qfv hr, MapKept.run_getObj_map hM, Question.forced, Result.andThen]
theorem run_entry1 {w : World} {r M : Nat} {key val : Value} (hr : w.heap[r]? = some (.mapIter (some M) 1 #[0] 1)) (hM : w.heap[M]? = some (.map #[⟨key, val, 0⟩] 1)) :
 (Instr.entry (.pointer (some ⟨r, 0, none⟩))).run P w = .ok (.tuple #[key, val]) w := by
 simp [Instr.entry, qfv hr, MapKept.run_getObj_map hM, Result.andThen]
end
theorem laidOutP : laidOutB Tryz.prog = true := by kernel_rfl
theorem keyL : WideMaps.KeyLaw Tryz.prog 94 := deep_law_laid laidOutP (m := 2) (by omega) (Nat.le_of_ble_eq_true (by kernel_rfl)) (by kernel_rfl) (by kernel_rfl)
theorem run_mapEntry0 {w : World} {M : Nat} {key : Value} {kl : Lit} (hk : keyOf Tryz.prog 94 key = some kl) (hM : w.heap[M]? = some (.map #[] 0)) :
 (Instr.mapEntry 230 (.map (some M)) key).run Tryz.prog w = .ok (.tuple #[.slice none 0 0, .int .i64 0]) (w.putObj M (.map #[⟨key, .slice none 0 0, 0⟩] 1)) := by
 have hf : (Instr.findKey 94 key []).run Tryz.prog w = .ok none w := by
  rcases keyL.find w hk [] (by simp) with ⟨h1, _⟩ | ⟨j, e, _, h2, _⟩
  · exact h1
  · simp at h2
 simp [Instr.mapEntry, run_underlying Tryz.underlying230, MapKept.run_getObj_map hM, keyL.check w false hk, hf, Tryz.zeroValue125, MapKept.run_setObj_map _ hM, Result.andThen, goInt, World.putObj]
theorem qje {P : Program} {w : World} {M : Nat} {key v0 val : Value} (hM : w.heap[M]? = some (.map #[⟨key, v0, 0⟩] 1)) (t : TypeId) :
 (Instr.entryStore t (.map (some M)) (.int .i64 0) val).run P w = .ok () (w.putObj M (.map #[⟨key, val, 0⟩] 1)) := by
 simp [Instr.entryStore, MapKept.run_getObj_map hM, asInt, asIntOf, MapKept.run_setObj_map _ hM, Result.andThen, World.putObj]
theorem run_lookup1 {w : World} {M : Nat} {key val : Value} {kl : Lit} (hk : keyOf Tryz.prog 94 key = some kl) (hM : w.heap[M]? = some (.map #[⟨key, val, 0⟩] 1)) :
 (Instr.lookup 230 (.map (some M)) key false).run Tryz.prog w = .ok val w := by
 have hf : ∃ j, (Instr.findKey 94 key [⟨key, val, 0⟩]).run Tryz.prog w = .ok (some (j, val)) w := by
  rcases keyL.find w hk [⟨key, val, 0⟩] (fun e he => by simp at he; subst he; exact ⟨kl, hk⟩) with ⟨_, h2⟩ | ⟨j, e, h1, h2, h3⟩
  · exact absurd rfl (h2 _ (List.mem_singleton.2 rfl))
  · cases j with
    | zero => simp at h2; subst h2; exact ⟨0, h1⟩
    | succ j => simp at h2
 obtain ⟨j, hj⟩ := hf
 simp [Instr.lookup, run_underlying Tryz.underlying230, MapKept.run_getObj_map hM, keyL.check w false hk, hj, Result.andThen]
end
section
set_option maxHeartbeats 1000000
open Go.RowKit Go.Shelf
attribute [local go_sem] Oper.semAt_some
def encL (x : Lab) : Array Value := #[.agg #[.string x.1, .string x.2]]
theorem keys_any (M : Nat) (w : World) : Calls Tryz.prog 129 #[.map (some M)] w fun e w' => e = .returned (.func (.func 176) #[] #[.pointer (some ⟨w.heap.size, 0, none⟩)]) ∧ w' = w.alloc (.cells #[.map (some M)] 230) := by
 go_enter Tryz.func129, Tryz.ntmps129
 go_wp2
 exact bodyPost_ret (results_tmp rfl _ _ _) rfl ⟨rfl, rfl⟩
def iterLeft (w : World) (r : Nat) : Nat := match w.heap[r]? with | some (.mapIter _ _ seen _) => 1 - seen.size | _ => 0
theorem keys_at (Bx M r : Nat) (x : Lab) (val : Value) (W : World) (hr : r = W.heap.size) (hc : W.cell? ⟨Bx, 0, none⟩ = some (.map (some M))) (hM : W.heap[M]? = some (.map #[⟨.agg #[.string x.1, .string x.2], val, 0⟩] 1)) :
 SeqAt Tryz.prog 176 #[.pointer (some ⟨Bx, 0, none⟩)] encL (fun k => k = M ∨ k = r) (fun k => k = r) (fun xs => xs = [x]) (fun pre => pre <+: [x]) W := by
 intro L J Jx hJ hJx hY h0
 have HY := Hj hY; have HJ := Hj hJ; have HJx := Hj hJx
 have hMlt := qan hM
 have hrM : r ≠ M := by omega
 have hrun := run_range_map (P := Tryz.prog) W 230 94 125 M _ 1 Tryz.underlying230 hM
 obtain ⟨W0, hW0⟩ : ∃ W0, W0 = W.alloc (.mapIter (some M) 1 #[] 1) := ⟨_, rfl⟩
 have hI0 : W0.heap[r]? = some (.mapIter (some M) 1 #[] 1) := by rw [hW0, hr]; exact heap_alloc_new W _
 have hM0 : W0.heap[M]? = some (.map #[⟨.agg #[.string x.1, .string x.2], val, 0⟩] 1) := by rw [hW0]; exact heap_alloc _ hM
 have hJ0 : J [] W0 := hJ _ _ _ h0 (by rw [hW0]; exact (Keeps.refl _ _).alloc _)
 have HI0 := Hj hI0; have HM0 := Hj hM0; have HJ0 := Hj hJ0; have HW0 := Hj hW0
 have HR := Hj hr; have HRM := Hj hrM
 clear hY hJ hJx h0 hI0 hM0 hJ0 hW0 hrM hM hMlt hr
 refine callsIn_of_wp Tryz.func176 rfl trivial ?_ rfl
 simp only [Tryz.ntmps176, List.size_toArray, List.length_cons, List.length_nil, Nat.reduceAdd, Nat.reduceSub, Array.replicate_succ, Array.replicate_zero, List.push_toArray, List.append_toArray, List.nil_append, List.cons_append]
 gi_wp2
 rw [← HW0.out, ← HR.out]
 clear hrun
 gi_loopw [7] (fun t7 wr => (Hid (wr.heap[r]? = some (.mapIter (some M) 1 #[] 1)) ∧ Hid (wr.heap[M]? = some (.map #[⟨.agg #[.string x.1, .string x.2], val, 0⟩] 1)) ∧ Hid (J [] wr)) ∨ (Hid (wr.heap[r]? = some (.mapIter (some M) 1 #[0] 1)) ∧ Hid (wr.heap[M]? = some (.map #[⟨.agg #[.string x.1, .string x.2], val, 0⟩] 1)) ∧ Hid (J [x] wr))) (fun _ wr => iterLeft wr r)
 case atStart => exact .inl ⟨HI0, HM0, HJ0⟩
 case round =>
  rcases hrel with ⟨HI, HM, HJ1⟩ | ⟨HI, HM, HJ1⟩
  · have hn := run_next1 (P := Tryz.prog) HI.out HM.out
    have hlt := qan HI.out
    obtain ⟨W1, hW1⟩ : ∃ W1, W1 = wr.putObj r (.mapIter (some M) 1 #[0] 1) := ⟨_, rfl⟩
    have hI1 : W1.heap[r]? = some (.mapIter (some M) 1 #[0] 1) := by rw [hW1]; exact World.putObj_heap_same hlt
    have hM1 : W1.heap[M]? = some (.map #[⟨.agg #[.string x.1, .string x.2], val, 0⟩] 1) := by rw [hW1]; exact (World.putObj_heap_other (by have := HRM.out; omega)).trans HM.out
    have hk1 : Keeps (fun k => k = r) wr W1 := by rw [hW1]; exact Keeps.putObj _ _ _ rfl
    have he := run_entry1 (P := Tryz.prog) hI1 hM1
    have hJ1 := HJ.out _ _ _ HJ1.out hk1
    have hs1 : W1.heap.size = wr.heap.size := by rw [hW1]; simp
    rw [← hW1] at hn
    obtain ⟨W2, hW2⟩ : ∃ W2, W2 = W1.alloc (.cells #[.string x.1, .string x.2] 94) := ⟨_, rfl⟩
    have hr2 : W2.heap[W1.heap.size]? = some (.cells #[.string x.1, .string x.2] 94 (0, 0)) := by rw [hW2]; exact heap_alloc_new W1 _
    have e1 : W2.cell? ⟨W1.heap.size, 0, none⟩ = some (.string x.1) := by rw [cell_of_row _ _ _ _ _ _ hr2]; rfl
    have e2 : W2.cell? ⟨W1.heap.size, 1, none⟩ = some (.string x.2) := by rw [cell_of_row _ _ _ _ _ _ hr2]; rfl
    have hk2 : Keeps (fun k => k = r) W1 W2 := by rw [hW2]; exact (Keeps.refl _ _).alloc _
    obtain ⟨fn, tmps, assign, body, hyy, hR⟩ := HY.out [] x W2 (HJ.out _ _ _ hJ1 hk2) (by simp)
    simp only [encL, List.nil_append] at hyy hR
    have HI2 : Hid (W2.heap[r]? = some (.mapIter (some M) 1 #[0] 1)) := Hj (by rw [hW2]; exact heap_alloc _ hI1)
    have HM2 : Hid (W2.heap[M]? = some (.map #[⟨.agg #[.string x.1, .string x.2], val, 0⟩] 1)) := Hj (by rw [hW2]; exact heap_alloc _ hM1)
    have HW2 := Hj hW2
    have HIw := Hj HI.out
    clear hlt hW1 hI1 hM1 hk1 hJ1 hs1 hW2 hr2 hk2 HI HM HJ1
    gi_upto_region 3 with fail
    rw [← HW2.out]
    clear hn he
    gi_wp2
    refine ⟨rfl, hR.mono ?_⟩
    rintro e W3 (⟨rfl, hJ3, hk3⟩ | ⟨rfl, hJx3, hk3⟩)
    · have HI3 := Hj (hk3.heap HI2.out (fun h => h (.inr rfl))); have HM3 := Hj (hk3.heap HM2.out (fun h => h (.inl rfl))); have HJ3 := Hj hJ3
      clear hJ3 hk3 hyy e1 e2
      gi_wp2
      exact ⟨.inr ⟨HI3, HM3, HJ3⟩, by simp [iterLeft, HI3.out, HIw.out]⟩
    · have HJx3 := Hj hJx3
      clear hJx3 hk3 hyy e1 e2
      gi_wp2
      refine bodyPost_ret (results_none rfl _ _ _) rfl ?_
      exact ⟨⟨_, rfl⟩, .inr ⟨[x], by simp, HJx3.out⟩⟩
  · have hn := run_next2 (P := Tryz.prog) HI.out HM.out
    gi_wp2
    go_end0
    first | exact ⟨⟨_, rfl⟩, .inl ⟨_, rfl, HJ1.out⟩⟩ | exact ⟨⟨_, rfl⟩, .inl HJ1.out⟩ | exact .inl HJ1.out
end
section
set_option maxHeartbeats 1000000
set_option maxRecDepth 100000
open Go.RowKit Go.Shelf
attribute [local go_sem] Oper.semAt_some
theorem labC_append' (a b : List Lab) : labC (a ++ b) = labC a ++ labC b := by simp [labC, cells2]
theorem appseqL_any (gf : Nat) (eg : ∀ args w, (callFunc gf args).run Tryz.prog w = .ok (.enter gf args) w) (lb : Array Value) (ow tr : Nat → Prop) (S Sp : List Lab → Prop) (w : World) (hseq : ∀ W, W.heap.size = w.heap.size + 3 → Keeps (fun _ => False) w W → SeqAt Tryz.prog gf lb encL ow tr S Sp W) (how : ∀ k, ow k → k < w.heap.size ∨ k = w.heap.size + 3) (htr : ∀ k, tr k → k = w.heap.size + 3) (htro : ∀ k, tr k → ow k) (hlen : ∀ pre, Sp pre → pre.length ≤ 1099511627776) :
 Calls Tryz.prog 210 #[.slice none 0 0, .func (.func gf) #[] lb] w fun e w' => ∃ v rs, e = .returned v ∧ S rs ∧ w'.ownsRow w.heap.size 94 2 v rs.length (labC rs) ∧ Keeps (fun _ => False) w w' := by
 have HSeq := Hj hseq; have HOw := Hj how; have HLen := Hj hlen; have HTr := Hj htr; have HTro := Hj htro
 clear hseq how hlen htr htro
 refine (callsIn_wide (n := 0)).1 ?_
 refine callsIn_of_wp_marks Tryz.func210 rfl trivial ?_ rfl
 simp only [Tryz.ntmps210, List.size_toArray, List.length_cons, List.length_nil, Nat.reduceAdd, Nat.reduceSub, Array.replicate_succ, Array.replicate_zero, List.push_toArray, List.append_toArray, List.nil_append, List.cons_append]
 gi_wp2
 obtain ⟨W0, hW0⟩ : ∃ W0, W0 = (w.alloc (.cells #[.slice none 0 0] 95)) := ⟨_, rfl⟩
 have hsz : W0.heap.size = w.heap.size + 1 := by rw [hW0]; simp
 have hkW : ∀ S, Keeps S w W0 := fun S => by rw [hW0]; exact (Keeps.refl S w).alloc _
 have hbox : W0.heap[w.heap.size]? = some (.cells #[.slice none 0 0] 95 (0, 0)) := by rw [hW0]; exact heap_alloc_new w _
 rw [← hW0]
 clear hW0
 refine qeo (gf := gf) (lb := lb) (w := W0) rfl eg
  (fun W hs hk => HSeq.out W (by omega) ((hkW _).trans hk (fun _ _ e => e))) (T := fun k => k = w.heap.size ∨ w.heap.size + 4 ≤ k) (fun x => rfl) HTro.out
  (fun k hk => by rcases HOw.out k hk with h | h <;> omega) ?hT ?hT2
  (fun pre W => ∃ v', W.heap[w.heap.size]? = some (.cells #[v'] 95 (0, 0)) ∧ W.ownsRow (w.heap.size + 4) 94 2 v' pre.length (labC pre) ∧ Keeps (fun _ => False) w W)
  (fun _ _ _ => False) ?hI (fun _ _ _ _ h _ => h) ?h0
  (fun x D => { tmps := #[.slice none 0 0, .func (.func gf) #[] lb, .pointer (some ⟨w.heap.size, 0, none⟩), undef, .slice none 0 0, .pointer (some ⟨D, 0, none⟩), .func (.func gf) #[] lb, .agg #[.string x.1, .string x.2], undef, undef, undef, undef, undef], defers := [] })
  (fun x => #[.string x.1, .string x.2]) 94 ?assign ?body ?done ?stop
 case hT =>
  rintro k (rfl | hk) e
  · rcases HOw.out _ e with h | h <;> omega
  · rcases HOw.out _ e with h | h <;> omega
 case hT2 => rintro k (rfl | hk) <;> omega
 case hI =>
  rintro pre A B ⟨v', h1, h2, h3⟩ hk
  refine ⟨v', hk.heap h1 ?_, hk.row h2 (fun g hg hs => ?_), h3.trans hk (fun k hk hs => ?_)⟩
  · rintro (e | e | e)
    · have := HTr.out _ e; omega
    · omega
    · omega
  · have := (h2.lt g hg).1
    rcases hs with e | e | e
    · have := HTr.out _ e; omega
    · omega
    · omega
  · rcases hs with e | e | e
    · have := HTr.out _ e; omega
    · omega
    · omega
 case h0 => exact ⟨_, hbox, World.ownsRow_nil _ _ _ _, hkW _⟩
 case assign =>
  intro lp x W K hK
  simp only [encL]
  gi_wp2
  exact hK
 case body =>
  rintro lp D pre x W ⟨v', h1, h2, h3⟩ hsp hsz2 hD hDb
  have hb1 : w.heap.size + 4 ≤ W.heap.size := by have := qan hD; omega
  have hd0 : W.cell? ⟨D, 0, none⟩ = some (.string x.1) := by rw [cell_of_row _ _ _ _ _ _ hD]; rfl
  have hd1 : W.cell? ⟨D, 1, none⟩ = some (.string x.2) := by rw [cell_of_row _ _ _ _ _ _ hD]; rfl
  have hc0 : W.cell? ⟨w.heap.size, 0, none⟩ = some v' := by rw [cell_of_row _ _ _ _ _ _ h1]; rfl
  have hf0 : W.frozen? ⟨w.heap.size, 0, none⟩ = false := frozen_of_row _ _ _ _ _ h1
  have hlp : pre.length ≤ 1099511627776 := by have := HLen.out _ hsp; simp at this; omega
  have H1 := Hj h1; have H2 := Hj h2; have H3 := Hj h3
  obtain ⟨ad', cap', rfl⟩ := qac h2
  clear h1 h2 h3 hsp hD
  gi_wp2_with (gi_at_builtin; refine appEIn elL rfl _ _ rfl (w.heap.size + 4) _ _ pre.length 1 _ [.string x.1, .string x.2] rfl rfl (H2.out.alloc _) (rd_new _ 2 1 [.string x.1, .string x.2] 94 1 rfl (Nat.le_refl _)) (by simp [Value.oneCell']) (by omega) (by simp; omega) ?_)
  intro v2 w2 hown' hgrow hnew
  obtain ⟨ad2, cap2, rfl⟩ := qac hown'
  have hk2 : Keeps (own (.slice ad' pre.length cap')) W w2 := ((Keeps.refl (own _) W).alloc _).grown hgrow (fun k _ e => e)
  have hvb : ¬ own (.slice ad' pre.length cap') w.heap.size := fun e => by have := (H2.out.lt _ e).1; omega
  have d0 : w2.cell? ⟨w.heap.size, 0, none⟩ = some (.slice ad' pre.length cap') := hk2.cell hc0 hvb
  have e0 : w2.frozen? ⟨w.heap.size, 0, none⟩ = false := (qbq hk2 hc0 hvb).trans hf0
  have hlo : ∀ g, (Value.slice ad2 (pre.length + 1) cap2).ownBlock = some g → w.heap.size + 4 ≤ g := fun g hg => (hown'.lt g hg).1
  have hset : Keeps (fun k => k = w.heap.size) w2 (w2.setCell ⟨w.heap.size, 0, none⟩ (.slice ad2 (pre.length + 1) cap2)) := (Keeps.refl (fun k => k = w.heap.size) w2).setCell (p := ⟨w.heap.size, 0, none⟩) (fun _ => rfl) _
  have fin : bodyC (fun k => k = w.heap.size ∨ w.heap.size + 4 ≤ k)
   (fun pre W => ∃ v', W.heap[w.heap.size]? = some (.cells #[v'] 95 (0, 0)) ∧ W.ownsRow (w.heap.size + 4) 94 2 v' pre.length (labC pre) ∧ Keeps (fun _ => False) w W) (fun _ _ _ => False) (pre ++ [x]) W .normal { tmps := #[], defers := [] } (w2.setCell ⟨w.heap.size, 0, none⟩ (.slice ad2 (pre.length + 1) cap2)) := by
   have kk : Keeps (fun k => k = w.heap.size ∨ w.heap.size + 4 ≤ k) W (w2.setCell ⟨w.heap.size, 0, none⟩ (.slice ad2 (pre.length + 1) cap2)) :=
    (hk2.mono (S' := fun k => k = w.heap.size ∨ w.heap.size + 4 ≤ k) (fun k _ e => .inr (H2.out.lt _ e).1)).trans hset (fun k _ e => .inl e)
   refine ⟨kk, .slice ad2 (pre.length + 1) cap2, ?_, ?_, H3.out.trans kk (fun k hk e => by omega)⟩
   · have := heap_setCell_same w2 w.heap.size 0 _ _ (.slice ad2 (pre.length + 1) cap2) (hk2.heap H1.out hvb)
     simpa using this
   · rw [labC_append', List.length_append, List.length_singleton]
     exact hset.row hown' (fun g hg e => by have := hlo g hg; omega)
  have HF := Hj fin
  clear hown' hgrow hnew hk2 hvb hc0 hf0 hset fin hlo hd0 hd1
  gi_wp2
  exact HF.out
 case done =>
  rintro D xs W hS ⟨v', h1, h2, h3⟩ hD hK
  have hc0 : W.cell? ⟨w.heap.size, 0, none⟩ = some v' := by rw [cell_of_row _ _ _ _ _ _ h1]; rfl
  have H2 := Hj h2; have H3 := Hj h3; have HS := Hj hS
  clear h1 h2 h3 hS
  gi_wp2
  refine ⟨by simp, .inl ⟨_, _, rfl, run_takeDeferred hK, ?_⟩⟩
  refine ⟨_, results_tmp rfl _ _ _, ⟨_, _, rfl, HS.out, ?_⟩⟩
  have hp : Keeps (fun k => k = D) W (W.putObj D (.deferred none)) := Keeps.putObj _ _ _ rfl
  refine ⟨qao (hp.row H2.out (fun g hg e => ?_)) (fun g hg => by have := (H2.out.lt g hg).1; omega), H3.out.trans hp (fun k hk e => by omega)⟩
  obtain ⟨c', hc'⟩ := qak H2.out hg
  subst e
  rw [hK] at hc'
  cases hc'
 case stop => rintro D c pre W _ h; exact h.elim
theorem qhk (gf : Nat) (eg : ∀ args w, (callFunc gf args).run Tryz.prog w = .ok (.enter gf args) w) (lb : Array Value) (ow tr : Nat → Prop) (S Sp : List Lab → Prop) (w : World) (hseq : ∀ W, W.heap.size = w.heap.size + 3 → Keeps (fun _ => False) w W → SeqAt Tryz.prog gf lb encL ow tr S Sp W) (how : ∀ k, ow k → k < w.heap.size ∨ k = w.heap.size + 3) (htr : ∀ k, tr k → k = w.heap.size + 3) (htro : ∀ k, tr k → ow k) (hlen : ∀ pre, Sp pre → pre.length ≤ 1099511627776) :
 Calls Tryz.prog 174 #[.func (.func gf) #[] lb] w fun e w' => ∃ v rs, e = .returned v ∧ S rs ∧ w'.ownsRow w.heap.size 94 2 v rs.length (labC rs) ∧ Keeps (fun _ => False) w w' := by
 have HSeq := Hj hseq; have HOw := Hj how; have HLen := Hj hlen; have HEg := Hj eg; have HTr := Hj htr; have HTro := Hj htro
 clear hseq how hlen eg htr htro
 go_enter Tryz.func174, Tryz.ntmps174
 go_wp2_with (go_at_call 210; refine (appseqL_any gf HEg.out lb ow tr S Sp w HSeq.out HOw.out HTr.out HTro.out HLen.out).mono ?_; rintro e w1 ⟨v, rs, rfl, hS, hr, hk⟩; obtain ⟨ad, cap, rfl⟩ := qac hr)
 go_ret
 exact ⟨_, _, rfl, hS, hr, hk⟩
end
section
set_option maxHeartbeats 1000000
set_option maxRecDepth 100000
open Go.RowKit
theorem insL_one (ad : Option Addr) (cap : Nat) (f : Value) (w : World) : Calls Tryz.prog 229 #[.slice ad 1 cap, .int .i64 0, .int .i64 1, f] w fun e w' => e = .returned (.tuple #[]) ∧ w' = w := by
 go_enter Tryz.func229, Tryz.ntmps229
 go_wp2
 go_loopw [8] (fun i wr => i = .int .i64 1 ∧ wr = w) (fun _ _ => 0)
 case atStart => exact ⟨rfl, rfl⟩
 case round =>
  obtain ⟨rfl, rfl⟩ := hrel
  go_wp2
  go_end0
  exact ⟨rfl, rfl⟩
theorem pdqL_one (ad : Option Addr) (cap : Nat) (lim : Int) (f : Value) (w : World) : Calls Tryz.prog 211 #[.slice ad 1 cap, .int .i64 0, .int .i64 1, .int .i64 lim, f] w fun e w' => e = .returned (.tuple #[]) ∧ w' = w := by
 go_enter Tryz.func211, Tryz.ntmps211
 go_wp2
 go_loopw [1, 2, 3, 10, 11] (fun s1 s2 s3 s10 s11 wr => s1 = .int .i64 0 ∧ s2 = .int .i64 1 ∧ s3 = .int .i64 lim ∧ s10 = .bool true ∧ s11 = .bool true ∧ wr = w) (fun _ _ _ _ _ _ => 0)
 case atStart => exact ⟨rfl, rfl, rfl, rfl, rfl, rfl⟩
 case round =>
  obtain ⟨rfl, rfl, rfl, rfl, rfl, rfl⟩ := hrel
  go_wp2_with (go_at_call 229; refine (insL_one ad cap f _).mono ?_; rintro e w1 ⟨rfl, hw⟩; obtain rfl := hw.symm)
  (try simp only [Exit.inBlock, Exit.then]); refine bodyPost_ret (results_none rfl _ _ _) rfl ?_
  exact ⟨rfl, rfl⟩
theorem sortL_one (ad : Option Addr) (cap : Nat) (f : Value) (w : World) : Calls Tryz.prog 175 #[.slice ad 1 cap, f] w fun e w' => e = .returned (.tuple #[]) ∧ w' = w := by
 have HL : Hid (∀ w, Calls Tryz.prog 157 #[.int .u64 1] w fun e w' => e = .returned (.int .i64 (Lib.bitLen 1)) ∧ w' = w) := Hj (fun w => len_any 1 w (by omega) (by omega))
 generalize ((Lib.bitLen 1 : Nat) : Int) = m at HL
 go_enter Tryz.func175, Tryz.ntmps175
 go_wp2_with (first
  | (go_at_call 157; refine (HL.out _).mono ?_; rintro e w1 ⟨rfl, hw⟩; obtain rfl := hw.symm)
  | (go_at_call 211; refine (pdqL_one ad cap m f _).mono ?_; rintro e w1 ⟨rfl, hw⟩; obtain rfl := hw.symm))
 go_end0
 exact ⟨rfl, rfl⟩
theorem sortedL_one (gf : Nat) (eg : ∀ args w, (callFunc gf args).run Tryz.prog w = .ok (.enter gf args) w) (lb : Array Value) (f : Value) (ow tr : Nat → Prop) (x : Lab) (w : World) (hseq : ∀ W, W.heap.size = w.heap.size + 3 → Keeps (fun _ => False) w W → SeqAt Tryz.prog gf lb encL ow tr (fun xs => xs = [x]) (fun pre => pre <+: [x]) W) (how : ∀ k, ow k → k < w.heap.size ∨ k = w.heap.size + 3) (htr : ∀ k, tr k → k = w.heap.size + 3) (htro : ∀ k, tr k → ow k) :
 Calls Tryz.prog 128 #[.func (.func gf) #[] lb, f] w fun e w' => ∃ v, e = .returned v ∧ w'.ownsRow w.heap.size 94 2 v 1 (labC [x]) ∧ Keeps (fun _ => False) w w' := by
 have HC := Hj (qhk gf eg lb ow tr _ _ w hseq how htr htro (fun pre hp => by have := hp.length_le; simp at this; omega))
 clear hseq how htr htro eg
 go_enter Tryz.func128, Tryz.ntmps128
 go_wp2_with (first
  | (go_at_call 174; refine HC.out.mono ?_; rintro e w1 ⟨v, rs, rfl, hrs, hr, hk⟩; subst hrs; obtain ⟨ad, cap, rfl⟩ := qac hr; have HR := Hj hr; have HK := Hj hk; clear hr hk)
  | (go_at_call 175; refine (sortL_one ad cap f _).mono ?_; rintro e w1 ⟨rfl, hw⟩; obtain rfl := hw.symm))
 go_ret
 exact ⟨_, rfl, HR.out, HK.out⟩
end
section
open Go.RowKit
theorem infoSmp : (Tryz.prog.info? 28).map (fun i => (i.zero, i.size, i.bytes)) = some (some (.agg #[.int .i64 0, .int .u64 0]), 2, 16) := by kernel_rfl
theorem cells2_set {α : Type} (f g : α → Value) : ∀ (L : List α) (j : Nat) (x : α), cells2 f g (L.set j x) = ((cells2 f g L).set (j * 2) (f x)).set (j * 2 + 1) (g x) := by
 intro L
 induction L with
 | nil => intro j x; simp [cells2]
 | cons y r ih =>
   intro j x
   cases j with
   | zero => simp [cells2]
   | succ j =>
     have := ih j x
     simp only [cells2, List.set_cons_succ, List.flatMap_cons] at this ⊢
     rw [this, show (j + 1) * 2 = j * 2 + 2 by omega, show j * 2 + 2 + 1 = (j * 2 + 1) + 2 by omega]
     simp
def laidO (l : List Smp) (j : Nat) : List Smp := l.take j ++ List.replicate (l.length - j) (0, 0)
theorem laidO_zero (l : List Smp) : laidO l 0 = List.replicate l.length (0, 0) := by simp [laidO]
theorem laidO_all (l : List Smp) : laidO l l.length = l := by simp [laidO]
theorem laidO_length (l : List Smp) (j : Nat) (h : j ≤ l.length) : (laidO l j).length = l.length := by simp [laidO]; omega
theorem laidO_step {l : List Smp} {j : Nat} {x : Smp} (h : l[j]? = some x) : laidO l (j + 1) = (laidO l j).set j x := by
 have hj := (List.getElem?_eq_some_iff.1 h).1
 unfold laidO
 rw [List.take_add_one, h, show l.length - j = (l.length - (j + 1)) + 1 by omega, List.replicate_succ, List.set_append_right _ _ (by simp; omega)]
 have : j - (l.take j).length = 0 := by simp; omega
 rw [this]
 simp
theorem madeSmp (n : Nat) : madeCells #[.int .i64 0, .int .u64 0] (n * 2) = (smpC (List.replicate n (0, 0))).toArray := by
 apply Array.ext_getElem?
 intro k
 have hr : (smpC (List.replicate n (0, 0))).toArray[k]? = (smpC (List.replicate n (0, 0)))[k]? := by simp
 rw [hr]
 by_cases hk : k < n * 2
 · have hi : k / 2 < n := by omega
   have hg : (List.replicate n ((0 : Int), (0 : Int)))[k / 2]? = some (0, 0) := by simp [hi]
   obtain ⟨h0, h1⟩ := qco smpF smpG _ _ _ hg
   rcases Nat.mod_two_eq_zero_or_one k with hm | hm
   · rw [show k / 2 * 2 = k by omega] at h0
     rw [show smpC (List.replicate n (0, 0)) = cells2 smpF smpG (List.replicate n ((0 : Int), (0 : Int))) from rfl, h0]
     simp [madeCells, hk, hm, smpF]
   · rw [show k / 2 * 2 + 1 = k by omega] at h1
     rw [show smpC (List.replicate n (0, 0)) = cells2 smpF smpG (List.replicate n ((0 : Int), (0 : Int))) from rfl, h1]
     simp [madeCells, hk, hm, smpG]
 · have h2 : (smpC (List.replicate n (0, 0))).length = n * 2 := by unfold smpC; rw [qat]; simp
   rw [List.getElem?_eq_none (by omega), Array.getElem?_eq_none (by rw [size_madeCells]; omega)]
theorem makeS (n : Nat) (hn : n ≤ 1000000) (w : World) : (Instr.makeSlice 22 (.int .i64 (n : Int)) (.int .i64 (n : Int))).run Tryz.prog w = .ok (.slice (some ⟨w.heap.size, 0, none⟩) n n) (w.alloc (.cells (smpC (List.replicate n (0, 0))).toArray 28)) := by
 obtain ⟨i0, hi, hz0, hz1, hz2⟩ := info_parts infoSmp
 have := run_makeSlice (P := Tryz.prog) (w := w) 22 28 i0 (.agg #[.int .i64 0, .int .u64 0]) Tryz.underlying22 hi hz0 .i64 .i64 n n (by omega) (by omega) (by rw [hz1]; simp; omega) (by rw [hz2]; omega) (by omega)
 rw [← madeSmp]
 simpa [hz1, Value.cells] using this
theorem laid_block {w : World} {g j : Nat} {t : TypeId} {l : List Smp} {x : Smp} (h : w.heap[g]? = some (.cells (smpC (laidO l j)).toArray t (0, 0))) (hx : l[j]? = some x) :
 ((w.setCell ⟨g, j * 2, none⟩ (.int .i64 x.1)).setCell ⟨g, j * 2 + 1, none⟩ (.int .u64 x.2)).heap[g]? = some (.cells (smpC (laidO l (j + 1))).toArray t (0, 0)) := by
 rw [heap_setCell_same _ _ _ _ _ _ (heap_setCell_same _ _ _ _ _ _ h), laidO_step hx]
 congr 2
 rw [show smpC ((laidO l j).set j x) = ((smpC (laidO l j)).set (j * 2) (smpF x)).set (j * 2 + 1) (smpG x) from cells2_set _ _ _ _ _]
 simp [smpF, smpG]
theorem i64_cell {w : World} {ad : Option Addr} {n cap : Nat} {ts : List Int} (h : Holds w (.slice ad n cap) (i64s ts)) {j : Nat} {x : Int} (hx : ts[j]? = some x) : ∃ b off, ad = some ⟨b, off, none⟩ ∧ w.cell? ⟨b, off + j, none⟩ = some (.int .i64 x) := by
 obtain ⟨a', c', hv, hc, h | ⟨b, off, rfl, hcell⟩⟩ := h
 · have : ts = [] := by simpa [i64s] using h
   subst this; simp at hx
 · simp only [Value.slice.injEq] at hv
   exact ⟨b, off, hv.1, hcell j _ (by simp [i64s, hx])⟩
theorem rdS_block {w : World} {g : Nat} {t : TypeId} {l : List Smp} (h : w.heap[g]? = some (.cells (smpC l).toArray t (0, 0))) : RdS w (.slice (some ⟨g, 0, none⟩) l.length l.length) l := by
 have hl : (smpC l).length = l.length * 2 := qat _ _ _
 refine ⟨hl, _, _, rfl, Nat.le_refl _, .inr ⟨g, 0, rfl, fun j u hj => ?_⟩⟩
 rw [cell_of_row _ _ _ _ _ _ h, Nat.zero_add]
 simpa using hj
theorem u8_cells {w : World} {ad : Option Addr} {n cap a b : Nat} {bs : List Nat} (h : Holds w (.slice ad n cap) (u8s (a :: b :: bs))) : n = bs.length + 2 ∧ ∃ g off, ad = some ⟨g, off, none⟩ ∧ w.cell? ⟨g, off, none⟩ = some (.int .u8 (a : Int)) ∧ w.cell? ⟨g, off + 1, none⟩ = some (.int .u8 (b : Int)) := by
 obtain ⟨a', c', hv, hc, h | ⟨g, off, rfl, hcell⟩⟩ := h
 · simp [u8s] at h
 · simp only [Value.slice.injEq] at hv
   obtain ⟨rfl, hn, rfl⟩ := hv
   refine ⟨by rw [hn]; simp [u8s], g, off, rfl, ?_, ?_⟩
   · have := hcell 0 (.int .u8 (a : Int)) (by simp [u8s]); simpa using this
   · exact hcell 1 (.int .u8 (b : Int)) (by simp [u8s])
end
end Go.Proofs.YtfpcgcbehdogjaaGreatDoor
