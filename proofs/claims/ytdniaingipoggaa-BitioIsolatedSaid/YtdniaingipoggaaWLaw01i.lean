/-
  WALKS: BitioIsolated.
-/
import Derived.Test.YtdniaingipoggaaWLaw01r
import Derived.Test.YtdniaingipoggaaPRound
import Derived.Test.YtdniaingipoggaaWVarC
import Derived.WalkKit
import Derived.WalkSpells
import Derived.WalkLawsBesides
import Derived.Lib.Hide
namespace Go.Proofs.Ytdniaingipoggaa
open Go.RowKit

/-- block g begins with n bytes -/
def BytesAt (w : World) (g n : Nat) : Prop := ∃ cur, w.heap[g]? = some (.cells cur 5 (0, 0)) ∧ ∀ j, j < n → ∃ y : Nat, y < 256 ∧ cur[j]? = some (.int .u8 (y : Nat))
theorem BytesAt.cell {w : World} {g n : Nat} (h : BytesAt w g n) {j : Nat} (hj : j < n) : ∃ y : Nat, y < 256 ∧ w.cell? ⟨g, j, none⟩ = some (.int .u8 (y : Nat)) ∧ w.frozen? ⟨g, j, none⟩ = false := by
  obtain ⟨cur, hg, hc⟩ := h
  obtain ⟨y, hy, hj'⟩ := hc j hj
  exact ⟨y, hy, by rw [cell_of_row w g j _ _ _ hg]; exact hj', frozen_of_row w g j _ _ hg⟩
theorem BytesAt.set {w : World} {g n : Nat} (h : BytesAt w g n) (j z : Nat) (hz : z < 256) : BytesAt (w.setCell ⟨g, j, none⟩ (.int .u8 (z : Nat))) g n := by
  obtain ⟨cur, hg, hc⟩ := h
  refine ⟨_, heap_setCell_same w g j cur _ _ hg, fun i hi => ?_⟩
  obtain ⟨y, hy, hi'⟩ := hc i hi
  have hsz : i < cur.size := (Array.getElem?_eq_some_iff.1 hi').1
  by_cases e : j = i
  · subst e
    exact ⟨z, hz, by simp [hsz]⟩
  · exact ⟨y, hy, by rw [Array.getElem?_setIfInBounds_ne e]; exact hi'⟩
theorem bytesAt_row {w : World} {base : Nat} {v : Value} {l : List Nat} (h : w.ownsRow base 5 1 v (u8s l).length (u8s l)) (hb : ∀ c ∈ l, c < 256) (g : Nat) (hg : v.ownBlock = some g) : BytesAt w g l.length := by
  rcases h.2 with ⟨rfl, h0⟩ | ⟨g', cap, cur, rfl, hbb, hgg, hcap, _, hcs, htk⟩
  · simp [Value.ownBlock] at hg
  · simp only [Value.ownBlock, Option.some.injEq] at hg
    subst hg
    refine ⟨cur, hgg, fun j hj => ⟨l[j], hb _ (List.getElem_mem hj), ?_⟩⟩
    have e1 : (u8s l)[j]? = some (.int .u8 ((l[j] : Nat) : Int)) := by simp [u8s, hj]
    rw [← htk, List.getElem?_take] at e1
    split at e1
    · rw [← Array.getElem?_toList]; exact e1
    · cases e1
theorem shape_row {w : World} {base : Nat} {v : Value} {l : List Nat} (h : w.ownsRow base 5 1 v (u8s l).length (u8s l)) : ∃ ad cap, v = .slice ad l.length cap ∧ (0 < l.length → ∃ g, ad = some ⟨g, 0, none⟩) := by
  rcases h.2 with ⟨rfl, h0⟩ | ⟨g', cap, cur, rfl, _⟩
  · rw [u8s_length] at h0
    exact ⟨none, 0, by rw [h0], fun h => by omega⟩
  · exact ⟨_, cap, by rw [u8s_length], fun _ => ⟨g', rfl⟩⟩
theorem unpackB_split (l : List Nat) : ∀ (k : Nat), k < l.length → bitsFrom l (8 * k) 8 = fieldBits (l.getD k 0) 8 := by
  intro k hk
  have hpre : unpackB (l.take (k + 1)) = (unpackB l).take (8 * (k + 1)) := by
    apply List.ext_getElem?
    intro i
    rw [List.getElem?_take]
    split
    · rename_i h
      rw [unpackB_get _ _ (by rw [List.length_take]; omega), unpackB_get _ _ (by omega)]
      unfold rbit
      rw [List.getD_eq_getElem?_getD, List.getD_eq_getElem?_getD, List.getElem?_take, if_pos (by omega)]
    · rename_i h
      rw [List.getElem?_eq_none (by rw [unpackB_length, List.length_take]; omega)]
  have hs := unpackB_take l k hk
  rw [hpre] at hs
  have h8 : (unpackB (l.take k)).length = 8 * k := by rw [unpackB_length, List.length_take]; omega
  unfold bitsFrom
  have : ((unpackB l).drop (8 * k)).take 8 = ((unpackB l).take (8 * (k + 1))).drop (8 * k) := by
    rw [List.drop_take]
    congr 1
    omega
  rw [this, hs, ← h8, List.drop_left]
theorem u8_inc (y : Nat) (h : y < 256) : IntKind.u8.wrap ((y : Int) + 1) = (((y + 1) % 256 : Nat) : Int) := by
  rcases Nat.lt_or_ge y 255 with h1 | h1
  · rw [IntWalk.u8_in] <;> omega
  · obtain rfl : y = 255 := by omega
    decide

set_option maxRecDepth 100000 in
set_option maxHeartbeats 4000000 in
theorem bitioIsolated_any (vl v1 : Value) (fs : List (Nat × Int)) (l : List Nat) (w : World) (hf : HoldsF w w.heap.size vl fs) (hfs : ∀ f ∈ fs, f.1 ≤ 18446744073709551615) (h1 : Holds w v1 (u8s l)) (hb : ∀ c ∈ l, c < 256) :
    Calls Try.prog 5 #[vl, v1] w fun e w' => e = .returned (.bool true) ∧ Keeps (fun _ => False) w w' := by
  obtain ⟨ad, cap, rfl, hcells⟩ := hf
  have HF : Hid (HoldsF w w.heap.size (.slice ad fs.length cap) fs) := Lib.hid ⟨ad, cap, rfl, hcells⟩
  have HFS := Lib.hid hfs; have HH := Lib.hid h1; have HBY := Lib.hid hb
  clear hcells hfs hb
  obtain ⟨adb, capb, rfl, hc, hcells⟩ := h1
  rw [u8s_length] at hc ⊢ HH
  clear hcells
  by_cases hl : fs.length ≤ 300
  · have hl' : ¬ 300 < (fs.length : Int) := by omega
    by_cases hn : l.length ≤ 300
    · have hn' : ¬ 300 < (l.length : Int) := by omega
      go_enter Try.func5, Try.ntmps5
      go_wp2_with fail
      refine (newWriter_any w).mono ?_
      rintro e w1 ⟨rfl, hw1⟩
      have h1 := newWriter_is w w.heap.size (Nat.le_refl _)
      have k1 : Keeps (fun _ => False) w w1 := by rw [hw1]; exact (Keeps.refl _ _).alloc _
      rw [← hw1] at h1
      have hf1 := HF.out.keeps k1
      obtain ⟨B, hB⟩ : ∃ B, B = w.heap.size := ⟨_, rfl⟩
      rw [← hB] at h1 hf1 ⊢
      have HB := Lib.hid hB; have H1 := Lib.hid h1; have K1 := Lib.hid k1; have HF1 := Lib.hid hf1
      clear hB h1 k1 hw1 hf1
      go_wp2_with fail
      refine (lawWrite_any B B _ fs w1 H1.out HF1.out HFS.out hl (by have := H1.out.lt; omega)).mono ?_
      rintro e w2 ⟨vb, rfl, hrow, v2, h2, k2, n2⟩
      obtain ⟨ad3, cap3, rfl⟩ := row_slice hrow
      have hL := bitsOfFields_le fs
      have hL2 : (bitsOfFields fs).length ≤ 19200 := by omega
      generalize bitsOfFields fs = L at *
      rw [bools_length] at hrow ⊢
      have H2 := Lib.hid h2; have RB := Lib.hid hrow
      have N2 : Hid (∀ g, v2.ownBlock = some g → w.heap.size ≤ g) := Lib.hid (fun g hg => by
        rcases n2 g hg with h | h
        · simp [Value.ownBlock] at h
        · have := K1.out.size; omega)
      have K2 : Hid (Keeps (fun _ => False) w w2) := Lib.hid (K1.out.trans k2 (fun k hk e => foot_nil (by rw [HB.out]; exact Nat.le_refl _) hk e))
      clear hrow h2 k2 n2 hL
      go_wp2_with fail
      refine (wbytes_any B B _ L _ H2.out (by omega)).mono ?_
      rintro e w3 ⟨v3, rfl, r3, k3⟩
      have R3 := Lib.hid r3
      have H3 := Lib.hid (H2.out.keeps k3 (fun h => h) (fun _ _ h => h))
      have RB3 := Lib.hid (k3.row RB.out (fun _ _ h => h))
      have K3 := Lib.hid (K2.out.fseq k3); have KK3 := Lib.hid k3
      clear r3 k3
      go_wp2_with fail
      refine (wbits_any B B v2 L 18446744073709551615 64 w3 H3.out (by decide) (by decide) (by omega) (by have := H3.out.lt; omega)).mono ?_
      rintro e w4 ⟨rfl, v4, h4, k4, n4⟩
      have hlenL : (L ++ fieldBits 18446744073709551615 64).length = L.length + 64 := by rw [List.length_append, fieldBits_length]
      generalize L ++ fieldBits 18446744073709551615 64 = L4 at h4 hlenL
      have e1 : IntKind.i64.wrap ((L.length : Int) + 64) = ((L.length + 64 : Nat) : Int) := by rw [IntWalk.i64_in] <;> omega
      have H4 := Lib.hid h4
      have HB2 := H2.out.lt
      have R4 := Lib.hid (k4.row R3.out (fun g hg e => by
        have h0 := (R3.out.lt g hg).1
        rcases e with e | e
        · omega
        · have := H2.out.own_lt e; omega))
      have RB4 := Lib.hid (row_of_foot H3.out RB3.out k4 (by decide) (by decide))
      have K4 : Hid (Keeps (fun _ => False) w w4) := Lib.hid (K3.out.trans k4 (fun k hk e => by
        rcases e with e | e
        · have := HB.out; omega
        · have := N2.out k e; omega))
      have L34 : Hid (w3.heap.size ≤ w4.heap.size) := Lib.hid k4.size
      have L23 : Hid (w2.heap.size ≤ w3.heap.size) := Lib.hid KK3.out.size
      have HLEN := Lib.hid hlenL
      clear h4 k4 n4 hlenL HB2
      go_wp2_with fail
      refine (bclone_any _ l w4 (HH.out.keeps K4.out (fun _ _ h => h)) (by omega)).mono ?_
      rintro e w5 ⟨v5, rfl, r5, k5⟩
      have BA5 := bytesAt_row r5 HBY.out
      have F5 : Hid (∀ g, v5.ownBlock = some g → w4.heap.size ≤ g ∧ g < w5.heap.size) := Lib.hid (fun g hg => r5.lt g hg)
      have D5 := Lib.hid (holds_row r5)
      obtain ⟨ad5, cap5, rfl, hsh⟩ := shape_row r5
      have HSH := Lib.hid hsh
      have K45 := Lib.hid k5
      clear r5 k5 hsh
      go_wp2_with fail
      refine (newReader_any w5.heap.size _ l w5 D5.out (by omega) HBY.out (Nat.le_refl _)).mono ?_
      rintro e w6 ⟨q, vr, rfl, hq0, hr, hvr, k6⟩
      have K46 : Hid (Keeps (fun _ => False) w4 w6) := Lib.hid (K45.out.fseq k6)
      have BA6 : Hid (∀ g, (Value.slice ad5 l.length cap5).ownBlock = some g → BytesAt w6 g l.length) := Lib.hid (fun g hg => by
        obtain ⟨cur, hg1, hg2⟩ := BA5 g hg
        exact ⟨cur, k6.heap hg1 (fun h => h), hg2⟩)
      have HQ0 := Lib.hid hq0; have HR6 := Lib.hid hr; have HVR := Lib.hid hvr
      obtain ⟨Z, hZ⟩ : ∃ Z, Z = w5.heap.size := ⟨_, rfl⟩
      rw [← hZ] at HR6
      clear hq0 hr hvr k6 BA5 hZ
      go_wp2_with fail
      go_loopw [50] (fun c wr => ∃ i : Nat, i ≤ l.length ∧ c = .int .i64 (i : Nat) ∧ Keeps (own (.slice ad5 l.length cap5)) w6 wr ∧ (∀ g, (Value.slice ad5 l.length cap5).ownBlock = some g → BytesAt wr g l.length)) (fun c _ => l.length - (intOf c).toNat)
      case atStart => exact ⟨0, by omega, rfl, Keeps.refl _ _, BA6.out⟩
      case round =>
        obtain ⟨i, hi, rfl, hK, hBA⟩ := hrel
        by_cases hlt : i < l.length
        · obtain ⟨g, rfl⟩ := HSH.out (by omega)
          obtain ⟨y, hy, hcell, hfr⟩ := (hBA g rfl).cell hlt
          have hw := u8_inc y hy
          have HK := Lib.hid hK; have HBA := Lib.hid hBA
          have hz : (y + 1) % 256 < 256 := Nat.mod_lt _ (by decide)
          obtain ⟨z, hz'⟩ : ∃ z, z = (y + 1) % 256 := ⟨_, rfl⟩
          rw [← hz'] at hw hz
          clear hK hBA hz'
          go_wp2
          exact ⟨⟨i + 1, by omega, by go_num, HK.out.setCell (p := ⟨g, i, none⟩) (fun _ => rfl) _, fun g' hg' => by
            obtain rfl : g = g' := by simpa [Value.ownBlock] using hg'
            exact (HBA.out g rfl).set i z hz⟩, by simp [intOf]; omega⟩
        · obtain rfl : i = l.length := by omega
          have HR7 : Hid (IsR wr Z q vr l 0) := Lib.hid (HR6.out.keeps hK (fun e => by have := (F5.out q e).2; have := HQ0.out; omega) (fun g hg e => by have := (F5.out g e).2; have := HVR.out g hg; omega))
          have H7 : Hid (IsW wr B B v4 L4) := Lib.hid ((H4.out.keeps K46.out (fun h => h) (fun _ _ h => h)).keeps hK (fun e => by have := (F5.out B e).1; have := H4.out.lt; omega) (fun g hg e => by have := (F5.out g e).1; have := H4.out.own_lt hg; omega))
          have R7 : Hid (Holds wr v3 (u8s (packed L))) := Lib.hid (((holds_row R4.out).keeps K46.out (fun _ _ h => h)).keeps hK (fun g hg e => by have := (F5.out g e).1; have := (R4.out.lt g hg).2; omega))
          have RB7 : Hid (Holds wr (.slice ad3 L.length cap3) (bools L)) := Lib.hid (((holds_row RB4.out).keeps K46.out (fun _ _ h => h)).keeps hK (fun g hg e => by have := (F5.out g e).1; have := (RB4.out.lt g hg).2; omega))
          have K7 : Hid (Keeps (fun _ => False) w wr) := Lib.hid ((K4.out.fseq K46.out).trans hK (fun k hk e => by have := (F5.out k e).1; have := K4.out.size; omega))
          have S7 : Hid (w4.heap.size ≤ w6.heap.size) := Lib.hid K46.out.size
          have G1 : Hid (B < q) := Lib.hid (by have := H4.out.lt; have := K45.out.size; have := HQ0.out; omega)
          have G2 : Hid (∀ g, v4.ownBlock = some g → g < q) := Lib.hid (fun g hg => by have := H4.out.own_lt hg; have := K45.out.size; have := HQ0.out; omega)
          have G3 : Hid (∀ g, v3.ownBlock = some g → g < q) := Lib.hid (fun g hg => by have := (R4.out.lt g hg).2; have := K45.out.size; have := HQ0.out; omega)
          have G4 : Hid (∀ g, (Value.slice ad3 L.length cap3).ownBlock = some g → g < q) := Lib.hid (fun g hg => by have := (RB4.out.lt g hg).2; have := K45.out.size; have := HQ0.out; omega)
          have G5 : Hid (w.heap.size ≤ q) := Lib.hid (by have := K4.out.size; have := K45.out.size; have := HQ0.out; omega)
          clear hK hBA
          go_wp2_with fail
          go_loopw [62] (fun c w8 => ∃ k : Nat, k ≤ l.length ∧ c = .int .i64 (k : Nat) ∧ IsR w8 Z q vr l (8 * k) ∧ Keeps (fun k => k = q) wr w8) (fun c _ => l.length - (intOf c).toNat)
          case atStart => exact ⟨0, by omega, rfl, HR7.out, Keeps.refl _ _⟩
          case round =>
            obtain ⟨k, hk, rfl, hr, hkw⟩ := hrel
            have K8 := Lib.hid (K7.out.trans hkw (fun k hk e => by have := G5.out; omega))
            by_cases hlt : k < l.length
            · obtain ⟨b, off, cap', hv, hcell⟩ := (HH.out.keeps K8.out (fun _ _ h => h)).index (j := k) (u := .int .u8 ((l.getD k 0 : Nat) : Int)) (by simp [u8s, hlt, List.getD_eq_getElem?_getD])
              simp only [Value.slice.injEq] at hv
              obtain ⟨rfl, -, rfl⟩ := hv
              have hc256 : l.getD k 0 < 256 := by
                rw [List.getD_eq_getElem?_getD, List.getElem?_eq_getElem hlt]; exact HBY.out _ (List.getElem_mem hlt)
              have hval : bitsNat (bitsFrom l (8 * k) 8) = l.getD k 0 := by
                rw [unpackB_split l k hlt, bitsNat_field]
                exact Nat.mod_eq_of_lt hc256
              have HV := Lib.hid hval; have RR := Lib.hid hr; have KW := Lib.hid hkw
              clear hval hr hkw
              generalize l.getD k 0 = c at *
              go_wp2_with fail
              refine (rbits_any Z q vr l (8 * k) 8 _ RR.out (by omega) (by decide) (by omega)).mono ?_
              rw [HV.out]
              rintro e w9 ⟨rfl, r9, k9⟩
              go_wp2
              exact ⟨⟨k + 1, by omega, by go_num, r9, KW.out.trans k9 (fun _ _ h => h)⟩, by simp [intOf]; omega⟩
            · obtain rfl : k = l.length := by omega
              have RR := Lib.hid hr; have KW := Lib.hid hkw
              have H8 := Lib.hid (H7.out.keeps hkw (fun e => by have := G1.out; omega) (fun g hg e => by have := G2.out g hg; omega))
              have R8 := Lib.hid (R7.out.keeps hkw (fun g hg e => by have := G3.out g hg; omega))
              have RB8 := Lib.hid (RB7.out.keeps hkw (fun g hg e => by have := G4.out g hg; omega))
              clear hr hkw
              go_wp2_with fail
              refine (alive01_any _).mono ?_
              rintro e w9 ⟨rfl, k9⟩
              have RR9 := Lib.hid (RR.out.keeps k9 (fun h => h) (fun _ _ h => h))
              have H9 := Lib.hid (H8.out.keeps k9 (fun h => h) (fun _ _ h => h))
              have R9 := Lib.hid (R8.out.keeps k9 (fun _ _ h => h))
              have RB9 := Lib.hid (RB8.out.keeps k9 (fun _ _ h => h))
              have K9 := Lib.hid (K8.out.fseq k9)
              clear k9
              go_wp2_with fail
              refine (refPack_any _ L w9 RB9.out (by omega)).mono ?_
              rintro e wa ⟨va, rfl, hP⟩
              have ka : Keeps (fun _ => False) w9 wa := hP.keeps.mono (fun k hk e => by simp [own, Value.ownBlock] at e)
              have RRa := Lib.hid (RR9.out.keeps ka (fun h => h) (fun _ _ h => h))
              have Ha := Lib.hid (H9.out.keeps ka (fun h => h) (fun _ _ h => h))
              have Ra := Lib.hid (R9.out.keeps ka (fun _ _ h => h))
              have Pa := Lib.hid (rowTo_holds hP)
              have Ka := Lib.hid (K9.out.fseq ka)
              clear ka hP
              go_wp2_with fail
              refine (bytesEqual_any _ _ (packed L) (packed L) _ Ra.out Pa.out (packed_lt L) (packed_lt L)).mono ?_
              rintro e wc ⟨rfl, rfl⟩
              go_wp2_with fail
              refine (wlen_any B B _ _ _ Ha.out).mono ?_
              rw [HLEN.out]
              rintro e wc ⟨rfl, rfl⟩
              go_wp2_with fail
              refine (left_any Z q vr l (8 * l.length) wa RRa.out (by omega) (Nat.le_refl _)).mono ?_
              rw [Nat.sub_self]
              rintro e wd ⟨rfl, nz, rfl⟩
              go_wp2
              go_ret
              exact ⟨by simp, Ka.out.drewN nz⟩
    · have hn' : 300 < (l.length : Int) := by omega
      go_enter Try.func5, Try.ntmps5
      go_wp2_with fail
      refine (alive01_any w).mono ?_
      rintro e w1 ⟨rfl, k1⟩
      go_wp2
      go_ret
      exact ⟨rfl, k1⟩
  · have hl' : 300 < (fs.length : Int) := by omega
    go_enter Try.func5, Try.ntmps5
    go_wp2_with fail
    refine (alive01_any w).mono ?_
    rintro e w1 ⟨rfl, k1⟩
    go_wp2
    go_ret
    exact ⟨rfl, k1⟩
end Go.Proofs.Ytdniaingipoggaa
