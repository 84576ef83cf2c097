/-
  WALKS: archive.Export.
-/
import Derived.Test.YtnoodiibkchaaaaGreatDoorPArc3
namespace Go.Proofs.YtnoodiibkchaaaaGreatDoor
open Go.RowKit
attribute [local go_sem ↓] Go.wp_at_zero Go.wp_at_succ

theorem wstr_k (b : Nat) (l m : List Nat) (s : ByteArray) (w : World) (h : Bld w b l) (hs : s = strOf m) (hl : l.length + m.length ≤ 140737488355328) :
    Calls Tryz.prog 28 #[.pointer (some ⟨b, 0, none⟩), .string s] w fun e w' => (∃ v, e = .returned v) ∧ Bld w' b (l ++ m) ∧ Below b w w' ∧ Lib.OthersKept 5 (some b) w w' := by
  subst hs
  have hlt := h.lt
  refine (Tryz.Builder_WriteString_k b b _ (strOf m) w h (by rw [Lib.byteCells_length, u8L_length, strOf_size]; exact hl) (Nat.le_of_lt hlt)).mono ?_
  rintro e w' ⟨rfl, h1, h2, h3⟩
  refine ⟨⟨_, rfl⟩, ?_, h2, h3⟩
  rw [Bld, u8L_append, Lib.byteCells_append, ← strOf_list m, ← Lib.strCells_eq]
  exact .inr h1
theorem ret_val {a b : Value} (h : a = b) : Ending.returned a = .returned b := by rw [h]
set_option maxHeartbeats 4000000 in
set_option maxRecDepth 100000 in
theorem export_any (v : Value) (hs : List Hdr) (b : List Ser) (w : World) (h : RdB w v hs b) (hT : TabsN w) (hok : Ok b) :
    Calls Tryz.prog 11 #[v] w fun e w' => e = .returned (expV b) ∧ Below w.heap.size w w' := by
  have HH := Lib.hid h; have HT := Lib.hid hT; have HOK := Lib.hid hok
  have hlen : hs.length = b.length := h.1
  obtain ⟨l1, l2, l3⟩ := hok.lens
  have HL3 := Lib.hid l3
  have HCK := Lib.hid (mCheck_any v hs b w h (by omega) l2 (fun x hx => (l3 x hx).1))
  obtain ⟨ad, cap, rfl, hcap⟩ := Rd.slice h.2.1
  rw [hlen] at hcap HH HCK ⊢
  clear h hT hok l2 l3
  obtain ⟨E, hE⟩ : ∃ E, E = modE b := ⟨_, rfl⟩
  rw [← hE] at HCK
  by_cases hz : E = 0
  · subst hz
    have HV : Hid (expV b = .tuple #[.string (strOf (bloT b)), .int .i64 0]) := Lib.hid (by unfold expV; rw [if_neg (by rw [← hE]; simp)])
    clear hE
    go_enter Tryz.func11, Tryz.ntmps11
    go_wp2_with (go_at_call 27; refine HCK.out.mono ?_; rintro e w1 ⟨rfl, hb1⟩)
    obtain ⟨B, hB⟩ : ∃ B, B = w1.heap.size := ⟨_, rfl⟩
    have HB0 : Hid (Bld (w1.alloc (.cells #[.pointer none, .slice none 0 0] 61)) B []) := Lib.hid (by rw [hB]; exact Bld.fresh w1)
    have hBw : w.heap.size ≤ B := by have := hb1.size; omega
    have HB1 := Lib.hid hb1
    rw [← hB]
    clear hb1 hB
    go_loopw [17] (fun i wr => ∃ k : Nat, k ≤ b.length ∧ i = .int .i64 (k : Nat) ∧ Hid (Bld wr B (bloT (b.take k))) ∧ Below w.heap.size w wr) (fun i _ => b.length - (intOf i).toNat)
    case atStart => exact ⟨0, by omega, rfl, Lib.hid (by simpa [bloT] using HB0.out), HB1.out.alloc HB1.out.size _⟩
    case round =>
      obtain ⟨k, hk, rfl, HBL, hbr⟩ := hrel
      by_cases hlt : k < b.length
      · obtain ⟨p, hp⟩ := at_some hlt
        obtain ⟨x, hx⟩ := at_some (l := hs) (k := k) (by omega)
        have g1 := HH.out.below hbr
        rw [← hlen] at g1
        obtain ⟨b1, o1, rfl, c1, c1'⟩ := RdH.at g1.2.1 hx
        have s1 := g1.2.2 _ _ _ hx hp
        obtain ⟨e1, e2⟩ := s1.lens
        have s0 := HH.out
        rw [← hlen] at s0
        have HS0 : Hid (RdS w x.sv p.2) := Lib.hid (s0.2.2 _ _ _ hx hp).2
        obtain ⟨xa, xn, xc, xsa, xsn, xsc⟩ := x
        simp only [Hdr.sv] at e1 e2 c1 c1' HS0
        subst e1
        subst e2
        have hkl : (k : Int) < (b.length : Int) := by omega
        have HP := Lib.hid hp; have HBR := Lib.hid hbr
        have hsz := hbr.size
        have hpm := List.mem_of_getElem? hp
        obtain ⟨⟨_, hf2⟩, hlb, hsb⟩ := HL3.out p hpm
        obtain ⟨S, hS⟩ : ∃ S, S = wr.heap.size := ⟨_, rfl⟩
        obtain ⟨W1, hW1⟩ : ∃ W1, W1 = wr.alloc (.cells #[.slice xa p.1.length xc, .slice xsa p.2.length xsc] 53) := ⟨_, rfl⟩
        have hrow : W1.heap[S]? = some (.cells #[.slice xa p.1.length xc, .slice xsa p.2.length xsc] 53 (0, 0)) := by rw [hW1, hS]; exact heap_alloc_new wr _
        have hba : Below wr.heap.size wr W1 := by rw [hW1]; exact (Below.refl _ _).alloc (Nat.le_refl _) _
        have HBW : Hid (Below w.heap.size w W1) := Lib.hid (hbr.trans (hba.mono hsz))
        have HHD := Lib.hid (head_any (.slice xa p.1.length xc) p.1 W1 (s1.1.below hba) (HT.out.below HBW.out).a.tabs hlb)
        have HBL1 : Hid (Bld W1 B (bloT (b.take k))) := Lib.hid (by rw [hW1]; exact HBL.out.alloc _)
        have hBS : B < S := by have := HBL.out.lt; omega
        have hhs : (strOf (headL p.1)).size ≤ 1099511627778 := by rw [strOf_size, headL]; simp; omega
        have HNL : Hid (strOf (headL p.1) ++ { data := #[10] } = strOf (headL p.1 ++ [10])) := Lib.hid (by
          rw [show ({ data := #[10] } : ByteArray) = strOf [10] from rfl, strOf_append])
        obtain ⟨Q, hQ⟩ : ∃ Q, Q = strOf (headL p.1) := ⟨_, rfl⟩
        rw [← hQ] at HHD hhs HNL
        have hnq : ¬ 9223372036854775807 < Q.size + 1 := by omega
        obtain ⟨HL, hHL⟩ : ∃ HL, HL = headL p.1 ++ [10] := ⟨_, rfl⟩
        rw [← hHL] at HNL
        have HPT : Hid (∀ j, (bloT (b.take k) ++ (HL ++ smpsT (p.2.take j))).length ≤ 1099511627776) := Lib.hid (fun j => by rw [hHL]; exact HOK.out.part hp j)
        have hpt : (bloT (b.take k)).length + HL.length ≤ 140737488355328 := by
          have := HPT.out 0
          rw [List.length_append, List.length_append] at this
          omega
        have HHL := Lib.hid hHL
        have HFIT : Hid (∀ y ∈ p.2, FitT y) := Lib.hid (HOK.out.fit p hpm)
        have hc1 : W1.cell? ⟨S, 0, none⟩ = some (.slice xa p.1.length xc) := by rw [cell_of_row _ _ _ _ _ _ hrow]; rfl
        have HROW := Lib.hid hrow
        have HSE := Lib.hid hS; have HW1 := Lib.hid hW1
        clear hp hx g1 hlt hbr s1 hba hrow hpm hlb hsb s0 hQ hHL hhs hS hW1 hc1
        go_wp2_with (go_at_call 18; rw [← HW1.out]; refine HHD.out.mono ?_; rintro e w2 ⟨rfl, hb2⟩)
        have hbl2 := HBL1.out.below hb2
        rw [← HSE.out]
        rw [HNL.out]
        refine (wstr_k B _ _ _ _ hbl2 rfl hpt).mono ?_
        rintro e w3 ⟨⟨v3, rfl⟩, hbl3, hb3, hk3⟩
        have hrow2 : w2.heap[S]? = some (.cells #[.slice xa p.1.length xc, .slice xsa p.2.length xsc] 53 (0, 0)) := by
          rw [hb2.block _ (Array.getElem?_eq_some_iff.1 HROW.out).1]; exact HROW.out
        have hrow3 := hk3 S _ hrow2 (fun e => by have := Option.some.inj e; omega) (fun c fz e => by simp only [Obj.cells.injEq] at e; exact absurd e.2.1 (by decide))
        have hd1 : w3.cell? ⟨S, 1, none⟩ = some (.slice xsa p.2.length xsc) := by rw [cell_of_row _ _ _ _ _ _ hrow3]; rfl
        have HB3 : Hid (Below w.heap.size w w3) := Lib.hid (HBW.out.trans ((hb2.mono HBW.out.size).trans (hb3.mono hBw)))
        have HBL3 : Hid (Bld w3 B (bloT (b.take k) ++ (HL ++ smpsT (p.2.take 0)))) := Lib.hid (by simpa [smpsT] using hbl3)
        clear hbl2 hbl3 hb2 hb3 hk3 hrow2 hrow3
        go_wp2
        go_loopw [29] (fun i wq => ∃ j : Nat, j ≤ p.2.length ∧ i = .int .i64 (j : Nat) ∧ Hid (Bld wq B (bloT (b.take k) ++ (HL ++ smpsT (p.2.take j)))) ∧ Below w.heap.size w wq) (fun i _ => p.2.length - (intOf i).toNat)
        case atStart => exact ⟨0, by omega, rfl, HBL3, HB3.out⟩
        case round =>
          obtain ⟨j, hj, rfl, HBJ, hbq⟩ := hrel
          by_cases hjl : j < p.2.length
          · obtain ⟨⟨y1, y2⟩, hy⟩ := at_some hjl
            have hsx : RdS wr (.slice xsa p.2.length xsc) p.2 := HS0.out.below hbq
            obtain ⟨b2, o2, rfl, d1, d2⟩ := RdS.at hsx hy
            have hfit := HFIT.out _ (List.mem_of_getElem? hy)
            obtain ⟨⟨f1, f2⟩, f3, f4⟩ := hfit
            simp only at f1 f2 f3 f4
            obtain ⟨u, rfl⟩ : ∃ u : Nat, y2 = u := ⟨y2.toNat, by omega⟩
            have hu : u < 18446744073709551616 := by omega
            have hjli : (j : Int) < (p.2.length : Int) := by omega
            have HNX : Hid (bloT (b.take k) ++ (HL ++ smpsT (p.2.take (j + 1))) = bloT (b.take k) ++ (HL ++ smpsT (p.2.take j)) ++ (smpT (y1, (u : Int)) ++ [10])) := Lib.hid (by
              rw [smpsT_next hy]; simp)
            obtain ⟨D, hD⟩ : ∃ D, D = wr.heap.size := ⟨_, rfl⟩
            obtain ⟨W4, hW4⟩ : ∃ W4, W4 = wr.alloc (.cells #[.int .i64 y1, .int .u64 (u : Nat)] 56) := ⟨_, rfl⟩
            have hrow : W4.heap[D]? = some (.cells #[.int .i64 y1, .int .u64 (u : Nat)] 56 (0, 0)) := by rw [hW4, hD]; exact heap_alloc_new wr _
            have hba : Below wr.heap.size wr W4 := by rw [hW4]; exact (Below.refl _ _).alloc (Nat.le_refl _) _
            have HBW4 : Hid (Below w.heap.size w W4) := Lib.hid (hbq.trans (hba.mono hbq.size))
            have HBL4 : Hid (Bld W4 B (bloT (b.take k) ++ (HL ++ smpsT (p.2.take j)))) := Lib.hid (by rw [hW4]; exact HBJ.out.alloc _)
            have hBD : B < D := by have := HBJ.out.lt; omega
            have HROW4 := Lib.hid hrow
            have HSX : Hid (∀ q, Below W4.heap.size W4 q → q.cell? ⟨D, 0, none⟩ = some (.int .i64 y1) ∧ q.cell? ⟨D, 1, none⟩ = some (.int .u64 (u : Nat))) := Lib.hid (fun q hq => by
              have hr : q.heap[D]? = some (.cells #[.int .i64 y1, .int .u64 (u : Nat)] 56 (0, 0)) := by rw [hq.block _ (Array.getElem?_eq_some_iff.1 HROW4.out).1]; exact HROW4.out
              constructor <;> (rw [cell_of_row _ _ _ _ _ _ hr]; rfl))
            have HFM : Hid (∀ q, Below W4.heap.size W4 q → Calls Tryz.prog 29 #[.int .i64 y1, .int .i64 10] q fun e w' => e = .returned (.string ⟨(Lib.itoa y1).toArray⟩) ∧ Below W4.heap.size W4 w') := Lib.hid (fun q hq =>
              (fmtI_any y1 q f1 f2 (HT.out.below (HBW4.out.trans (hq.mono HBW4.out.size)))).mono fun e w' ⟨he, hb⟩ => ⟨he, hq.trans (hb.mono hq.size)⟩)
            have HHX : Hid (∀ q, Below W4.heap.size W4 q → Calls Tryz.prog 30 #[.int .u64 (u : Nat)] q fun e w' => e = .returned (.string (strOf (hexTail u 16))) ∧ Below W4.heap.size W4 w') := Lib.hid (fun q hq =>
              (hex_any u q hu (HT.out.below (HBW4.out.trans (hq.mono HBW4.out.size))).a.tabD).mono fun e w' ⟨he, hb⟩ => ⟨he, hq.trans (hb.mono hq.size)⟩)
            have hn0 := itoa_size y1 f1 f2
            have HSTR := Lib.hid (smp_str y1 u)
            obtain ⟨F, hF⟩ : ∃ F : ByteArray, F = ⟨(Lib.itoa y1).toArray⟩ := ⟨_, rfl⟩
            obtain ⟨X, hX⟩ : ∃ X : ByteArray, X = strOf (hexTail u 16) := ⟨_, rfl⟩
            have hXs : X.size = 16 := by rw [hX, strOf_size, hexTail_length]
            rw [← hF] at HFM HSTR hn0
            rw [← hX] at HHX HSTR
            have hn1 : ¬ 9223372036854775807 < F.size + 1 := by omega
            have hn2 : ¬ 9223372036854775807 < F.size + 1 + X.size := by omega
            have hn3 : ¬ 9223372036854775807 < F.size + 1 + X.size + 1 := by omega
            have HW : Hid (∀ q, Below W4.heap.size W4 q → Calls Tryz.prog 28 #[.pointer (some ⟨B, 0, none⟩), .string (F ++ { data := #[32] } ++ X ++ { data := #[10] })] q fun e w' => ∃ v, e = .returned v ∧ (w'.cell? ⟨D, 0, none⟩ = some (.int .i64 y1) ∧ w'.cell? ⟨D, 1, none⟩ = some (.int .u64 (u : Nat))) ∧
                Bld w' B (bloT (b.take k) ++ (HL ++ smpsT (p.2.take (j + 1)))) ∧ Below w.heap.size w w') := Lib.hid (fun q hq => by
              rw [HNX.out]
              have hlen2 := HPT.out (j + 1)
              rw [HNX.out, List.length_append] at hlen2
              refine (wstr_k B _ _ _ _ (HBL4.out.below hq) HSTR.out (by omega)).mono ?_
              rintro e w3 ⟨⟨v3, rfl⟩, hbl3, hb3, hk3⟩
              have hrow2 : q.heap[D]? = some (.cells #[.int .i64 y1, .int .u64 (u : Nat)] 56 (0, 0)) := by
                rw [hq.block _ (Array.getElem?_eq_some_iff.1 HROW4.out).1]; exact HROW4.out
              have hrow3 := hk3 D _ hrow2 (fun e => by have := Option.some.inj e; omega) (fun c fz e => by simp only [Obj.cells.injEq] at e; exact absurd e.2.1 (by decide))
              refine ⟨_, rfl, ?_, hbl3, HBW4.out.trans ((hq.mono HBW4.out.size).trans (hb3.mono hBw))⟩
              constructor <;> (rw [cell_of_row _ _ _ _ _ _ hrow3]; rfl))
            have hd01 := HSX.out _ (Below.refl _ _)
            have HDE := Lib.hid hD; have HW4E := Lib.hid hW4
            clear hy hsx hjl hbq hba hrow hF hX hXs hn0 f1 f2 f3 f4 hu hD hW4
            go_wp2_with fail
            rw [← HDE.out, ← HW4E.out]
            clear d1 d2
            go_region_held3 (fun q => q.cell? ⟨D, 0, none⟩ = some (.int .i64 y1) ∧ q.cell? ⟨D, 1, none⟩ = some (.int .u64 (u : Nat)))
              (first | exact HSX.out _ (Below.refl _ _) | exact HSX.out _ (Below.refl _ _).drew | exact HSX.out _ hb6 | exact HSX.out _ hb5 | exact hS7)
              (first
                | (go_at_call 29; go_must (refine (HFM.out _ (Below.refl _ _).drew).mono ?_; rintro e w5 ⟨rfl, hb5⟩))
                | (go_at_call 30; go_must (refine (HHX.out _ hb5).mono ?_; rintro e w6 ⟨rfl, hb6⟩))
                | (go_at_call 28; go_must (refine (HW.out _ hb6).mono ?_; rintro e w7 ⟨v7, rfl, hS7, hbl7, hb7⟩)))
            have HBL7 := Lib.hid hbl7; have HB7 := Lib.hid hb7
            clear hS7 hbl7 hb7 hb5 hb6
            go_wp2
            exact ⟨⟨j + 1, by omega, rfl, HBL7, HB7.out⟩, by simp [intOf]; omega⟩
          · obtain rfl : j = p.2.length := by omega
            have HBL8 : Hid (Bld wr B (bloT (b.take (k + 1)))) := Lib.hid (by
              have := HBJ.out
              rw [List.take_length] at this
              rw [bloT_next HP.out, ← HHL.out]
              exact this)
            go_wp2
            exact ⟨⟨k + 1, by omega, rfl, HBL8, hbq⟩, by simp [intOf]; omega⟩
      · obtain rfl : k = b.length := by omega
        have hbl := HBL.out
        rw [List.take_length] at hbl
        have HST := Lib.hid (bstr_any B _ wr hbl)
        clear hbl
        go_wp2_with (go_at_call 31; refine HST.out.mono ?_; rintro e w2 ⟨rfl, _, hb2⟩)
        go_ret2
        exact ⟨ret_val HV.out.symm, hbr.trans (hb2.low.mono hBw)⟩
  · have hn : (E != 0) = true := by simpa using hz
    have HV : Hid (expV b = .tuple #[.string { data := #[] }, .int .i64 E]) := Lib.hid (by unfold expV; rw [if_pos (by rw [← hE]; exact hz), ← hE])
    clear hE hz
    go_enter Tryz.func11, Tryz.ntmps11
    go_wp2_with (go_at_call 27; refine HCK.out.mono ?_; rintro e w1 ⟨rfl, hb1⟩)
    go_ret2
    exact ⟨ret_val HV.out.symm, hb1⟩
end Go.Proofs.YtnoodiibkchaaaaGreatDoor
