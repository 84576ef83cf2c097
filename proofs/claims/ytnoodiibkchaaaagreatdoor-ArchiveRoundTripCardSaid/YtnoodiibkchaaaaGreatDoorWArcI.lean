/-
  WALKS: the reference's Export.
-/
import Derived.Test.YtnoodiibkchaaaaGreatDoorWArcH
namespace Go.Proofs.YtnoodiibkchaaaaGreatDoor
open Go.RowKit
attribute [local go_sem ↓] Go.wp_at_zero Go.wp_at_succ

theorem cat_str (a b : List Nat) : strOf a ++ strOf b = strOf (a ++ b) := strOf_append a b
set_option maxHeartbeats 4000000 in
set_option maxRecDepth 100000 in
theorem refExport_any (v : Value) (hs : List Hdr) (b : List Ser) (w : World) (h : RdB w v hs b) (hT : TabsN w) (hok : Ok b) :
    Calls Tryz.prog 12 #[v] w fun e w' => e = .returned (expV b) ∧ Below w.heap.size w w' := by
  have HH := Lib.hid h; have HT := Lib.hid hT; have HOK := Lib.hid hok
  have hlen : hs.length = b.length := h.1
  obtain ⟨l1, l2, l3⟩ := hok.lens
  have HL3 := Lib.hid l3
  have HCK := Lib.hid (rCheck_any v hs b w h (by omega) l2 (fun x hx => (l3 x hx).1))
  obtain ⟨ad, cap, rfl, hcap⟩ := Rd.slice h.2.1
  rw [hlen] at hcap HH HCK ⊢
  clear h hT hok l2 l3
  obtain ⟨E, hE⟩ : ∃ E, E = modE b := ⟨_, rfl⟩
  rw [← hE] at HCK
  by_cases hz : E = 0
  · subst hz
    have HV : Hid (expV b = .tuple #[.string (strOf (bloT b)), .int .i64 0]) := Lib.hid (by unfold expV; rw [if_neg (by rw [← hE]; simp)])
    clear hE
    go_enter Tryz.func12, Tryz.ntmps12
    go_wp2_with (go_at_call 23; refine HCK.out.mono ?_; rintro e w1 ⟨rfl, hb1⟩)
    have HB1 := Lib.hid hb1
    clear hb1
    go_loopw [5, 6] (fun o i wr => ∃ (k : Nat) (s : ByteArray), k ≤ b.length ∧ i = .int .i64 (k : Nat) ∧ o = .string s ∧ Hid (s = strOf (bloT (b.take k))) ∧ Below w.heap.size w wr) (fun _ i _ => b.length - (intOf i).toNat)
    case atStart => exact ⟨0, _, by omega, rfl, rfl, Lib.hid rfl, HB1.out⟩
    case round =>
      obtain ⟨k, s, hk, rfl, rfl, HS, hbr⟩ := hrel
      by_cases hlt : k < b.length
      · obtain ⟨p, hp⟩ := at_some hlt
        obtain ⟨x, hx⟩ := at_some (l := hs) (k := k) (by omega)
        have s0 := HH.out
        rw [← hlen] at s0
        obtain ⟨b1, o1, rfl, c1, c1'⟩ := RdH.at s0.2.1 hx
        have s1 := s0.2.2 _ _ _ hx hp
        obtain ⟨e1, e2⟩ := s1.lens
        obtain ⟨xa, xn, xc, xsa, xsn, xsc⟩ := x
        simp only at e1 e2 c1 c1'
        subst e1
        subst e2
        have HSM : Hid (RdS w (.slice xsa p.2.length xsc) p.2) := Lib.hid s1.2
        have CC : Hid (∀ q, Below w.heap.size w q → q.cell? ⟨b1, o1 + k * 2, none⟩ = some (.slice xa p.1.length xc) ∧ q.cell? ⟨b1, o1 + k * 2 + 1, none⟩ = some (.slice xsa p.2.length xsc)) := Lib.hid (fun q hq =>
          ⟨(hq.cell (World.block_lt_of_cell? w _ c1)).trans c1, (hq.cell (World.block_lt_of_cell? w _ c1')).trans c1'⟩)
        have hkl : (k : Int) < (b.length : Int) := by omega
        have hk0 : (0 : Int) ≤ (k : Int) := by omega
        have HP := Lib.hid hp; have HBR := Lib.hid hbr
        have hpm := List.mem_of_getElem? hp
        obtain ⟨⟨_, hf2⟩, hlb, hsb⟩ := HL3.out p hpm
        have HHD := Lib.hid (refHead_any (.slice xa p.1.length xc) p.1 wr (s1.1.below hbr) (HT.out.below hbr).a.tabs hlb)
        have hhs : (strOf (headL p.1)).size ≤ 1099511627778 := by rw [strOf_size, headL]; simp; omega
        have hss : s.size ≤ 1099511627776 := by
          have := bloT_take b k
          have := HOK.out.len
          rw [HS.out, strOf_size]; omega
        have HPT : Hid (∀ j, (bloT (b.take k) ++ (headL p.1 ++ [10] ++ smpsT (p.2.take j))).length ≤ 1099511627776) := Lib.hid (fun j => HOK.out.part hp j)
        have HNL : Hid (s ++ (strOf (headL p.1) ++ { data := #[10] }) = strOf (bloT (b.take k) ++ (headL p.1 ++ [10] ++ smpsT (p.2.take 0)))) := Lib.hid (by
          rw [HS.out, show ({ data := #[10] } : ByteArray) = strOf [10] from rfl, strOf_append, strOf_append]
          simp [smpsT])
        have HFIT : Hid (∀ y ∈ p.2, FitT y) := Lib.hid (HOK.out.fit p hpm)
        obtain ⟨Q, hQ⟩ : ∃ Q, Q = strOf (headL p.1) := ⟨_, rfl⟩
        rw [← hQ] at HHD hhs HNL
        have hnq : ¬ 9223372036854775807 < Q.size + 1 := by omega
        have hnq2 : ¬ 9223372036854775807 < s.size + (Q.size + 1) := by omega
        have hd := CC.out wr hbr
        obtain ⟨hd1, hd2⟩ := hd
        clear hp hx hlt hbr s1 s0 hpm hlb hsb hQ hhs hss c1 c1'
        go_wp2_with (go_at_call 20; refine HHD.out.mono ?_; rintro e w2 ⟨rfl, hb2⟩)
        have HB2 : Hid (Below w.heap.size w w2) := Lib.hid (HBR.out.trans (hb2.mono HBR.out.size))
        clear hb2 hd1 hd2
        go_loopw [5, 7] (fun o i wr => ∃ (j : Nat) (z : ByteArray), j ≤ p.2.length ∧ i = .int .i64 (j : Nat) ∧ o = .string z ∧ Hid (z = strOf (bloT (b.take k) ++ (headL p.1 ++ [10] ++ smpsT (p.2.take j)))) ∧ Below w.heap.size w wr) (fun _ i _ => p.2.length - (intOf i).toNat)
        case atStart => exact ⟨0, _, by omega, rfl, rfl, HNL, HB2.out⟩
        case round =>
          obtain ⟨j, z, hj, rfl, rfl, HZ, hbq⟩ := hrel
          obtain ⟨g1, g2⟩ := CC.out wr hbq
          by_cases hjl : j < p.2.length
          · obtain ⟨⟨y1, y2⟩, hy⟩ := at_some hjl
            obtain ⟨b2, o2, rfl, d1, d2⟩ := RdS.at (HSM.out.below hbq) hy
            obtain ⟨⟨f1, f2⟩, f3, f4⟩ := HFIT.out _ (List.mem_of_getElem? hy)
            simp only at f1 f2 f3 f4
            obtain ⟨u, rfl⟩ : ∃ u : Nat, y2 = u := ⟨y2.toNat, by omega⟩
            have hu : u < 18446744073709551616 := by omega
            have hjli : (j : Int) < (p.2.length : Int) := by omega
            have hj0 : (0 : Int) ≤ (j : Int) := by omega
            have hn0 := itoa_size y1 f1 f2
            have hzs : z.size ≤ 1099511627776 := by rw [HZ.out, strOf_size]; exact HPT.out j
            have HFM : Hid (∀ q, Below wr.heap.size wr q → Calls Tryz.prog 32 #[.int .i64 y1] q fun e w' => e = .returned (.string ⟨(Lib.itoa y1).toArray⟩) ∧ Below wr.heap.size wr w') := Lib.hid (fun q hq =>
              (refDec_any y1 q f1 f2).mono fun e w' ⟨he, hb⟩ => ⟨he, hb ▸ hq⟩)
            have HHX : Hid (∀ q, Below wr.heap.size wr q → Calls Tryz.prog 33 #[.int .u64 (u : Nat)] q fun e w' => e = .returned (.string (strOf (hexTail u 16))) ∧ Below wr.heap.size wr w') := Lib.hid (fun q hq =>
              (refHex_any u q hu).mono fun e w' ⟨he, hb⟩ => ⟨he, hb ▸ hq⟩)
            have HSTR : Hid (z ++ ((⟨(Lib.itoa y1).toArray⟩ : ByteArray) ++ { data := #[32] } ++ strOf (hexTail u 16) ++ { data := #[10] }) = strOf (bloT (b.take k) ++ (headL p.1 ++ [10] ++ smpsT (p.2.take (j + 1))))) := Lib.hid (by
              rw [smp_str, HZ.out, strOf_append, smpsT_next hy]
              simp)
            obtain ⟨F, hF⟩ : ∃ F : ByteArray, F = ⟨(Lib.itoa y1).toArray⟩ := ⟨_, rfl⟩
            obtain ⟨X, hX⟩ : ∃ X : ByteArray, X = strOf (hexTail u 16) := ⟨_, rfl⟩
            have hXs : X.size = 16 := by rw [hX, strOf_size, hexTail_length]
            rw [← hF] at HFM HSTR hn0
            rw [← hX] at HHX HSTR
            have hn1 : ¬ 9223372036854775807 < F.size + 1 := by omega
            have hn2 : ¬ 9223372036854775807 < F.size + 1 + X.size := by omega
            have hn3 : ¬ 9223372036854775807 < F.size + 1 + X.size + 1 := by omega
            have hn4 : ¬ 9223372036854775807 < z.size + (F.size + 1 + X.size + 1) := by omega
            have CQ : Hid (∀ q, Below wr.heap.size wr q → q.cell? ⟨b1, o1 + k * 2 + 1, none⟩ = some (.slice (some ⟨b2, o2, none⟩) p.2.length xsc) ∧ q.cell? ⟨b2, o2 + j * 2, none⟩ = some (.int .i64 y1) ∧ q.cell? ⟨b2, o2 + j * 2 + 1, none⟩ = some (.int .u64 (u : Nat)) ∧ True ∧ True) := Lib.hid (fun q hq =>
              ⟨(hq.cell (World.block_lt_of_cell? wr _ g2)).trans g2, (hq.cell (World.block_lt_of_cell? wr _ d1)).trans d1, (hq.cell (World.block_lt_of_cell? wr _ d2)).trans d2, trivial, trivial⟩)
            have HBQ := Lib.hid hbq
            clear hy hjl hbq hF hX hXs hn0 f1 f2 f3 f4 hu hzs d1 d2
            go_wp2_with fail
            refine wp_region_class (fun x => Below wr.heap.size wr x) (by kernel_rfl) (by kernel_rfl) ((Below.refl _ _).drew) ?_
            repeat (
              refine wpQuiet_step (fun K hK => ?_)
              go_simp
              first
                | (refine hK _ ?_; clear hK K)
                | (refine ⟨_, fun _ _ => rfl, hK _ ?_⟩; clear hK K)
                | (apply Exists.intro
                   refine ⟨fun wq hwq => ?_, hK _ ?_⟩
                   (first
                    | (go_at_call 32; exact HFM.out _ hwq)
                    | (go_at_call 33; exact HHX.out _ hwq)
                    | (have hc := CQ.out _ hwq; go_simp; exact rfl)
                    | (obtain ⟨hc0, hc1, hc2, hc3, hc4⟩ := CQ.out _ hwq; go_simp; exact rfl))
                   clear hK K))
            refine wpQuiet_nil ?_
            intro wq hwq
            have HBQ2 := Lib.hid (HBQ.out.trans (hwq.mono HBQ.out.size))
            clear hwq CQ HFM HHX
            go_wp2
            exact ⟨⟨j + 1, _, by omega, rfl, rfl, HSTR, HBQ2.out⟩, by simp [intOf]; omega⟩
          · obtain rfl : j = p.2.length := by omega
            have HS8 : Hid (z = strOf (bloT (b.take (k + 1)))) := Lib.hid (by
              have := HZ.out
              rw [List.take_length] at this
              rw [bloT_next HP.out]
              exact this)
            go_wp2
            exact ⟨⟨k + 1, z, by omega, rfl, rfl, HS8, hbq⟩, by simp [intOf]; omega⟩
      · obtain rfl : k = b.length := by omega
        have HS9 : Hid (expV b = .tuple #[.string s, .int .i64 0]) := Lib.hid (by rw [HV.out, HS.out, List.take_length])
        go_wp2
        go_ret2
        exact ⟨ret_val HS9.out.symm, hbr⟩
  · have hn : (E != 0) = true := by simpa using hz
    have HV : Hid (expV b = .tuple #[.string { data := #[] }, .int .i64 E]) := Lib.hid (by unfold expV; rw [if_pos (by rw [← hE]; exact hz), ← hE])
    clear hE hz
    go_enter Tryz.func12, Tryz.ntmps12
    go_wp2_with (go_at_call 23; refine HCK.out.mono ?_; rintro e w1 ⟨rfl, hb1⟩)
    go_ret2
    exact ⟨ret_val HV.out.symm, hb1⟩
end Go.Proofs.YtnoodiibkchaaaaGreatDoor
