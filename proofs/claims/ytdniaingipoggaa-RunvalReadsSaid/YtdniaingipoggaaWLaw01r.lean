/-
  WALKS: BitioReads.
-/
import Derived.Test.YtdniaingipoggaaWRef01b
import Derived.Test.YtdniaingipoggaaPQuiet
import Derived.Test.YtdniaingipoggaaPArgs
import Derived.WalkKit
import Derived.WalkSpells
import Derived.WalkLawsBesides
import Derived.Lib.Hide
namespace Go.Proofs.Ytdniaingipoggaa
open Go.RowKit

/-- what reading n bits of the rest answers: the number, the error, how many bits went -/
def stepB (n : Int) (rest : List Bool) : Nat × Nat × Nat :=
  if n < 0 ∨ 64 < n then (0, 2, 0) else if rest.length < n.toNat then (0, 3, 0) else (bitsNat (rest.take n.toNat), 0, n.toNat)
theorem stepB_le (n : Int) (rest : List Bool) : (stepB n rest).2.2 ≤ rest.length := by
  unfold stepB
  split
  · exact Nat.zero_le _
  · split
    · exact Nat.zero_le _
    · show n.toNat ≤ rest.length
      omega
theorem Keeps.fseq {a b c : World} (h : Keeps (fun _ => False) a b) (k : Keeps (fun _ => False) b c) : Keeps (fun _ => False) a c := h.trans k (fun _ _ h => h)
theorem Keeps.draws {S : Nat → Prop} {a b : World} (h : ∃ n, b = a.drewN n) : Keeps S a b := by
  obtain ⟨n, rfl⟩ := h
  exact (Keeps.refl S a).drewN n
theorem rbits_all (base p : Nat) (v : Value) (bs : List Nat) (i : Nat) (n : Int) (w : World) (h : IsR w base p v bs i) (hl : bs.length ≤ 140737488351232) (hi : i ≤ 8 * bs.length) :
    Calls Try.prog 31 #[.pointer (some ⟨p, 0, none⟩), .int .i64 n] w fun e w' => e = .returned (.tuple #[.int .u64 (((stepB n ((unpackB bs).drop i)).1 : Nat) : Int), .int .i64 (((stepB n ((unpackB bs).drop i)).2.1 : Nat) : Int)]) ∧
      IsR w' base p v bs (i + (stepB n ((unpackB bs).drop i)).2.2) ∧ Keeps (fun k => k = p) w w' := by
  have hlen : ((unpackB bs).drop i).length = 8 * bs.length - i := by rw [List.length_drop, unpackB_length]
  by_cases hn : n < 0 ∨ 64 < n
  · have e : stepB n ((unpackB bs).drop i) = (0, 2, 0) := by unfold stepB; rw [if_pos hn]
    rw [e]
    refine (rbits_bad p n w hn).mono ?_
    rintro e w' ⟨rfl, rfl⟩
    exact ⟨rfl, h, Keeps.refl _ _⟩
  · obtain ⟨N, rfl⟩ : ∃ N : Nat, n = N := ⟨n.toNat, by omega⟩
    by_cases hN : 8 * bs.length < i + N
    · have e : stepB (N : Int) ((unpackB bs).drop i) = (0, 3, 0) := by unfold stepB; rw [if_neg hn, if_pos (by rw [hlen]; omega)]
      rw [e]
      refine (rbits_eof base p v bs i N w h hl hi (by omega) hN).mono ?_
      rintro e w' ⟨rfl, m, rfl⟩
      exact ⟨rfl, h.drewN m, Keeps.draws ⟨m, rfl⟩⟩
    · have e : stepB (N : Int) ((unpackB bs).drop i) = (bitsNat (bitsFrom bs i N), 0, N) := by unfold stepB; rw [if_neg hn, if_neg (by rw [hlen]; omega)]; rfl
      rw [e]
      exact rbits_any base p v bs i N w h hl (by omega) (by omega)
theorem qbits_all (p : Nat) (v : Value) (l : List Bool) (n : Int) (w : World) (h : IsQ w p v l) :
    Calls Try.prog 34 #[.pointer (some ⟨p, 0, none⟩), .int .i64 n] w fun e w' => e = .returned (.tuple #[.int .u64 (((stepB n l).1 : Nat) : Int), .int .i64 (((stepB n l).2.1 : Nat) : Int)]) ∧
      (∃ v', IsQ w' p v' (l.drop (stepB n l).2.2) ∧ (∀ g, v'.ownBlock = some g → v.ownBlock = some g)) ∧ Keeps (fun k => k = p) w w' := by
  by_cases hn : n < 0 ∨ 64 < n
  · have e : stepB n l = (0, 2, 0) := by unfold stepB; rw [if_pos hn]
    rw [e]
    refine (qbits_bad p n w hn).mono ?_
    rintro e w' ⟨rfl, rfl⟩
    exact ⟨rfl, ⟨v, h, fun _ hg => hg⟩, Keeps.refl _ _⟩
  · obtain ⟨N, rfl⟩ : ∃ N : Nat, n = N := ⟨n.toNat, by omega⟩
    by_cases hN : l.length < N
    · have e : stepB (N : Int) l = (0, 3, 0) := by unfold stepB; rw [if_neg hn, if_pos (by omega)]
      rw [e]
      refine (qbits_eof p v l N w h (by omega) hN).mono ?_
      rintro e w' ⟨rfl, rfl⟩
      exact ⟨rfl, ⟨v, h, fun _ hg => hg⟩, Keeps.refl _ _⟩
    · have e : stepB (N : Int) l = (bitsNat (l.take N), 0, N) := by unfold stepB; rw [if_neg hn, if_neg (by omega)]; rfl
      rw [e]
      exact qbits_any p v l N w h (by omega) (by omega)

theorem reads_class (base q P2 : Nat) (vr vq : Value) (l : List Nat) (i : Nat) (wb : World) (hr : IsR wb base q vr l i) (hq : IsQ wb P2 vq ((unpackB l).drop i)) (hl : l.length ≤ 140737488351232) (hi : i ≤ 8 * l.length) :
    ∃ (C : World → Prop) (R E : Nat) (a3 : Option Addr) (c3 : Nat), vq = .slice a3 R c3 ∧ C { wb with drawn := wb.drawn + 1 } ∧ (∀ x, C x → Keeps (fun _ => False) wb x) ∧ (∀ x, C x → x.cell? ⟨P2, 0, none⟩ = some (.slice a3 R c3)) ∧
      (∀ x, C x → Calls Try.prog 32 #[.pointer (some ⟨q, 0, none⟩)] x fun e y => e = .returned (.int .i64 ((R : Nat) : Int)) ∧ C y) ∧
      (∀ x, C x → Calls Try.prog 35 #[.pointer (some ⟨q, 0, none⟩)] x fun e y => e = .returned (.int .i64 ((E : Nat) : Int)) ∧ C y) ∧
      (∀ x, C x → Calls Try.prog 36 #[.pointer (some ⟨P2, 0, none⟩)] x fun e y => e = .returned (.int .i64 ((E : Nat) : Int)) ∧ C y) ∧
      (∀ x, C x → Calls Try.prog 21 #[] x fun e y => e = .returned (.bool true) ∧ C y) ∧
      (∀ x, C x → IsR x base q vr l i ∧ IsQ x P2 vq ((unpackB l).drop i)) := by
  have hlen : ((unpackB l).drop i).length = 8 * l.length - i := by rw [List.length_drop, unpackB_length]
  obtain ⟨a3, c3, hv, hc, _⟩ := hq.holds
  rw [bools_length, hlen] at hv
  have keep : ∀ x, Keeps (fun _ => False) wb x → IsR x base q vr l i ∧ IsQ x P2 vq ((unpackB l).drop i) := fun x k => ⟨hr.keeps k (fun h => h) (fun _ _ h => h), hq.keeps k (fun h => h) (fun _ _ h => h)⟩
  refine ⟨fun x => Keeps (fun _ => False) wb x, 8 * l.length - i, endOf ((unpackB l).drop i), a3, c3, hv, (Keeps.refl (fun _ => False) wb).drew, fun _ h => h, fun x k => ?_, fun x k => ?_, fun x k => ?_, fun x k => ?_, fun x k => ?_, keep⟩
  · rw [(keep x k).2.cell0, hv]
  · exact (left_any base q vr l i x (keep x k).1 hl hi).mono fun e y ⟨he, hd⟩ => ⟨he, k.fseq (Keeps.draws hd)⟩
  · exact (rend_any base q vr l i x (keep x k).1 hl hi).mono fun e y ⟨he, hd⟩ => ⟨he, k.fseq (Keeps.draws hd)⟩
  · exact (qend_any P2 vq _ x (keep x k).2).mono fun e y ⟨he, hd⟩ => ⟨he, hd ▸ k⟩
  · exact (alive01_any x).mono fun e y ⟨he, hd⟩ => ⟨he, k.fseq hd⟩

set_option maxRecDepth 100000 in
set_option maxHeartbeats 4000000 in
theorem bitioReads_any (v v2 : Value) (l : List Nat) (ns : List Int) (w : World) (h : Holds w v (u8s l)) (hb : ∀ c ∈ l, c < 256) (h2 : Holds w v2 (i64s ns)) :
    Calls Try.prog 6 #[v, v2] w fun e w' => e = .returned (.bool true) ∧ Keeps (fun _ => False) w w' := by
  have HH := Lib.hid h; have HN := Lib.hid h2; have HB := Lib.hid hb
  obtain ⟨ad, cap, rfl, hc, hcells⟩ := h
  obtain ⟨ad2, cap2, rfl, hc2, hcells2⟩ := h2
  rw [u8s_length] at hc ⊢ HH
  rw [i64s_length] at hc2 ⊢ HN
  clear hcells hcells2 hb
  by_cases hl : l.length ≤ 300
  · have hl' : ¬ 300 < (l.length : Int) := by omega
    by_cases hn : ns.length ≤ 300
    · have hn' : ¬ 300 < (ns.length : Int) := by omega
      have hl47 : l.length ≤ 140737488351232 := by omega
      go_enter Try.func6, Try.ntmps6
      go_wp2_with fail
      refine (newReader_any w.heap.size _ l w HH.out hl47 HB.out (Nat.le_refl _)).mono ?_
      rintro e w1 ⟨q, vr, rfl, hq0, hr, hvr, k1⟩
      have HR := Lib.hid hr; have HVR := Lib.hid hvr; have K1 := Lib.hid k1; have HQ0 := Lib.hid hq0
      have H1 := Lib.hid (HH.out.keeps k1 (fun _ _ h => h))
      clear hr hvr k1 hq0
      go_wp2_with fail
      refine (refUnpack_any _ l w1 H1.out HB.out (by omega)).mono ?_
      rintro e w2 ⟨vq, rfl, h2⟩
      have hu := h2.row
      obtain ⟨adq, capq, rfl⟩ := row_slice hu
      rw [bools_length] at hu ⊢
      have K12 : Hid (Keeps (fun _ => False) w1 w2) := Lib.hid (h2.keeps.mono (fun k hk e => by simp [own, Value.ownBlock] at e))
      have HU := Lib.hid hu
      have HUF : Hid (∀ g, (Value.slice adq (unpackB l).length capq).ownBlock = some g → w1.heap.size ≤ g ∧ g < w2.heap.size) := Lib.hid (fun g hg => hu.lt g hg)
      clear h2 hu
      obtain ⟨w3, hw3⟩ : ∃ w3, w3 = w2.alloc (.cells #[.slice adq (unpackB l).length capq] 50) := ⟨_, rfl⟩
      have K3 : Hid (Keeps (fun _ => False) w2 w3) := Lib.hid (by rw [hw3]; exact (Keeps.refl _ _).alloc _)
      have HQ3 : Hid (IsQ w3 w2.heap.size (.slice adq (unpackB l).length capq) (unpackB l)) := Lib.hid (by
        refine ⟨by rw [hw3]; exact heap_alloc_new w2 _, (holds_row HU.out).keeps K3.out (fun _ _ h => h), fun g hg => ?_⟩
        have := (HUF.out g hg).2
        omega)
      obtain ⟨P2, hP2⟩ : ∃ P2, P2 = w2.heap.size := ⟨_, rfl⟩
      have HP2 := Lib.hid hP2
      have K13 := Lib.hid (K12.out.fseq K3.out)
      have HR3 := Lib.hid (HR.out.keeps K13.out (fun h => h) (fun _ _ h => h))
      have HN3 := Lib.hid (HN.out.keeps (K1.out.fseq K13.out) (fun _ _ h => h))
      have F1 : Hid (q < P2) := Lib.hid (by have := HR.out.lt; have := K12.out.size; omega)
      have F2 : Hid (∀ g, vr.ownBlock = some g → g < P2) := Lib.hid (fun g hg => by have := HR.out.own_lt hg; have := K12.out.size; omega)
      have F3 : Hid (∀ g, (Value.slice adq (unpackB l).length capq).ownBlock = some g → q < g ∧ g < P2) := Lib.hid (fun g hg => by have := HUF.out g hg; have := HR.out.lt; omega)
      have KW := Lib.hid (K1.out.fseq K13.out)
      rw [← hP2] at HQ3
      go_wp2_with fail
      rw [← hw3, ← hP2]
      clear hw3 hP2
      go_loopw [32] (fun c wr => ∃ (k i : Nat) (vq : Value), k ≤ ns.length ∧ c = .int .i64 (k : Nat) ∧ i ≤ 8 * l.length ∧ IsR wr w.heap.size q vr l i ∧ IsQ wr P2 vq ((unpackB l).drop i) ∧ (∀ g, vq.ownBlock = some g → (Value.slice adq (unpackB l).length capq).ownBlock = some g) ∧ Keeps (fun _ => False) w wr) (fun c _ => ns.length - (intOf c).toNat)
      case atStart => exact ⟨0, 0, _, by omega, rfl, by omega, HR3.out, by rw [List.drop_zero]; exact HQ3.out, fun g hg => hg, KW.out⟩
      case round =>
        obtain ⟨k, i, vq, hk, rfl, hi, hr, hq, hvq, hkw⟩ := hrel
        by_cases hlt : k < ns.length
        · obtain ⟨b, off, cap', hv, hcell⟩ := (HN.out.keeps hkw (fun _ _ h => h)).index (j := k) (u := .int .i64 (ns.getD k 0)) (by simp [i64s, hlt, List.getD_eq_getElem?_getD])
          simp only [Value.slice.injEq] at hv
          obtain ⟨rfl, -, rfl⟩ := hv
          generalize ns.getD k 0 = n at *
          have c1 := rbits_all w.heap.size q vr l i n wr hr hl47 hi
          have c2 := fun wa h => qbits_all P2 vq ((unpackB l).drop i) n wa h
          have hle := stepB_le n ((unpackB l).drop i)
          generalize stepB n ((unpackB l).drop i) = r at c1 c2 hle
          obtain ⟨x, f, m⟩ := r
          simp only [List.drop_drop] at c1 c2 hle
          rw [List.length_drop, unpackB_length] at hle
          have hi2 : i + m ≤ 8 * l.length := by omega
          have C1 := Lib.hid c1; have C2 := Lib.hid c2; have QA := Lib.hid hq; have HV := Lib.hid hvq; have KR := Lib.hid hkw
          clear c1 c2 hr hq hvq hkw hle
          go_wp2_with fail
          refine C1.out.mono ?_
          rintro e wa ⟨rfl, ra, ka⟩
          have QB := Lib.hid (QA.out.keeps ka (fun h => by have := F1.out; omega) (fun g hg h => by have := (F3.out g (HV.out g hg)).1; omega))
          have KA := Lib.hid (KR.out.trans ka (fun k hk e => by have := HQ0.out; omega))
          have RA := Lib.hid ra
          clear ra ka
          go_wp2_with fail
          refine (C2.out wa QB.out).mono ?_
          rintro e wb ⟨rfl, ⟨vq2, qb, hvq2⟩, kb⟩
          have KB := Lib.hid (KA.out.trans kb (fun k hk e => by have := F1.out; have := HQ0.out; omega))
          obtain ⟨C, R, E, a3, c3, rfl, cw, ck, ccell, cl, ce, cq, ca, cri⟩ := reads_class w.heap.size q P2 vr vq2 l (i + m) wb (RA.out.keeps kb (fun h => by have := F1.out; omega) (fun g hg h => by have := F2.out g hg; omega)) qb hl47 hi2
          have HV2 := Lib.hid hvq2
          have CW := Lib.hid cw; have CK := Lib.hid ck; have CC := Lib.hid ccell; have CL := Lib.hid cl; have CE := Lib.hid ce; have CQ := Lib.hid cq; have CRI := Lib.hid cri
          clear cw ck ccell cl ce cq ca cri qb kb hvq2
          go_wp2_with fail
          refine wp_region_class C (by kernel_rfl) (by kernel_rfl) CW.out ?_
          repeat (
            refine wpQuiet_step (fun K hK => ?_)
            go_simp
            first
              | (refine hK _ ?_; clear hK K)
              | (refine ⟨_, fun _ _ => rfl, hK _ ?_⟩; clear hK K)
              | (apply Exists.intro
                 refine ⟨fun wq hwq => ?_, hK _ ?_⟩
                 (first
                  | (go_at_call 32; exact CL.out _ hwq)
                  | (go_at_call 35; exact CE.out _ hwq)
                  | (go_at_call 36; exact CQ.out _ hwq)
                  | (have hc := CC.out _ hwq; go_simp; exact rfl))
                 clear hK K))
          refine wpQuiet_nil ?_
          intro wq hwq
          go_wp2
          exact ⟨⟨k + 1, i + m, _, by omega, by go_num, hi2, (CRI.out _ hwq).1, (CRI.out _ hwq).2, fun g hg => HV.out g (HV2.out g hg), KB.out.fseq (CK.out _ hwq)⟩, by simp [intOf]; omega⟩
        · obtain rfl : k = ns.length := by omega
          obtain ⟨C, R, E, a3, c3, rfl, cw, ck, ccell, cl, ce, cq, ca, cri⟩ := reads_class w.heap.size q P2 vr vq l i wr hr hq hl47 hi
          have CW := Lib.hid cw; have CK := Lib.hid ck; have CC := Lib.hid ccell; have CL := Lib.hid cl; have CE := Lib.hid ce; have CQ := Lib.hid cq; have CA := Lib.hid ca; have KR := Lib.hid hkw
          clear cw ck ccell cl ce cq ca cri hr hq hvq hkw
          go_wp2_with fail
          refine wp_region_class C (by kernel_rfl) (by kernel_rfl) CW.out ?_
          repeat (
            refine wpQuiet_step (fun K hK => ?_)
            go_simp
            first
              | (refine hK _ ?_; clear hK K)
              | (refine ⟨_, fun _ _ => rfl, hK _ ?_⟩; clear hK K)
              | (apply Exists.intro
                 refine ⟨fun wq hwq => ?_, hK _ ?_⟩
                 (first
                  | (go_at_call 21; exact CA.out _ hwq)
                  | (go_at_call 32; exact CL.out _ hwq)
                  | (go_at_call 35; exact CE.out _ hwq)
                  | (go_at_call 36; exact CQ.out _ hwq)
                  | (have hc := CC.out _ hwq; go_simp; exact rfl))
                 clear hK K))
          refine wpQuiet_nil ?_
          intro wq hwq
          go_wp2
          go_ret
          exact ⟨by simp, KR.out.fseq (CK.out _ hwq)⟩
    · have hn' : 300 < (ns.length : Int) := by omega
      go_enter Try.func6, Try.ntmps6
      go_wp2_with fail
      refine (alive01_any w).mono ?_
      rintro e w1 ⟨rfl, k1⟩
      go_wp2
      go_ret
      exact ⟨rfl, k1⟩
  · have hl' : 300 < (l.length : Int) := by omega
    go_enter Try.func6, Try.ntmps6
    go_wp2_with fail
    refine (alive01_any w).mono ?_
    rintro e w1 ⟨rfl, k1⟩
    go_wp2
    go_ret
    exact ⟨rfl, k1⟩
end Go.Proofs.Ytdniaingipoggaa
