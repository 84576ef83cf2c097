/-
  Lemmas on which LTopTruncates rests, packed out of the texts WWireA WRdA WRdB WWireB WRdC PTwo; each for all arguments under the hypotheses it names.
-/
import Derived.Test.YtfpcgcbehdogjaaGreatDoorT08
import Derived.Test.YtfpcgcbehdogjaaGreatDoorT07
import Derived.Lib.AppendStr
import Derived.Laws.BytesArg
import Derived.Laws.BytesString
import Derived.Deep.RegionHeld3
import Derived.Deep.DrawnRows
import Derived.Deep.RegionHeld
namespace Go.Proofs.YtfpcgcbehdogjaaGreatDoor
section
set_option maxHeartbeats 2000000
set_option maxRecDepth 100000
open Go.RowKit
def strN (l : List Nat) : ByteArray := ⟨(l.map UInt8.ofNat).toArray⟩
def bytesN (s : ByteArray) : List Nat := s.data.toList.map (·.toNat)
theorem qcu (s : ByteArray) : (bytesN s).length = s.size := by unfold bytesN; rw [List.length_map, Array.length_toList]; rfl
theorem bytesN_lt (s : ByteArray) : ∀ c ∈ bytesN s, c < 256 := by
 intro c hc
 obtain ⟨b, _, rfl⟩ := List.mem_map.1 hc
 exact b.toNat_lt
theorem qjb (l : List Nat) : (strN l).size = l.length := by simp [strN, ByteArray.size]
theorem qeh (l : List Nat) (hb : ∀ c ∈ l, c < 256) : bytesN (strN l) = l := by
 unfold bytesN strN
 simp only [List.map_map]
 refine (List.map_congr_left (fun c hc => ?_)).trans (List.map_id l)
 have := hb c hc
 simp
 omega
theorem strCells_N (s : ByteArray) : Lib.strCells s = u8s (bytesN s) := by
 unfold u8s bytesN
 rw [List.map_map]
 rfl
theorem qdr {w : World} {v : Value} {l : List Nat} (h : Holds w v (u8s l)) : (convert 29 9 v).run Tryz.prog w = .ok (.string (strN l)) w := by
 obtain ⟨ad, cap, rfl, _, h⟩ := h
 rw [qaa]
 by_cases hl : l = []
 · subst hl
   cases ad with
   | none => exact run_convert_bytes_nil w 29 5 Tryz.underlying29 Tryz.underlying5 _ _ 9 Tryz.underlying9
   | some a =>
     rw [run_convert_bytes_string w 29 9 5 _ _ _ Tryz.underlying29 Tryz.underlying5 Tryz.underlying9]
     have := run_bytesToString (P := Tryz.prog) w a 0 cap [] (by rfl)
     exact this
 · rcases h with h | ⟨b, off, rfl, hc⟩
   · exact absurd (by simpa [u8s] using h) hl
   · have := run_convert_bytes_arg (P := Tryz.prog) w 29 5 Tryz.underlying29 Tryz.underlying5 b off l.length cap (l.map fun c => ((c : Nat) : Int)) (by simp) (fun i hi => by
      rw [hc i (.int .u8 ((l[i] : Nat) : Int)) (by simp [u8s, hi])]
      simp [hi, List.getD_eq_getElem?_getD]) 9 Tryz.underlying9
     rw [this]
     simp [strOfNums, strN]
def lenB (l : List Nat) : List Nat := venc l.length ++ l
theorem appb_any (base : Nat) (v : Value) (l : List Nat) (s : ByteArray) (w : World) (h : w.ownsRow base 5 1 v (u8s l).length (u8s l)) (hl : l.length ≤ 1000000000) (hs : s.size ≤ 1000000000) (hb0 : base ≤ w.heap.size) :
 Calls Tryz.prog 126 #[v, .string s] w fun e w' => ∃ v', e = .returned v' ∧ w'.ownsRow base 5 1 v' (l ++ lenB (bytesN s)).length (u8s (l ++ lenB (bytesN s))) ∧ Keeps (fun k => base ≤ k) w w' := by
 obtain ⟨i0, hi, hz0, hz1, hz2⟩ := info_parts infoU8
 have HV := Hj (qby base v l s.size w h (by omega) (by omega) hb0)
 have hvl : (venc s.size).length ≤ 10 := qcs 9 s.size
 have HS := Hj (strCells_N s)
 have HE : Hid (l ++ lenB (bytesN s) = l ++ venc s.size ++ bytesN s) := Hj (by unfold lenB; rw [qcu, List.append_assoc])
 have HB0 := Hj hb0
 have HOWN := Hj h
 clear h hb0
 go_enter Tryz.func126, Tryz.ntmps126
 go_wp2_with (first
  | (go_at_call 125; refine HV.out.mono ?_; rintro e w1 ⟨v1, rfl, hr⟩; have HR := Hj hr; clear hr)
  | (at_builtin; refine Lib.wpList_append_own_string _ rfl _ _ 29 9 rfl base 5 i0 Tryz.underlying29 Tryz.underlying9 hi hz0 hz1 hz2 _ _ (u8s (l ++ venc s.size)) rfl HR.out.row s rfl (by rw [qaa, List.length_append]; unfold maxLen; omega) (by rw [qaa, List.length_append]; omega) (Nat.le_trans HB0.out HR.out.keeps.size) ?_; intro v2 w2 h2 hg2 hn2))
 go_ret
 refine ⟨v2, rfl, ?_, ?_⟩
 · rw [HE.out]
   rw [HS.out] at h2
   simpa [u8s, qcu, Nat.add_assoc] using h2
 · exact (HR.out.keeps.mono (S' := fun k => base ≤ k) (fun k _ e => (HOWN.out.lt k e).1)).grown hg2 (fun k _ e => (HR.out.row.lt k e).1)
def frameO (id : Nat) (data : List Nat) : List Nat := id :: lenB data
def secO (id : Nat) (data : List Nat) : List Nat := crcApp (frameO id data)
theorem lenB_lt (l : List Nat) (hb : ∀ c ∈ l, c < 256) (hl : l.length ≤ 1000000000) : ∀ c ∈ lenB l, c < 256 := by
 intro c hc
 rcases List.mem_append.1 hc with h | h
 · exact qcp _ (by omega) c h
 · exact hb c h
theorem qjc (id : Nat) (l : List Nat) (hid : id < 256) (hb : ∀ c ∈ l, c < 256) (hl : l.length ≤ 1000000000) : ∀ c ∈ frameO id l, c < 256 := by
 intro c hc
 rcases List.mem_cons.1 hc with h | h
 · omega
 · exact lenB_lt l hb hl c h
theorem qei (l : List Nat) : (lenB l).length ≤ l.length + 10 := by
 unfold lenB; rw [List.length_append]
 have : (venc l.length).length ≤ 10 := qcs 9 _
 omega
theorem qbt (id : Nat) (l : List Nat) : (secO id l).length ≤ l.length + 15 := by
 unfold secO; rw [qau]; unfold frameO; rw [List.length_cons]; have := qei l; omega
theorem crcApp_lt (l : List Nat) (hb : ∀ c ∈ l, c < 256) : ∀ c ∈ crcApp l, c < 256 := by
 intro c hc
 rcases List.mem_append.1 hc with h | h
 · exact hb c h
 · exact le4_lt _ c h
theorem qgz (id : Nat) (l : List Nat) (hid : id < 256) (hb : ∀ c ∈ l, c < 256) (hl : l.length ≤ 1000000000) : ∀ c ∈ secO id l, c < 256 := crcApp_lt _ (qjc id l hid hb hl)
theorem qfi (base : Nat) (v vd : Value) (l data : List Nat) (id : Nat) (w : World) (h : w.ownsRow base 5 1 v (u8s l).length (u8s l)) (hl : l.length ≤ 1000000000) (hd : Holds w vd (u8s data)) (hdb : ∀ c ∈ data, c < 256) (hdl : data.length ≤ 1000000000) (hid : id < 256) (hb0 : base ≤ w.heap.size) (hT : TabC w) (hTb : 1 < base) :
 Calls Tryz.prog 69 #[v, .agg #[.int .u8 (id : Int), vd]] w fun e w' => ∃ v', e = .returned v' ∧ RowTo 5 base v w v' (u8s (l ++ secO id data)) w' := by
 obtain ⟨i0, hi, hz0, hz1, hz2⟩ := info_parts infoU8
 have hlt := qjc id data hid hdb hdl
 have hln := qei data
 have hbn := qeh data hdb
 have hss := qjb data
 obtain ⟨W1, hW1⟩ : ∃ W1, W1 = (w.alloc (.cells #[.int .u8 (id : Int), vd] 142)).alloc (.cells #[.int .u8 (id : Int)] 5) := ⟨_, rfl⟩
 have hk1 : Keeps (fun _ => False) w W1 := by rw [hW1]; exact ((Keeps.refl _ w).alloc _).alloc _
 have hs1 : W1.heap.size = w.heap.size + 2 := by rw [hW1]; simp
 have hc1 : W1.heap[w.heap.size]? = some (.cells #[.int .u8 (id : Int), vd] 142 (0, 0)) := by
  rw [hW1]; exact (Below.heap_alloc _ _ _ (by simp)).trans (heap_alloc_new w _)
 have hv1 : W1.cell? ⟨w.heap.size, 1, none⟩ = some vd := by rw [cell_of_row _ _ _ _ _ _ hc1]; rfl
 have hrow1 : W1.ownsRow (w.heap.size + 1) 5 1 (.slice (some ⟨w.heap.size + 1, 0, none⟩) 1 1) (u8s [id]).length (u8s [id]) := by
  refine ⟨rfl, .inr ⟨w.heap.size + 1, 1, #[.int .u8 (id : Int)], rfl, Nat.le_refl _, ?_, Nat.le_refl _, by unfold maxLen; omega, rfl, rfl⟩⟩
  rw [hW1]
  have := heap_alloc_new (w.alloc (.cells #[.int .u8 (id : Int), vd] 142)) (.cells #[.int .u8 (id : Int)] 5)
  rwa [show (w.alloc (.cells #[.int .u8 (id : Int), vd] 142)).heap.size = w.heap.size + 1 by simp] at this
 have hconv := qdr (hd.keeps hk1 (fun _ _ e => e))
 have HAB := Hj (appb_any (w.heap.size + 1) _ [id] (strN data) W1 hrow1 (by simp) (by rw [hss]; exact hdl) (by omega))
 rw [hbn] at HAB
 have HF : Hid ([id] ++ lenB data = frameO id data) := Hj rfl
 rw [HF.out] at HAB
 have HCR : Hid (∀ (wq : World) (vq : Value), Keeps (fun k => w.heap.size + 1 ≤ k) W1 wq → wq.ownsRow (w.heap.size + 1) 5 1 vq (frameO id data).length (u8s (frameO id data)) → Calls Tryz.prog 71 #[vq] wq fun e w' => ∃ v', e = .returned v' ∧ w'.ownsRow wq.heap.size 5 1 v' (secO id data).length (u8s (secO id data)) ∧ Keeps (fun _ => False) wq w') := Hj (fun wq vq hk hr =>
  crca_any vq (frameO id data) wq (qaq (show wq.ownsRow (w.heap.size + 1) 5 1 vq (u8s (frameO id data)).length (u8s (frameO id data)) by rw [qaa]; exact hr)) hlt (by unfold frameO; rw [List.length_cons]; omega) ((hT.keeps hk1 (fun e => e)).keeps hk (fun e => by omega)))
 have HH := Hj h; have HK1 := Hj hk1; have HS1 := Hj hs1; have HB0 := Hj hb0; have HW1 := Hj hW1
 have HSL := Hj (qbt id data)
 rw [hW1] at hconv
 clear h hd hT hk1 hc1 hrow1 hlt hbn hss hs1 hb0 hln hv1 hW1
 go_enter Tryz.func69, Tryz.ntmps69
 go_wp2_with (first
  | (go_at_call 126; rw [← HW1.out]; refine HAB.out.mono ?_; rintro e w2 ⟨v2, rfl, h2, hk2⟩; have H2 := Hj h2; have HK2 := Hj hk2; clear h2 hk2)
  | (go_at_call 71; refine (HCR.out _ _ HK2.out H2.out).mono ?_; rintro e w3 ⟨v3, rfl, h3, hk3⟩; have HH3 := Hj (qaq (show w3.ownsRow w2.heap.size 5 1 v3 (u8s (secO id data)).length (u8s (secO id data)) by rw [qaa]; exact h3))
     have hkk : Keeps (fun k => w.heap.size + 1 ≤ k) W1 w3 := HK2.out.trans hk3 (fun _ _ e => e.elim)
     have HHV := Hj ((HK1.out.row HH.out (fun _ _ e => e)))
     have hkw : Keeps (fun _ => False) w w3 := HK1.out.trans hkk (fun k hk e => by omega)
     have HKW := Hj hkw
     have HHW := Hj (hkw.row HH.out (fun _ _ e => e))
     clear h3 hk3 hkk hkw)
  | (at_builtin; refine qba _ rfl _ _ 29 rfl base 5 i0 (.int .u8 0) 1 Tryz.underlying29 hi hz0 hz1 hz2 rfl _ _ (u8s l) (u8s (secO id data)) rfl rfl HHW.out HH3.out (qdv _) (by rw [qaa, qaa]; have := HSL.out; unfold maxLen; omega) (by rw [qaa, qaa]; have := HSL.out; omega) (Nat.le_trans HB0.out HKW.out.size) ?_; intro v4 w4 hr4))
 go_ret
 refine ⟨v4, rfl, ⟨by have := hr4.row; simpa [u8s] using this, ?_, fun g hg => (hr4.new g hg).imp (fun e => e) (fun e => Nat.le_trans HKW.out.size e)⟩⟩
 exact (HKW.out.mono (S' := own v) (fun _ _ e => e.elim)).trans hr4.keeps (fun k hk e => e)
end
section
set_option maxHeartbeats 1000000
set_option maxRecDepth 100000
open Go.RowKit
structure IsRd (w : World) (p : Nat) (v : Value) (l : List Nat) (i : Nat) (e : Nat) : Prop where
 blk : w.heap[p]? = some (.cells #[v, .int .i64 (i : Int), .int .i64 (e : Int)] 261 (0, 0))
 row : w.ownsRow 0 5 1 v l.length (u8s l)
 bytes : ∀ c ∈ l, c < 256
 len : l.length ≤ 1000000000000
 le : i ≤ l.length
theorem IsRd.keeps {S : Nat → Prop} {a b : World} {p : Nat} {v : Value} {l : List Nat} {i e : Nat} (h : IsRd a p v l i e) (k : Keeps S a b) (hp : ¬ S p) (hv : ∀ g, v.ownBlock = some g → ¬ S g) : IsRd b p v l i e :=
 ⟨k.heap h.blk hp, k.row h.row hv, h.bytes, h.len, h.le⟩
theorem IsRd.keep {a b : World} {p : Nat} {v : Value} {l : List Nat} {i e : Nat} (h : IsRd a p v l i e) (k : Keeps (fun _ => False) a b) : IsRd b p v l i e := h.keeps k (fun e => e) (fun _ _ e => e)
theorem IsRd.lt {a : World} {p : Nat} {v : Value} {l : List Nat} {i e : Nat} (h : IsRd a p v l i e) : p < a.heap.size := (Array.getElem?_eq_some_iff.1 h.blk).1
theorem IsRd.c0 {a : World} {p : Nat} {v : Value} {l : List Nat} {i e : Nat} (h : IsRd a p v l i e) : a.cell? ⟨p, 0, none⟩ = some v := by rw [cell_of_row a p 0 _ _ _ h.blk]; rfl
theorem IsRd.c1 {a : World} {p : Nat} {v : Value} {l : List Nat} {i e : Nat} (h : IsRd a p v l i e) : a.cell? ⟨p, 1, none⟩ = some (.int .i64 (i : Int)) := by rw [cell_of_row a p 1 _ _ _ h.blk]; rfl
theorem IsRd.c2 {a : World} {p : Nat} {v : Value} {l : List Nat} {i e : Nat} (h : IsRd a p v l i e) : a.cell? ⟨p, 2, none⟩ = some (.int .i64 (e : Int)) := by rw [cell_of_row a p 2 _ _ _ h.blk]; rfl
theorem IsRd.free {a : World} {p : Nat} {v : Value} {l : List Nat} {i e : Nat} (h : IsRd a p v l i e) (j : Nat) : a.frozen? ⟨p, j, none⟩ = false := frozen_of_row a p j _ _ h.blk
theorem IsRd.shape {a : World} {p : Nat} {v : Value} {l : List Nat} {i e : Nat} (h : IsRd a p v l i e) : ∃ ad cap, v = .slice ad l.length cap := qac h.row
theorem IsRd.own {a : World} {p : Nat} {v : Value} {l : List Nat} {i e : Nat} (h : IsRd a p v l i e) : ∀ g, v.ownBlock = some g → g ≠ p := fun g hg => by
 obtain ⟨cur, hc⟩ := qak h.row hg
 exact qaf hc h.blk (by decide)
theorem IsRd.setAt {a : World} {p : Nat} {v : Value} {l : List Nat} {i e : Nat} (h : IsRd a p v l i e) (j : Nat) (hj : j ≤ l.length) : IsRd (a.setCell ⟨p, 1, none⟩ (.int .i64 (j : Int))) p v l j e :=
 ⟨heap_setCell_same _ _ 1 _ _ _ h.blk, ((Keeps.refl (fun k => k = p) a).setCell (p := ⟨p, 1, none⟩) (fun _ => rfl) _).row h.row (fun g hg => h.own g hg), h.bytes, h.len, hj⟩
theorem IsRd.setErr {a : World} {p : Nat} {v : Value} {l : List Nat} {i e : Nat} (h : IsRd a p v l i e) (j : Nat) : IsRd (a.setCell ⟨p, 2, none⟩ (.int .i64 (j : Int))) p v l i j :=
 ⟨heap_setCell_same _ _ 2 _ _ _ h.blk, ((Keeps.refl (fun k => k = p) a).setCell (p := ⟨p, 2, none⟩) (fun _ => rfl) _).row h.row (fun g hg => h.own g hg), h.bytes, h.len, h.le⟩
theorem qhz (v : Value) (l : List Nat) (w : World) (h : Holds w v (u8s l)) (hx : l.length ≤ 1000000000000) (hb : ∀ c ∈ l, c < 256) :
 Calls Tryz.prog 85 #[v] w fun e w' => ∃ p v', e = .returned (.pointer (some ⟨p, 0, none⟩)) ∧ w.heap.size ≤ p ∧ IsRd w' p v' l 0 0 ∧ (∀ g, v'.ownBlock = some g → w.heap.size ≤ g) ∧ Keeps (fun _ => False) w w' := by
 go_enter Tryz.func85, Tryz.ntmps85
 go_wp2_with (go_at_call 52; refine (qbk v l _ h (by omega)).mono ?_; rintro e w1 ⟨v', rfl, h1, h2⟩; obtain ⟨ad, cap, rfl⟩ := qac h1)
 go_ret
 exact ⟨w1.heap.size, _, rfl, h2.size, ⟨heap_alloc_new _ _, qao (h1.alloc _) (fun g hg => Nat.zero_le _), hb, hx, Nat.zero_le _⟩, fun g hg => (h1.lt g hg).1, h2.alloc _⟩
theorem qel {p : Nat} {v : Value} {l : List Nat} {i x : Nat} {w : World} (h : IsRd w p v l i x) :
 Calls Tryz.prog 87 #[.pointer (some ⟨p, 0, none⟩)] w fun e w' => e = .returned (.int .i64 (i : Int)) ∧ w' = w := by
 have c1 := h.c1
 clear h
 go_enter Tryz.func87, Tryz.ntmps87
 go_wp2
 go_ret
 exact ⟨rfl, rfl⟩
theorem qcb {p : Nat} {v : Value} {l : List Nat} {i x : Nat} {w : World} (h : IsRd w p v l i x) :
 Calls Tryz.prog 134 #[.pointer (some ⟨p, 0, none⟩)] w fun e w' => e = .returned (.int .i64 (x : Int)) ∧ w' = w := by
 have c2 := h.c2
 clear h
 go_enter Tryz.func134, Tryz.ntmps134
 go_wp2
 go_ret
 exact ⟨rfl, rfl⟩
theorem qfa {p : Nat} {v : Value} {l : List Nat} {i x : Nat} {w : World} (h : IsRd w p v l i x) (j : Nat) (hj : j ≤ l.length) :
 Calls Tryz.prog 147 #[.pointer (some ⟨p, 0, none⟩), .int .i64 (j : Int)] w fun e w' => e = .returned (.int .i64 ((l.length - j : Nat) : Int)) ∧ w' = w := by
 have c0 := h.c0
 obtain ⟨ad, cap, rfl⟩ := h.shape
 have hlen := h.len
 clear h
 go_enter Tryz.func147, Tryz.ntmps147
 go_wp2
 go_ret
 exact ⟨qdw (by omega), rfl⟩
theorem qgq {p : Nat} {v : Value} {l : List Nat} {i x : Nat} {w : World} (h : IsRd w p v l i x) (y : Nat) :
 Calls Tryz.prog 90 #[.pointer (some ⟨p, 0, none⟩), .int .i64 (y : Int)] w fun e w' => e = .returned (.tuple #[]) ∧ IsRd w' p v l i (if x = 0 then y else x) ∧ Keeps (fun k => k = p) w w' := by
 have c2 := h.c2
 have f2 := h.free 2
 have HH := Hj h
 clear h
 by_cases hx : x = 0
 · subst hx
   rw [if_pos rfl]
   go_enter Tryz.func90, Tryz.ntmps90
   go_wp2
   go_end0
   exact ⟨rfl, HH.out.setErr y, (Keeps.refl (fun k => k = p) w).setCell (p := ⟨p, 2, none⟩) (fun _ => rfl) _⟩
 · rw [if_neg hx]
   have hx' : (((x : Nat) : Int) == 0) = false := by simp; omega
   go_enter Tryz.func90, Tryz.ntmps90
   go_wp2
   go_end0
   exact ⟨rfl, HH.out, Keeps.refl _ w⟩
theorem qia {p : Nat} {v : Value} {l : List Nat} {i x : Nat} {w : World} (h : IsRd w p v l i x) :
 Calls Tryz.prog 93 #[.pointer (some ⟨p, 0, none⟩)] w fun e w' => e = .returned (.int .i64 ((if x = 0 then if i < l.length then 4 else 0 else x : Nat) : Int)) ∧ w' = w := by
 have c1 := h.c1
 have HE := Hj (qcb h)
 have HL := Hj (qfa h i h.le)
 have hle := h.le
 clear h
 by_cases hx : x = 0
 · subst hx
   rw [if_pos rfl]
   by_cases hi : i < l.length
   · rw [if_pos hi]
     have hg : (0 : Int) < ((l.length - i : Nat) : Int) := by omega
     obtain ⟨n, hn⟩ : ∃ n, n = l.length - i := ⟨_, rfl⟩
     rw [← hn] at HL hg
     clear hn
     go_enter Tryz.func93, Tryz.ntmps93
     go_wp2_with (first | (go_at_call 134; refine HE.out.mono ?_; rintro e w1 ⟨rfl, rfl⟩) | (go_at_call 147; refine HL.out.mono ?_; rintro e w1 ⟨rfl, rfl⟩))
     go_ret
     exact ⟨rfl, rfl⟩
   · rw [if_neg hi]
     have hn : l.length - i = 0 := by omega
     rw [hn] at HL
     clear hn
     go_enter Tryz.func93, Tryz.ntmps93
     go_wp2_with (first | (go_at_call 134; refine HE.out.mono ?_; rintro e w1 ⟨rfl, rfl⟩) | (go_at_call 147; refine HL.out.mono ?_; rintro e w1 ⟨rfl, rfl⟩))
     go_ret
     exact ⟨rfl, rfl⟩
 · rw [if_neg hx]
   have hx' : (((x : Nat) : Int) == 0) = false := by simp; omega
   go_enter Tryz.func93, Tryz.ntmps93
   go_wp2_with (first | (go_at_call 134; refine HE.out.mono ?_; rintro e w1 ⟨rfl, rfl⟩) | (go_at_call 147; refine HL.out.mono ?_; rintro e w1 ⟨rfl, rfl⟩))
   go_ret
   exact ⟨rfl, rfl⟩
theorem qla (fn : FuncId) (hE : ∀ (args : Array Value) (w : World), (callFunc fn args).run Tryz.prog w = .ok (.enter fn args) w) (cs : Array Value) (Φ : Value → Nat → Nat → World → Prop) {p : Nat} {v : Value} {l : List Nat} {i x : Nat} {w : World} (h : IsRd w p v l i x)
 (hf : x = 0 → Calls Tryz.prog fn (#[.int .i64 (i : Int)] ++ cs) w fun e w' => ∃ u ut er, e = .returned (.tuple #[u, .int .i64 (ut : Nat), .int .i64 (er : Nat)]) ∧ (er = 0 → ut ≤ l.length) ∧ Φ u ut er w' ∧ Keeps (fun _ => False) w w') :
 Calls Tryz.prog 145 #[.pointer (some ⟨p, 0, none⟩), .func (.func fn) #[] cs] w fun e w' =>
  (x ≠ 0 ∧ e = .returned (.slice none 0 0) ∧ w' = w) ∨
  (x = 0 ∧ ∃ u ut er w2, Φ u ut er w2 ∧ Keeps (fun _ => False) w w2 ∧ Keeps (fun k => k = p) w2 w' ∧ (if er = 0 then e = .returned u ∧ IsRd w' p v l ut 0 else e = .returned (.slice none 0 0) ∧ IsRd w' p v l i er)) := by
 have c1 := h.c1
 have HE := Hj (qcb h)
 have HH := Hj h
 clear h
 by_cases hx : x = 0
 · subst hx
   have HF := Hj (hf rfl)
   clear hf
   go_enter Tryz.func145, Tryz.ntmps145
   go_wp2_with (first
    | (go_at_call 134; refine HE.out.mono ?_; rintro e w1 ⟨rfl, rfl⟩)
    | (refine HF.out.mono ?_
       rintro e w2 ⟨u, ut, er, rfl, hto, hu, hk⟩
       have hH2 := HH.out.keep hk
       have f1 := hH2.free 1
       have f2 := hH2.free 2
       have cc1 := hH2.c1
       have cc2 := hH2.c2
       have HH2 := Hj hH2; have HU := Hj hu; have HK := Hj hk; have HT := Hj hto
       clear hH2 hu hk hto c1
       by_cases her : er = 0
       all_goals (first | subst her | have hne : (((er : Nat) : Int) == 0) = false := by simp; omega)))
   · go_ret
     exact .inr ⟨by simp, u, ut, 0, w2, HU.out, HK.out, (Keeps.refl (fun k => k = p) w2).setCell (p := ⟨p, 1, none⟩) (fun _ => rfl) _, by rw [if_pos rfl]; exact ⟨rfl, HH2.out.setAt ut (HT.out (by simp))⟩⟩
   · go_ret
     exact .inr ⟨by simp, u, ut, er, w2, HU.out, HK.out, (Keeps.refl (fun k => k = p) w2).setCell (p := ⟨p, 2, none⟩) (fun _ => rfl) _, by rw [if_neg her]; exact ⟨rfl, HH2.out.setErr er⟩⟩
 · have hx' : (((x : Nat) : Int) == 0) = false := by simp; omega
   clear hf
   go_enter Tryz.func145, Tryz.ntmps145
   go_wp2_with (first | (go_at_call 134; refine HE.out.mono ?_; rintro e w1 ⟨rfl, rfl⟩))
   go_ret
   exact .inl ⟨hx, rfl, rfl⟩
end
section
set_option maxHeartbeats 1000000
set_option maxRecDepth 100000
open Go.RowKit
attribute [local go_sem ↓] Go.wp_at_zero Go.wp_at_succ
theorem Holds.take {w : World} {ad : Option Addr} {n c : Nat} {xs : List Value} (h : Holds w (.slice ad n c) xs) (k : Nat) (hk : k ≤ n) : Holds w (.slice ad k c) (xs.take k) := by
 obtain ⟨ad', cap', hv, hc, hcells⟩ := h
 simp only [Value.slice.injEq] at hv
 obtain ⟨rfl, rfl, rfl⟩ := hv
 refine ⟨_, c, by rw [List.length_take]; congr 1; omega, by rw [List.length_take]; omega, ?_⟩
 rcases hcells with h | ⟨b, off, hb, h⟩
 · subst h; exact .inl (by simp)
 · refine .inr ⟨b, off, hb, fun j u hj => h j u ?_⟩
   rw [List.getElem?_take] at hj
   split at hj
   · exact hj
   · cases hj
theorem take1_any {p bn br : Nat} {v : Value} {l : List Nat} {i x : Nat} {w : World} (h : IsRd w p v l i x) (n : Nat) (hn : n ≤ 1000000000000)
 (hcn : w.cell? ⟨bn, 0, none⟩ = some (.int .i64 (n : Int))) (hcr : w.cell? ⟨br, 0, none⟩ = some (.pointer (some ⟨p, 0, none⟩))) :
 Calls Tryz.prog 148 #[.int .i64 (i : Int), .pointer (some ⟨bn, 0, none⟩), .pointer (some ⟨br, 0, none⟩)] w fun e w' => ∃ u ut er, e = .returned (.tuple #[u, .int .i64 (ut : Nat), .int .i64 (er : Nat)]) ∧ (er = 0 → ut ≤ l.length) ∧
  (if n ≤ l.length - i then ut = i + n ∧ er = 0 ∧ w'.ownsRow w.heap.size 5 1 u n (u8s ((l.drop i).take n)) else u = .slice none 0 0 ∧ er = 3) ∧ Keeps (fun _ => False) w w' := by
 have HL := Hj (fun n => qfa (h.keep ((Keeps.refl (fun _ => False) w).drewN n)) i h.le)
 have hle := h.le
 have hlen := h.len
 have c0 := h.c0
 have hcases : (v = .slice none 0 0 ∧ l.length = 0) ∨ ∃ g cap, v = .slice (some ⟨g, 0, none⟩) l.length cap ∧ l.length ≤ cap := by
  rcases h.row.2 with ⟨hv, h0⟩ | ⟨g, cap, cur, hv, _, _, hle, _⟩
  · exact .inl ⟨hv, h0⟩
  · exact .inr ⟨g, cap, hv, hle⟩
 have HH := Hj h
 have hw1 : IntKind.i64.wrap ((i : Int) + n) = i + n := IntWalk.i64_in _ (by omega)
 clear h
 by_cases hni : n ≤ l.length - i
 · simp only [if_pos hni]
   have hg : ¬ (((l.length - i : Nat) : Int) < n) := by omega
   go_enter Tryz.func148, Tryz.ntmps148
   go_wp2
   go_quiet ((go_at_call 147; exact Calls.quiet_of_same (HL.out _)))
   go_wp2
   have HLN : Hid (((l.drop i).take n).length = n) := Hj (by rw [List.length_take, List.length_drop]; omega)
   rcases hcases with ⟨rfl, h0⟩ | ⟨g, cap, rfl, hcap⟩
   · obtain rfl : i = 0 := by omega
     obtain rfl : n = 0 := by omega
     clear hw1
     have hw2 : IntKind.i64.wrap 0 = 0 := rfl
     have HM : Hid (∀ m, Holds (w.drewN m) (.slice none 0 0) (u8s ((l.drop 0).take 0))) := Hj (fun m => by simpa [u8s] using Holds.nil _)
     go_region_held3 (fun x => Keeps (fun _ => False) w x ∧ x.cell? ⟨br, 0, none⟩ = some (.pointer (some ⟨p, 0, none⟩)) ∧ x.cell? ⟨bn, 0, none⟩ = some (.int .i64 ((0 : Nat) : Int)) ∧ x.cell? ⟨p, 0, none⟩ = some (.slice none 0 0)) (first | assumption | (refine ⟨?_, ?_, ?_, ?_⟩ <;> first | assumption | exact Keeps.drewN (Keeps.refl _ _) _ | exact Keeps.drew (Keeps.drewN (Keeps.refl _ _) _) | go_keep)) (first
      | (go_at_call 52; go_must (refine (qbk _ ((l.drop 0).take 0) _ (HM.out _) (by rw [List.length_take]; omega)).mono ?_; rintro e wb ⟨vb, rfl, hb, kb⟩; have d0 := kb.trans (Keeps.refl (fun _ => False) wb) (fun _ _ e => e); have d1 := (((Keeps.refl (fun _ => False) w).drewN _).trans kb (fun _ _ e => e)); have d2 := d1.cell hcr (fun e => e); have d3 := d1.cell hcn (fun e => e); have d4 := d1.cell c0 (fun e => e); have KB := Hj d1; have RB := Hj hb; clear d0 hb kb)))
     all_goals
      go_wp2
      go_ret3
      exact ⟨vb, 0 + 0, 0, by simp, fun _ => by omega, ⟨rfl, rfl, by have := RB.out; rwa [HLN.out] at this⟩, KB.out⟩
   · have b1 : (0 : Int) ≤ i := by omega
     have b2 : (i : Int) + n ≤ cap := by omega
     have b3 : (i : Int) ≤ i + n := by omega
     have b4 : ((i : Int) + n - i).toNat = n := by omega
     have b5 : ((cap : Int) - i).toNat = cap - i := by omega
     have b6 : ((i : Int) + n).toNat = i + n := by omega
     have hmid := HH.out.row
     by_cases hci : cap = i
     · obtain rfl : n = 0 := by omega
       subst hci
       clear b2 b3 b4 b5 b6 hw1 hmid
       have hw2 : IntKind.i64.wrap (cap : Int) = cap := IntWalk.i64_in _ (by omega)
       have HM : Hid (∀ (ad : Option Addr) m, Holds (w.drewN m) (.slice ad 0 0) (u8s ((l.drop cap).take 0))) := Hj (fun ad m => ⟨ad, 0, by simp [u8s], Nat.zero_le _, .inl (by simp [u8s])⟩)
       go_region_held3 (fun x => Keeps (fun _ => False) w x ∧ x.cell? ⟨br, 0, none⟩ = some (.pointer (some ⟨p, 0, none⟩)) ∧ x.cell? ⟨bn, 0, none⟩ = some (.int .i64 ((0 : Nat) : Int)) ∧ x.cell? ⟨p, 0, none⟩ = some (.slice (some ⟨g, 0, none⟩) l.length cap)) (first | assumption | (refine ⟨?_, ?_, ?_, ?_⟩ <;> first | assumption | exact Keeps.drewN (Keeps.refl _ _) _ | exact Keeps.drew (Keeps.drewN (Keeps.refl _ _) _) | go_keep)) (first
        | (go_at_call 52; go_must (refine (qbk _ ((l.drop cap).take 0) _ (HM.out _ _) (by rw [List.length_take]; omega)).mono ?_; rintro e wb ⟨vb, rfl, hb, kb⟩; have d0 := kb.trans (Keeps.refl (fun _ => False) wb) (fun _ _ e => e); have d1 := (((Keeps.refl (fun _ => False) w).drewN _).trans kb (fun _ _ e => e)); have d2 := d1.cell hcr (fun e => e); have d3 := d1.cell hcn (fun e => e); have d4 := d1.cell c0 (fun e => e); have KB := Hj d1; have RB := Hj hb; clear d0 hb kb)))
       all_goals
        go_wp2
        go_ret3
        exact ⟨vb, cap + 0, 0, by simp, fun _ => by omega, ⟨rfl, rfl, by have := RB.out; rwa [HLN.out] at this⟩, KB.out⟩
     · have b7 : ¬ ((cap : Int) = i) := by omega
       have HM : Hid (∀ m, Holds (w.drewN m) (.slice (some ⟨g, i, none⟩) n (cap - i)) (u8s ((l.drop i).take n))) := Hj (fun m => by
        have := (qaq (((Keeps.refl (fun _ => False) w).drewN m).row (show w.ownsRow 0 5 1 (.slice (some ⟨g, 0, none⟩) l.length cap) (u8s l).length (u8s l) by rw [qaa]; exact hmid) (fun _ _ e => e)))
        obtain ⟨ad', cp', hv, _, hh⟩ := this
        simp only [Value.slice.injEq] at hv
        obtain ⟨rfl, _, rfl⟩ := hv
        refine ⟨_, cap - i, by rw [qaa, List.length_take, List.length_drop]; congr 1; omega, by rw [qaa, List.length_take, List.length_drop]; omega, ?_⟩
        rcases hh with hh | ⟨b, off, hb, hh⟩
        · left
          have hl0 : l.length = 0 := by have := congrArg List.length hh; rw [qaa] at this; simpa using this
          have : l = [] := List.eq_nil_of_length_eq_zero hl0
          subst this; simp [u8s]
        · simp only [Option.some.injEq, Addr.mk.injEq] at hb
          obtain ⟨rfl, rfl, -⟩ := hb
          refine .inr ⟨g, i, rfl, fun j u hj => ?_⟩
          have hq : (u8s l)[i + j]? = some u := by
           unfold u8s at hj ⊢
           rw [List.getElem?_map, List.getElem?_take] at hj
           split at hj
           · rwa [List.getElem?_drop, ← List.getElem?_map] at hj
           · cases hj
          have := hh (i + j) u hq
          rwa [Nat.zero_add] at this)
       clear hmid
       go_region_held3 (fun x => Keeps (fun _ => False) w x ∧ x.cell? ⟨br, 0, none⟩ = some (.pointer (some ⟨p, 0, none⟩)) ∧ x.cell? ⟨bn, 0, none⟩ = some (.int .i64 (n : Int)) ∧ x.cell? ⟨p, 0, none⟩ = some (.slice (some ⟨g, 0, none⟩) l.length cap)) (first | assumption | (refine ⟨?_, ?_, ?_, ?_⟩ <;> first | assumption | exact Keeps.drewN (Keeps.refl _ _) _ | exact Keeps.drew (Keeps.drewN (Keeps.refl _ _) _) | go_keep)) (first
        | (go_at_call 52; go_must (refine (qbk _ ((l.drop i).take n) _ (HM.out _) (by rw [List.length_take]; omega)).mono ?_; rintro e wb ⟨vb, rfl, hb, kb⟩; have d0 := kb.trans (Keeps.refl (fun _ => False) wb) (fun _ _ e => e); have d1 := (((Keeps.refl (fun _ => False) w).drewN _).trans kb (fun _ _ e => e)); have d2 := d1.cell hcr (fun e => e); have d3 := d1.cell hcn (fun e => e); have d4 := d1.cell c0 (fun e => e); have KB := Hj d1; have RB := Hj hb; clear d0 hb kb)))
       all_goals
        go_wp2
        go_ret3
        exact ⟨vb, i + n, 0, by simp, fun _ => by omega, ⟨rfl, rfl, by have := RB.out; rwa [HLN.out] at this⟩, KB.out⟩
 · simp only [if_neg hni]
   have hg : (((l.length - i : Nat) : Int) < n) := by omega
   go_enter Tryz.func148, Tryz.ntmps148
   go_wp2
   go_quiet ((go_at_call 147; exact Calls.quiet_of_same (HL.out _)))
   go_wp2
   go_ret3
   exact ⟨_, 0, 3, rfl, by omega, ⟨rfl, rfl⟩, (Keeps.refl (fun _ => False) w).drewN _⟩
def rdTake (l : List Nat) (i x n : Nat) : List Nat × Nat × Nat := if x = 0 then if n ≤ l.length - i then ((l.drop i).take n, i + n, 0) else ([], i, 3) else ([], i, x)
theorem wtake_any {p : Nat} {v : Value} {l : List Nat} {i x : Nat} {w : World} (h : IsRd w p v l i x) (n : Nat) (hn : n ≤ 1000000000000) :
 Calls Tryz.prog 91 #[.pointer (some ⟨p, 0, none⟩), .int .i64 (n : Int)] w fun e w' => ∃ u, e = .returned u ∧ w'.ownsRow w.heap.size 5 1 u (rdTake l i x n).1.length (u8s (rdTake l i x n).1) ∧ IsRd w' p v l (rdTake l i x n).2.1 (rdTake l i x n).2.2 ∧ Keeps (fun k => k = p) w w' := by
 obtain ⟨W1, hW1⟩ : ∃ W1, W1 = (w.alloc (.cells #[.pointer (some ⟨p, 0, none⟩)] 173)).alloc (.cells #[.int .i64 (n : Int)] 3) := ⟨_, rfl⟩
 have hk1 : Keeps (fun _ => False) w W1 := by rw [hW1]; exact ((Keeps.refl _ w).alloc _).alloc _
 have hb0 : W1.heap[w.heap.size]? = some (.cells #[.pointer (some ⟨p, 0, none⟩)] 173 (0, 0)) := by
  rw [hW1]; exact (Below.heap_alloc _ _ _ (by simp)).trans (heap_alloc_new w _)
 have hb1 : W1.heap[w.heap.size + 1]? = some (.cells #[.int .i64 (n : Int)] 3 (0, 0)) := by
  rw [hW1]
  have := heap_alloc_new (w.alloc (.cells #[.pointer (some ⟨p, 0, none⟩)] 173)) (.cells #[.int .i64 (n : Int)] 3)
  rwa [show (w.alloc (.cells #[.pointer (some ⟨p, 0, none⟩)] 173)).heap.size = w.heap.size + 1 by simp] at this
 have cr : W1.cell? ⟨w.heap.size, 0, none⟩ = some (.pointer (some ⟨p, 0, none⟩)) := by rw [cell_of_row _ _ _ _ _ _ hb0]; rfl
 have cn : W1.cell? ⟨w.heap.size + 1, 0, none⟩ = some (.int .i64 (n : Int)) := by rw [cell_of_row _ _ _ _ _ _ hb1]; rfl
 have h1 := h.keep hk1
 have hpw := h.lt
 have hlt := h.own
 have hr := (qla 148 Tryz.call148 #[.pointer (some ⟨w.heap.size + 1, 0, none⟩), .pointer (some ⟨w.heap.size, 0, none⟩)] _ h1 (fun _ => take1_any h1 n hn cn cr)).mono (R' := fun e w' => ∃ u, e = .returned u ∧ w'.ownsRow w.heap.size 5 1 u (rdTake l i x n).1.length (u8s (rdTake l i x n).1) ∧ IsRd w' p v l (rdTake l i x n).2.1 (rdTake l i x n).2.2 ∧ Keeps (fun k => k = p) w w') (by
  rintro e w' (⟨hx, rfl, rfl⟩ | ⟨rfl, u, ut, er, w2, hu, hk2, hk3, hres⟩)
  · refine ⟨_, rfl, ?_, ?_, hk1.mono (fun _ _ e => e.elim)⟩
    · unfold rdTake; rw [if_neg hx]; exact World.ownsRow_nil _ _ _ _
    · unfold rdTake; rw [if_neg hx]; exact h1
  · have hkk : Keeps (fun k => k = p) w w' := (hk1.trans hk2 (fun _ _ e => e)).mono (S' := fun k => k = p) (fun _ _ e => e.elim) |>.trans hk3 (fun _ _ e => e)
    by_cases hni : n ≤ l.length - i
    · rw [if_pos hni] at hu
      obtain ⟨rfl, rfl, hrow⟩ := hu
      rw [if_pos rfl] at hres
      obtain ⟨rfl, hrd⟩ := hres
      have hl : ((l.drop i).take n).length = n := by rw [List.length_take, List.length_drop]; omega
      have e1 : rdTake l i 0 n = ((l.drop i).take n, i + n, 0) := by unfold rdTake; rw [if_pos rfl, if_pos hni]
      rw [e1]
      refine ⟨_, rfl, ?_, hrd, hkk⟩
      rw [hl]
      refine qao (hk3.row hrow (fun g hg e => ?_)) (fun g hg => ?_)
      · have := (hrow.lt g hg).1; have := hk1.size; omega
      · have := (hrow.lt g hg).1; have := hk1.size; omega
    · rw [if_neg hni] at hu
      obtain ⟨rfl, rfl⟩ := hu
      rw [if_neg (by decide)] at hres
      obtain ⟨rfl, hrd⟩ := hres
      have e1 : rdTake l i 0 n = ([], i, 3) := by unfold rdTake; rw [if_pos rfl, if_neg hni]
      rw [e1]
      exact ⟨_, rfl, World.ownsRow_nil _ _ _ _, hrd, hkk⟩)
 have HR := Hj hr; have HW1 := Hj hW1
 clear h hk1 hb0 hb1 h1 hW1 hr hlt hpw
 go_enter Tryz.func91, Tryz.ntmps91
 go_wp2_with (go_at_call 145; rw [← HW1.out]; refine HR.out.mono ?_; rintro e w2 ⟨u, rfl, hres⟩; have HRES := Hj hres; clear hres)
 go_ret
 exact ⟨u, rfl, HRES.out⟩
end
section
set_option maxHeartbeats 2000000
set_option maxRecDepth 100000
open Go.RowKit
section
variable {P : Program}
theorem qjp (w : World) (base : Nat) (t ty e : TypeId) (i : TypeInfo) (z : Value) (bytes : Nat) (ht : P.underlying t = some (.slice e)) (hi : P.info? e = some i) (hz : i.zero = some z)
 (hsize : i.size = 1) (hby : i.bytes = bytes) (hzs : z.cells.size = 1) (g n : Nat) (xs : List Value) (hx : Holds w (.slice (some ⟨g, 0, none⟩) n n) xs) (hxl : xs.length = n) (y : Value) (ys : List Value) (hy : Holds w y ys) (hpos : 0 < ys.length)
 (h63 : n + ys.length ≤ maxLen) (hbytes : (n + ys.length) * bytes ≤ 140737488355328) (hbase : base ≤ w.heap.size) :
 ∃ v' w', (Builtin.append_ #[t, t] ty #[.slice (some ⟨g, 0, none⟩) n n, y]).run P w = .ok v' w' ∧ w'.ownsRow base e 1 v' (n + ys.length) (xs ++ ys) ∧ w.grownBy w' none ∧ (∀ g, v'.ownBlock = some g → w.heap.size ≤ g) := by
 obtain ⟨ay, cy, rfl, hcy, hyc⟩ := hy
 obtain ⟨by_, oy, rfl, hyd⟩ : ∃ b off, ay = some ⟨b, off, none⟩ ∧ ∀ j u, ys[j]? = some u → w.cell? ⟨b, off + j, none⟩ = some u := by
  rcases hyc with h | h
  · rw [h] at hpos; simp at hpos
  · exact h
 have holds : ∀ j u, xs[j]? = some u → w.cell? ((⟨g, 0, none⟩ : Addr).add j) = some u := fun j u hj => by
  obtain ⟨a, c, hv, _, h | ⟨b, off, rfl, h⟩⟩ := hx
  · rw [h] at hj; simp at hj
  · simp only [Value.slice.injEq, Option.some.injEq, Addr.mk.injEq, and_true] at hv
    obtain ⟨⟨rfl, rfl⟩, _⟩ := hv
    have h2 := h j u hj
    rwa [show ((⟨g, 0, none⟩ : Addr).add j) = ⟨g, 0 + j, none⟩ from by unfold Addr.add; split <;> simp_all]
 have hsmall : n + ys.length ≤ 9223372036854775807 := by simp only [maxLen] at h63; omega
 have hr := run_append_grow (P := P) w t ty e i z ht hi hz ⟨g, 0, none⟩ n n xs (by rw [hsize]; omega) holds ⟨by_, oy, none⟩ ys.length cy ys (by rw [hsize]; omega) (fun j u hj => by
  have := hyd j u hj
  rw [show ((⟨by_, oy, none⟩ : Addr).add j) = ⟨by_, oy + j, none⟩ from by unfold Addr.add; split <;> simp_all]
  exact this) (by omega) (by omega) (growslice_fits (by omega) (by rw [hby]; exact hbytes))
 have hge := grownCap_ge w (n + ys.length) n e
 have hcm : grownCap w (n + ys.length) n e ≤ maxLen := grownCap_le_maxLen w (n + ys.length) n e h63
 refine ⟨_, _, hr, ⟨by rw [List.length_append]; omega, .inr ⟨w.heap.size, _, _, rfl, hbase, heap_alloc_new w.drew _, hge, hcm, ?_, ?_⟩⟩, ⟨rfl, rfl, rfl, by simp, fun k hk _ => Below.heap_alloc w.drew _ k hk⟩, fun g hg => by simp only [Value.ownBlock, Option.some.injEq] at hg; omega⟩
 · simp only [Array.size_append, List.size_toArray, size_zeroCells, hzs]
   omega
 · simp only [Array.toList_append, List.append_assoc]
   rw [← List.append_assoc, show (n + ys.length) * 1 = (xs ++ ys).length by rw [List.length_append]; omega]
   exact List.take_left
theorem qgo (w : World) {ops : Array Oper} {rest : List Oper} {o : Oper} {a : Act} {Q : Exit → Act → World → Prop} (hgd : o.guard = none) (s x : Operand) (t : TypeId)
 (ho : o.op = .call { callee := .builtin .append, args := #[s, x], argTypes := #[t, t] })
 (base : Nat) (e : TypeId) (i : TypeInfo) (z : Value) (bytes : Nat) (ht : P.underlying t = some (.slice e)) (hi : P.info? e = some i) (hz : i.zero = some z)
 (hsize : i.size = 1) (hby : i.bytes = bytes) (hzs : z.cells.size = 1) (g n : Nat) (xs : List Value) (hs : a.eval s = .slice (some ⟨g, 0, none⟩) n n) (hx : Holds w (.slice (some ⟨g, 0, none⟩) n n) xs) (hxl : xs.length = n) (y : Value) (ys : List Value) (hxe : a.eval x = y) (hy : Holds w y ys) (hpos : 0 < ys.length)
 (h63 : n + ys.length ≤ maxLen) (hbytes : (n + ys.length) * bytes ≤ 140737488355328) (hbase : base ≤ w.heap.size)
 (h : ∀ v' w', w'.ownsRow base e 1 v' (n + ys.length) (xs ++ ys) → w.grownBy w' none → (∀ g, v'.ownBlock = some g → w.heap.size ≤ g) → wpList P ops Q rest (a.put o.dst v') w') : wpList P ops Q (o :: rest) a w := by
 obtain ⟨v', w', hr, h2, h3, h4⟩ := qjp (P := P) w base t o.type e i z bytes ht hi hz hsize hby hzs g n xs hx hxl y ys hy hpos h63 hbytes hbase
 refine wpList_plain hgd fun K hK => ?_
 unfold Oper.wp execOp
 simp only [ho, resolve, invoke, builtin, Sem.run_bind, Sem.run_pure, Result.andThen_ok, List.map_toArray, List.map_cons, List.map_nil, hs, hxe, hr]
 exact hK _ _ (h v' w' h2 h3 h4)
end
theorem appsec_full (base g : Nat) (vd : Value) (l data : List Nat) (id : Nat) (w : World) (h : Holds w (.slice (some ⟨g, 0, none⟩) l.length l.length) (u8s l)) (hl : l.length ≤ 1000000000) (hd : Holds w vd (u8s data)) (hdb : ∀ c ∈ data, c < 256) (hdl : data.length ≤ 1000000000) (hid : id < 256) (hb0 : base ≤ w.heap.size) (hT : TabC w) (hTb : 1 < base) :
 Calls Tryz.prog 69 #[.slice (some ⟨g, 0, none⟩) l.length l.length, .agg #[.int .u8 (id : Int), vd]] w fun e w' => ∃ v', e = .returned v' ∧ w'.ownsRow base 5 1 v' (u8s (l ++ secO id data)).length (u8s (l ++ secO id data)) ∧ Keeps (fun _ => False) w w' ∧ (∀ g, v'.ownBlock = some g → w.heap.size ≤ g) := by
 obtain ⟨i0, hi, hz0, hz1, hz2⟩ := info_parts infoU8
 have hlt := qjc id data hid hdb hdl
 have hln := qei data
 have hbn := qeh data hdb
 have hss := qjb data
 obtain ⟨W1, hW1⟩ : ∃ W1, W1 = (w.alloc (.cells #[.int .u8 (id : Int), vd] 142)).alloc (.cells #[.int .u8 (id : Int)] 5) := ⟨_, rfl⟩
 have hk1 : Keeps (fun _ => False) w W1 := by rw [hW1]; exact ((Keeps.refl _ w).alloc _).alloc _
 have hs1 : W1.heap.size = w.heap.size + 2 := by rw [hW1]; simp
 have hc1 : W1.heap[w.heap.size]? = some (.cells #[.int .u8 (id : Int), vd] 142 (0, 0)) := by
  rw [hW1]; exact (Below.heap_alloc _ _ _ (by simp)).trans (heap_alloc_new w _)
 have hv1 : W1.cell? ⟨w.heap.size, 1, none⟩ = some vd := by rw [cell_of_row _ _ _ _ _ _ hc1]; rfl
 have hrow1 : W1.ownsRow (w.heap.size + 1) 5 1 (.slice (some ⟨w.heap.size + 1, 0, none⟩) 1 1) (u8s [id]).length (u8s [id]) := by
  refine ⟨rfl, .inr ⟨w.heap.size + 1, 1, #[.int .u8 (id : Int)], rfl, Nat.le_refl _, ?_, Nat.le_refl _, by unfold maxLen; omega, rfl, rfl⟩⟩
  rw [hW1]
  have := heap_alloc_new (w.alloc (.cells #[.int .u8 (id : Int), vd] 142)) (.cells #[.int .u8 (id : Int)] 5)
  rwa [show (w.alloc (.cells #[.int .u8 (id : Int), vd] 142)).heap.size = w.heap.size + 1 by simp] at this
 have hconv := qdr (hd.keeps hk1 (fun _ _ e => e))
 have HAB := Hj (appb_any (w.heap.size + 1) _ [id] (strN data) W1 hrow1 (by simp) (by rw [hss]; exact hdl) (by omega))
 rw [hbn] at HAB
 have HF : Hid ([id] ++ lenB data = frameO id data) := Hj rfl
 rw [HF.out] at HAB
 have HCR : Hid (∀ (wq : World) (vq : Value), Keeps (fun k => w.heap.size + 1 ≤ k) W1 wq → wq.ownsRow (w.heap.size + 1) 5 1 vq (frameO id data).length (u8s (frameO id data)) → Calls Tryz.prog 71 #[vq] wq fun e w' => ∃ v', e = .returned v' ∧ w'.ownsRow wq.heap.size 5 1 v' (secO id data).length (u8s (secO id data)) ∧ Keeps (fun _ => False) wq w') := Hj (fun wq vq hk hr =>
  crca_any vq (frameO id data) wq (qaq (show wq.ownsRow (w.heap.size + 1) 5 1 vq (u8s (frameO id data)).length (u8s (frameO id data)) by rw [qaa]; exact hr)) hlt (by unfold frameO; rw [List.length_cons]; omega) ((hT.keeps hk1 (fun e => e)).keeps hk (fun e => by omega)))
 have HH := Hj h; have HK1 := Hj hk1; have HS1 := Hj hs1; have HB0 := Hj hb0; have HW1 := Hj hW1
 have HSL := Hj (qbt id data)
 have HSP : Hid (0 < (secO id data).length) := Hj (by unfold secO; rw [qau]; omega)
 rw [hW1] at hconv
 clear h hd hT hk1 hc1 hrow1 hlt hbn hss hs1 hb0 hln hv1 hW1
 go_enter Tryz.func69, Tryz.ntmps69
 go_wp2_with (first
  | (go_at_call 126; rw [← HW1.out]; refine HAB.out.mono ?_; rintro e w2 ⟨v2, rfl, h2, hk2⟩; have H2 := Hj h2; have HK2 := Hj hk2; clear h2 hk2)
  | (go_at_call 71; refine (HCR.out _ _ HK2.out H2.out).mono ?_; rintro e w3 ⟨v3, rfl, h3, hk3⟩; have HH3 := Hj (qaq (show w3.ownsRow w2.heap.size 5 1 v3 (u8s (secO id data)).length (u8s (secO id data)) by rw [qaa]; exact h3))
     have hkk : Keeps (fun k => w.heap.size + 1 ≤ k) W1 w3 := HK2.out.trans hk3 (fun _ _ e => e.elim)
     have hkw : Keeps (fun _ => False) w w3 := HK1.out.trans hkk (fun k hk e => by omega)
     have HKW := Hj hkw
     have HHW := Hj (HH.out.keeps hkw (fun _ _ e => e))
     clear h3 hk3 hkk hkw)
  | (at_builtin; refine qgo _ rfl _ _ 29 rfl base 5 i0 (.int .u8 0) 1 Tryz.underlying29 hi hz0 hz1 hz2 rfl g l.length (u8s l) rfl HHW.out (qaa l) v3 (u8s (secO id data)) rfl HH3.out (by rw [qaa]; exact HSP.out) (by rw [qaa]; have := HSL.out; unfold maxLen; omega) (by rw [qaa]; have := HSL.out; omega) (Nat.le_trans HB0.out HKW.out.size) ?_; intro v4 w4 hr4 hg4 hn4))
 go_ret
 refine ⟨v4, rfl, by simpa [u8s] using hr4, HKW.out.grown hg4 (fun k _ e => by cases e), fun g hg => Nat.le_trans HKW.out.size (hn4 g hg)⟩
end
section
set_option maxHeartbeats 1000000
set_option maxRecDepth 100000
open Go.RowKit
theorem wreadu_any (fn : FuncId) (hE : ∀ (args : Array Value) (w : World), (callFunc fn args).run Tryz.prog w = .ok (.enter fn args) w) (cs : Array Value) (Φ : Value → Nat → Nat → World → Prop) {p : Nat} {v : Value} {l : List Nat} {i x : Nat} {w : World} (h : IsRd w p v l i x)
 (hf : x = 0 → Calls Tryz.prog fn (#[.int .i64 (i : Int)] ++ cs) w fun e w' => ∃ u ut er, e = .returned (.tuple #[u, .int .i64 (ut : Nat), .int .i64 (er : Nat)]) ∧ (er = 0 → ut ≤ l.length) ∧ Φ u ut er w' ∧ Keeps (fun _ => False) w w') :
 Calls Tryz.prog 215 #[.pointer (some ⟨p, 0, none⟩), .func (.func fn) #[] cs] w fun e w' =>
  (x ≠ 0 ∧ e = .returned (.int .u64 0) ∧ w' = w) ∨
  (x = 0 ∧ ∃ u ut er w2, Φ u ut er w2 ∧ Keeps (fun _ => False) w w2 ∧ Keeps (fun k => k = p) w2 w' ∧ (if er = 0 then e = .returned u ∧ IsRd w' p v l ut 0 else e = .returned (.int .u64 0) ∧ IsRd w' p v l i er)) := by
 have c1 := h.c1
 have HE := Hj (qcb h)
 have HH := Hj h
 clear h
 by_cases hx : x = 0
 · subst hx
   have HF := Hj (hf rfl)
   clear hf
   go_enter Tryz.func215, Tryz.ntmps215
   go_wp2_with (first
    | (go_at_call 134; refine HE.out.mono ?_; rintro e w1 ⟨rfl, rfl⟩)
    | (refine HF.out.mono ?_
       rintro e w2 ⟨u, ut, er, rfl, hto, hu, hk⟩
       have hH2 := HH.out.keep hk
       have f1 := hH2.free 1
       have f2 := hH2.free 2
       have cc1 := hH2.c1
       have cc2 := hH2.c2
       have HH2 := Hj hH2; have HU := Hj hu; have HK := Hj hk; have HT := Hj hto
       clear hH2 hu hk hto c1
       by_cases her : er = 0
       all_goals (first | subst her | have hne : (((er : Nat) : Int) == 0) = false := by simp; omega)))
   · go_ret
     exact .inr ⟨by simp, u, ut, 0, w2, HU.out, HK.out, (Keeps.refl (fun k => k = p) w2).setCell (p := ⟨p, 1, none⟩) (fun _ => rfl) _, by rw [if_pos rfl]; exact ⟨rfl, HH2.out.setAt ut (HT.out (by simp))⟩⟩
   · go_ret
     exact .inr ⟨by simp, u, ut, er, w2, HU.out, HK.out, (Keeps.refl (fun k => k = p) w2).setCell (p := ⟨p, 2, none⟩) (fun _ => rfl) _, by rw [if_neg her]; exact ⟨rfl, HH2.out.setErr er⟩⟩
 · have hx' : (((x : Nat) : Int) == 0) = false := by simp; omega
   clear hf
   go_enter Tryz.func215, Tryz.ntmps215
   go_wp2_with (first | (go_at_call 134; refine HE.out.mono ?_; rintro e w1 ⟨rfl, rfl⟩))
   go_ret
   exact .inl ⟨hx, rfl, rfl⟩
theorem wreads_any (fn : FuncId) (hE : ∀ (args : Array Value) (w : World), (callFunc fn args).run Tryz.prog w = .ok (.enter fn args) w) (cs : Array Value) (Φ : Value → Nat → Nat → World → Prop) {p : Nat} {v : Value} {l : List Nat} {i x : Nat} {w : World} (h : IsRd w p v l i x)
 (hf : x = 0 → Calls Tryz.prog fn (#[.int .i64 (i : Int)] ++ cs) w fun e w' => ∃ u ut er, e = .returned (.tuple #[u, .int .i64 (ut : Nat), .int .i64 (er : Nat)]) ∧ (er = 0 → ut ≤ l.length) ∧ Φ u ut er w' ∧ Keeps (fun _ => False) w w') :
 Calls Tryz.prog 180 #[.pointer (some ⟨p, 0, none⟩), .func (.func fn) #[] cs] w fun e w' =>
  (x ≠ 0 ∧ e = .returned (.string ⟨#[]⟩) ∧ w' = w) ∨
  (x = 0 ∧ ∃ u ut er w2, Φ u ut er w2 ∧ Keeps (fun _ => False) w w2 ∧ Keeps (fun k => k = p) w2 w' ∧ (if er = 0 then e = .returned u ∧ IsRd w' p v l ut 0 else e = .returned (.string ⟨#[]⟩) ∧ IsRd w' p v l i er)) := by
 have c1 := h.c1
 have HE := Hj (qcb h)
 have HH := Hj h
 clear h
 by_cases hx : x = 0
 · subst hx
   have HF := Hj (hf rfl)
   clear hf
   go_enter Tryz.func180, Tryz.ntmps180
   go_wp2_with (first
    | (go_at_call 134; refine HE.out.mono ?_; rintro e w1 ⟨rfl, rfl⟩)
    | (refine HF.out.mono ?_
       rintro e w2 ⟨u, ut, er, rfl, hto, hu, hk⟩
       have hH2 := HH.out.keep hk
       have f1 := hH2.free 1
       have f2 := hH2.free 2
       have cc1 := hH2.c1
       have cc2 := hH2.c2
       have HH2 := Hj hH2; have HU := Hj hu; have HK := Hj hk; have HT := Hj hto
       clear hH2 hu hk hto c1
       by_cases her : er = 0
       all_goals (first | subst her | have hne : (((er : Nat) : Int) == 0) = false := by simp; omega)))
   · go_ret
     exact .inr ⟨by simp, u, ut, 0, w2, HU.out, HK.out, (Keeps.refl (fun k => k = p) w2).setCell (p := ⟨p, 1, none⟩) (fun _ => rfl) _, by rw [if_pos rfl]; exact ⟨rfl, HH2.out.setAt ut (HT.out (by simp))⟩⟩
   · go_ret
     exact .inr ⟨by simp, u, ut, er, w2, HU.out, HK.out, (Keeps.refl (fun k => k = p) w2).setCell (p := ⟨p, 2, none⟩) (fun _ => rfl) _, by rw [if_neg her]; exact ⟨rfl, HH2.out.setErr er⟩⟩
 · have hx' : (((x : Nat) : Int) == 0) = false := by simp; omega
   clear hf
   go_enter Tryz.func180, Tryz.ntmps180
   go_wp2_with (first | (go_at_call 134; refine HE.out.mono ?_; rintro e w1 ⟨rfl, rfl⟩))
   go_ret
   exact .inl ⟨hx, rfl, rfl⟩
theorem vgo_lenG (l : List Nat) : ∀ i acc, (vgo i acc l).2.1 ≤ i + l.length := by
 induction l with
 | nil => intro i acc; simp [vgo]
 | cons c r ih =>
   intro i acc
   rw [vgo]
   rw [List.length_cons]
   split
   · exact Nat.zero_le _
   · split
     · exact Nat.zero_le _
     · split
       · show i + 1 ≤ _; omega
       · have := ih (i + 1) (acc + c % 128 * 2 ^ (7 * i)); omega
theorem vgo_len (l : List Nat) : (vgo 0 0 l).2.1 ≤ l.length := by have := vgo_lenG l 0 0; omega
def rdUint (l : List Nat) (i x most : Nat) : Nat × Nat × Nat :=
 if x ≠ 0 then (0, i, x) else
 if (vgo 0 0 (l.drop i)).2.2 ≠ 0 then (0, i, (vgo 0 0 (l.drop i)).2.2) else
 if most < (vgo 0 0 (l.drop i)).1 then (0, i, 7) else ((vgo 0 0 (l.drop i)).1, i + (vgo 0 0 (l.drop i)).2.1, 0)
theorem uint1_any {p bm br : Nat} {v : Value} {l : List Nat} {i x : Nat} {w : World} (h : IsRd w p v l i x) (most : Nat)
 (hcm : w.cell? ⟨bm, 0, none⟩ = some (.int .u64 (most : Int))) (hcr : w.cell? ⟨br, 0, none⟩ = some (.pointer (some ⟨p, 0, none⟩))) :
 Calls Tryz.prog 216 #[.int .i64 (i : Int), .pointer (some ⟨br, 0, none⟩), .pointer (some ⟨bm, 0, none⟩)] w fun e w' => ∃ u ut er, e = .returned (.tuple #[u, .int .i64 (ut : Nat), .int .i64 (er : Nat)]) ∧ (er = 0 → ut ≤ l.length) ∧
  (er = (rdUint l i 0 most).2.2 ∧ (er = 0 → u = .int .u64 ((rdUint l i 0 most).1 : Nat) ∧ ut = (rdUint l i 0 most).2.1)) ∧ Keeps (fun _ => False) w w' := by
 have HG := Hj (qgp v l i w (by have := qaq (show w.ownsRow 0 5 1 v (u8s l).length (u8s l) by rw [qaa]; exact h.row); exact this) h.bytes h.le (by have := h.len; omega))
 have c0 := h.c0
 have hto := vgo_len (l.drop i)
 have hle := h.le
 unfold rdUint
 rw [if_neg (by simp)]
 unfold vres at HG
 obtain ⟨X, d, er, hv⟩ : ∃ X d er, vgo 0 0 (l.drop i) = (X, d, er) := ⟨_, _, _, rfl⟩
 rw [hv] at HG hto ⊢
 rw [List.length_drop] at hto
 simp only [] at HG hto ⊢
 clear h hv
 by_cases her : er = 0
 · subst her
   rw [if_pos rfl] at HG
   rw [if_neg (by simp)]
   by_cases hm : most < X
   · rw [if_pos hm]
     have hm' : (most : Int) < X := by omega
     go_enter Tryz.func216, Tryz.ntmps216
     go_wp2_with (go_at_call 132; refine HG.out.mono ?_; rintro e w1 ⟨rfl, rfl⟩)
     go_ret3
     exact ⟨_, i + d, 7, rfl, by omega, ⟨rfl, by omega⟩, Keeps.refl _ _⟩
   · rw [if_neg hm]
     have hm' : ¬ (most : Int) < X := by omega
     go_enter Tryz.func216, Tryz.ntmps216
     go_wp2_with (go_at_call 132; refine HG.out.mono ?_; rintro e w1 ⟨rfl, rfl⟩)
     go_ret3
     exact ⟨_, i + d, 0, rfl, by omega, ⟨rfl, fun _ => ⟨rfl, rfl⟩⟩, Keeps.refl _ _⟩
 · rw [if_neg her] at HG
   rw [if_pos her]
   have hne : (((er : Nat) : Int) == 0) = false := by simp; omega
   go_enter Tryz.func216, Tryz.ntmps216
   go_wp2_with (go_at_call 132; refine HG.out.mono ?_; rintro e w1 ⟨rfl, rfl⟩)
   go_ret3
   exact ⟨_, 0, er, rfl, by omega, ⟨rfl, by omega⟩, Keeps.refl _ _⟩
theorem rd_cells {w W1 : World} {p : Nat} {u : Value} {t : TypeId} (hW1 : W1 = (w.alloc (.cells #[.pointer (some ⟨p, 0, none⟩)] 173)).alloc (.cells #[u] t)) :
 Keeps (fun _ => False) w W1 ∧ W1.cell? ⟨w.heap.size, 0, none⟩ = some (.pointer (some ⟨p, 0, none⟩)) ∧ W1.cell? ⟨w.heap.size + 1, 0, none⟩ = some u := by
 have hb0 : W1.heap[w.heap.size]? = some (.cells #[.pointer (some ⟨p, 0, none⟩)] 173 (0, 0)) := by
  rw [hW1]; exact (Below.heap_alloc _ _ _ (by simp)).trans (heap_alloc_new w _)
 have hb1 : W1.heap[w.heap.size + 1]? = some (.cells #[u] t (0, 0)) := by
  rw [hW1]
  have := heap_alloc_new (w.alloc (.cells #[.pointer (some ⟨p, 0, none⟩)] 173)) (.cells #[u] t)
  rwa [show (w.alloc (.cells #[.pointer (some ⟨p, 0, none⟩)] 173)).heap.size = w.heap.size + 1 by simp] at this
 exact ⟨by rw [hW1]; exact ((Keeps.refl _ w).alloc _).alloc _, by rw [cell_of_row _ _ _ _ _ _ hb0]; rfl, by rw [cell_of_row _ _ _ _ _ _ hb1]; rfl⟩
theorem qdt {p : Nat} {v : Value} {l : List Nat} {i x : Nat} {w : World} (h : IsRd w p v l i x) (most : Nat) :
 Calls Tryz.prog 188 #[.pointer (some ⟨p, 0, none⟩), .int .u64 (most : Int)] w fun e w' => e = .returned (.int .u64 ((rdUint l i x most).1 : Nat)) ∧ IsRd w' p v l (rdUint l i x most).2.1 (rdUint l i x most).2.2 ∧ Keeps (fun k => k = p) w w' := by
 obtain ⟨W1, hW1⟩ : ∃ W1, W1 = (w.alloc (.cells #[.pointer (some ⟨p, 0, none⟩)] 173)).alloc (.cells #[.int .u64 (most : Int)] 23) := ⟨_, rfl⟩
 obtain ⟨hk1, cr, cn⟩ := rd_cells hW1
 have h1 := h.keep hk1
 have hr := (wreadu_any 216 Tryz.call216 #[.pointer (some ⟨w.heap.size, 0, none⟩), .pointer (some ⟨w.heap.size + 1, 0, none⟩)] _ h1 (fun _ => uint1_any h1 most cn cr)).mono (R' := fun e w' => e = .returned (.int .u64 ((rdUint l i x most).1 : Nat)) ∧ IsRd w' p v l (rdUint l i x most).2.1 (rdUint l i x most).2.2 ∧ Keeps (fun k => k = p) w w') (by
  rintro e w' (⟨hx, rfl, rfl⟩ | ⟨rfl, u, ut, er, w2, ⟨he, hu⟩, hk2, hk3, hres⟩)
  · have e1 : rdUint l i x most = (0, i, x) := by unfold rdUint; rw [if_pos hx]
    rw [e1]
    exact ⟨rfl, h1, hk1.mono (fun _ _ e => e.elim)⟩
  · have hkk : Keeps (fun k => k = p) w w' := (hk1.trans hk2 (fun _ _ e => e)).mono (S' := fun k => k = p) (fun _ _ e => e.elim) |>.trans hk3 (fun _ _ e => e)
    by_cases her : er = 0
    · rw [if_pos her] at hres
      obtain ⟨rfl, hrd⟩ := hres
      obtain ⟨rfl, rfl⟩ := hu her
      rw [← he, her]
      exact ⟨rfl, hrd, hkk⟩
    · rw [if_neg her] at hres
      obtain ⟨rfl, hrd⟩ := hres
      have e1 : rdUint l i 0 most = (0, i, er) := by
       rw [he] at her ⊢
       unfold rdUint at *
       rw [if_neg (by simp)] at *
       by_cases h1 : (vgo 0 0 (l.drop i)).2.2 ≠ 0
       · rw [if_pos h1] at *
       · rw [if_neg h1] at *
         by_cases h2 : most < (vgo 0 0 (l.drop i)).1
         · rw [if_pos h2] at *
         · rw [if_neg h2] at her; exact absurd rfl her
      rw [e1]
      exact ⟨rfl, hrd, hkk⟩)
 have HR := Hj hr; have HW1 := Hj hW1
 clear h hk1 h1 hW1 hr cr cn
 go_enter Tryz.func188, Tryz.ntmps188
 go_wp2_with (go_at_call 215; rw [← HW1.out]; refine HR.out.mono ?_; rintro e w2 ⟨rfl, hres⟩; have HRES := Hj hres; clear hres)
 go_ret
 exact ⟨rfl, HRES.out⟩
end
section
open Go.RowKit
section
variable {P : Program} {ops : Array Oper} {Q : Exit → Act → World → Prop}
theorem qky {S : World → Prop} {o : Oper} {a : Act} (hgd : o.guard = none) (ty : TypeId) (x : Operand) (ho : o.op = .load ty x) (g : Nat) (hx : a.eval x = .pointer (some ⟨g, 0, none⟩)) (t : TypeId) (cs : Array Value) (fr : Nat × Nat) (d : TypeDesc)
 (hg : ∀ w, S w → w.heap[g]? = some (.cells cs t fr)) (hu : P.underlying ty = some d) (hd : (match d with | .struct _ | .array _ _ => true | _ => false) = true) (hi : (P.info? ty).map (·.size) = some cs.size) : YieldsIf P ops S o (.agg cs) a := by
 refine .inl ⟨by simp [Region.wanted, hgd], fun w hS => ?_⟩
 unfold execOp
 simp only [ho, hx, Instr.loadAt, Instr.sureAddr, Sem.run_bind, Sem.run_pure, Result.andThen_ok, run_loadVar_row w g t ty cs fr d (hg w hS) hu hd hi]
theorem yields_assign {S : World → Prop} {o : Oper} {a : Act} (hgd : o.guard = none) (x : Operand) (ho : o.op = .assign x) : YieldsIf P ops S o (a.eval x) a := by
 refine .inl ⟨by simp [Region.wanted, hgd], fun w hS => ?_⟩
 unfold execOp
 simp only [ho, Sem.run_pure]
theorem qkz {o : Oper} {a : Act} {w : World} {K : Act → World → Prop} (hgd : o.guard = none) (ty : TypeId) (x y : Operand) (ho : o.op = .store ty x y) (hd : o.dst = none)
 (g : Nat) (cells : Array Value) (hx : a.eval x = .pointer (some ⟨g, 0, none⟩)) (hy : a.eval y = .agg cells)
 (t : TypeId) (old : Array Value) (hg : w.heap[g]? = some (.cells old t (0, 0))) (hi : (P.info? ty).map (·.size) = some cells.size)
 (hold : old.size = cells.size) (h1 : cells.all (·.oneCell') = true)
 (h : K a (w.setRow g cells)) : if Region.wanted o (yielded ops a.tmps) = true then Oper.wp P o a w K Q else K (a.put o.dst undef) w := by
 rw [if_pos (by simp [Region.wanted, hgd])]
 exact wp_store_row ty x y ho g cells hx hy t old hg hi hold h1 (by rw [hd]; exact h)
theorem wp_two_rows {id : Nat} {a : Act} {w : World} (hm : P.follows .mixedOrders = true) (hQ : ∀ d v c a w, Q (.panic c) (Act.put a d v) w → Q (.panic c) a w)
 (o0 o1 o2 o3 o4 : Oper) (h0 : ops[0]? = some o0) (h1 : ops[1]? = some o1) (h2 : ops[2]? = some o2) (h3 : ops[3]? = some o3) (h4 : ops[4]? = some o4) (hz : ops.size = 5) (hs : Region.noSelect ops = true)
 (f0 : Region.free .any ops #[false, false, false, false, false] 0 = true) (r0 : (Region.ready .any ops #[false, false, false, false, false]).contains 0 = true)
 (f1 : Region.free .any ops #[true, false, false, false, false] 1 = true) (r1 : (Region.ready .any ops #[true, false, false, false, false]).contains 1 = true)
 (r2 : Region.ready .any ops #[true, true, false, false, false] = [2]) (r3 : Region.ready .any ops #[true, true, true, false, false] = [3])
 (f4 : Region.free .any ops #[true, true, true, true, false] 4 = true) (r4 : (Region.ready .any ops #[true, true, true, true, false]).contains 4 = true) (rn : Region.ready .any ops #[true, true, true, true, true] = [])
 (g0 : o0.guard = none) (g1 : o1.guard = none) (g2 : o2.guard = none) (g3 : o3.guard = none) (g4 : o4.guard = none)
 (ty ty' : TypeId) (x0 x1 x2 y2 x3 y3 x4 : Operand) (p0 : o0.op = .load ty x0) (p1 : o1.op = .load ty' x1) (p2 : o2.op = .store ty x2 y2) (p3 : o3.op = .store ty' x3 y3) (p4 : o4.op = .assign x4) (d2 : o2.dst = none) (d3 : o3.dst = none)
 (b0 b1 b2 b3 : Nat) (cs cs' old old' : Array Value) (t t' t2 t3 : TypeId) (fr fr' : Nat × Nat) (d d' : TypeDesc)
 (e0 : a.eval x0 = .pointer (some ⟨b0, 0, none⟩)) (e1 : (a.put o0.dst (.agg cs)).eval x1 = .pointer (some ⟨b1, 0, none⟩))
 (hb0 : w.heap[b0]? = some (.cells cs t fr)) (hb1 : w.heap[b1]? = some (.cells cs' t' fr')) (hb2 : w.heap[b2]? = some (.cells old t2 (0, 0))) (hb3 : w.heap[b3]? = some (.cells old' t3 (0, 0)))
 (hu : P.underlying ty = some d) (hd : (match d with | .struct _ | .array _ _ => true | _ => false) = true) (hi : (P.info? ty).map (·.size) = some cs.size)
 (hu' : P.underlying ty' = some d') (hd' : (match d' with | .struct _ | .array _ _ => true | _ => false) = true) (hi' : (P.info? ty').map (·.size) = some cs'.size)
 (A : Act) (hA : A = (a.put o0.dst (.agg cs)).put o1.dst (.agg cs'))
 (e2 : A.eval x2 = .pointer (some ⟨b2, 0, none⟩)) (v2 : A.eval y2 = .agg cs) (e3 : A.eval x3 = .pointer (some ⟨b3, 0, none⟩)) (v3 : A.eval y3 = .agg cs')
 (B : Act) (hB : B = A.put o4.dst (A.eval x4)) (e2' : B.eval x2 = .pointer (some ⟨b2, 0, none⟩)) (e3' : B.eval x3 = .pointer (some ⟨b3, 0, none⟩)) (u : Nat) (vu : Value) (hu4 : B.eval (.tmp u) = vu) (hde : B.defers = [])
 (ho : old.size = cs.size) (ho' : old'.size = cs'.size) (hc : cs.all (·.oneCell') = true) (hc' : cs'.all (·.oneCell') = true)
 (n20 : b2 ≠ b0) (n21 : b2 ≠ b1) (n30 : b3 ≠ b0) (n31 : b3 ≠ b1) (n23 : b2 ≠ b3)
 (h : ∀ B W, B.eval x2 = .pointer (some ⟨b2, 0, none⟩) → B.eval x3 = .pointer (some ⟨b3, 0, none⟩) → B.eval (.tmp u) = vu → B.defers = [] → W.heap[b2]? = some (.cells cs t2 (0, 0)) → W.heap[b3]? = some (.cells cs' t3 (0, 0)) → Keeps (fun k => k = b2 ∨ k = b3) w W → Q .normal B W) : (Code.region id ops true).wp P Q a w := by
 have hk0 : Keeps (fun k => k = b2 ∨ k = b3) w w.drew := (Keeps.refl _ w).drew
 have n32 : b3 ≠ b2 := fun e => n23 e.symm
 refine wp_region_held_drew (S := fun q => q.heap[b0]? = some (.cells cs t fr) ∧ q.heap[b1]? = some (.cells cs' t' fr')) hm ⟨hb0, hb1⟩ (fun hS => ?_)
 rw [hz, show Array.replicate 5 false = #[false, false, false, false, false] from rfl]
 refine wpAnyH_take (v := .agg cs) h0 hs f0 r0 (hQ _ _) (qky g0 ty x0 p0 b0 e0 t cs fr d (fun _ h => h.1) hu hd hi) hS ?_
 refine wpAnyH_take (v := .agg cs') h1 hs f1 r1 (hQ _ _) (qky g1 ty' x1 p1 b1 e1 t' cs' fr' d' (fun _ h => h.2) hu' hd' hi') hS ?_
 rw [← hA]
 refine wpAnyH_ready r2 (by simp) (AllReadyH.cons h2 (fun K hK => ?_) AllReadyH.nil)
 refine qkz g2 ty x2 y2 p2 d2 b2 cs e2 v2 t2 old hb2 hi ho hc ?_
 have kS : (w.drew.setRow b2 cs).heap[b0]? = some (.cells cs t fr) ∧ (w.drew.setRow b2 cs).heap[b1]? = some (.cells cs' t' fr') := ⟨(setRow_other _ _ _ _ (Ne.symm n20)).trans hb0, (setRow_other _ _ _ _ (Ne.symm n21)).trans hb1⟩
 refine hK.out _ _ kS (fun _ => ?_)
 refine wpAnyH_ready r3 (by simp) (AllReadyH.cons h3 (fun K hK => ?_) AllReadyH.nil)
 refine qkz g3 ty' x3 y3 p3 d3 b3 cs' e3 v3 t3 old' ((setRow_other _ _ _ _ n32).trans hb3) hi' ho' hc' ?_
 have kS2 : ((w.drew.setRow b2 cs).setRow b3 cs').heap[b0]? = some (.cells cs t fr) ∧ ((w.drew.setRow b2 cs).setRow b3 cs').heap[b1]? = some (.cells cs' t' fr') := ⟨(setRow_other _ _ _ _ (Ne.symm n30)).trans kS.1, (setRow_other _ _ _ _ (Ne.symm n31)).trans kS.2⟩
 refine hK.out _ _ kS2 (fun _ => ?_)
 refine wpAnyH_take h4 hs f4 r4 (hQ _ _) (yields_assign g4 x4 p4) kS2 ?_
 rw [← hB]
 refine wpAnyH_done rn (h B _ e2' e3' hu4 hde ?_ ?_ ?_) _
 · exact (setRow_other _ _ _ _ n23).trans (setRow_heap _ _ _ _ _ _ hb2)
 · exact setRow_heap _ _ _ _ _ _ ((setRow_other _ _ _ _ n32).trans hb3)
 · exact qax (qax hk0 _ _ (fun _ => .inl rfl)) _ _ (fun _ => .inr rfl)
end
end
end Go.Proofs.YtfpcgcbehdogjaaGreatDoor
