/-
  Lemmas on which LTopTruncates rests, packed out of the texts WLayB WLayC; each for all arguments under the hypotheses it names.
-/
import Derived.Test.YtfpcgcbehdogjaaGreatDoorT14
import Derived.Test.YtfpcgcbehdogjaaGreatDoorT17
namespace Go.Proofs.YtfpcgcbehdogjaaGreatDoor
section
set_option maxHeartbeats 2000000
set_option maxRecDepth 100000
open Go.RowKit
def litErr (x : Nat) (r s : List Nat) : Nat := if r.take (min r.length s.length) ≠ s.take (min r.length s.length) then (if x = 0 then 10 else x) else if min r.length s.length < s.length then (if x = 0 then 3 else x) else x
def rdLit (l : List Nat) (i x : Nat) (r s : List Nat) : Nat × Nat := (rdTake l i (litErr x r s) (min r.length s.length)).2
theorem strN_inj {a b : List Nat} (ha : ∀ c ∈ a, c < 256) (hb : ∀ c ∈ b, c < 256) (h : strN a = strN b) : a = b := by rw [← qeh a ha, ← qeh b hb, h]
theorem toList_inj {a b : ByteArray} (h : a.toList = b.toList) : a = b := by
 rw [Lib.toList_data, Lib.toList_data] at h
 exact ByteArray.ext (Array.toList_inj.1 h)
theorem strN_take (s : List Nat) (n : Nat) : (strN s).extract 0 n = strN (s.take n) := by
 apply ByteArray.ext
 simp [strN, ByteArray.data_extract, List.map_take]
theorem lit_any {p : Nat} {v vr : Value} {l r s : List Nat} {i x : Nat} {w : World} (h : IsRd w p v l i x) (hr : Holds w vr (u8s r)) (hrl : r.length ≤ 1000000000000) (hrb : ∀ c ∈ r, c < 256) (hsb : ∀ c ∈ s, c < 256) :
 Calls Tryz.prog 86 #[.pointer (some ⟨p, 0, none⟩), vr, .string (strN s)] w fun e w' => e = .returned (.tuple #[]) ∧ IsRd w' p v l (rdLit l i x r s).1 (rdLit l i x r s).2 ∧ Keeps (fun k => k = p) w w' := by
 obtain ⟨ad, cp, hvr, hcap, _⟩ := id hr
 rw [qaa] at hvr hcap
 subst hvr
 unfold rdLit litErr
 generalize hn : min r.length s.length = n at *
 have hnr : n ≤ r.length := by omega
 have hns : n ≤ s.length := by omega
 have hsz : (strN s).size = s.length := qjb s
 have hmin : min (r.length : Int) s.length = n := by omega
 have hcv := fun q => qdr (Holds.keeps (b := w.drewN q) (S := fun _ => False) (show Holds w (.slice ad n cp) (u8s (r.take n)) by
  obtain ⟨ad', cp', hv, hc, hcells⟩ := hr
  simp only [Value.slice.injEq] at hv
  obtain ⟨rfl, _, rfl⟩ := hv
  refine ⟨_, cp, by rw [qaa, List.length_take]; congr 1; omega, by rw [qaa, List.length_take]; omega, ?_⟩
  rcases hcells with h | ⟨b, off, hb, h⟩
  · left
    have hl0 : r.length = 0 := by have := congrArg List.length h; rw [qaa] at this; simpa using this
    have : r = [] := List.eq_nil_of_length_eq_zero hl0
    subst this; simp [u8s]
  · refine .inr ⟨b, off, hb, fun j u hj => h j u ?_⟩
    unfold u8s at hj ⊢
    rw [List.map_take, List.getElem?_take] at hj
    split at hj
    · exact hj
    · cases hj) ((Keeps.refl (fun _ => False) w).drewN q) (fun _ _ e => e))
 have hst := strN_take s n
 have b1 : (0 : Int) ≤ n := by omega
 have b2 : (n : Int) ≤ cp := by omega
 have b3 : (n : Int) ≤ (s.length : Int) := by omega
 clear hn
 have hTK := fun (q : Nat) (y : Nat) (w2 : World) (h2 : IsRd w2 p v l i y) => wtake_any h2 n (by omega)
 have HTK := Hj hTK
 have hk0 := fun q => (Keeps.refl (fun k => k = p) w).drewN q
 have HK0 := Hj hk0
 by_cases heq : r.take n ≠ s.take n
 · rw [if_pos heq]
   have hne : ((strN (r.take n)).toList == (strN (s.take n)).toList) = false := by
    rw [beq_eq_false_iff_ne]
    exact fun e => heq (strN_inj (fun c hc => hrb c (List.mem_of_mem_take hc)) (fun c hc => hsb c (List.mem_of_mem_take hc)) (toList_inj e))
   have HF := Hj (fun q => qgq (h.keep ((Keeps.refl (fun _ => False) w).drewN q)) 10)
   generalize (if x = 0 then 10 else x) = y at HF ⊢
   clear h hr heq hTK hk0
   go_enter Tryz.func86, Tryz.ntmps86
   go_wp2
   go_quiet (fail)
   go_wp2_with (first | (go_at_call 90; refine (HF.out _).mono ?_; rintro e w2 ⟨rfl, hrd, hk⟩; have HRD := Hj hrd; have HK := Hj hk; clear hrd hk) | (go_at_call 91; refine (HTK.out 0 _ _ HRD.out).mono ?_; rintro e w3 ⟨u, rfl, _, hrd, hk⟩; have HRD3 := Hj hrd; have HK3 := Hj hk; clear hrd hk))
   go_end0
   exact ⟨rfl, HRD3.out, ((HK0.out _).trans HK.out (fun _ _ e => e)).trans HK3.out (fun _ _ e => e)⟩
 · rw [if_neg heq]
   simp only [ne_eq, Decidable.not_not] at heq
   have hne : ((strN (r.take n)).toList == (strN (s.take n)).toList) = true := by rw [heq]; exact beq_self_eq_true _
   by_cases hns' : n < s.length
   · rw [if_pos hns']
     have hi : (n : Int) < s.length := by omega
     have HF := Hj (fun q => qgq (h.keep ((Keeps.refl (fun _ => False) w).drewN q)) 3)
     generalize (if x = 0 then 3 else x) = y at HF ⊢
     clear h hr heq hTK hk0
     go_enter Tryz.func86, Tryz.ntmps86
     go_wp2
     go_quiet (fail)
     go_wp2_with (first | (go_at_call 90; refine (HF.out _).mono ?_; rintro e w2 ⟨rfl, hrd, hk⟩; have HRD := Hj hrd; have HK := Hj hk; clear hrd hk) | (go_at_call 91; refine (HTK.out 0 _ _ HRD.out).mono ?_; rintro e w3 ⟨u, rfl, _, hrd, hk⟩; have HRD3 := Hj hrd; have HK3 := Hj hk; clear hrd hk))
     go_end0
     exact ⟨rfl, HRD3.out, ((HK0.out _).trans HK.out (fun _ _ e => e)).trans HK3.out (fun _ _ e => e)⟩
   · rw [if_neg hns']
     have hi : ¬ (n : Int) < s.length := by omega
     have HRD := Hj (fun q => h.keep ((Keeps.refl (fun _ => False) w).drewN q))
     clear h hr heq hTK hk0
     go_enter Tryz.func86, Tryz.ntmps86
     go_wp2
     go_quiet (fail)
     go_wp2_with (first | (go_at_call 91; refine (HTK.out 0 _ _ (HRD.out _)).mono ?_; rintro e w3 ⟨u, rfl, _, hrd, hk⟩; have HRD3 := Hj hrd; have HK3 := Hj hk; clear hrd hk))
     go_end0
     exact ⟨rfl, HRD3.out, (HK0.out _).trans HK3.out (fun _ _ e => e)⟩
end
section
set_option maxHeartbeats 16000000
set_option maxRecDepth 100000
open Go.RowKit
def pAt (l : List Nat) : Nat → Nat × Nat
 | 0 => rdLit l 0 0 l headO
 | k + 1 => (rdSec l (pAt l k).1 (pAt l k).2 (k + 1)).2
def pSec (l : List Nat) (k : Nat) : List Nat := (rdSec l (pAt l k).1 (pAt l k).2 (k + 1)).1
def qdg (l : List Nat) : Nat := if pSec l 4 ≠ contO [(pAt l 0).1, (pAt l 1).1, (pAt l 2).1, (pAt l 3).1] then (if (pAt l 5).2 = 0 then 13 else (pAt l 5).2) else (pAt l 5).2
def pSum (l : List Nat) : List Nat × Nat × Nat := rdTake l (pAt l 5).1 (qdg l) 4
def qdo (l : List Nat) : Nat := if (pSum l).1.length = 4 ∧ chkO (l.take (pSum l).2.1) = false then (if (pSum l).2.2 = 0 then 12 else (pSum l).2.2) else (pSum l).2.2
def pEnd (l : List Nat) : Nat × Nat := rdLit l (pSum l).2.1 (qdo l) (l.drop (pSum l).2.1) tailO
def pErr (l : List Nat) : Nat := if (pEnd l).2 = 0 then if (pEnd l).1 < l.length then 4 else 0 else (pEnd l).2
theorem qju (l : List Nat) (i x n : Nat) (hi : i ≤ l.length) : (rdTake l i x n).2.1 ≤ l.length := by
 unfold rdTake
 by_cases hx : x = 0
 · rw [if_pos hx]
   by_cases hn : n ≤ l.length - i
   · rw [if_pos hn]; show i + n ≤ _; omega
   · rw [if_neg hn]; exact hi
 · rw [if_neg hx]; exact hi
theorem rdSec_le (l : List Nat) (i x id : Nat) (hi : i ≤ l.length) : (rdSec l i x id).2.1 ≤ l.length := by
 unfold rdSec
 by_cases h0 : x ≠ 0
 · rw [if_pos h0]; exact hi
 rw [if_neg h0]
 by_cases h1 : l.length ≤ i
 · rw [if_pos h1]; exact hi
 rw [if_neg h1]
 by_cases h2 : l.getD i 0 ≠ id
 · rw [if_pos h2]; exact hi
 rw [if_neg h2]
 unfold rdSecB
 by_cases h3 : (vgo 0 0 (l.drop (i + 1))).2.2 ≠ 0
 · rw [if_pos h3]; exact hi
 rw [if_neg h3]
 by_cases h4 : l.length - (i + 1 + (vgo 0 0 (l.drop (i + 1))).2.1) < 4 + (vgo 0 0 (l.drop (i + 1))).1
 · rw [if_pos h4]; exact hi
 rw [if_neg h4]
 by_cases h5 : chkO ((l.drop i).take (1 + (vgo 0 0 (l.drop (i + 1))).2.1 + (vgo 0 0 (l.drop (i + 1))).1 + 4)) = false
 · rw [if_pos h5]; exact hi
 rw [if_neg h5]
 show i + 1 + (vgo 0 0 (l.drop (i + 1))).2.1 + (vgo 0 0 (l.drop (i + 1))).1 + 4 ≤ _
 omega
theorem pAt_le (l : List Nat) (k : Nat) : (pAt l k).1 ≤ l.length := by
 induction k with
 | zero => exact qju _ _ _ _ (Nat.zero_le _)
 | succ k ih => exact rdSec_le _ _ _ _ ih
theorem rdSec_lt (l : List Nat) (i x id : Nat) (hb : ∀ c ∈ l, c < 256) : ∀ c ∈ (rdSec l i x id).1, c < 256 := by
 have hn : ∀ c ∈ ([] : List Nat), c < 256 := by simp
 unfold rdSec
 by_cases h0 : x ≠ 0
 · rw [if_pos h0]; exact hn
 rw [if_neg h0]
 by_cases h1 : l.length ≤ i
 · rw [if_pos h1]; exact hn
 rw [if_neg h1]
 by_cases h2 : l.getD i 0 ≠ id
 · rw [if_pos h2]; exact hn
 rw [if_neg h2]
 unfold rdSecB
 by_cases h3 : (vgo 0 0 (l.drop (i + 1))).2.2 ≠ 0
 · rw [if_pos h3]; exact hn
 rw [if_neg h3]
 by_cases h4 : l.length - (i + 1 + (vgo 0 0 (l.drop (i + 1))).2.1) < 4 + (vgo 0 0 (l.drop (i + 1))).1
 · rw [if_pos h4]; exact hn
 rw [if_neg h4]
 by_cases h5 : chkO ((l.drop i).take (1 + (vgo 0 0 (l.drop (i + 1))).2.1 + (vgo 0 0 (l.drop (i + 1))).1 + 4)) = false
 · rw [if_pos h5]; exact hn
 rw [if_neg h5]
 exact fun c hc => hb c (List.mem_of_mem_drop (List.mem_of_mem_take hc))
theorem pSec_lt (l : List Nat) (k : Nat) (hb : ∀ c ∈ l, c < 256) : ∀ c ∈ pSec l k, c < 256 := rdSec_lt l _ _ _ hb
theorem lay_ne (n : Nat) : n ≠ n + 1 + 1 ∧ n ≠ n + 1 + 1 + 1 ∧ n + 1 ≠ n + 1 + 1 ∧ n + 1 ≠ n + 1 + 1 + 1 ∧ n ≠ n + 1 := ⟨by omega, by omega, by omega, by omega, by omega⟩
theorem lay_beq {E : Nat} (h : ¬ E = 0) : ((E : Int) == 0) = false := beq_eq_false_iff_ne.2 (by omega)
theorem lay_keep {w w8 W : World} (h : Keeps (fun k => w.heap.size ≤ k) w w8) (k : Keeps (fun k => k = w.heap.size ∨ k = w.heap.size + 1) w8 W) : Keeps (fun _ => False) w W := (h.trans k (fun k hk e => by omega)).toFresh (fun k hk e => by omega)
theorem lay_rows {w w8 W : World} {p : Nat} {l : List Nat} {vs : Nat → Value} (hp : w.heap.size + 4 ≤ p) (h : ∀ k, k < 4 → w8.ownsRow (p + 1) 5 1 (vs k) (pSec l k).length (u8s (pSec l k))) (hk : Keeps (fun k => k = w.heap.size ∨ k = w.heap.size + 1) w8 W) : ∀ k, k < 4 → Holds W (vs k) (u8s (pSec l k)) :=
 fun k hk4 => qaq (hk.row (h k hk4) (fun g hg e => by have := ((h k hk4).lt g hg).1; omega))
theorem lay_facts {w W0 wr wb w3 w4 w5 w6 wc w8 : World} {p : Nat} {l : List Nat} {vs : Nat → Value} {O2 O3 Z0 Z1 : Obj} (hp : w.heap.size + 4 ≤ p) (k0 : Keeps (fun _ => False) w W0) (kw : Keeps (fun k => w.heap.size + 2 ≤ k) W0 wr) (k1 : Keeps (fun k => k = w.heap.size + 3) wr wb) (k3 : Keeps (fun k => k = p) wb w3) (k4 : Keeps (fun _ => False) w3 w4) (k5 : Keeps (fun k => k = p) w4 w5) (k6 : Keeps (fun k => k = p) w5 w6) (k7 : Keeps (fun k => k = p) w6 wc) (k8 : Keeps (fun k => k = p) wc w8)
 (rows : ∀ k, k < 4 → wr.ownsRow (p + 1) 5 1 (vs k) (pSec l k).length (u8s (pSec l k))) (s2 : wb.heap[w.heap.size + 2]? = some O2) (a3 : w3.heap[w.heap.size + 3]? = some O3) (z0 : W0.heap[w.heap.size]? = some Z0) (z1 : W0.heap[w.heap.size + 1]? = some Z1) :
 w8.heap[w.heap.size + 1 + 1]? = some O2 ∧ w8.heap[w.heap.size + 1 + 1 + 1]? = some O3 ∧ w8.heap[w.heap.size]? = some Z0 ∧ w8.heap[w.heap.size + 1]? = some Z1 ∧ Keeps (fun k => w.heap.size ≤ k) w w8 ∧ ∀ k, k < 4 → w8.ownsRow (p + 1) 5 1 (vs k) (pSec l k).length (u8s (pSec l k)) := by
 have kk : Keeps (fun k => k = p) w3 w8 := (((((k4.mono (S' := fun k => k = p) (fun _ _ e => e.elim)).trans k5 (fun _ _ e => e)).trans k6 (fun _ _ e => e)).trans k7 (fun _ _ e => e)).trans k8 (fun _ _ e => e))
 have ka : Keeps (fun k => w.heap.size + 2 ≤ k) W0 w8 := ((kw.trans k1 (fun k hk e => by omega)).trans k3 (fun k hk e => by omega)).trans kk (fun k hk e => by omega)
 refine ⟨kk.heap (k3.heap s2 (by omega)) (by omega), kk.heap a3 (by omega), ka.heap z0 (by omega), ka.heap z1 (by omega), (k0.mono (S' := fun k => w.heap.size ≤ k) (fun _ _ e => e.elim)).trans ka (fun k hk e => by omega), fun k hk => ?_⟩
 have r := rows k hk
 have hg : ∀ g, (vs k).ownBlock = some g → p + 1 ≤ g := fun g hg => (r.lt g hg).1
 exact kk.row (k3.row (k1.row r (fun g h e => by have := hg g h; omega)) (fun g h e => by have := hg g h; omega)) (fun g h e => by have := hg g h; omega)
theorem qfc (v : Value) (l : List Nat) (w : World) (h : Holds w v (u8s l)) (hl : l.length ≤ 1000000000) (hb : ∀ c ∈ l, c < 256) (hT : TabC w) :
 Calls Tryz.prog 38 #[v] w fun e w' => ∃ v0 v1 v2 v3, Keeps (fun _ => False) w w' ∧
  (pErr l = 0 → e = .returned (.tuple #[.agg #[v0, v1, v2, v3], .agg #[.int .i64 ((pAt l 0).1 : Nat), .int .i64 ((pAt l 1).1 : Nat), .int .i64 ((pAt l 2).1 : Nat), .int .i64 ((pAt l 3).1 : Nat), .int .i64 ((pAt l 4).1 : Nat)], .int .i64 0]) ∧ Holds w' v0 (u8s (pSec l 0)) ∧ Holds w' v1 (u8s (pSec l 1)) ∧ Holds w' v2 (u8s (pSec l 2)) ∧ Holds w' v3 (u8s (pSec l 3))) ∧
  (pErr l ≠ 0 → e = .returned (.tuple #[.agg #[.slice none 0 0, .slice none 0 0, .slice none 0 0, .slice none 0 0], .agg #[.int .i64 0, .int .i64 0, .int .i64 0, .int .i64 0, .int .i64 0], .int .i64 ((pErr l : Nat) : Int)])) := by
 obtain ⟨ad, cp, hv, hcap, _⟩ := id h
 rw [qaa] at hv hcap
 subst hv
 have HH := Hj h; have HT := Hj hT; have HB := Hj hb
 have HN : Hid (∀ wq, Keeps (fun _ => False) w wq → Calls Tryz.prog 85 #[.slice ad l.length cp] wq fun e w' => ∃ p v', e = .returned (.pointer (some ⟨p, 0, none⟩)) ∧ wq.heap.size ≤ p ∧ IsRd w' p v' l 0 0 ∧ (∀ g, v'.ownBlock = some g → wq.heap.size ≤ g) ∧ Keeps (fun _ => False) wq w') := Hj (fun wq hk => qhz _ l wq (h.keeps hk (fun _ _ e => e)) (by omega) hb)
 have HLit : Hid (∀ wq p v', Keeps (fun _ => False) w wq → w.heap.size ≤ p → IsRd wq p v' l 0 0 → Calls Tryz.prog 86 #[.pointer (some ⟨p, 0, none⟩), .slice ad l.length cp, .string ⟨#[84, 83, 66, 75, 1]⟩] wq fun e w' => e = .returned (.tuple #[]) ∧ IsRd w' p v' l (pAt l 0).1 (pAt l 0).2 ∧ Keeps (fun k => k = p) wq w') := Hj (fun wq p v' hk hp hrd => lit_any (s := headO) hrd (h.keeps hk (fun _ _ e => e)) (by omega) hb (by decide))
 obtain ⟨W0, hW0⟩ : ∃ W0, W0 = (((w.alloc (.cells #[.slice none 0 0, .slice none 0 0, .slice none 0 0, .slice none 0 0] 75)).alloc (.cells #[.int .i64 0, .int .i64 0, .int .i64 0, .int .i64 0, .int .i64 0] 90)).alloc (.cells #[.slice none 0 0, .slice none 0 0, .slice none 0 0, .slice none 0 0] 75)).alloc (.cells #[.int .i64 0, .int .i64 0, .int .i64 0, .int .i64 0, .int .i64 0] 90) := ⟨_, rfl⟩
 have hk0 : Keeps (fun _ => False) w W0 := by rw [hW0]; exact ((((Keeps.refl _ w).alloc _).alloc _).alloc _).alloc _
 have HW0 := Hj hW0; have HK0 := Hj hk0
 clear h hT hb hk0 hW0
 go_enter Tryz.func38, Tryz.ntmps38
 go_wp2_with (first
  | (go_at_call 85; rw [← HW0.out]; refine (HN.out _ HK0.out).mono ?_; rintro e w1 ⟨p, v', rfl, hp, hrd, hown, hk⟩; have HP := Hj hp; have HRD := Hj hrd; have HOWN := Hj hown; have HK1 := Hj (HK0.out.trans hk (fun _ _ e => e)); have HK01 := Hj hk; clear hp hrd hown hk)
  | (go_at_call 86; refine (HLit.out _ _ _ HK1.out (Nat.le_trans HK0.out.size HP.out) HRD.out).mono ?_; rintro e w2 ⟨rfl, hrd, hk⟩; have HRD2 := Hj hrd; have HK2 := Hj hk; clear hrd hk))
 clear HN HLit
 have hcell : W0.heap[w.heap.size + 2]? = some (.cells #[.slice none 0 0, .slice none 0 0, .slice none 0 0, .slice none 0 0] 75 (0, 0)) ∧ W0.heap[w.heap.size + 3]? = some (.cells #[.int .i64 0, .int .i64 0, .int .i64 0, .int .i64 0, .int .i64 0] 90 (0, 0)) := by
  rw [HW0.out]
  refine ⟨?_, ?_⟩
  · rw [Below.heap_alloc _ _ _ (by simp)]
    have := heap_alloc_new ((w.alloc (.cells #[.slice none 0 0, .slice none 0 0, .slice none 0 0, .slice none 0 0] 75)).alloc (.cells #[.int .i64 0, .int .i64 0, .int .i64 0, .int .i64 0, .int .i64 0] 90)) (.cells #[.slice none 0 0, .slice none 0 0, .slice none 0 0, .slice none 0 0] 75)
    simpa only [World.size_alloc] using this
  · have := heap_alloc_new (((w.alloc (.cells #[.slice none 0 0, .slice none 0 0, .slice none 0 0, .slice none 0 0] 75)).alloc (.cells #[.int .i64 0, .int .i64 0, .int .i64 0, .int .i64 0, .int .i64 0] 90)).alloc (.cells #[.slice none 0 0, .slice none 0 0, .slice none 0 0, .slice none 0 0] 75)) (.cells #[.int .i64 0, .int .i64 0, .int .i64 0, .int .i64 0, .int .i64 0] 90)
    simpa only [World.size_alloc] using this
 have hs0 : W0.heap.size = w.heap.size + 4 := by rw [HW0.out]; simp
 have hpge : w.heap.size + 4 ≤ p := by have := HP.out; omega
 have HS2 := Hj (HK2.out.heap (HK01.out.heap hcell.1 (fun e => e)) (by omega)); have HA2 := Hj (HK2.out.heap (HK01.out.heap hcell.2 (fun e => e)) (by omega))
 have HKW2 : Hid (Keeps (fun k => w.heap.size + 2 ≤ k) W0 w2) := Hj ((HK01.out.mono (S' := fun k => w.heap.size + 2 ≤ k) (fun _ _ e => e.elim)).trans HK2.out (fun k hk e => by omega))
 have HZ0 : Hid (W0.heap[w.heap.size]? = some (.cells #[.slice none 0 0, .slice none 0 0, .slice none 0 0, .slice none 0 0] 75 (0, 0))) := Hj (by rw [HW0.out, Below.heap_alloc _ _ _ (by simp; omega), Below.heap_alloc _ _ _ (by simp; omega), Below.heap_alloc _ _ _ (by simp)]; exact heap_alloc_new w _)
 have HZ1 : Hid (W0.heap[w.heap.size + 1]? = some (.cells #[.int .i64 0, .int .i64 0, .int .i64 0, .int .i64 0, .int .i64 0] 90 (0, 0))) := Hj (by rw [HW0.out, Below.heap_alloc _ _ _ (by simp), Below.heap_alloc _ _ _ (by simp)]; have := heap_alloc_new (w.alloc (.cells #[.slice none 0 0, .slice none 0 0, .slice none 0 0, .slice none 0 0] 75)) (.cells #[.int .i64 0, .int .i64 0, .int .i64 0, .int .i64 0, .int .i64 0] 90); simpa only [World.size_alloc] using this)
 have HS0 := Hj hs0
 have HPG := Hj hpge
 have HOW : Hid (∀ g, v'.ownBlock = some g → w.heap.size + 4 ≤ g) := Hj (fun g hg => by have := HOWN.out g hg; omega)
 clear hcell hs0 hpge HP HRD HOWN HK1 HK01 HK2 HW0
 go_loopw [17] (fun c wr => ∃ (i : Nat) (vs : Nat → Value), c = .int .i64 (i : Int) ∧ i ≤ 4 ∧ Hid (∀ k, k < i → wr.ownsRow (p + 1) 5 1 (vs k) (pSec l k).length (u8s (pSec l k))) ∧ Hid (∀ k, ∃ a n c, vs k = .slice a n c) ∧
  Hid (wr.heap[w.heap.size + 2]? = some (.cells #[(if 0 < i then vs 0 else .slice none 0 0), (if 1 < i then vs 1 else .slice none 0 0), (if 2 < i then vs 2 else .slice none 0 0), (if 3 < i then vs 3 else .slice none 0 0)] 75 (0, 0))) ∧ Hid (wr.heap[w.heap.size + 3]? = some (.cells #[(if 0 < i then .int .i64 ((pAt l 0).1 : Nat) else .int .i64 0), (if 1 < i then .int .i64 ((pAt l 1).1 : Nat) else .int .i64 0), (if 2 < i then .int .i64 ((pAt l 2).1 : Nat) else .int .i64 0), (if 3 < i then .int .i64 ((pAt l 3).1 : Nat) else .int .i64 0), .int .i64 0] 90 (0, 0))) ∧ Hid (IsRd wr p v' l (pAt l i).1 (pAt l i).2) ∧ Hid (Keeps (fun k => w.heap.size + 2 ≤ k) W0 wr)) (fun c _ => 4 - (intOf c).toNat)
 case atStart => exact ⟨0, fun _ => .slice none 0 0, rfl, by omega, Hj (by omega), Hj (fun _ => ⟨_, _, _, rfl⟩), by simpa using HS2, by simpa using HA2, HRD2, HKW2⟩
 case round =>
  clear HS2 HA2 HRD2 HKW2
  obtain ⟨i, vs, rfl, hi4, HROW, HVS, HS, HA, HRD, HKW⟩ := hrel
  have HK : Hid (Keeps (fun k => w.heap.size ≤ k) w wr) := Hj ((HK0.out.mono (S' := fun k => w.heap.size ≤ k) (fun _ _ e => e.elim)).trans HKW.out (fun k hk e => by omega))
  rcases (by omega : i = 0 ∨ i = 1 ∨ i = 2 ∨ i = 3 ∨ i = 4) with rfl | rfl | rfl | rfl | rfl
  · have hA := HA.out
    have hS := HS.out
    simp only [show (0 < 0) = False by simp, show (1 < 0) = False by simp, show (2 < 0) = False by simp, show (3 < 0) = False by simp, if_false] at hA hS
    have hpg := HPG.out
    have cA : wr.cell? ⟨w.heap.size + 1 + 1 + 1, 0, none⟩ = some (.int .i64 0) := by rw [cell_of_row _ _ _ _ _ _ hA]; rfl
    have fA : wr.frozen? ⟨w.heap.size + 1 + 1 + 1, 0, none⟩ = false := frozen_of_row _ _ _ _ _ hA
    have HAT := Hj (qel HRD.out)
    obtain ⟨wb, hwb⟩ : ∃ wb, wb = wr.setCell ⟨w.heap.size + 1 + 1 + 1, 0, none⟩ (.int .i64 (((pAt l 0).1 : Nat) : Int)) := ⟨_, rfl⟩
    have hk1 : Keeps (fun k => k = w.heap.size + 3) wr wb := by rw [hwb]; exact (Keeps.refl (fun k => k = w.heap.size + 3) wr).setCell (p := ⟨w.heap.size + 1 + 1 + 1, 0, none⟩) (fun _ => rfl) _
    have hA2 := heap_setCell_same wr (w.heap.size + 1 + 1 + 1) 0 _ _ (.int .i64 (((pAt l 0).1 : Nat) : Int)) hA
    rw [← hwb] at hA2
    have hS2 := hk1.heap hS (by omega)
    have hRD2 := HRD.out.keeps hk1 (by omega) (fun g hg e => by have := HOW.out g hg; omega)
    have hlt := hRD2.lt
    have HSEC := Hj (qgr hRD2 1 (by decide) ((HT.out.keeps HK.out (fun e => by have := HT.out.pos; omega)).keeps hk1 (fun e => by have := HT.out.pos; omega)))
    have HA2 := Hj hA2; have HS2 := Hj hS2; have HWB := Hj hwb; have HK1 := Hj hk1
    clear hA hS hA2 hS2 hRD2 hwb hk1
    go_wp2_with (first
     | (go_at_call 87; refine HAT.out.mono ?_; rintro e wq ⟨rfl, hwq⟩; obtain rfl := hwq.symm)
     | (go_at_call 88
        rw [← HWB.out]
        refine HSEC.out.mono ?_
        rintro e w3 ⟨u, rfl, hrow, hrd, hk⟩
        obtain ⟨ua, uc, rfl⟩ := qac hrow
        have hS3 := hk.heap HS2.out (by omega)
        have hA3 := hk.heap HA2.out (by omega)
        have cS : w3.cell? ⟨w.heap.size + 1 + 1, 0, none⟩ = some (.slice none 0 0) := by rw [cell_of_row _ _ _ _ _ _ hS3]; rfl
        have fS : w3.frozen? ⟨w.heap.size + 1 + 1, 0, none⟩ = false := frozen_of_row _ _ _ _ _ hS3
        have HS3 := Hj hS3; have HA3 := Hj hA3; have HR3 := Hj hrow; have HRD3 := Hj hrd; have HK3 := Hj hk
        clear hS3 hA3 hrow hrd hk))
    have hpg := HPG.out
    have hlt2 := HRD3.out.lt
    have hks : Keeps (fun k => k = w.heap.size + 2) w3 (w3.setCell ⟨w.heap.size + 1 + 1, 0, none⟩ (.slice ua (pSec l 0).length uc)) := (Keeps.refl (fun k => k = w.heap.size + 2) w3).setCell (p := ⟨w.heap.size + 1 + 1, 0, none⟩) (fun _ => rfl) _
    refine ⟨⟨1, fun k => if k = 0 then .slice ua (pSec l 0).length uc else vs k, rfl, by omega, Hj ?_, Hj ?_, Hj ?_, Hj ?_, Hj ?_, Hj ?_⟩, by simp [intOf]⟩
    · intro k hk
      by_cases hki : k = 0
      · subst hki
        simp only [if_true]
        exact qao (hks.row HR3.out (fun g hg e => by have := (HR3.out.lt g hg).1; omega)) (fun g hg => by have := (HR3.out.lt g hg).1; omega)
      · simp only [if_neg hki]
        have hr0 := HROW.out k (by omega)
        exact hks.row (HK3.out.row (HK1.out.row hr0 (fun g hg e => by have := (hr0.lt g hg).1; omega)) (fun g hg e => by have := (hr0.lt g hg).1; omega)) (fun g hg e => by have := (hr0.lt g hg).1; omega)
    · intro k
      by_cases hki : k = 0
      · simp only [if_pos hki]; exact ⟨_, _, _, rfl⟩
      · simp only [if_neg hki]; exact HVS.out k
    · have := heap_setCell_same w3 (w.heap.size + 1 + 1) 0 _ _ (.slice ua (pSec l 0).length uc) HS3.out
      exact Eq.trans this (by simp)
    · have := hks.heap HA3.out (by omega)
      exact Eq.trans this (by simp)
    · exact HRD3.out.keeps hks (by omega) (fun g hg e => by have := HOW.out g hg; omega)
    · exact ((HKW.out.trans HK1.out (fun k hk e => by omega)).trans HK3.out (fun k hk e => by omega)).trans hks (fun k hk e => by omega)
  · have hA := HA.out
    have hS := HS.out
    simp only [show (0 < 1) = True by simp, show (1 < 1) = False by simp, show (2 < 1) = False by simp, show (3 < 1) = False by simp, if_true, if_false] at hA hS
    have hpg := HPG.out
    have cA : wr.cell? ⟨w.heap.size + 1 + 1 + 1, 1, none⟩ = some (.int .i64 0) := by rw [cell_of_row _ _ _ _ _ _ hA]; rfl
    have fA : wr.frozen? ⟨w.heap.size + 1 + 1 + 1, 1, none⟩ = false := frozen_of_row _ _ _ _ _ hA
    have HAT := Hj (qel HRD.out)
    obtain ⟨wb, hwb⟩ : ∃ wb, wb = wr.setCell ⟨w.heap.size + 1 + 1 + 1, 1, none⟩ (.int .i64 (((pAt l 1).1 : Nat) : Int)) := ⟨_, rfl⟩
    have hk1 : Keeps (fun k => k = w.heap.size + 3) wr wb := by rw [hwb]; exact (Keeps.refl (fun k => k = w.heap.size + 3) wr).setCell (p := ⟨w.heap.size + 1 + 1 + 1, 1, none⟩) (fun _ => rfl) _
    have hA2 := heap_setCell_same wr (w.heap.size + 1 + 1 + 1) 1 _ _ (.int .i64 (((pAt l 1).1 : Nat) : Int)) hA
    rw [← hwb] at hA2
    have hS2 := hk1.heap hS (by omega)
    have hRD2 := HRD.out.keeps hk1 (by omega) (fun g hg e => by have := HOW.out g hg; omega)
    have hlt := hRD2.lt
    have HSEC := Hj (qgr hRD2 2 (by decide) ((HT.out.keeps HK.out (fun e => by have := HT.out.pos; omega)).keeps hk1 (fun e => by have := HT.out.pos; omega)))
    have HA2 := Hj hA2; have HS2 := Hj hS2; have HWB := Hj hwb; have HK1 := Hj hk1
    clear hA hS hA2 hS2 hRD2 hwb hk1
    go_wp2_with (first
     | (go_at_call 87; refine HAT.out.mono ?_; rintro e wq ⟨rfl, hwq⟩; obtain rfl := hwq.symm)
     | (go_at_call 88
        rw [← HWB.out]
        refine HSEC.out.mono ?_
        rintro e w3 ⟨u, rfl, hrow, hrd, hk⟩
        obtain ⟨ua, uc, rfl⟩ := qac hrow
        have hS3 := hk.heap HS2.out (by omega)
        have hA3 := hk.heap HA2.out (by omega)
        have cS : w3.cell? ⟨w.heap.size + 1 + 1, 1, none⟩ = some (.slice none 0 0) := by rw [cell_of_row _ _ _ _ _ _ hS3]; rfl
        have fS : w3.frozen? ⟨w.heap.size + 1 + 1, 1, none⟩ = false := frozen_of_row _ _ _ _ _ hS3
        have HS3 := Hj hS3; have HA3 := Hj hA3; have HR3 := Hj hrow; have HRD3 := Hj hrd; have HK3 := Hj hk
        clear hS3 hA3 hrow hrd hk))
    have hpg := HPG.out
    have hlt2 := HRD3.out.lt
    have hks : Keeps (fun k => k = w.heap.size + 2) w3 (w3.setCell ⟨w.heap.size + 1 + 1, 1, none⟩ (.slice ua (pSec l 1).length uc)) := (Keeps.refl (fun k => k = w.heap.size + 2) w3).setCell (p := ⟨w.heap.size + 1 + 1, 1, none⟩) (fun _ => rfl) _
    refine ⟨⟨2, fun k => if k = 1 then .slice ua (pSec l 1).length uc else vs k, rfl, by omega, Hj ?_, Hj ?_, Hj ?_, Hj ?_, Hj ?_, Hj ?_⟩, by simp [intOf]⟩
    · intro k hk
      by_cases hki : k = 1
      · subst hki
        simp only [if_true]
        exact qao (hks.row HR3.out (fun g hg e => by have := (HR3.out.lt g hg).1; omega)) (fun g hg => by have := (HR3.out.lt g hg).1; omega)
      · simp only [if_neg hki]
        have hr0 := HROW.out k (by omega)
        exact hks.row (HK3.out.row (HK1.out.row hr0 (fun g hg e => by have := (hr0.lt g hg).1; omega)) (fun g hg e => by have := (hr0.lt g hg).1; omega)) (fun g hg e => by have := (hr0.lt g hg).1; omega)
    · intro k
      by_cases hki : k = 1
      · simp only [if_pos hki]; exact ⟨_, _, _, rfl⟩
      · simp only [if_neg hki]; exact HVS.out k
    · have := heap_setCell_same w3 (w.heap.size + 1 + 1) 1 _ _ (.slice ua (pSec l 1).length uc) HS3.out
      exact Eq.trans this (by simp)
    · have := hks.heap HA3.out (by omega)
      exact Eq.trans this (by simp)
    · exact HRD3.out.keeps hks (by omega) (fun g hg e => by have := HOW.out g hg; omega)
    · exact ((HKW.out.trans HK1.out (fun k hk e => by omega)).trans HK3.out (fun k hk e => by omega)).trans hks (fun k hk e => by omega)
  · have hA := HA.out
    have hS := HS.out
    simp only [show (0 < 2) = True by simp, show (1 < 2) = True by simp, show (2 < 2) = False by simp, show (3 < 2) = False by simp, if_true, if_false] at hA hS
    have hpg := HPG.out
    have cA : wr.cell? ⟨w.heap.size + 1 + 1 + 1, 2, none⟩ = some (.int .i64 0) := by rw [cell_of_row _ _ _ _ _ _ hA]; rfl
    have fA : wr.frozen? ⟨w.heap.size + 1 + 1 + 1, 2, none⟩ = false := frozen_of_row _ _ _ _ _ hA
    have HAT := Hj (qel HRD.out)
    obtain ⟨wb, hwb⟩ : ∃ wb, wb = wr.setCell ⟨w.heap.size + 1 + 1 + 1, 2, none⟩ (.int .i64 (((pAt l 2).1 : Nat) : Int)) := ⟨_, rfl⟩
    have hk1 : Keeps (fun k => k = w.heap.size + 3) wr wb := by rw [hwb]; exact (Keeps.refl (fun k => k = w.heap.size + 3) wr).setCell (p := ⟨w.heap.size + 1 + 1 + 1, 2, none⟩) (fun _ => rfl) _
    have hA2 := heap_setCell_same wr (w.heap.size + 1 + 1 + 1) 2 _ _ (.int .i64 (((pAt l 2).1 : Nat) : Int)) hA
    rw [← hwb] at hA2
    have hS2 := hk1.heap hS (by omega)
    have hRD2 := HRD.out.keeps hk1 (by omega) (fun g hg e => by have := HOW.out g hg; omega)
    have hlt := hRD2.lt
    have HSEC := Hj (qgr hRD2 3 (by decide) ((HT.out.keeps HK.out (fun e => by have := HT.out.pos; omega)).keeps hk1 (fun e => by have := HT.out.pos; omega)))
    have HA2 := Hj hA2; have HS2 := Hj hS2; have HWB := Hj hwb; have HK1 := Hj hk1
    clear hA hS hA2 hS2 hRD2 hwb hk1
    go_wp2_with (first
     | (go_at_call 87; refine HAT.out.mono ?_; rintro e wq ⟨rfl, hwq⟩; obtain rfl := hwq.symm)
     | (go_at_call 88
        rw [← HWB.out]
        refine HSEC.out.mono ?_
        rintro e w3 ⟨u, rfl, hrow, hrd, hk⟩
        obtain ⟨ua, uc, rfl⟩ := qac hrow
        have hS3 := hk.heap HS2.out (by omega)
        have hA3 := hk.heap HA2.out (by omega)
        have cS : w3.cell? ⟨w.heap.size + 1 + 1, 2, none⟩ = some (.slice none 0 0) := by rw [cell_of_row _ _ _ _ _ _ hS3]; rfl
        have fS : w3.frozen? ⟨w.heap.size + 1 + 1, 2, none⟩ = false := frozen_of_row _ _ _ _ _ hS3
        have HS3 := Hj hS3; have HA3 := Hj hA3; have HR3 := Hj hrow; have HRD3 := Hj hrd; have HK3 := Hj hk
        clear hS3 hA3 hrow hrd hk))
    have hpg := HPG.out
    have hlt2 := HRD3.out.lt
    have hks : Keeps (fun k => k = w.heap.size + 2) w3 (w3.setCell ⟨w.heap.size + 1 + 1, 2, none⟩ (.slice ua (pSec l 2).length uc)) := (Keeps.refl (fun k => k = w.heap.size + 2) w3).setCell (p := ⟨w.heap.size + 1 + 1, 2, none⟩) (fun _ => rfl) _
    refine ⟨⟨3, fun k => if k = 2 then .slice ua (pSec l 2).length uc else vs k, rfl, by omega, Hj ?_, Hj ?_, Hj ?_, Hj ?_, Hj ?_, Hj ?_⟩, by simp [intOf]⟩
    · intro k hk
      by_cases hki : k = 2
      · subst hki
        simp only [if_true]
        exact qao (hks.row HR3.out (fun g hg e => by have := (HR3.out.lt g hg).1; omega)) (fun g hg => by have := (HR3.out.lt g hg).1; omega)
      · simp only [if_neg hki]
        have hr0 := HROW.out k (by omega)
        exact hks.row (HK3.out.row (HK1.out.row hr0 (fun g hg e => by have := (hr0.lt g hg).1; omega)) (fun g hg e => by have := (hr0.lt g hg).1; omega)) (fun g hg e => by have := (hr0.lt g hg).1; omega)
    · intro k
      by_cases hki : k = 2
      · simp only [if_pos hki]; exact ⟨_, _, _, rfl⟩
      · simp only [if_neg hki]; exact HVS.out k
    · have := heap_setCell_same w3 (w.heap.size + 1 + 1) 2 _ _ (.slice ua (pSec l 2).length uc) HS3.out
      exact Eq.trans this (by simp)
    · have := hks.heap HA3.out (by omega)
      exact Eq.trans this (by simp)
    · exact HRD3.out.keeps hks (by omega) (fun g hg e => by have := HOW.out g hg; omega)
    · exact ((HKW.out.trans HK1.out (fun k hk e => by omega)).trans HK3.out (fun k hk e => by omega)).trans hks (fun k hk e => by omega)
  · have hA := HA.out
    have hS := HS.out
    simp only [show (0 < 3) = True by simp, show (1 < 3) = True by simp, show (2 < 3) = True by simp, show (3 < 3) = False by simp, if_true, if_false] at hA hS
    have hpg := HPG.out
    have cA : wr.cell? ⟨w.heap.size + 1 + 1 + 1, 3, none⟩ = some (.int .i64 0) := by rw [cell_of_row _ _ _ _ _ _ hA]; rfl
    have fA : wr.frozen? ⟨w.heap.size + 1 + 1 + 1, 3, none⟩ = false := frozen_of_row _ _ _ _ _ hA
    have HAT := Hj (qel HRD.out)
    obtain ⟨wb, hwb⟩ : ∃ wb, wb = wr.setCell ⟨w.heap.size + 1 + 1 + 1, 3, none⟩ (.int .i64 (((pAt l 3).1 : Nat) : Int)) := ⟨_, rfl⟩
    have hk1 : Keeps (fun k => k = w.heap.size + 3) wr wb := by rw [hwb]; exact (Keeps.refl (fun k => k = w.heap.size + 3) wr).setCell (p := ⟨w.heap.size + 1 + 1 + 1, 3, none⟩) (fun _ => rfl) _
    have hA2 := heap_setCell_same wr (w.heap.size + 1 + 1 + 1) 3 _ _ (.int .i64 (((pAt l 3).1 : Nat) : Int)) hA
    rw [← hwb] at hA2
    have hS2 := hk1.heap hS (by omega)
    have hRD2 := HRD.out.keeps hk1 (by omega) (fun g hg e => by have := HOW.out g hg; omega)
    have hlt := hRD2.lt
    have HSEC := Hj (qgr hRD2 4 (by decide) ((HT.out.keeps HK.out (fun e => by have := HT.out.pos; omega)).keeps hk1 (fun e => by have := HT.out.pos; omega)))
    have HA2 := Hj hA2; have HS2 := Hj hS2; have HWB := Hj hwb; have HK1 := Hj hk1
    clear hA hS hA2 hS2 hRD2 hwb hk1
    go_wp2_with (first
     | (go_at_call 87; refine HAT.out.mono ?_; rintro e wq ⟨rfl, hwq⟩; obtain rfl := hwq.symm)
     | (go_at_call 88
        rw [← HWB.out]
        refine HSEC.out.mono ?_
        rintro e w3 ⟨u, rfl, hrow, hrd, hk⟩
        obtain ⟨ua, uc, rfl⟩ := qac hrow
        have hS3 := hk.heap HS2.out (by omega)
        have hA3 := hk.heap HA2.out (by omega)
        have cS : w3.cell? ⟨w.heap.size + 1 + 1, 3, none⟩ = some (.slice none 0 0) := by rw [cell_of_row _ _ _ _ _ _ hS3]; rfl
        have fS : w3.frozen? ⟨w.heap.size + 1 + 1, 3, none⟩ = false := frozen_of_row _ _ _ _ _ hS3
        have HS3 := Hj hS3; have HA3 := Hj hA3; have HR3 := Hj hrow; have HRD3 := Hj hrd; have HK3 := Hj hk
        clear hS3 hA3 hrow hrd hk))
    have hpg := HPG.out
    have hlt2 := HRD3.out.lt
    have hks : Keeps (fun k => k = w.heap.size + 2) w3 (w3.setCell ⟨w.heap.size + 1 + 1, 3, none⟩ (.slice ua (pSec l 3).length uc)) := (Keeps.refl (fun k => k = w.heap.size + 2) w3).setCell (p := ⟨w.heap.size + 1 + 1, 3, none⟩) (fun _ => rfl) _
    refine ⟨⟨4, fun k => if k = 3 then .slice ua (pSec l 3).length uc else vs k, rfl, by omega, Hj ?_, Hj ?_, Hj ?_, Hj ?_, Hj ?_, Hj ?_⟩, by simp [intOf]⟩
    · intro k hk
      by_cases hki : k = 3
      · subst hki
        simp only [if_true]
        exact qao (hks.row HR3.out (fun g hg e => by have := (HR3.out.lt g hg).1; omega)) (fun g hg => by have := (HR3.out.lt g hg).1; omega)
      · simp only [if_neg hki]
        have hr0 := HROW.out k (by omega)
        exact hks.row (HK3.out.row (HK1.out.row hr0 (fun g hg e => by have := (hr0.lt g hg).1; omega)) (fun g hg e => by have := (hr0.lt g hg).1; omega)) (fun g hg e => by have := (hr0.lt g hg).1; omega)
    · intro k
      by_cases hki : k = 3
      · simp only [if_pos hki]; exact ⟨_, _, _, rfl⟩
      · simp only [if_neg hki]; exact HVS.out k
    · have := heap_setCell_same w3 (w.heap.size + 1 + 1) 3 _ _ (.slice ua (pSec l 3).length uc) HS3.out
      exact Eq.trans this (by simp)
    · have := hks.heap HA3.out (by omega)
      exact Eq.trans this (by simp)
    · exact HRD3.out.keeps hks (by omega) (fun g hg e => by have := HOW.out g hg; omega)
    · exact ((HKW.out.trans HK1.out (fun k hk e => by omega)).trans HK3.out (fun k hk e => by omega)).trans hks (fun k hk e => by omega)
  · have hA := HA.out
    have hS := HS.out
    simp only [show (0 < 4) = True by simp, show (1 < 4) = True by simp, show (2 < 4) = True by simp, show (3 < 4) = True by simp, if_true] at hA hS
    have hpg := HPG.out
    have cA : wr.cell? ⟨w.heap.size + 1 + 1 + 1, 4, none⟩ = some (.int .i64 0) := by rw [cell_of_row _ _ _ _ _ _ hA]; rfl
    have fA : wr.frozen? ⟨w.heap.size + 1 + 1 + 1, 4, none⟩ = false := frozen_of_row _ _ _ _ _ hA
    have HAT := Hj (qel HRD.out)
    obtain ⟨wb, hwb⟩ : ∃ wb, wb = wr.setCell ⟨w.heap.size + 1 + 1 + 1, 4, none⟩ (.int .i64 (((pAt l 4).1 : Nat) : Int)) := ⟨_, rfl⟩
    have hk1 : Keeps (fun k => k = w.heap.size + 3) wr wb := by rw [hwb]; exact (Keeps.refl (fun k => k = w.heap.size + 3) wr).setCell (p := ⟨w.heap.size + 1 + 1 + 1, 4, none⟩) (fun _ => rfl) _
    have hA2 := heap_setCell_same wr (w.heap.size + 1 + 1 + 1) 4 _ _ (.int .i64 (((pAt l 4).1 : Nat) : Int)) hA
    rw [← hwb] at hA2
    have hS2 := hk1.heap hS (by omega)
    have hRD2 := HRD.out.keeps hk1 (by omega) (fun g hg e => by have := HOW.out g hg; omega)
    have hlt := hRD2.lt
    have HSEC := Hj (qgr hRD2 5 (by decide) ((HT.out.keeps HK.out (fun e => by have := HT.out.pos; omega)).keeps hk1 (fun e => by have := HT.out.pos; omega)))
    have hle : ∀ k, (pAt l k).1 ≤ 10000000000 := fun k => Nat.le_trans (pAt_le l k) (by omega)
    have HCO : Hid (∀ wq, Calls Tryz.prog 70 #[.agg #[.int .i64 ((pAt l 0).1 : Nat), .int .i64 ((pAt l 1).1 : Nat), .int .i64 ((pAt l 2).1 : Nat), .int .i64 ((pAt l 3).1 : Nat), .int .i64 ((pAt l 4).1 : Nat)]] wq fun e w' => ∃ v', e = .returned v' ∧ w'.ownsRow wq.heap.size 5 1 v' (contO [(pAt l 0).1, (pAt l 1).1, (pAt l 2).1, (pAt l 3).1]).length (u8s (contO [(pAt l 0).1, (pAt l 1).1, (pAt l 2).1, (pAt l 3).1])) ∧ Keeps (fun _ => False) wq w') := Hj (fun wq => cont_any _ _ _ _ _ wq (hle 0) (hle 1) (hle 2) (hle 3))
    have hb4 : ∀ c ∈ pSec l 4, c < 256 := pSec_lt l 4 HB.out
    have hbc : ∀ c ∈ contO [(pAt l 0).1, (pAt l 1).1, (pAt l 2).1, (pAt l 3).1], c < 256 := by
     intro c hc
     obtain ⟨x, hx, hc⟩ := List.mem_flatMap.1 hc
     have hx1 : x ≤ 18446744073709551615 := by
      simp only [List.mem_cons, List.not_mem_nil, or_false] at hx
      rcases hx with rfl | rfl | rfl | rfl
      · have := hle 0; omega
      · have := hle 1; omega
      · have := hle 2; omega
      · have := hle 3; omega
     exact qcp _ hx1 _ hc
    have HB4 := Hj hb4; have HBC := Hj hbc
    obtain ⟨tb, htb⟩ : ∃ tb, tb = decide (pSec l 4 = contO [(pAt l 0).1, (pAt l 1).1, (pAt l 2).1, (pAt l 3).1]) := ⟨_, rfl⟩
    have HTB := Hj htb
    clear htb
    have HA2 := Hj hA2; have HS2 := Hj hS2; have HWB := Hj hwb; have HK1 := Hj hk1
    clear hA hS hA2 hS2 hRD2 hwb hk1 hle hb4 hbc
    go_upto_if 41 with (first
     | (go_at_call 87; refine HAT.out.mono ?_; rintro e wq ⟨rfl, hwq⟩; obtain rfl := hwq.symm)
     | (go_at_call 88
        rw [← HWB.out]
        refine HSEC.out.mono ?_
        rintro e w3 ⟨u, rfl, hrow, hrd, hk⟩
        obtain ⟨ua, uc, rfl⟩ := qac hrow
        have hA3 := hk.heap HA2.out (by omega)
        have HA3 := Hj hA3; have HR3 := Hj hrow; have HRD3 := Hj hrd; have HK3 := Hj hk
        clear hA3 hrow hrd hk)
     | (refine wpList_load_row rfl 90 _ rfl _ rfl _ _ _ _ HA3.out Tryz.underlying90 rfl (by kernel_rfl) ?_)
     | (go_at_call 70; refine (HCO.out _).mono ?_; rintro e w4 ⟨v4, rfl, h4, hk4⟩; have HR4 := Hj h4; have HK4 := Hj hk4; clear h4 hk4)
     | (go_at_call 89
        have hu4 := qaq (show w3.ownsRow wb.heap.size 5 1 (.slice ua (pSec l 4).length uc) (u8s (pSec l 4)).length (u8s (pSec l 4)) by rw [qaa]; exact HR3.out)
        refine (qke _ _ (pSec l 4) (contO [(pAt l 0).1, (pAt l 1).1, (pAt l 2).1, (pAt l 3).1]) w4 (hu4.keeps HK4.out (fun _ _ e => e)) (qaq (show w4.ownsRow w3.heap.size 5 1 v4 (u8s (contO [(pAt l 0).1, (pAt l 1).1, (pAt l 2).1, (pAt l 3).1])).length (u8s (contO [(pAt l 0).1, (pAt l 1).1, (pAt l 2).1, (pAt l 3).1])) by rw [qaa]; exact HR4.out)) HB4.out HBC.out).mono ?_
        rintro e wq ⟨rfl, rfl⟩
        clear hu4
        have HY := Hj (HRD3.out.keep HK4.out)
        rw [← HTB.out]))
    go_cut [] (fun wx => IsRd wx p v' l (pAt l 5).1 (qdg l) ∧ Keeps (fun k => k = p) w4 wx)
    case first =>
     by_cases htoc : pSec l 4 = contO [(pAt l 0).1, (pAt l 1).1, (pAt l 2).1, (pAt l 3).1]
     · have hte : tb = true := by rw [HTB.out]; exact decide_eq_true htoc
       have HX : Hid (IsRd w4 p v' l (pAt l 5).1 (qdg l)) := Hj (by unfold qdg; rw [if_neg (fun h => h htoc)]; exact HY.out)
       clear htoc
       subst hte
       go_wp2_with fail
       go_meet
       exact ⟨HX.out, Keeps.refl _ _⟩
     · have hte : tb = false := by rw [HTB.out]; exact decide_eq_false htoc
       have HX : Hid (qdg l = if (pAt l 5).2 = 0 then 13 else (pAt l 5).2) := Hj (by unfold qdg; rw [if_pos htoc])
       clear htoc
       subst hte
       go_wp2_with (go_at_call 90; refine (qgq HY.out 13).mono ?_; rintro e wx ⟨rfl, hrd, hk⟩; have HRD5 := Hj hrd; have HK5 := Hj hk; clear hrd hk)
       go_meet
       exact ⟨by rw [HX.out]; exact HRD5.out, HK5.out⟩
    case rest =>
     obtain ⟨hrd5, hk5⟩ := hcut
     have HRD5 := Hj hrd5; have HK5 := Hj hk5
     clear hrd5 hk5 HY HTB HCO HSEC HAT HB4 HBC
     go_upto_region 16 with (go_at_call 91; refine (wtake_any HRD5.out 4 (by omega)).mono ?_; rintro e w6 ⟨u6, rfl, hrow, hrd, hk⟩; have HRD6 : Hid (IsRd w6 p v' l (pSum l).2.1 (pSum l).2.2) := Hj hrd; have HK6 := Hj hk; obtain ⟨a6, c6, rfl⟩ := qac hrow; clear hrow hrd hk)
     obtain ⟨n6, hn6⟩ : ∃ n6, n6 = (rdTake l (pAt l 5).1 (qdg l) 4).1.length := ⟨_, rfl⟩
     rw [← hn6]
     have HN6 : Hid (n6 = (pSum l).1.length) := Hj hn6
     obtain ⟨sb, hsb⟩ : ∃ sb, sb = (decide (n6 = 4) && !(chkO (l.take (pSum l).2.1))) := ⟨_, rfl⟩
     have HSB := Hj hsb
     clear hn6 hsb
     have HKW6 : Hid (Keeps (fun k => w.heap.size ≤ k) w w6) := Hj (by
      have hpg := HPG.out
      exact ((((HK.out.trans HK1.out (fun k hk e => by omega)).trans HK3.out (fun k hk e => by omega)).trans HK4.out (fun k hk e => e.elim)).trans HK5.out (fun k hk e => by omega)).trans HK6.out (fun k hk e => by omega))
     obtain ⟨i8, hi8, hz80, hz8, _⟩ := info_parts infoU8
     go_cut [56] (fun t56 wx => t56 = .bool sb ∧ wx = w6)
     case first =>
      by_cases h4 : n6 = 4
      · subst h4
        have hh6 := HH.out.fresh HKW6.out
        obtain ⟨a7, c7, e7, hh7, _⟩ := run_to (P := Tryz.prog) w6 29 5 Tryz.underlying29 hi8 hz8 (show Holds w6 (.slice ad l.length cp) (u8s l) from hh6) .i64 (pSum l).2.1 (by rw [qaa]; exact qju _ _ _ _ (pAt_le l 5))
        have HCK := Hj (crck_any (.slice a7 (pSum l).2.1 c7) (l.take (pSum l).2.1) w6 (by rw [show u8s (l.take (pSum l).2.1) = (u8s l).take (pSum l).2.1 by simp [u8s]]; exact hh7) (fun c hc => HB.out c (List.mem_of_mem_take hc)) (by rw [List.length_take]; omega) (HT.out.keeps HKW6.out (fun e => by have := HT.out.pos; omega)))
        have HAT := Hj (qel HRD6.out)
        obtain ⟨ck, hck⟩ : ∃ ck, ck = chkO (l.take (pSum l).2.1) := ⟨_, rfl⟩
        rw [← hck] at HCK HSB
        have hsb : sb = !ck := by simpa using HSB.out
        clear hck hh6 hh7 HN6 HSB
        have HSB := Hj hsb
        clear hsb
        go_wp2_with (first | (go_at_call 87; refine HAT.out.mono ?_; rintro e wq ⟨rfl, hwq⟩; obtain rfl := hwq.symm) | (go_at_call 92; refine HCK.out.mono ?_; rintro e wq ⟨rfl, rfl⟩))
        go_meet
        exact ⟨by rw [HSB.out], rfl⟩
      · have h4' : ((n6 : Int) == 4) = false := beq_eq_false_iff_ne.2 (by omega)
        have hsb : sb = false := by rw [HSB.out, decide_eq_false h4]; rfl
        clear h4 HSB HN6
        have HSB := Hj hsb
        clear hsb
        go_wp2_with fail
        go_meet
        exact ⟨by rw [HSB.out], rfl⟩
     case rest =>
      obtain ⟨rfl, hw6⟩ := hcut
      subst hw6
      obtain ⟨w6, rfl⟩ : ∃ w6, w6 = wc := ⟨_, rfl⟩
      go_upto_if 56 with fail
      go_cut [] (fun wx => IsRd wx p v' l (pSum l).2.1 (qdo l) ∧ Keeps (fun k => k = p) w6 wx)
      case first =>
       have HSE : Hid (qdo l = if sb = true then (if (pSum l).2.2 = 0 then 12 else (pSum l).2.2) else (pSum l).2.2) := Hj (by
        rw [HSB.out, HN6.out]; unfold qdo
        by_cases q1 : (pSum l).1.length = 4
        · cases q2 : chkO (l.take (pSum l).2.1) <;> simp [q1]
        · simp [q1])
       clear HSB HN6
       cases sb
       · go_wp2_with fail
         go_meet
         exact ⟨by rw [HSE.out, if_neg (by simp)]; exact HRD6.out, Keeps.refl _ _⟩
       · go_wp2_with (go_at_call 90; refine (qgq HRD6.out 12).mono ?_; rintro e wx ⟨rfl, hrd, hk⟩; have HRD7 := Hj hrd; have HK7 := Hj hk; clear hrd hk)
         go_meet
         exact ⟨by rw [HSE.out, if_pos (by simp)]; exact HRD7.out, HK7.out⟩
      case rest =>
       obtain ⟨hrd7, hk7⟩ := hcut
       have hpg := HPG.out
       have HKW7 := Hj (HKW6.out.trans hk7 (fun k hk e => by omega))
       have HRD7 := Hj hrd7; have HK7 := Hj hk7
       have hh6 := HH.out.fresh HKW7.out
       obtain ⟨a7, c7, e7, hh7, _⟩ := qff (P := Tryz.prog) wc 29 5 Tryz.underlying29 hi8 hz8 (show Holds wc (.slice ad l.length cp) (u8s l) from hh6) .i64 (pSum l).2.1 (by rw [qaa]; exact qju _ _ _ _ (pAt_le l 5))
       rw [qaa] at e7 hh7
       obtain ⟨E, hE⟩ : ∃ E, E = pErr l := ⟨_, rfl⟩
       have HAT := Hj (qel hrd7)
       have HLIT : Hid (Calls Tryz.prog 86 #[.pointer (some ⟨p, 0, none⟩), .slice a7 (l.length - (pSum l).2.1) c7, .string ⟨#[75, 66, 83, 84]⟩] wc fun e w' => e = .returned (.tuple #[]) ∧ IsRd w' p v' l (pEnd l).1 (pEnd l).2 ∧ Keeps (fun k => k = p) wc w') := Hj (lit_any (s := tailO) hrd7 (by rw [show u8s (l.drop (pSum l).2.1) = (u8s l).drop (pSum l).2.1 by simp [u8s]]; exact hh7) (by rw [List.length_drop]; omega) (fun c hc => HB.out c (List.mem_of_mem_drop hc)) (by decide))
       have HZ7 := Hj ((hk7.trans (S := fun k => k = p) (Keeps.refl (fun _ => False) wc) (fun _ _ e => e.elim)))
       have HE := Hj hE
       clear hrd7 hk7 hh6 hh7 hE
       go_upto_if 68 with (first
        | (go_at_call 87; refine HAT.out.mono ?_; rintro e wq ⟨rfl, hwq⟩; obtain rfl := hwq.symm)
        | (go_at_call 86; refine HLIT.out.mono ?_; rintro e w8 ⟨rfl, hrd, hk⟩; have HRD8 := Hj hrd; have HK8 := Hj hk; clear hrd hk)
        | (go_at_call 93; refine (qia HRD8.out).mono ?_; rintro e wq ⟨rfl, hwq⟩; obtain rfl := hwq.symm; rw [show (if (pEnd l).2 = 0 then if (pEnd l).1 < l.length then 4 else 0 else (pEnd l).2) = E by rw [HE.out]; rfl]))
       have hpg := HPG.out
       have hfa := lay_facts hpg HK0.out HKW.out HK1.out HK3.out HK4.out HK5.out HK6.out HK7.out HK8.out HROW.out HS2.out HA3.out HZ0.out HZ1.out
       have HA8 : Hid (w8.heap[w.heap.size + 1 + 1]? = some (.cells #[vs 0, vs 1, vs 2, vs 3] 75 (0, 0))) := Hj hfa.1
       have HB8 : Hid (w8.heap[w.heap.size + 1 + 1 + 1]? = some (.cells #[.int .i64 ((pAt l 0).1 : Nat), .int .i64 ((pAt l 1).1 : Nat), .int .i64 ((pAt l 2).1 : Nat), .int .i64 ((pAt l 3).1 : Nat), .int .i64 ((pAt l 4).1 : Nat)] 90 (0, 0))) := Hj hfa.2.1
       have HZZ : True := trivial; have HC8 := Hj hfa.2.2.1; have HD8 := Hj hfa.2.2.2.1; have HKF := Hj hfa.2.2.2.2.1; have HRW8 := Hj hfa.2.2.2.2.2
       clear hfa
       clear HAT HLIT HZ7 HKW7 HRD7 HK7 HSB HN6 HKW6 HK6 HRD6 HK5 HRD5 HKW HK1 HK3 HK4 HRD3 HR3 HR4 HA3 HK HS HA HA2 HS2 e7
       by_cases hE0 : E = 0
       · subst hE0
         refine wp_cond_false rfl ?_
         refine wp_skip ?_
         simp only [Exit.then]
         refine (‹∀ (a : Act) (w : World), Code.wp _ _ _ a w → _› _ _ ?_)
         refine wp_seq ?_
         have hpg := HPG.out
         have CA := HA8.out; have CB := HB8.out; have CC := HC8.out; have CD := HD8.out
         obtain ⟨s0, t0, u0, z0⟩ := HVS.out 0; obtain ⟨s1, t1, u1, z1⟩ := HVS.out 1; obtain ⟨s2, t2, u2, z2⟩ := HVS.out 2; obtain ⟨s3, t3, u3, z3⟩ := HVS.out 3
         refine wp_two_rows (b0 := w.heap.size + 1 + 1) (b1 := w.heap.size + 1 + 1 + 1) (b2 := w.heap.size) (b3 := w.heap.size + 1) (u := 4) (vu := .int .i64 0) (x2 := .tmp 2) (x3 := .tmp 3) rfl (fun d v c a w h => by cases d <;> exact h) _ _ _ _ _ rfl rfl rfl rfl rfl rfl (by kernel_rfl) (by kernel_rfl) (by kernel_rfl) (by kernel_rfl) (by kernel_rfl) (by kernel_rfl) (by kernel_rfl) (by kernel_rfl) (by kernel_rfl) (by kernel_rfl) rfl rfl rfl rfl rfl _ _ _ _ _ _ _ rfl rfl rfl rfl rfl rfl rfl _ _ _ _ _ _ _ _ _ _ _ _ (by kernel_rfl) (by kernel_rfl) CA CB CC CD Tryz.underlying75 rfl (by kernel_rfl) Tryz.underlying90 rfl (by kernel_rfl) _ rfl (by kernel_rfl) (by kernel_rfl) (by kernel_rfl) (by kernel_rfl) _ rfl (by kernel_rfl) (by kernel_rfl) (by kernel_rfl) (by kernel_rfl) rfl rfl (by rw [z0, z1, z2, z3]; simp [Value.oneCell']) (by simp [Value.oneCell']) (lay_ne w.heap.size).1 (lay_ne w.heap.size).2.1 (lay_ne w.heap.size).2.2.1 (lay_ne w.heap.size).2.2.2.1 (lay_ne w.heap.size).2.2.2.2 ?_
         intro B W hB2 hB3 hB4 hBd hw2 hw3 hkW
         clear CA CB CC CD
         refine wp_ret (Q := _) ?_
         refine bodyPost_ret (qcz Tryz.results38 _ _ w.heap.size (w.heap.size + 1) 75 90 _ _ (0, 0) (0, 0) _ _ hB2 hw2 Tryz.underlying75 rfl (by kernel_rfl) hB3 hw3 Tryz.underlying90 rfl (by kernel_rfl)) hBd ?_
         rw [show B.tmps.getD 4 undef = .int .i64 0 from hB4]
         have hrow := lay_rows hpg HRW8.out hkW
         refine ⟨vs 0, vs 1, vs 2, vs 3, lay_keep HKF.out hkW, fun _ => ⟨rfl, hrow 0 (by decide), hrow 1 (by decide), hrow 2 (by decide), hrow 3 (by decide)⟩, fun h => absurd HE.out.symm h⟩
       · have hE1 : ((E : Int) == 0) = false := lay_beq hE0
         have hE2 : ((E : Int) != 0) = true := by simp only [bne, hE1, Bool.not_false]
         refine wp_cond_true (congrArg Value.bool hE2) ?_
         refine wp_seq ?_
         have CC := HC8.out; have CD := HD8.out
         refine wp_two_zero (b3 := w.heap.size) (b4 := w.heap.size + 1) (u := 4) (vu := .int .i64 (E : Int)) (x3 := .tmp 2) (x4 := .tmp 3) (z := #[.slice none 0 0, .slice none 0 0, .slice none 0 0, .slice none 0 0]) (z' := #[.int .i64 0, .int .i64 0, .int .i64 0, .int .i64 0, .int .i64 0]) _ _ _ _ _ _ rfl rfl rfl rfl rfl rfl _ _ _ _ _ _ rfl (by kernel_rfl) rfl (by kernel_rfl) rfl rfl rfl rfl rfl rfl _ _ _ _ CC CD (lay_ne w.heap.size).2.2.2.2 (by kernel_rfl) (by kernel_rfl) rfl rfl (by simp [Value.oneCell']) (by simp [Value.oneCell']) _ rfl (by kernel_rfl) (by kernel_rfl) (by kernel_rfl) (by kernel_rfl) _ rfl (by kernel_rfl) (by kernel_rfl) (by kernel_rfl) (by kernel_rfl) ?_
         intro B W hB2 hB3 hB4 hBd hw2 hw3 hkW
         clear CC CD hE1 hE2
         refine wp_ret (Q := _) ?_
         first | simp only [Exit.then] | skip
         refine bodyPost_ret (qcz Tryz.results38 _ _ w.heap.size (w.heap.size + 1) 75 90 _ _ (0, 0) (0, 0) _ _ hB2 hw2 Tryz.underlying75 rfl (by kernel_rfl) hB3 hw3 Tryz.underlying90 rfl (by kernel_rfl)) hBd ?_
         rw [show B.tmps.getD 4 undef = .int .i64 (E : Int) from hB4]
         exact ⟨.slice none 0 0, .slice none 0 0, .slice none 0 0, .slice none 0 0, lay_keep HKF.out hkW, fun h => absurd (HE.out.trans h) hE0, fun _ => by rw [← HE.out]⟩
end
end Go.Proofs.YtfpcgcbehdogjaaGreatDoor
