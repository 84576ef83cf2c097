/-
  Lemmas on which LTopTruncates rests, packed out of the texts WRdD WRdE WRdF WDoor5 XTabs; each for all arguments under the hypotheses it names.
-/
import Derived.Test.YtfpcgcbehdogjaaGreatDoorT11
import Derived.Test.YtfpcgcbehdogjaaGreatDoorT09
import Derived.Lib.LaidU8
namespace Go.Proofs.YtfpcgcbehdogjaaGreatDoor
section
set_option maxHeartbeats 2000000
set_option maxRecDepth 100000
open Go.RowKit
theorem rd_mid {w : World} {l : List Nat} {g cap : Nat} (h : w.ownsRow 0 5 1 (.slice (some ⟨g, 0, none⟩) l.length cap) l.length (u8s l)) (a n : Nat) (ha : a + n ≤ l.length) (hc : l.length ≤ cap) :
 Holds w (.slice (some ⟨g, a, none⟩) n (cap - a)) (u8s ((l.drop a).take n)) := by
 have := qaq (show w.ownsRow 0 5 1 (.slice (some ⟨g, 0, none⟩) l.length cap) (u8s l).length (u8s l) by rw [qaa]; exact h)
 obtain ⟨ad', cp', hv, _, hh⟩ := this
 simp only [Value.slice.injEq] at hv
 obtain ⟨rfl, _, rfl⟩ := hv
 refine ⟨_, cap - a, by rw [qaa, List.length_take, List.length_drop]; congr 1; omega, by rw [qaa, List.length_take, List.length_drop]; omega, ?_⟩
 rcases hh with hh | ⟨b, off, hb, hh⟩
 · left
   have hl0 : l.length = 0 := by have := congrArg List.length hh; rw [qaa] at this; simpa using this
   have : l = [] := List.eq_nil_of_length_eq_zero hl0
   subst this; simp [u8s]
 · simp only [Option.some.injEq, Addr.mk.injEq] at hb
   obtain ⟨rfl, rfl, -⟩ := hb
   refine .inr ⟨g, a, rfl, fun j u hj => ?_⟩
   have hq : (u8s l)[a + j]? = some u := by
    unfold u8s at hj ⊢
    rw [List.getElem?_map, List.getElem?_take] at hj
    split at hj
    · rwa [List.getElem?_drop, ← List.getElem?_map] at hj
    · cases hj
   have := hh (a + j) u hq
   rwa [Nat.zero_add] at this
theorem holds_empty (w : World) (ad : Option Addr) (c : Nat) : Holds w (.slice ad 0 c) (u8s []) := ⟨ad, c, rfl, Nat.zero_le _, .inl rfl⟩
def rdStr (l : List Nat) (i x most : Nat) : List Nat × Nat × Nat :=
 if x ≠ 0 then ([], i, x) else
 if (vgo 0 0 (l.drop i)).2.2 ≠ 0 then ([], i, (vgo 0 0 (l.drop i)).2.2) else
 if most < (vgo 0 0 (l.drop i)).1 then ([], i, 7) else
 if l.length - (i + (vgo 0 0 (l.drop i)).2.1) < (vgo 0 0 (l.drop i)).1 then ([], i, 3) else
 ((l.drop (i + (vgo 0 0 (l.drop i)).2.1)).take (vgo 0 0 (l.drop i)).1, i + (vgo 0 0 (l.drop i)).2.1 + (vgo 0 0 (l.drop i)).1, 0)
theorem str1_any {p bm br : Nat} {v : Value} {l : List Nat} {i x : Nat} {w : World} (h : IsRd w p v l i x) (most : Nat) (hmost : most ≤ 1000000000000)
 (hcm : w.cell? ⟨bm, 0, none⟩ = some (.int .i64 (most : Int))) (hcr : w.cell? ⟨br, 0, none⟩ = some (.pointer (some ⟨p, 0, none⟩))) :
 Calls Tryz.prog 181 #[.int .i64 (i : Int), .pointer (some ⟨br, 0, none⟩), .pointer (some ⟨bm, 0, none⟩)] w fun e w' => ∃ u ut er, e = .returned (.tuple #[u, .int .i64 (ut : Nat), .int .i64 (er : Nat)]) ∧ (er = 0 → ut ≤ l.length) ∧
  (er = (rdStr l i 0 most).2.2 ∧ (er = 0 → u = .string (strN (rdStr l i 0 most).1) ∧ ut = (rdStr l i 0 most).2.1)) ∧ Keeps (fun _ => False) w w' := by
 have HG := Hj (qgp v l i w (by have := qaq (show w.ownsRow 0 5 1 v (u8s l).length (u8s l) by rw [qaa]; exact h.row); exact this) h.bytes h.le (by have := h.len; omega))
 have c0 := h.c0
 have hto := vgo_len (l.drop i)
 have hle := h.le
 have hlen := h.len
 have HH := Hj h
 unfold rdStr
 rw [if_neg (by simp)]
 unfold vres at HG
 obtain ⟨X, d, er, hv⟩ : ∃ X d er, vgo 0 0 (l.drop i) = (X, d, er) := ⟨_, _, _, rfl⟩
 rw [hv] at HG hto ⊢
 rw [List.length_drop] at hto
 simp only [] at HG hto ⊢
 have hmost0 : ¬ (most : Int) < 0 := by omega
 have hmw : IntKind.u64.wrap (most : Int) = most := IntWalk.u64_in _ (by omega)
 by_cases her : er = 0
 · subst her
   have HL := Hj (qfa h (i + d) (by omega))
   rw [if_pos rfl] at HG
   rw [if_neg (by simp)]
   have hlnil : l ≠ [] := by rintro rfl; simp [vgo] at hv
   by_cases hm : most < X
   · rw [if_pos hm]
     have hm' : (most : Int) < X := by omega
     clear h hv
     go_enter Tryz.func181, Tryz.ntmps181
     go_wp2_with (go_at_call 132; refine HG.out.mono ?_; rintro e w1 ⟨rfl, rfl⟩)
     go_ret3
     exact ⟨_, 0, 7, rfl, by omega, ⟨rfl, by omega⟩, Keeps.refl _ _⟩
   · rw [if_neg hm]
     have hm' : ¬ (most : Int) < X := by omega
     have hlw : IntKind.u64.wrap ((l.length - (i + d) : Nat) : Int) = ((l.length - (i + d) : Nat) : Int) := IntWalk.u64_in _ (by omega)
     by_cases hx : l.length - (i + d) < X
     · rw [if_pos hx]
       have hx' : ((l.length - (i + d) : Nat) : Int) < X := by omega
       clear h hv
       go_enter Tryz.func181, Tryz.ntmps181
       go_wp2_with (first | (go_at_call 132; refine HG.out.mono ?_; rintro e w1 ⟨rfl, rfl⟩) | (go_at_call 147; refine HL.out.mono ?_; rintro e w1 ⟨rfl, rfl⟩))
       go_ret3
       exact ⟨_, 0, 3, rfl, by omega, ⟨rfl, by omega⟩, Keeps.refl _ _⟩
     · rw [if_neg hx]
       have hx' : ¬ ((l.length - (i + d) : Nat) : Int) < X := by omega
       obtain ⟨g, cap, hvs, hcap⟩ : ∃ g cap, v = .slice (some ⟨g, 0, none⟩) l.length cap ∧ l.length ≤ cap := by
        rcases h.row.2 with ⟨hv, h0⟩ | ⟨g, cap, cur, hv, _, _, hle, _⟩
        · exact absurd (List.eq_nil_of_length_eq_zero h0) hlnil
        · exact ⟨g, cap, hv, hle⟩
       subst hvs
       have hkl : i + d ≤ l.length := by omega
       generalize i + d = k at *
       have hxw : IntKind.i64.wrap (X : Int) = X := IntWalk.i64_in _ (by omega)
       have hsw : IntKind.i64.wrap ((k : Int) + X) = k + X := IntWalk.i64_in _ (by omega)
       have b1 : (0 : Int) ≤ k := by omega
       have b2 : (k : Int) + X ≤ cap := by omega
       have b3 : (k : Int) ≤ k + X := by omega
       have b4 : ((k : Int) + X - k).toNat = X := by omega
       have b5 : ((cap : Int) - k).toNat = cap - k := by omega
       have hrow := h.row
       by_cases hck : cap = k
       · obtain rfl : X = 0 := by omega
         subst hck
         clear hxw hsw b2 b3 b4 b5 hx' hx
         have hxw : IntKind.i64.wrap 0 = 0 := rfl
         have hsw : IntKind.i64.wrap (cap : Int) = cap := IntWalk.i64_in _ (by omega)
         have hx' : ¬ ((l.length - cap : Nat) : Int) < 0 := by omega
         have hcv := fun ad => qdr (holds_empty w ad 0)
         have hdl : (l.drop cap).take 0 = [] := by simp
         clear h hv hrow
         go_enter Tryz.func181, Tryz.ntmps181
         go_wp2_with (first | (go_at_call 132; refine HG.out.mono ?_; rintro e w1 ⟨rfl, rfl⟩) | (go_at_call 147; refine HL.out.mono ?_; rintro e w1 ⟨rfl, rfl⟩))
         go_ret3
         exact ⟨_, cap, 0, rfl, by omega, ⟨rfl, fun _ => ⟨by rw [hdl]; rfl, rfl⟩⟩, Keeps.refl _ _⟩
       · have b7 : ¬ ((cap : Int) = k) := by omega
         have hcv := qdr (rd_mid hrow k X (by omega) hcap)
         clear h hv hrow
         go_enter Tryz.func181, Tryz.ntmps181
         go_wp2_with (first | (go_at_call 132; refine HG.out.mono ?_; rintro e w1 ⟨rfl, rfl⟩) | (go_at_call 147; refine HL.out.mono ?_; rintro e w1 ⟨rfl, rfl⟩))
         go_ret3
         exact ⟨_, k + X, 0, by simp, by omega, ⟨rfl, fun _ => ⟨rfl, rfl⟩⟩, Keeps.refl _ _⟩
 · rw [if_neg her] at HG
   rw [if_pos her]
   have hne : (((er : Nat) : Int) == 0) = false := by simp; omega
   clear h hv
   go_enter Tryz.func181, Tryz.ntmps181
   go_wp2_with (go_at_call 132; refine HG.out.mono ?_; rintro e w1 ⟨rfl, rfl⟩)
   go_ret3
   exact ⟨_, 0, er, rfl, by omega, ⟨rfl, by omega⟩, Keeps.refl _ _⟩
theorem rdStr_err (l : List Nat) (i most er : Nat) (h : er = (rdStr l i 0 most).2.2) (he : er ≠ 0) : rdStr l i 0 most = ([], i, er) := by
 subst h
 unfold rdStr at *
 rw [if_neg (by simp)] at *
 by_cases h1 : (vgo 0 0 (l.drop i)).2.2 ≠ 0
 · rw [if_pos h1] at *
 · rw [if_neg h1] at *
   by_cases h2 : most < (vgo 0 0 (l.drop i)).1
   · rw [if_pos h2] at *
   · rw [if_neg h2] at *
     by_cases h3 : l.length - (i + (vgo 0 0 (l.drop i)).2.1) < (vgo 0 0 (l.drop i)).1
     · rw [if_pos h3] at *
     · rw [if_neg h3] at he; exact absurd rfl he
theorem wstr_any {p : Nat} {v : Value} {l : List Nat} {i x : Nat} {w : World} (h : IsRd w p v l i x) (most : Nat) (hmost : most ≤ 1000000000000) :
 Calls Tryz.prog 133 #[.pointer (some ⟨p, 0, none⟩), .int .i64 (most : Int)] w fun e w' => e = .returned (.string (strN (rdStr l i x most).1)) ∧ IsRd w' p v l (rdStr l i x most).2.1 (rdStr l i x most).2.2 ∧ Keeps (fun k => k = p) w w' := by
 obtain ⟨W1, hW1⟩ : ∃ W1, W1 = (w.alloc (.cells #[.pointer (some ⟨p, 0, none⟩)] 173)).alloc (.cells #[.int .i64 (most : Int)] 3) := ⟨_, rfl⟩
 obtain ⟨hk1, cr, cn⟩ := rd_cells hW1
 have h1 := h.keep hk1
 have hr := (wreads_any 181 Tryz.call181 #[.pointer (some ⟨w.heap.size, 0, none⟩), .pointer (some ⟨w.heap.size + 1, 0, none⟩)] _ h1 (fun _ => str1_any h1 most hmost cn cr)).mono (R' := fun e w' => e = .returned (.string (strN (rdStr l i x most).1)) ∧ IsRd w' p v l (rdStr l i x most).2.1 (rdStr l i x most).2.2 ∧ Keeps (fun k => k = p) w w') (by
  rintro e w' (⟨hx, rfl, rfl⟩ | ⟨rfl, u, ut, er, w2, ⟨he, hu⟩, hk2, hk3, hres⟩)
  · have e1 : rdStr l i x most = ([], i, x) := by unfold rdStr; rw [if_pos hx]
    rw [e1]
    exact ⟨rfl, h1, hk1.mono (fun _ _ e => e.elim)⟩
  · have hkk : Keeps (fun k => k = p) w w' := (hk1.trans hk2 (fun _ _ e => e)).mono (S' := fun k => k = p) (fun _ _ e => e.elim) |>.trans hk3 (fun _ _ e => e)
    by_cases her : er = 0
    · rw [if_pos her] at hres
      obtain ⟨rfl, hrd⟩ := hres
      obtain ⟨rfl, rfl⟩ := hu her
      rw [← he, her]
      exact ⟨rfl, hrd, hkk⟩
    · rw [if_neg her] at hres
      obtain ⟨rfl, hrd⟩ := hres
      rw [rdStr_err l i most er he her]
      exact ⟨rfl, hrd, hkk⟩)
 have HR := Hj hr; have HW1 := Hj hW1
 clear h hk1 h1 hW1 hr cr cn
 go_enter Tryz.func133, Tryz.ntmps133
 go_wp2_with (go_at_call 180; rw [← HW1.out]; refine HR.out.mono ?_; rintro e w2 ⟨rfl, hres⟩; have HRES := Hj hres; clear hres)
 go_ret
 exact ⟨rfl, HRES.out⟩
end
section
set_option maxHeartbeats 2000000
set_option maxRecDepth 100000
open Go.RowKit
def rdSecB (l : List Nat) (i : Nat) (g : Nat × Nat × Nat) : List Nat × Nat × Nat :=
 if g.2.2 ≠ 0 then ([], i, g.2.2) else
 if l.length - (i + 1 + g.2.1) < 4 + g.1 then ([], i, 3) else
 if chkO ((l.drop i).take (1 + g.2.1 + g.1 + 4)) = false then ([], i, 12) else
 ((l.drop (i + 1 + g.2.1)).take g.1, i + 1 + g.2.1 + g.1 + 4, 0)
def rdSec (l : List Nat) (i x id : Nat) : List Nat × Nat × Nat :=
 if x ≠ 0 then ([], i, x) else
 if l.length ≤ i then ([], i, 3) else
 if l.getD i 0 ≠ id then ([], i, 11) else rdSecB l i (vgo 0 0 (l.drop (i + 1)))
theorem sec1_any {p bm br : Nat} {v : Value} {l : List Nat} {i x : Nat} {w : World} (h : IsRd w p v l i x) (id : Nat) (hid : id < 256) (hT : TabC w)
 (hcm : w.cell? ⟨bm, 0, none⟩ = some (.int .u8 (id : Int))) (hcr : w.cell? ⟨br, 0, none⟩ = some (.pointer (some ⟨p, 0, none⟩))) :
 Calls Tryz.prog 146 #[.int .i64 (i : Int), .pointer (some ⟨br, 0, none⟩), .pointer (some ⟨bm, 0, none⟩)] w fun e w' => ∃ u ut er, e = .returned (.tuple #[u, .int .i64 (ut : Nat), .int .i64 (er : Nat)]) ∧ (er = 0 → ut ≤ l.length) ∧
  (er = (rdSec l i 0 id).2.2 ∧ (er = 0 → ut = (rdSec l i 0 id).2.1 ∧ w'.ownsRow w.heap.size 5 1 u (rdSec l i 0 id).1.length (u8s (rdSec l i 0 id).1))) ∧ Keeps (fun _ => False) w w' := by
 have c0 := h.c0
 have hle := h.le
 have hlen := h.len
 have HL0 := Hj (qfa h i h.le)
 unfold rdSec
 rw [if_neg (by simp)]
 by_cases hil : l.length ≤ i
 · rw [if_pos hil]
   have hz : l.length - i = 0 := by omega
   rw [hz] at HL0
   clear h
   go_enter Tryz.func146, Tryz.ntmps146
   go_wp2_with (go_at_call 147; refine HL0.out.mono ?_; rintro e w1 ⟨rfl, rfl⟩)
   go_ret3
   exact ⟨_, 0, 3, rfl, by omega, ⟨rfl, by omega⟩, Keeps.refl _ _⟩
 rw [if_neg hil]
 obtain ⟨g, cap, hvs, hcap⟩ : ∃ g cap, v = .slice (some ⟨g, 0, none⟩) l.length cap ∧ l.length ≤ cap := by
  rcases h.row.2 with ⟨hv, h0⟩ | ⟨g, cap, cur, hv, _, _, hle, _⟩
  · omega
  · exact ⟨g, cap, hv, hle⟩
 subst hvs
 have hl1 : ¬ ((l.length - i : Nat) : Int) < 1 := by omega
 have hrow := h.row
 have hhold := qaq (show w.ownsRow 0 5 1 (.slice (some ⟨g, 0, none⟩) l.length cap) (u8s l).length (u8s l) by rw [qaa]; exact hrow)
 obtain ⟨b, hb⟩ : ∃ b, b = l.getD i 0 := ⟨_, rfl⟩
 have hcell : w.cell? ⟨g, i, none⟩ = some (.int .u8 (b : Int)) := by
  obtain ⟨ad', cp', hv, _, hh⟩ := hhold
  simp only [Value.slice.injEq] at hv
  obtain ⟨rfl, _, rfl⟩ := hv
  rcases hh with hh | ⟨b', off, hb', hh⟩
  · have := congrArg List.length hh; rw [qaa] at this; simp only [List.length_nil] at this; omega
  · simp only [Option.some.injEq, Addr.mk.injEq] at hb'
    obtain ⟨rfl, rfl, -⟩ := hb'
    have hbi : l[i]? = some b := by rw [hb, List.getD_eq_getElem?_getD, List.getElem?_eq_getElem (h := by omega)]; rfl
    have := hh i (.int .u8 (b : Int)) (by unfold u8s; rw [List.getElem?_map, hbi]; rfl)
    rwa [Nat.zero_add] at this
 rw [← hb]
 have i1 : (0 : Int) ≤ i := by omega
 have i2 : (i : Int) < l.length := by omega
 by_cases hbi : b ≠ id
 · rw [if_pos hbi]
   have hbi' : ((b : Int) == (id : Int)) = false := by simp; omega
   clear h hhold hrow hb
   go_enter Tryz.func146, Tryz.ntmps146
   go_wp2_with (go_at_call 147; refine HL0.out.mono ?_; rintro e w1 ⟨rfl, rfl⟩)
   go_quiet (fail)
   go_wp2
   go_ret3
   exact ⟨_, 0, 11, rfl, by omega, ⟨rfl, by omega⟩, (Keeps.refl (fun _ => False) _).drewN _⟩
 rw [if_neg hbi]
 simp only [ne_eq, Decidable.not_not] at hbi
 subst hbi
 have HG := Hj (fun n => qgp (.slice (some ⟨g, 0, none⟩) l.length cap) l (i + 1) (w.drewN n) (hhold.keeps ((Keeps.refl (fun _ => False) w).drewN n) (fun _ _ e => e)) h.bytes (by omega) (by omega))
 have hto := vgo_len (l.drop (i + 1))
 obtain ⟨X, d, er, hv⟩ : ∃ X d er, vgo 0 0 (l.drop (i + 1)) = (X, d, er) := ⟨_, _, _, rfl⟩
 have hw1 : IntKind.i64.wrap ((i : Int) + 1) = ((i + 1 : Nat) : Int) := by rw [IntWalk.i64_in _ (by omega)]; omega
 unfold vres at HG
 rw [hv] at HG hto ⊢
 rw [List.length_drop] at hto
 simp only [] at HG hto ⊢
 unfold rdSecB
 simp only []
 by_cases her : er = 0
 · subst her
   rw [if_pos rfl] at HG
   rw [if_neg (by simp)]
   have hkl : i + 1 + d ≤ l.length := by omega
   have HL := Hj (fun n => qfa (h.keep ((Keeps.refl (fun _ => False) w).drewN n)) (i + 1 + d) hkl)
   have hk0 : i + 1 ≤ i + 1 + d := by omega
   have hdk : ∀ X, 1 + d + X + 4 = i + 1 + d + X + 4 - i := fun X => by omega
   rw [hdk X]
   clear hdk hto hv
   generalize i + 1 + d = k at *
   obtain ⟨m, hm⟩ : ∃ m, m = l.length - k := ⟨_, rfl⟩
   have hmk : k + m = l.length := by omega
   rw [← hm] at HL ⊢
   have hw2 : IntKind.i64.wrap ((m : Int) - 4) = (m : Int) - 4 := IntWalk.i64_in _ (by omega)
   by_cases hm4 : m < 4 + X
   · rw [if_pos hm4]
     by_cases hm3 : m < 4
     · have hn0 : (m : Int) - 4 < 0 := by omega
       clear h hhold hrow hb
       go_enter Tryz.func146, Tryz.ntmps146
       go_wp2_with (first | (go_at_call 147; refine HL0.out.mono ?_; rintro e w1 ⟨rfl, rfl⟩))
       go_quiet (fail)
       go_wp2_with (first | (go_at_call 132; refine (HG.out _).mono ?_; rintro e w1 ⟨rfl, rfl⟩) | (go_at_call 147; refine (HL.out _).mono ?_; rintro e w1 ⟨rfl, rfl⟩))
       go_ret3
       exact ⟨_, 0, 3, rfl, by omega, ⟨rfl, by omega⟩, (Keeps.refl (fun _ => False) _).drewN _⟩
     · have hn0 : ¬ (m : Int) - 4 < 0 := by omega
       have hw3 : IntKind.u64.wrap ((m : Int) - 4) = (m : Int) - 4 := IntWalk.u64_in _ (by omega)
       have hn1 : (m : Int) - 4 < X := by omega
       clear h hhold hrow hb
       go_enter Tryz.func146, Tryz.ntmps146
       go_wp2_with (first | (go_at_call 147; refine HL0.out.mono ?_; rintro e w1 ⟨rfl, rfl⟩))
       go_quiet (fail)
       go_wp2_with (first | (go_at_call 132; refine (HG.out _).mono ?_; rintro e w1 ⟨rfl, rfl⟩) | (go_at_call 147; refine (HL.out _).mono ?_; rintro e w1 ⟨rfl, rfl⟩))
       go_ret3
       exact ⟨_, 0, 3, rfl, by omega, ⟨rfl, by omega⟩, (Keeps.refl (fun _ => False) _).drewN _⟩
   · rw [if_neg hm4]
     have hn0 : ¬ (m : Int) - 4 < 0 := by omega
     have hw3 : IntKind.u64.wrap ((m : Int) - 4) = (m : Int) - 4 := IntWalk.u64_in _ (by omega)
     have hn1 : ¬ (m : Int) - 4 < X := by omega
     have hw4 : IntKind.i64.wrap (X : Int) = X := IntWalk.i64_in _ (by omega)
     have hw5 : IntKind.i64.wrap ((k : Int) + X) = ((k + X : Nat) : Int) := by rw [IntWalk.i64_in _ (by omega)]; omega
     generalize ht : k + X = t at *
     have hw6 : IntKind.i64.wrap ((t : Int) + 4) = ((t + 4 : Nat) : Int) := by rw [IntWalk.i64_in _ (by omega)]; omega
     have HCK := Hj (fun n => crck_any (.slice (some ⟨g, i, none⟩) (t + 4 - i) (cap - i)) ((l.drop i).take (t + 4 - i)) (w.drewN n) ((rd_mid hrow i (t + 4 - i) (by omega) hcap).keeps ((Keeps.refl (fun _ => False) w).drewN n) (fun _ _ e => e)) (fun c hc => h.bytes c (List.mem_of_mem_drop (List.mem_of_mem_take hc))) (by rw [List.length_take, List.length_drop]; omega) (hT.keeps ((Keeps.refl (fun _ => False) w).drewN n) (fun e => e)))
     have HCL := Hj (fun n => qbk (.slice (some ⟨g, k, none⟩) (t - k) (cap - k)) ((l.drop k).take X) (w.drewN n) (by rw [show X = t - k by omega]; exact (rd_mid hrow k (t - k) (by omega) hcap).keeps ((Keeps.refl (fun _ => False) w).drewN n) (fun _ _ e => e)) (by rw [List.length_take, List.length_drop]; omega))
     generalize hu : t + 4 = u at *
     have s1 : (i : Int) ≤ u := by omega
     have s2 : (u : Int) ≤ cap := by omega
     have s3 : ((u : Int) - i).toNat = u - i := by omega
     have s4 : ((cap : Int) - i).toNat = cap - i := by omega
     have s5 : ¬ (cap : Int) = i := by omega
     have s6 : (0 : Int) ≤ k := by omega
     have s7 : (k : Int) ≤ t := by omega
     have s8 : (t : Int) ≤ cap := by omega
     have s9 : ((t : Int) - k).toNat = t - k := by omega
     have s10 : ((cap : Int) - k).toNat = cap - k := by omega
     have s11 : ¬ (cap : Int) = k := by omega
     have hul : u ≤ l.length := by omega
     by_cases hck : chkO ((l.drop i).take (u - i)) = false
     · rw [if_pos hck]
       rw [hck] at HCK
       clear h hhold hrow hb
       go_enter Tryz.func146, Tryz.ntmps146
       go_wp2_with (first | (go_at_call 147; refine HL0.out.mono ?_; rintro e w1 ⟨rfl, rfl⟩))
       go_quiet (fail)
       go_wp2_with (first | (go_at_call 132; refine (HG.out _).mono ?_; rintro e w1 ⟨rfl, rfl⟩) | (go_at_call 147; refine (HL.out _).mono ?_; rintro e w1 ⟨rfl, rfl⟩) | (go_at_call 92; refine (HCK.out _).mono ?_; rintro e w1 ⟨rfl, rfl⟩))
       go_ret3
       exact ⟨_, 0, 12, rfl, by omega, ⟨rfl, by omega⟩, (Keeps.refl (fun _ => False) _).drewN _⟩
     · rw [if_neg hck]
       have hck' : chkO ((l.drop i).take (u - i)) = true := by simpa using hck
       rw [hck'] at HCK
       clear h hhold hrow hb
       go_enter Tryz.func146, Tryz.ntmps146
       go_wp2_with (first | (go_at_call 147; refine HL0.out.mono ?_; rintro e w1 ⟨rfl, rfl⟩))
       go_quiet (fail)
       go_wp2_with (first | (go_at_call 132; refine (HG.out _).mono ?_; rintro e w1 ⟨rfl, rfl⟩) | (go_at_call 147; refine (HL.out _).mono ?_; rintro e w1 ⟨rfl, rfl⟩) | (go_at_call 92; refine (HCK.out _).mono ?_; rintro e w1 ⟨rfl, rfl⟩) | (go_at_call 52; refine (HCL.out _).mono ?_; rintro e wb ⟨vb, rfl, hb, kb⟩; have RB := Hj hb; have KB := Hj kb; clear hb kb))
       go_ret3
       exact ⟨vb, u, 0, by simp, by omega, ⟨rfl, fun _ => ⟨rfl, RB.out⟩⟩, ((Keeps.refl (fun _ => False) _).drewN _).trans KB.out (fun _ _ e => e)⟩
 · rw [if_neg her] at HG
   rw [if_pos her]
   have hne : (((er : Nat) : Int) == 0) = false := by simp; omega
   clear h hv hhold hrow hb
   go_enter Tryz.func146, Tryz.ntmps146
   go_wp2_with (first | (go_at_call 147; refine HL0.out.mono ?_; rintro e w1 ⟨rfl, rfl⟩))
   go_quiet (fail)
   go_wp2_with (go_at_call 132; refine (HG.out _).mono ?_; rintro e w1 ⟨rfl, rfl⟩)
   go_ret3
   exact ⟨_, 0, er, rfl, by omega, ⟨rfl, by omega⟩, (Keeps.refl (fun _ => False) _).drewN _⟩
end
section
set_option maxHeartbeats 1000000
set_option maxRecDepth 100000
open Go.RowKit
theorem rdSec_err (l : List Nat) (i id er : Nat) (h : er = (rdSec l i 0 id).2.2) (he : er ≠ 0) : rdSec l i 0 id = ([], i, er) := by
 subst h
 unfold rdSec at *
 rw [if_neg (by simp)] at *
 by_cases h1 : l.length ≤ i
 · rw [if_pos h1]
 · rw [if_neg h1] at *
   by_cases h2 : l.getD i 0 ≠ id
   · rw [if_pos h2] at *
   · rw [if_neg h2] at *
     unfold rdSecB at *
     by_cases h3 : (vgo 0 0 (l.drop (i + 1))).2.2 ≠ 0
     · rw [if_pos h3] at *
     · rw [if_neg h3] at *
       by_cases h4 : l.length - (i + 1 + (vgo 0 0 (l.drop (i + 1))).2.1) < 4 + (vgo 0 0 (l.drop (i + 1))).1
       · rw [if_pos h4] at *
       · rw [if_neg h4] at *
         by_cases h5 : chkO ((l.drop i).take (1 + (vgo 0 0 (l.drop (i + 1))).2.1 + (vgo 0 0 (l.drop (i + 1))).1 + 4)) = false
         · rw [if_pos h5] at *
         · rw [if_neg h5] at he; exact absurd rfl he
theorem qgr {p : Nat} {v : Value} {l : List Nat} {i x : Nat} {w : World} (h : IsRd w p v l i x) (id : Nat) (hid : id < 256) (hT : TabC w) :
 Calls Tryz.prog 88 #[.pointer (some ⟨p, 0, none⟩), .int .u8 (id : Int)] w fun e w' => ∃ u, e = .returned u ∧ w'.ownsRow w.heap.size 5 1 u (rdSec l i x id).1.length (u8s (rdSec l i x id).1) ∧ IsRd w' p v l (rdSec l i x id).2.1 (rdSec l i x id).2.2 ∧ Keeps (fun k => k = p) w w' := by
 obtain ⟨W1, hW1⟩ : ∃ W1, W1 = (w.alloc (.cells #[.pointer (some ⟨p, 0, none⟩)] 173)).alloc (.cells #[.int .u8 (id : Int)] 5) := ⟨_, rfl⟩
 obtain ⟨hk1, cr, cn⟩ := rd_cells hW1
 have h1 := h.keep hk1
 have hpw := h.lt
 have hT1 := hT.keeps hk1 (fun e => e)
 have hr := (qla 146 Tryz.call146 #[.pointer (some ⟨w.heap.size, 0, none⟩), .pointer (some ⟨w.heap.size + 1, 0, none⟩)] _ h1 (fun _ => sec1_any h1 id hid hT1 cn cr)).mono (R' := fun e w' => ∃ u, e = .returned u ∧ w'.ownsRow w.heap.size 5 1 u (rdSec l i x id).1.length (u8s (rdSec l i x id).1) ∧ IsRd w' p v l (rdSec l i x id).2.1 (rdSec l i x id).2.2 ∧ Keeps (fun k => k = p) w w') (by
  rintro e w' (⟨hx, rfl, rfl⟩ | ⟨rfl, u, ut, er, w2, ⟨he, hu⟩, hk2, hk3, hres⟩)
  · have e1 : rdSec l i x id = ([], i, x) := by unfold rdSec; rw [if_pos hx]
    rw [e1]
    exact ⟨_, rfl, World.ownsRow_nil _ _ _ _, h1, hk1.mono (fun _ _ e => e.elim)⟩
  · have hkk : Keeps (fun k => k = p) w w' := (hk1.trans hk2 (fun _ _ e => e)).mono (S' := fun k => k = p) (fun _ _ e => e.elim) |>.trans hk3 (fun _ _ e => e)
    by_cases her : er = 0
    · rw [if_pos her] at hres
      obtain ⟨rfl, hrd⟩ := hres
      obtain ⟨rfl, hrow⟩ := hu her
      rw [← he, her]
      refine ⟨_, rfl, ?_, hrd, hkk⟩
      refine qao (hk3.row hrow (fun g hg e => ?_)) (fun g hg => ?_)
      · have := (hrow.lt g hg).1; have := hk1.size; omega
      · have := (hrow.lt g hg).1; have := hk1.size; omega
    · rw [if_neg her] at hres
      obtain ⟨rfl, hrd⟩ := hres
      rw [rdSec_err l i id er he her]
      exact ⟨_, rfl, World.ownsRow_nil _ _ _ _, hrd, hkk⟩)
 have HR := Hj hr; have HW1 := Hj hW1
 clear h hk1 h1 hW1 hr cr cn hT1 hpw
 go_enter Tryz.func88, Tryz.ntmps88
 go_wp2_with (go_at_call 145; rw [← HW1.out]; refine HR.out.mono ?_; rintro e w2 ⟨u, rfl, hres⟩; have HRES := Hj hres; clear hres)
 go_ret
 exact ⟨u, rfl, HRES.out⟩
end
section
open Go.RowKit
section
variable {H : Type} {enc : TypeId × Value → H} {P : Program} {w : World} {base : Nat} {sp : Nat → Bool} {held : Bool} {fuel : Nat}
theorem int_at {cs : List Value} {o c : Nat} {k : IntKind} {z : Int} {t : TypeId} {y : DataW H × List MemPlace} (ht : P.underlying t = some (.int k))
 (h : DataW.trod enc P w base sp held fuel t ((cs.drop o).take c) = some y) (h1 : c = 1) (hy : y.1 = .lit (.int k z)) : cs[o]? = some (.int k z) := by
 subst h1
 obtain ⟨n, hc, hx, _⟩ := DataW.trod_int ht h
 subst hx
 simp only [DataW.lit.injEq, Lit.int.injEq, true_and] at hy
 subst hy
 have := congrArg (·[0]?) hc
 simpa [List.getElem?_take, List.getElem?_drop] using this
end
theorem cells_form : Tryz.prog.cellsOf 109 = 3 := by kernel_rfl
theorem cells_forms : Tryz.prog.cellsOf 110 = 15 := by kernel_rfl
theorem cells_u64 : Tryz.prog.cellsOf 23 = 1 := by kernel_rfl
theorem cells_int : Tryz.prog.cellsOf 3 = 1 := by kernel_rfl
theorem qjz {H : Type} {enc : TypeId × Value → H} {w : World} {base : Nat} {sp : Nat → Bool} {held : Bool} {fuel : Nat} {cs : List Value} {o : Nat} {a b c : Int} {y : DataW H × List MemPlace}
 (h : DataW.trod enc Tryz.prog w base sp held fuel 109 ((cs.drop o).take 3) = some y) (hy : y.1 = .agg [.lit (.int .u64 a), .lit (.int .i64 b), .lit (.int .i64 c)]) :
 cs[o]? = some (.int .u64 a) ∧ cs[o + 1]? = some (.int .i64 b) ∧ cs[o + 2]? = some (.int .i64 c) := by
 obtain ⟨xs, n, rfl, rfl, hl, hlen, hf⟩ := DataW.trod_struct Tryz.underlying109 h
 match xs, hlen with
 | [y0, y1, y2], _ =>
   simp only [List.map_cons, List.map_nil, DataW.agg.injEq, List.cons.injEq, and_true] at hy
   obtain ⟨e0, e1, e2⟩ := hy
   have c0 := int_at (cs := (cs.drop o).take 3) (o := 0) Tryz.underlying23 (hf 0 _ rfl) cells_u64 e0
   have c1 := int_at (cs := (cs.drop o).take 3) (o := 1) Tryz.underlying3 (hf 1 _ rfl) cells_int e1
   have c2 := int_at (cs := (cs.drop o).take 3) (o := 2) Tryz.underlying3 (hf 2 _ rfl) cells_int e2
   simp only [List.getElem?_take, List.getElem?_drop] at c0 c1 c2
   exact ⟨by simpa using c0, by simpa using c1, by simpa using c2⟩
theorem forms_cells {H : Type} {enc : TypeId × Value → H} {w : World} {base : Nat} {sp : Nat → Bool} {held : Bool} {fuel : Nat} {cs : List Value} {p : List MemPlace}
 (h : DataW.trod enc Tryz.prog w base sp held fuel 110 cs = some (Rows.laid_tsblock_times_forms, p)) : cs = formCells.toList := by
 obtain ⟨xs, m, rfl, hx, hl, hlen, hf⟩ := DataW.trod_array Tryz.underlying110 h
 rw [cells_forms] at hl
 match xs, hlen with
 | [y0, y1, y2, y3, y4], _ =>
   simp only [Rows.laid_tsblock_times_forms, Prod.mk.injEq, DataW.agg.injEq, List.map_cons, List.map_nil, List.cons.injEq, and_true] at hx
   obtain ⟨⟨e0, e1, e2, e3, e4⟩, _⟩ := hx
   simp only [cells_form] at hf
   have f0 := qjz (cs := cs) (hf 0 (by decide)) e0.symm
   have f1 := qjz (cs := cs) (hf 1 (by decide)) e1.symm
   have f2 := qjz (cs := cs) (hf 2 (by decide)) e2.symm
   have f3 := qjz (cs := cs) (hf 3 (by decide)) e3.symm
   have f4 := qjz (cs := cs) (hf 4 (by decide)) e4.symm
   apply List.ext_getElem?
   intro i
   by_cases hi : i < 15
   · have hc : i = 0 ∨ i = 1 ∨ i = 2 ∨ i = 3 ∨ i = 4 ∨ i = 5 ∨ i = 6 ∨ i = 7 ∨ i = 8 ∨ i = 9 ∨ i = 10 ∨ i = 11 ∨ i = 12 ∨ i = 13 ∨ i = 14 := by omega
     rcases hc with rfl | rfl | rfl | rfl | rfl | rfl | rfl | rfl | rfl | rfl | rfl | rfl | rfl | rfl | rfl
     · exact f0.1
     · exact f0.2.1
     · exact f0.2.2
     · exact f1.1
     · exact f1.2.1
     · exact f1.2.2
     · exact f2.1
     · exact f2.2.1
     · exact f2.2.2
     · exact f3.1
     · exact f3.2.1
     · exact f3.2.2
     · exact f4.1
     · exact f4.2.1
     · exact f4.2.2
   · rw [List.getElem?_eq_none (by omega), List.getElem?_eq_none (by simp [formCells]; omega)]
theorem gForms : Tryz.prog.globalNamed "tsblock/times.forms" = some 0 := by kernel_rfl
theorem gFormsType : (Tryz.prog.globals[(0 : Nat)]?).map (·.type) = some 110 := by kernel_rfl
end
section
open Go.RowKit
theorem tabF_r {W : World} (h : Lib.VarReads Tryz.prog W "tsblock/times.forms" Rows.laid_tsblock_times_forms) : TabF W := by
 obtain ⟨g', t', cs, fuel, p, hg', ht', hvar, hd⟩ := h
 obtain rfl := Option.some.inj (gForms.symm.trans hg')
 obtain rfl := Option.some.inj (gFormsType.symm.trans ht')
 have hc := forms_cells hd
 unfold World.var? at hvar
 rw [gForms] at hvar
 simp only [Option.bind_some] at hvar
 split at hvar
 · rename_i cs' t fr hh
   simp only [Option.some.injEq] at hvar
   subst hvar
   exact ⟨t, fr, by rw [hh, show cs' = formCells from Array.toList_inj.1 hc]⟩
 · cases hvar
theorem tabZ_r {W : World} (h : Lib.VarReads Tryz.prog W "math/bits.deBruijn64tab" Rows.laid_math_bits_deBruijn64tab) : TabZ W := by
 obtain ⟨g', t', cs, fuel, p, hg', ht', hvar, hd⟩ := h
 obtain rfl := Option.some.inj (gDeb.symm.trans hg')
 obtain rfl := Option.some.inj (gDebType.symm.trans ht')
 have hd2 : DataW.trod (fun _ => ()) Tryz.prog W 0 (fun _ => true) false fuel 330 cs.toList = some (Lib.tabData .u8 (Lib.deBruijn64tab.map fun z : Nat => (z : Int)), p) := hd
 have hcs := Lib.cells_of_tab Tryz.underlying330 Tryz.underlying5 cells_u8z cells_deb hd2
 intro j hj
 rw [World.var?_cell gDeb hvar j, ← Array.getElem?_toList, hcs]
 have hl : Lib.deBruijn64tab.length = 64 := by decide
 simp [List.getD, hl, hj]
theorem tabC_r {W : World} (h : Lib.VarReads Tryz.prog W "tsblock/crc.table" Rows.laid_tsblock_crc_table) : TabC W := by
 obtain ⟨g', t', cs, fuel, p, hg', ht', hvar, hd⟩ := h
 obtain rfl := Option.some.inj (gCrc.symm.trans hg')
 obtain rfl := Option.some.inj (gCrcType.symm.trans ht')
 have hd2 : DataW.trod (fun _ => ()) Tryz.prog W 0 (fun _ => true) false fuel 325 cs.toList = some (Lib.tabData .u32 (crcList.map fun z : Nat => (z : Int)), p) := hd
 have hcs := Lib.cells_of_tab Tryz.underlying325 Tryz.underlying236 cells_u32z cells_crc hd2
 intro j hj
 rw [World.var?_cell gCrc hvar j, ← Array.getElem?_toList, hcs]
 simp [crcList, hj]
theorem tab3_of {W : World} {l : List (String × DataW Unit)} (h : laidMet Tryz.prog l W) (m1 : ("math/bits.deBruijn64tab", Rows.laid_math_bits_deBruijn64tab) ∈ l) (m2 : ("tsblock/crc.table", Rows.laid_tsblock_crc_table) ∈ l) (m3 : ("tsblock/times.forms", Rows.laid_tsblock_times_forms) ∈ l) : TabZ W ∧ TabF W ∧ TabC W :=
 ⟨tabZ_r (Lib.laidMet.reads h m1), tabF_r (Lib.laidMet.reads h m3), tabC_r (Lib.laidMet.reads h m2)⟩
def putCells (w : World) (g : Nat) (cs : Array Value) : World :=
 { w with heap := w.heap.modify g fun
   | .cells _ t frozen => .cells cs t frozen
   | o => o }
def qhf (w : World) : World :=
 putCells (putCells (putCells w 2 ((Lib.deBruijn64tab.map fun z : Nat => Value.int .u8 (z : Int)).toArray)) 0 formCells) 1 ((crcList.map fun z : Nat => Value.int .u32 (z : Int)).toArray)
end
end Go.Proofs.YtfpcgcbehdogjaaGreatDoor
