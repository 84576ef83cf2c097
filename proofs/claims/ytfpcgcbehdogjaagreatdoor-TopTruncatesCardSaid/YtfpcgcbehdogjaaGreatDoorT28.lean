/-
  Lemmas on which LTopTruncates rests, packed out of the texts XSecD YPie2 XVals; each for all arguments under the hypotheses it names.
-/
import Derived.Test.YtfpcgcbehdogjaaGreatDoorT27
import Derived.Defers
import Derived.Recover
namespace Go.Proofs.YtfpcgcbehdogjaaGreatDoor
section
set_option maxHeartbeats 4000000
set_option maxRecDepth 100000
open Go.RowKit Go.Shelf
def tbS : List ByteArray := [s1, sA]
def xS : Lab := (sA, s1)
def posS (s : ByteArray) : Nat := if s = s1 then 0 else 1
def mS : List Smp := [(1, 2)]
theorem qjx (w : World) (o : Obj) (k m : Nat) (cs : List Value) (te : TypeId) (c : Nat) (hl : cs.length = m * k) (hc : m ≤ c) : Rd k ((w.alloc (.cells cs.toArray te)).alloc o) (.slice (some ⟨w.heap.size, 0, none⟩) m c) m cs :=
 Rd.keeps (rd_new w k m cs te c hl hc) ((Keeps.refl (fun _ => False) _).alloc o) (fun _ _ e => e)
theorem qem (w : World) (o : Obj) (k m : Nat) (cs : List Value) (te : TypeId) (c : Nat) (hl : cs.length = m * k) (hc : m ≤ c) : Rd k ((w.alloc (.cells cs.toArray te)).alloc o).drew (.slice (some ⟨w.heap.size, 0, none⟩) m c) m cs :=
 Rd.keeps (qjx w o k m cs te c hl hc) (Keeps.refl (fun _ => False) _).drew (fun _ _ e => e)
theorem qgs (w : World) (o : Obj) (k m : Nat) (cs : List Value) (te : TypeId) (c : Nat) (hl : cs.length = m * k) (hc : m ≤ c) : Rd k ((w.alloc o).alloc (.cells cs.toArray te)).drew (.slice (some ⟨w.heap.size + 1, 0, none⟩) m c) m cs :=
 Rd.keeps (qjs w o k m cs te c hl hc) (Keeps.refl (fun _ => False) _).drew (fun _ _ e => e)
theorem qbf {S : Nat → Prop} {a b c : World} (h : Keeps S a b) (hg : b.grownBy c none) : Keeps S a c := h.grown hg (fun k hk e => by cases e)
def onlyN (Q : Exit → Act → World → Prop) : Exit → Act → World → Prop
 | .normal, a, w => Q .normal a w
 | _, _, _ => False
theorem wp_onlyN {P : Program} {c : Code} {Q : Exit → Act → World → Prop} {a : Act} {w : World} (h : c.wp P (onlyN Q) a w) : c.wp P Q a w := wp_mono h (fun e a w h => by
 cases e <;> first | exact h | exact False.elim h)
theorem door_ok (p q : Value) (w : World) : CallsD Tryz.prog 72 #[p, q] .returning w fun e u' w' => e = .returned (.tuple #[]) ∧ u' = .returning ∧ w' = w := by
 refine callsD_of_wpS Tryz.func72 rfl fun c₀ cs hu => ?_
 apply wpS_region
 simp [wpOpsS, go_sem, recoverD, hu, Tryz.ntmps72]
 refine (caught_ok p q w).mono ?_
 rintro e w' ⟨rfl, rfl⟩
 cases c₀
 simp_all [bodyPostS, results, Tryz.results72]
theorem fitS : FitS mS := fun x hx => by
 simp only [mS, List.mem_singleton] at hx
 subst hx
 refine ⟨by simp [inI], by decide, by decide⟩
theorem keyS : ∃ kl, keyOf Tryz.prog 94 (oneL xS) = some kl := Option.isSome_iff_exists.1 (by kernel_rfl)
theorem sym_vals : vgo 0 0 [2, 1, 49, 1, 97] = (tbS.length, 1, 0) := by kernel_rfl
theorem sym_rd : ∀ i, i < tbS.length → rdStr ([2, 1, 49, 1, 97].drop 1) (2 * i) 0 65535 = ([([49] : List Nat), [97]].getD i [], 2 * (i + 1), 0) := fun i hi => by
 have : i = 0 ∨ i = 1 := by simp [tbS] at hi; omega
 rcases this with rfl | rfl <;> first | rfl | decide
theorem sym_tb : ∀ i, i < tbS.length → tbS[i]? = some (strN ([([49] : List Nat), [97]].getD i [])) := fun i hi => by
 have : i = 0 ∨ i = 1 := by simp [tbS] at hi; omega
 rcases this with rfl | rfl <;> first | rfl | decide
theorem sym_asc : ∀ i x y, tbS[i]? = some x → tbS[i + 1]? = some y → Op.bytesLess x.toList y.toList = true := fun i x y hx hy => by
 cases i with
 | zero => simp [tbS] at hx hy; subst hx hy; kernel_rfl
 | succ i => simp [tbS] at hy
theorem secdec_small (v0 v1 v2 v3 : Value) (w : World) (h0 : Holds w v0 (u8s [2, 1, 49, 1, 97])) (h1 : Holds w v1 (u8s [1, 1, 1, 0, 1, 18])) (h2 : Holds w v2 (u8s (chunkC mS))) (h3 : Holds w v3 (u8s [1, 1, 0, 1, 0])) (hT : TabZ w) (hF : TabF w) :
 Calls Tryz.prog 36 #[.agg #[v0, v1, v2, v3]] w fun e w' => ∃ v hd, e = .returned (.tuple #[v, .int .i64 0]) ∧ RdB w' v [hd] [([xS], mS)] ∧ Keeps (fun _ => False) w w' := by
 obtain ⟨a0, n0, c0, rfl⟩ : ∃ d n p, v0 = .slice d n p := by obtain ⟨d, p, h, _⟩ := h0; exact ⟨d, _, p, h⟩
 obtain ⟨a1, n1, c1, rfl⟩ : ∃ d n p, v1 = .slice d n p := by obtain ⟨d, p, h, _⟩ := h1; exact ⟨d, _, p, h⟩
 obtain ⟨a2, n2, c2, rfl⟩ : ∃ d n p, v2 = .slice d n p := by obtain ⟨d, p, h, _⟩ := h2; exact ⟨d, _, p, h⟩
 obtain ⟨a3, n3, c3, rfl⟩ : ∃ d n p, v3 = .slice d n p := by obtain ⟨d, p, h, _⟩ := h3; exact ⟨d, _, p, h⟩
 have hmf : ∀ (fn : Fn) (first cap : Array Value) (w : World), (Instr.makeFunc fn first cap).run Tryz.prog w = .ok (.func fn first cap) w := fun _ _ _ _ => rfl
 go_enter_defers Tryz.func36, Tryz.ntmps36
 go_upto_region 2 with fail
 obtain ⟨W0, hW0⟩ : ∃ W0, W0 = ((w.alloc (.cells #[.slice a0 n0 c0, .slice a1 n1 c1, .slice a2 n2 c2, .slice a3 n3 c3] 75)).alloc (.cells #[.slice none 0 0] 37)).alloc (.cells #[.int .i64 0] 30) := ⟨_, rfl⟩
 have hk0 : Keeps (fun _ => False) w W0 := by rw [hW0]; exact (((Keeps.refl _ _).alloc _).alloc _).alloc _
 have hz0 : W0.heap.size = w.heap.size + 3 := by rw [hW0]; simp
 have hp0 : W0.heap[w.heap.size]? = some (.cells #[.slice a0 n0 c0, .slice a1 n1 c1, .slice a2 n2 c2, .slice a3 n3 c3] 75 (0, 0)) := by rw [hW0]; exact heap_alloc _ (heap_alloc _ (heap_alloc_new w _))
 have hq0 : W0.heap[w.heap.size + 1]? = some (.cells #[.slice none 0 0] 37 (0, 0)) := by
  rw [hW0]
  have := heap_alloc_new (w.alloc (.cells #[.slice a0 n0 c0, .slice a1 n1 c1, .slice a2 n2 c2, .slice a3 n3 c3] 75)) (.cells #[.slice none 0 0] 37)
  rw [World.size_alloc] at this
  exact heap_alloc _ this
 have hr0 : W0.heap[w.heap.size + 2]? = some (.cells #[.int .i64 0] 30 (0, 0)) := by
  rw [hW0]
  have := heap_alloc_new ((w.alloc (.cells #[.slice a0 n0 c0, .slice a1 n1 c1, .slice a2 n2 c2, .slice a3 n3 c3] 75)).alloc (.cells #[.slice none 0 0] 37)) (.cells #[.int .i64 0] 30)
  rw [World.size_alloc, World.size_alloc] at this
  exact this
 rw [← hW0]
 have HS := Hj (symdec_any tbS (fun i => 2 * i) (fun i => [([49] : List Nat), [97]].getD i []) (h0.keeps hk0 (fun _ _ e => e)) (by decide) (by decide) sym_vals (by decide) (by decide) rfl sym_rd sym_tb sym_asc (by decide))
 have d0 : W0.cell? ⟨w.heap.size, 0, none⟩ = some (.slice a0 n0 c0) := by rw [cell_of_row _ _ _ _ _ _ hp0]; rfl
 have HK0 := Hj hk0; have HZ0 := Hj hz0; have HP0 := Hj hp0; have HQ0 := Hj hq0; have HR0 := Hj hr0
 have H1 := Hj h1; have H2 := Hj h2; have H3 := Hj h3; have HTZ := Hj hT; have HTF := Hj hF
 clear hW0 hk0 hz0 hp0 hq0 hr0 h0 h1 h2 h3 hT hF hmf
 have hmu := mustT_ok
 go_upto_region 3 with (first
  | (go_at_call 75; refine HS.out.mono ?_; rintro e w1 ⟨v4, rfl, ho4, hk1⟩; obtain ⟨g4, c4, rfl⟩ := ownsRow_succ (k := 1) ho4)
  | (go_at_call 74; refine (hmu _ _).mono ?_; rintro e wq ⟨rfl, hwq⟩; obtain rfl := hwq.symm))
 clear hmu d0 HS
 have hmr := mustR_ok
 have ht1 : RdT w1 (.slice (some ⟨g4, 0, none⟩) tbS.length c4) tbS := rd_row ho4
 have HT1 := Hj ht1
 have HRD := Hj (recdec_one (i := 1) (j := 2) (k := 1) (j2 := 3) (k2 := 0) (j3 := 4) (j4 := 5) (n := 18) (s := sA) (s2 := s1) ht1 (H1.out.keeps (HK0.out.trans hk1 (fun _ _ e => e)) (fun _ _ e => e)) (by decide) (by decide) (by kernel_rfl) (by decide) (by kernel_rfl) (by decide) (by kernel_rfl) rfl (by kernel_rfl) rfl (by decide) (by kernel_rfl) (by decide) (by kernel_rfl) (by decide) (by decide))
 have d1 : w1.cell? ⟨w.heap.size, 1, none⟩ = some (.slice a1 n1 c1) := by rw [cell_of_row _ _ _ _ _ _ (hk1.heap HP0.out (fun e => e))]; rfl
 have HK1 := Hj hk1; have HO4 := Hj ho4
 clear hk1 ho4 ht1
 go_upto_region 4 with (first
  | (go_at_call 77; refine HRD.out.mono ?_; rintro e w2 ⟨v5, l5, i5, rfl, ho5, hl5, hi5, hk2⟩; obtain ⟨g5, c5, rfl⟩ := ownsRow_succ (k := 0) ho5)
  | (go_at_call 76; refine (hmr _ _).mono ?_; rintro e wq ⟨rfl, hwq⟩; obtain rfl := hwq.symm))
 clear hmr d1 HRD
 obtain ⟨la, lc, rfl⟩ := qac hl5
 obtain ⟨ia, ic, rfl⟩ := qac hi5
 have ho4b := hk2.row HO4.out (fun _ _ e => e)
 have t1 := ho4b.cells (g := g4) rfl 0 _ rfl
 have t2 := ho4b.cells (g := g4) rfl 1 _ rfl
 have r1 := ho5.cells (g := g5) rfl 0 _ rfl
 have r2 := ho5.cells (g := g5) rfl 1 _ rfl
 rw [qbn] at t1 t2 r1 r2
 have HUN := Hj (unused_small g4 0 c4 g5 0 c5 la lc ia ic w2 t1 t2 r1 r2 (rd_row hl5))
 have HK2 := Hj hk2; have HO5 := Hj ho5; have HL5 := Hj hl5; have HI5 := Hj hi5
 clear t1 t2 r1 r2 ho4b hk2 ho5 hl5 hi5
 go_wp2_with (go_at_call 78; refine HUN.out.mono ?_; rintro e w3 ⟨rfl, hk3⟩)
 have HK3 := Hj hk3
 clear hk3 HUN
 go_loopw [6, 7, 33] (fun c d i wr => (c = .slice none 0 0 ∧ d = .slice none 0 0 ∧ i = .int .i64 0 ∧ wr = w3) ∨ (i = .int .i64 1 ∧ Hid (wr.ownsRow W0.heap.size 125 1 c 1 [.slice ia 1 ic]) ∧ Hid (wr.ownsRow W0.heap.size 95 1 d 1 [.slice la 1 lc]) ∧ Hid (Keeps (fun _ => False) w3 wr))) (fun _ _ i _ => 1 - (intOf i).toNat)
 case atStart => exact .inl ⟨rfl, rfl, rfl, rfl⟩
 case round =>
  rcases hrel with ⟨rfl, rfl, rfl, hwr⟩ | ⟨rfl, HC6, HC7, HKr⟩
  · obtain rfl := hwr.symm
    have ho5b := HK3.out.row HO5.out (fun _ _ e => e)
    have r1 := ho5b.cells (g := g5) rfl 0 _ rfl
    have r2 := ho5b.cells (g := g5) rfl 1 _ rfl
    rw [qbn] at r1 r2
    have r1' : w3.cell? ⟨g5, 0, none⟩ = some (.slice la 1 lc) := r1
    have r2' : w3.cell? ⟨g5, 1, none⟩ = some (.slice ia 1 ic) := r2
    clear r1 r2 ho5b
    go_upto_region 11 with fail
    clear r1' r2'
    obtain ⟨W4, hW4⟩ : ∃ W4, W4 = w3.alloc (.cells #[.slice la 1 lc, .slice ia 1 ic] 127) := ⟨_, rfl⟩
    have hk4 : Keeps (fun _ => False) w3 W4 := by rw [hW4]; exact (Keeps.refl _ _).alloc _
    have hr4 : W4.heap[w3.heap.size]? = some (.cells #[.slice la 1 lc, .slice ia 1 ic] 127 (0, 0)) := by rw [hW4]; exact heap_alloc_new w3 _
    rw [← hW4]
    have x0 : W4.cell? ⟨w3.heap.size, 0, none⟩ = some (.slice la 1 lc) := by rw [cell_of_row _ _ _ _ _ _ hr4]; rfl
    have x1 : W4.cell? ⟨w3.heap.size, 1, none⟩ = some (.slice ia 1 ic) := by rw [cell_of_row _ _ _ _ _ _ hr4]; rfl
    have CC : Hid (∀ q, Keeps (fun _ => False) W4 q → q.cell? ⟨w3.heap.size, 1, none⟩ = some (.slice ia 1 ic) ∧ q.cell? ⟨w3.heap.size, 0, none⟩ = some (.slice la 1 lc)) := Hj (fun q hq => ⟨hq.cell x1 (fun e => e), hq.cell x0 (fun e => e)⟩)
    have K0 : Hid (Keeps (fun _ => False) W4 W4.drew) := Hj (Keeps.refl _ _).drew
    have hsz : W0.heap.size ≤ W4.heap.size := by have := HK1.out.size; have := HK2.out.size; have := HK3.out.size; have := hk4.size; omega
    have HK4 := Hj hk4
    clear hW4 hk4 hr4 x0 x1
    go_region_held3 (fun q => q.cell? ⟨w3.heap.size, 1, none⟩ = some (.slice ia 1 ic) ∧ q.cell? ⟨w3.heap.size, 0, none⟩ = some (.slice la 1 lc)) (first | exact CC.out _ K0.out | exact CC.out _ (K0.out.alloc _) | exact CC.out _ ((K0.out.alloc _).alloc _) | exact CC.out _ K9.out | exact CC.out _ K8.out | exact CC.out _ (K8.out.alloc _)) (first
     | (refine sappE elIs rfl _ _ rfl W0.heap.size _ _ 0 1 [] [.slice ia 1 ic] rfl rfl (World.ownsRow_nil _ _ _ _) (by first | exact rd_new _ 1 1 [.slice ia 1 ic] 125 1 rfl (Nat.le_refl _) | exact qem W4 _ 1 1 [.slice ia 1 ic] 125 1 rfl (Nat.le_refl _) | exact qgs W4 _ 1 1 [.slice ia 1 ic] 125 1 rfl (Nat.le_refl _) | exact Rd.keeps (qem W4 _ 1 1 [.slice ia 1 ic] 125 1 rfl (Nat.le_refl _)) (qbf (Keeps.refl (fun _ => False) _) HG8.out) (fun _ _ e => e) | exact Rd.keeps (qgs W4 _ 1 1 [.slice ia 1 ic] 125 1 rfl (Nat.le_refl _)) (qbf (Keeps.refl (fun _ => False) _) HG8.out) (fun _ _ e => e) | exact qjx _ _ 1 1 [.slice ia 1 ic] 125 1 rfl (Nat.le_refl _) | exact qjs _ _ 1 1 [.slice ia 1 ic] 125 1 rfl (Nat.le_refl _)) (by simp [Value.oneCell']) (by omega) (by simp; omega) ?_
        intro v8 w8 hown8 hg8 hn8
        have HO8 := Hj hown8
        have HG8 := Hj hg8
        have K8 : Hid (Keeps (fun _ => False) W4 w8) := Hj (by first | exact qbf (K0.out.alloc _) hg8 | exact qbf ((K0.out.alloc _).alloc _) hg8)
        clear hown8 hg8 hn8)
     | (refine sappE elLs rfl _ _ rfl W0.heap.size _ _ 0 1 [] [.slice la 1 lc] rfl rfl (World.ownsRow_nil _ _ _ _) (by first | exact rd_new _ 1 1 [.slice la 1 lc] 95 1 rfl (Nat.le_refl _) | exact qem W4 _ 1 1 [.slice la 1 lc] 95 1 rfl (Nat.le_refl _) | exact qgs W4 _ 1 1 [.slice la 1 lc] 95 1 rfl (Nat.le_refl _) | exact Rd.keeps (qem W4 _ 1 1 [.slice la 1 lc] 95 1 rfl (Nat.le_refl _)) (qbf (Keeps.refl (fun _ => False) _) HG8.out) (fun _ _ e => e) | exact Rd.keeps (qgs W4 _ 1 1 [.slice la 1 lc] 95 1 rfl (Nat.le_refl _)) (qbf (Keeps.refl (fun _ => False) _) HG8.out) (fun _ _ e => e) | exact Rd.keeps (rd_new _ 1 1 [.slice la 1 lc] 95 1 rfl (Nat.le_refl _)) (qbf (Keeps.refl (fun _ => False) _) HG8.out) (fun _ _ e => e) | exact Rd.keeps (qjs _ _ 1 1 [.slice la 1 lc] 95 1 rfl (Nat.le_refl _)) (qbf (Keeps.refl (fun _ => False) _) HG8.out) (fun _ _ e => e) | exact Rd.keeps (qjx _ _ 1 1 [.slice la 1 lc] 95 1 rfl (Nat.le_refl _)) (qbf (Keeps.refl (fun _ => False) _) HG8.out) (fun _ _ e => e)) (by simp [Value.oneCell']) (by omega) (by have := K8.out.size; simp; omega) ?_
        intro v9 w9 hown9 hg9 hn9
        have HO9 := Hj hown9
        have K89 : Hid (Keeps (fun _ => False) w8 w9) := Hj (by first | exact qbf (Keeps.refl _ _) hg9 | exact qbf ((Keeps.refl _ _).alloc _) hg9)
        have K9 : Hid (Keeps (fun _ => False) W4 w9) := Hj (K8.out.trans K89.out (fun _ _ e => e))
        clear hown9 hg9 hn9))
    all_goals (
     obtain ⟨a8, c8, rfl⟩ := qac HO8.out
     obtain ⟨a9, c9, rfl⟩ := qac HO9.out
     go_wp2_with fail
     exact ⟨.inr ⟨rfl, Hj (K89.out.row HO8.out (fun _ _ e => e)), HO9, Hj (HK4.out.trans K9.out (fun _ _ e => e))⟩, by simp [intOf]⟩)
  · obtain ⟨g6, q6, rfl⟩ := ownsRow_succ (k := 0) HC6.out
    obtain ⟨g7, q7, rfl⟩ := ownsRow_succ (k := 0) HC7.out
    have hk03 : Keeps (fun _ => False) W0 wr := ((HK1.out.trans HK2.out (fun _ _ e => e)).trans HK3.out (fun _ _ e => e)).trans HKr.out (fun _ _ e => e)
    have hkw : Keeps (fun _ => False) w wr := HK0.out.trans hk03 (fun _ _ e => e)
    have hk2r : Keeps (fun _ => False) w2 wr := HK3.out.trans HKr.out (fun _ _ e => e)
    have z6 := HC6.out.cells (g := g6) rfl 0 _ rfl
    have z7 := HC7.out.cells (g := g7) rfl 0 _ rfl
    rw [qbn] at z6 z7
    have hlen : (chunkC mS).length = 18 := by kernel_rfl
    have hri : RdI wr (.slice ia 1 ic) [(chunkC mS).length] := by rw [hlen]; exact rd_row (hk2r.row HI5.out (fun _ _ e => e))
    have HCH := Hj (chunksdec_one (.slice a2 n2 c2) g6 0 q6 ia ic mS wr (H2.out.keeps hkw (fun _ _ e => e)) (by rw [hlen]; decide) z6 hri rfl (by kernel_rfl) fitS (HTZ.out.keeps hkw (fun e => e)) (HTF.out.keeps hkw (fun e => e)))
    have y2 : wr.cell? ⟨w.heap.size, 2, none⟩ = some (.slice a2 n2 c2) := by rw [cell_of_row _ _ _ _ _ _ (hk03.heap HP0.out (fun e => e))]; rfl
    have HK03 := Hj hk03; have HKW := Hj hkw; have HK2R := Hj hk2r
    have hms := mustS_ok
    clear hk03 hkw hk2r z6 z7 hlen hri
    go_wp2_with (first
     | (go_at_call 81; refine HCH.out.mono ?_; rintro e w5 ⟨v8, u8, rfl, ho8, hu8, hk5⟩; obtain ⟨g8, q8, rfl⟩ := ownsRow_succ (k := 0) ho8; obtain ⟨ua, uc, rfl⟩ := qac hu8)
     | (go_at_call 80; refine (hms _ _).mono ?_; rintro e wq ⟨rfl, hwq⟩; obtain rfl := hwq.symm))
    clear hms y2 HCH
    have hml : mS.length = 1 := rfl
    rw [hml] at ho8 hu8
    have HK5 := Hj hk5; have HO8 := Hj ho8; have HU8 := Hj hu8
    have HC75 := Hj (hk5.row HC7.out (fun _ _ e => e))
    have HK05 := Hj (HK03.out.trans hk5 (fun _ _ e => e))
    clear hk5 ho8 hu8
    go_loopw [56] (fun i wr2 => (i = .int .i64 0 ∧ wr2 = w5) ∨ (i = .int .i64 1 ∧ ∃ u, Hid (wr2.heap[w.heap.size + 1]? = some (.cells #[u] 37 (0, 0))) ∧ Hid (wr2.ownsRow W0.heap.size 97 2 u 1 [.slice la 1 lc, .slice ua 1 uc]) ∧ Hid (Keeps (fun k => k = w.heap.size + 1) w5 wr2))) (fun i _ => 1 - (intOf i).toNat)
    case atStart => exact .inl ⟨rfl, rfl⟩
    case round =>
     have hz0 := HZ0.out
     rcases hrel with ⟨rfl, hwr⟩ | ⟨rfl, u, HT2, HTO, HKr2⟩
     · obtain rfl := hwr.symm
       have m8 := HO8.out.cells (g := g8) rfl 0 _ rfl
       rw [qbn] at m8
       have m8' : w5.cell? ⟨g8, 0, none⟩ = some (.slice ua 1 uc) := m8
       clear m8
       go_upto_region 16 with fail
       clear m8'
       have x7 := HC75.out.cells (g := g7) rfl 0 _ rfl
       rw [qbn] at x7
       have x7' : w5.cell? ⟨g7, 0, none⟩ = some (.slice la 1 lc) := x7
       have hg7 : W0.heap.size ≤ g7 := (HC75.out.lt g7 rfl).1
       have CC : Hid (∀ q, Keeps (fun k => k = w.heap.size + 1) w5 q → q.cell? ⟨g7, 0, none⟩ = some (.slice la 1 lc)) := Hj (fun q hq => hq.cell x7' (by simp only; omega))
       have K0 : Hid (Keeps (fun k => k = w.heap.size + 1) w5 w5.drew) := Hj (Keeps.refl _ _).drew
       have hr5 := HK05.out.heap HQ0.out (fun e => e)
       have HR5 := Hj hr5
       have d5 : w5.cell? ⟨w.heap.size + 1, 0, none⟩ = some (.slice none 0 0) := by rw [cell_of_row _ _ _ _ _ _ hr5]; rfl
       have hsz5 : W0.heap.size ≤ w5.heap.size := HK05.out.size
       clear hr5 x7
       have l2 : w5.drew.cell? ⟨g7, 0, none⟩ = some (.slice la 1 lc) := x7'
       have r2 : w5.drew.cell? ⟨w.heap.size + 1, 0, none⟩ = some (.slice none 0 0) := d5
       have r3 : (w5.alloc (.cells #[.slice la 1 lc, .slice ua 1 uc] 97)).cell? ⟨w.heap.size + 1, 0, none⟩ = some (.slice none 0 0) := ((Keeps.refl (fun _ => False) w5).alloc _).cell d5 (fun e => e)
       refine wp_onlyN ?_
       go_region_law (first
        | (refine sappE elX rfl _ _ rfl W0.heap.size _ _ 0 1 [] [.slice la 1 lc, .slice ua 1 uc] rfl rfl (World.ownsRow_nil _ _ _ _) (rd_new _ 2 1 [.slice la 1 lc, .slice ua 1 uc] 97 1 rfl (Nat.le_refl _)) (by simp [Value.oneCell']) (by omega) (by simp; omega) ?_
           intro v9 w9 hown9 hg9 hn9
           have K8 : Hid (Keeps (fun k => k = w.heap.size + 1) w5 w9) := Hj (qbf (K0.out.alloc _) hg9)
           have K8f : Hid (Keeps (fun _ => False) w5 w9) := Hj (qbf (((Keeps.refl (fun _ => False) w5).drew).alloc _) hg9)
           obtain ⟨a9, q9, rfl⟩ := qac hown9
           have d9 : w9.cell? ⟨w.heap.size + 1, 0, none⟩ = some (.slice none 0 0) := K8f.out.cell d5 (fun e => e)
           have f9 : w9.frozen? ⟨w.heap.size + 1, 0, none⟩ = false := frozen_of_row _ _ _ _ _ (K8f.out.heap HR5.out (fun e => e))
           have K9 : Hid (Keeps (fun k => k = w.heap.size + 1) w5 (w9.setCell ⟨w.heap.size + 1, 0, none⟩ (.slice a9 (0 + 1) q9))) := Hj (K8.out.setCell (p := ⟨w.heap.size + 1, 0, none⟩) (fun _ => rfl) _)
           have HO9 := Hj hown9
           clear hown9 hg9 hn9))
       all_goals (
        obtain ⟨WB, hWB⟩ : ∃ WB, WB = (w9.setCell ⟨w.heap.size + 1, 0, none⟩ (.slice a9 1 q9)) := ⟨_, rfl⟩
        have hrB : (w9.setCell ⟨w.heap.size + 1, 0, none⟩ (.slice a9 1 q9)).heap[w.heap.size + 1]? = some (.cells #[.slice a9 1 q9] 37 (0, 0)) := (heap_setCell_same w9 (w.heap.size + 1) 0 _ _ (.slice a9 1 q9) (K8f.out.heap HR5.out (fun e => e))).trans rfl
        rw [← hWB] at hrB
        have hkB : Keeps (fun k => k = w.heap.size + 1) w5 WB := by rw [hWB]; exact K9.out
        have hgB : ∀ g, (Value.slice a9 1 q9).ownBlock = some g → g ≠ w.heap.size + 1 := fun g hg => by have := (HO9.out.lt g hg).1; omega
        have hoB : WB.ownsRow W0.heap.size 97 2 (.slice a9 1 q9) 1 [.slice la 1 lc, .slice ua 1 uc] := by rw [hWB]; exact ((Keeps.refl (fun k => k = w.heap.size + 1) w9).setCell (p := ⟨w.heap.size + 1, 0, none⟩) (fun _ => rfl) _).row HO9.out (fun g hg e => hgB g hg e)
        have HRB := Hj hrB; have HKB := Hj hkB; have HOB := Hj hoB
        first | rw [← hWB] | skip
        clear hrB hkB hgB hoB
        simp only [onlyN]
        go_wp2_with fail
        first | rw [← hWB] | skip
        exact ⟨.inr ⟨rfl, _, HRB, HOB, HKB⟩, by simp [intOf]⟩)
     · have hkw5 : Keeps (fun _ => False) w w5 := HK0.out.trans HK05.out (fun _ _ e => e)
       have hk2w : Keeps (fun k => k = w.heap.size + 1) w5 wr := HKr2.out
       have hsz5 : W0.heap.size ≤ w5.heap.size := HK05.out.size
       have hkF : Keeps (fun _ => False) w wr := hkw5.trans hk2w (fun k hk e => by omega)
       obtain ⟨a9, q9, rfl⟩ := qac HTO.out
       have t2c : wr.cell? ⟨w.heap.size + 1, 0, none⟩ = some (.slice a9 1 q9) := by rw [cell_of_row _ _ _ _ _ _ HT2.out]; rfl
       have t2f : wr.frozen? ⟨w.heap.size + 1, 0, none⟩ = false := frozen_of_row _ _ _ _ _ HT2.out
       have hL5 := hk2w.row (HK5.out.row (HK2R.out.row HL5.out (fun _ _ e => e)) (fun _ _ e => e)) (fun g hg e => by have := (HL5.out.lt g hg).1; have := HK1.out.size; omega)
       have hU8 := hk2w.row HU8.out (fun g hg e => by have := (HU8.out.lt g hg).1; have := HK03.out.size; omega)
       have hrdb : RdB wr (.slice a9 1 q9) [⟨la, 1, lc, ua, 1, uc⟩] [([xS], mS)] := ⟨rfl, rd_row HTO.out, fun i h r hi hr => by
        cases i with
        | zero =>
          simp only [List.getElem?_cons_zero, Option.some.injEq] at hi hr
          subst hi hr
          exact ⟨rd_row hL5, rd_row hU8⟩
        | succ i => simp at hi⟩
       have HCK := Hj (show Calls Tryz.prog 61 #[.slice a9 1 q9] wr (fun e w' => e = .returned (.int .i64 0) ∧ Below wr.heap.size wr w') from by
        have := qks _ _ _ wr hrdb (by simp) (by decide) (fun y hy => by simp only [List.mem_singleton] at hy; subst hy; exact ⟨by simp, by decide⟩)
        rwa [show modE [([xS], mS)] = 0 by kernel_rfl] at this)
       have HRDB := Hj hrdb; have HKF := Hj hkF; have HLA := Hj (show RdL wr (.slice la 1 lc) [xS] from rd_row hL5)
       have HT4 : Hid (RdT wr (.slice (some ⟨g4, 0, none⟩) tbS.length c4) tbS) := Hj (by
        have k1 : Keeps (fun _ => False) w1 w5 := (HK2.out.trans HK2R.out (fun _ _ e => e)).trans HK5.out (fun _ _ e => e)
        exact Rd.keeps (Rd.keeps HT1.out k1 (fun _ _ e => e)) hk2w (fun g hg e => by have := (HO4.out.lt g hg).1; omega))
       have HC7w := Hj (hk2w.row HC75.out (fun g hg e => by have := (HC75.out.lt g hg).1; omega))
       have y3 : wr.cell? ⟨w.heap.size, 3, none⟩ = some (.slice a3 n3 c3) := by rw [cell_of_row _ _ _ _ _ _ (hk2w.heap (HK05.out.heap HP0.out (fun e => e)) (by omega))]; rfl
       have HE3 := Hj (hk2w.heap (HK05.out.heap HR0.out (fun e => e)) (by omega))
       have HTT := Hj HT2.out
       have HPD : Hid (∀ q, Keeps (fun _ => False) wr q → Calls Tryz.prog 84 #[.slice (some ⟨g4, 0, none⟩) 2 c4, .int .i64 1, .slice a3 n3 c3] q fun e w' => ∃ v' v2, e = .returned (.tuple #[v', .int .i64 0]) ∧ w'.ownsRow q.heap.size 229 3 v' 1 [.string sA, .string s1, v2] ∧ w'.ownsRow q.heap.size 3 1 v2 1 [.int .i64 0] ∧ Keeps (fun _ => False) q w') := Hj (fun q hq =>
        postdec_one (tb := tbS) (i := 1) (k := 1) (j2 := 2) (k2 := 0) (j3 := 3) (j4 := 4) (s := sA) (s2 := s1) (Rd.keeps HT4.out hq (fun _ _ e => e)) (H3.out.keeps (HKF.out.trans hq (fun _ _ e => e)) (fun _ _ e => e)) (by decide) (by decide) (by kernel_rfl) (by decide) (by kernel_rfl) rfl (by kernel_rfl) rfl (by decide) (by kernel_rfl) (by decide) (by kernel_rfl))
       have HBD : Hid (∀ q, Keeps (fun _ => False) wr q → Calls Tryz.prog 68 #[.slice (some ⟨g7, 0, none⟩) 1 q7] q fun e w' => ∃ v' hd, e = .returned v' ∧ RdE w' v' [hd] [(xS, [0])] ∧ Keeps (fun _ => False) q w') := Hj (fun q hq =>
        build_one (some ⟨g7, 0, none⟩) la q7 lc xS _ q keyS.choose_spec (Rd.keeps (rd_row HC7w.out) hq (fun _ _ e => e)) (HLA.out.below hq.toBelow))
       have HFA : Hid (∀ q, Keeps (fun _ => False) wr q → (q.cell? ⟨w.heap.size + 1, 0, none⟩ = some (.slice a9 1 q9) ∧ q.frozen? ⟨w.heap.size + 1, 0, none⟩ = false) ∧ (q.cell? ⟨w.heap.size + 2, 0, none⟩ = some (.int .i64 0) ∧ q.frozen? ⟨w.heap.size + 2, 0, none⟩ = false) ∧ q.cell? ⟨w.heap.size, 3, none⟩ = some (.slice a3 n3 c3)) := Hj (fun q hq => ⟨⟨hq.cell t2c (fun e => e), frozen_of_row _ _ _ _ _ (hq.heap HTT.out (fun e => e))⟩, ⟨by rw [cell_of_row _ _ _ _ _ _ (hq.heap HE3.out (fun e => e))]; rfl, frozen_of_row _ _ _ _ _ (hq.heap HE3.out (fun e => e))⟩, hq.cell y3 (fun e => e)⟩)
       have hnd := qjq
       have hmp := mustP_ok
       have HLW := Hj hL5; have HUW := Hj hU8
       clear hkw5 hk2w hkF hL5 hU8 hrdb y3 t2f
       go_wp2_with (first
        | (go_at_call 61
           refine HCK.out.mono ?_
           rintro e w6 ⟨rfl, hb6⟩
           have K6 := Hj hb6.toKeeps
           have f6 := (HFA.out _ K6.out).1.1
           have f63 := (HFA.out _ K6.out).2.2
           have HP6 := Hj (HPD.out _ K6.out)
           clear hb6)
        | (go_at_call 79; refine (hnd _).mono ?_; rintro e wq ⟨rfl, hwq⟩; obtain rfl := hwq.symm)
        | (go_at_call 84
           refine HP6.out.mono ?_
           rintro e w7 ⟨vp, vi, rfl, hop, hoi, hk7⟩
           have K7 := Hj (K6.out.trans hk7 (fun _ _ e => e))
           have HB7 := Hj (HBD.out _ K7.out)
           have HOP := Hj hop; have HOI := Hj hoi
           clear hop hoi hk7)
        | (go_at_call 83; refine (hmp _ _).mono ?_; rintro e wq ⟨rfl, hwq⟩; obtain rfl := hwq.symm)
        | (go_at_call 68
           refine HB7.out.mono ?_
           rintro e w8 ⟨vb, hdb, rfl, hrb, hk8⟩
           have K8 := Hj (K7.out.trans hk8 (fun _ _ e => e))
           obtain ⟨aI, cI, rfl⟩ := qac HOI.out
           have he1 : RdE w8 vp [⟨xS, aI, 1, cI⟩] [(xS, [0])] := ⟨rfl, rd_row (hk8.row HOP.out (fun _ _ e => e)), fun i h e hi he => by
            cases i with
            | zero =>
              simp only [List.getElem?_cons_zero, Option.some.injEq] at hi he
              subst hi he
              exact ⟨rfl, rd_row (hk8.row HOI.out (fun _ _ e => e))⟩
            | succ i => simp at hi⟩
           have HSI := Hj (sameindex_one xS vp vb _ hdb w8 he1 hrb)
           clear hk8 hrb he1)
        | (go_at_call 82
           refine HSI.out.mono ?_
           rintro e w9 ⟨rfl, hk9⟩
           have K9 := Hj (K8.out.trans hk9 (fun _ _ e => e))
           have f91 := (HFA.out _ K9.out).1.1; have f92 := (HFA.out _ K9.out).1.2
           have f93 := (HFA.out _ K9.out).2.1.1; have f94 := (HFA.out _ K9.out).2.1.2
           clear hk9))
       obtain ⟨WY, hWY⟩ : ∃ WY, WY = w9.setCell ⟨w.heap.size + 1, 0, none⟩ (.slice a9 1 q9) := ⟨_, rfl⟩
       obtain ⟨WZ, hWZ⟩ : ∃ WZ, WZ = WY.setCell ⟨w.heap.size + 1 + 1, 0, none⟩ (.int .i64 0) := ⟨_, rfl⟩
       have kY : Keeps (fun k => k = w.heap.size + 1) w9 WY := by rw [hWY]; exact (Keeps.refl (fun k => k = w.heap.size + 1) w9).setCell (p := ⟨w.heap.size + 1, 0, none⟩) (fun _ => rfl) _
       have kZ : Keeps (fun k => k = w.heap.size + 2) WY WZ := by rw [hWZ]; exact (Keeps.refl (fun k => k = w.heap.size + 2) WY).setCell (p := ⟨w.heap.size + 1 + 1, 0, none⟩) (fun _ => rfl) _
       have rY : WY.heap[w.heap.size + 1]? = some (.cells #[.slice a9 1 q9] 37 (0, 0)) := by rw [hWY]; exact (heap_setCell_same w9 (w.heap.size + 1) 0 _ _ (.slice a9 1 q9) (K9.out.heap HTT.out (fun e => e))).trans rfl
       have rZ : WZ.heap[w.heap.size + 2]? = some (.cells #[.int .i64 0] 30 (0, 0)) := by rw [hWZ]; exact (heap_setCell_same WY (w.heap.size + 2) 0 _ _ (.int .i64 0) (kY.heap (K9.out.heap HE3.out (fun e => e)) (by omega))).trans rfl
       have e0 : WZ.cell? ⟨w.heap.size + 1, 0, none⟩ = some (.slice a9 1 q9) := by rw [cell_of_row _ _ _ _ _ _ (kZ.heap rY (by omega))]; rfl
       have e1 : WZ.cell? ⟨w.heap.size + 1 + 1, 0, none⟩ = some (.int .i64 0) := by rw [cell_of_row _ _ _ _ _ _ rZ]; rfl
       rw [← hWY, ← hWZ]
       have kF : Keeps (fun k => k = w.heap.size + 1 ∨ k = w.heap.size + 2) wr WZ := ((K9.out.mono (S' := fun k => k = w.heap.size + 1 ∨ k = w.heap.size + 2) (fun _ _ e => e.elim)).trans kY (fun k _ e => .inl e)).trans kZ (fun k _ e => .inr e)
       have hrF : RdB WZ (.slice a9 1 q9) [⟨la, 1, lc, ua, 1, uc⟩] [([xS], mS)] := ⟨rfl, rd_row (kF.row HTO.out (fun g hg e => by have := (HTO.out.lt g hg).1; omega)), fun i h r hi hr => by
        cases i with
        | zero =>
          simp only [List.getElem?_cons_zero, Option.some.injEq] at hi hr
          subst hi hr
          exact ⟨rd_row (kF.row HLW.out (fun g hg e => by have := (HL5.out.lt g hg).1; have := HK1.out.size; omega)), rd_row (kF.row HUW.out (fun g hg e => by have := (HU8.out.lt g hg).1; have := HK03.out.size; omega))⟩
        | succ i => simp at hi⟩
       clear hWY hWZ
       refine leaves_cons (f := 72) (args := #[.pointer (some ⟨w.heap.size + 1, 0, none⟩), .pointer (some ⟨w.heap.size + 1 + 1, 0, none⟩)]) (by simp) (by simp [go_sem]) ?_
       refine (door_ok _ _ _).mono ?_
       rintro e u' w'' ⟨rfl, rfl, rfl⟩
       refine ⟨.tuple #[.slice a9 1 q9, .int .i64 0], by simp [results, Tryz.results36, go_sem, e0, e1], _, ⟨la, 1, lc, ua, 1, uc⟩, rfl, hrF, HKF.out.trans kF (fun k hk e => by omega)⟩
end
section
set_option maxHeartbeats 4000000
set_option maxRecDepth 100000
open Go.RowKit
def IsP (w : World) (p : Nat) (v : Value) (i c : Nat) (st : Value) : Prop := w.heap[p]? = some (.cells #[v, .int .i64 (i : Int), .int .i64 (c : Int), st, .int .i64 0, .bool false] 86 (0, 0))
theorem pnew_any (w : World) : Calls Tryz.prog 12 #[] w fun e w' => e = .returned (.pointer (some ⟨w.heap.size, 0, none⟩)) ∧ IsP w' w.heap.size (.slice none 0 0) 0 0 (partV 0) ∧ Keeps (fun _ => False) w w' := by
 go_enter Tryz.func12, Tryz.ntmps12
 go_wp2_with fail
 go_ret
 exact ⟨rfl, heap_alloc_new w _, (Keeps.refl _ _).alloc _⟩
theorem perr_any (p : Nat) (v st : Value) (i c : Nat) (w : World) (h : IsP w p v i c st) : Calls Tryz.prog 15 #[.pointer (some ⟨p, 0, none⟩)] w fun e w' => e = .returned (.int .i64 0) ∧ w' = w := by
 have c4 : w.cell? ⟨p, 4, none⟩ = some (.int .i64 0) := by rw [cell_of_row _ _ _ _ _ _ h]; rfl
 clear h
 go_enter Tryz.func15, Tryz.ntmps15
 go_wp2_with fail
 go_ret
 exact ⟨rfl, rfl⟩
def PSt (s : Nat) (v : Value) : Prop := (s = 0 ∧ v = .iface 84 (.agg #[.int .i64 5, .iface 80 (.agg #[.int .i64 1])])) ∨ (s = 6 ∧ v = .iface 84 (.agg #[.int .i64 8, .iface 148 (.agg #[])])) ∨ (s = 7 ∧ v = .iface 148 (.agg #[])) ∨ (1 ≤ s ∧ s ≤ 5 ∧ v = .iface 80 (.agg #[.int .i64 (s : Int)]))
theorem pst_uniq {s s' : Nat} {v : Value} (h : PSt s v) (h' : PSt s' v) : s = s' := by
 rcases h with ⟨rfl, rfl⟩ | ⟨rfl, rfl⟩ | ⟨rfl, rfl⟩ | ⟨_, _, rfl⟩ <;> rcases h' with ⟨rfl, e⟩ | ⟨rfl, e⟩ | ⟨rfl, e⟩ | ⟨_, _, e⟩ <;> simp at e <;> first | rfl | omega
open Classical in
noncomputable def partNo (v : Value) : Nat := if h : ∃ s, PSt s v then Classical.choose h else 0
theorem pst_no {s : Nat} {v : Value} (h : PSt s v) : partNo v = s := by
 have hex : ∃ s, PSt s v := ⟨s, h⟩
 unfold partNo
 rw [dif_pos hex]
 exact pst_uniq (Classical.choose_spec hex) h
noncomputable def pMeas (w : World) (p : Nat) : Nat := match w.cell? ⟨p, 3, none⟩ with | some v => 8 - partNo v | none => 0
theorem qib {w : World} {p i c s : Nat} {v st : Value} (h : IsP w p v i c st) (hs : PSt s st) : pMeas w p = 8 - s := by
 unfold pMeas
 rw [cell_of_row _ _ _ _ _ _ h]
 show 8 - partNo st = _
 rw [pst_no hs]
theorem pst0 : PSt 0 (partV 0) := .inl ⟨rfl, rfl⟩
theorem pst_fix {s : Nat} {v : Value} (h : PSt s v) : (∃ (n : Nat) (t : TypeId) (x : Value), n ≤ 100 ∧ v = .iface 84 (.agg #[.int .i64 (n : Int), .iface t x]) ∧ s < 7 ∧ PSt (s + 1) (.iface t x)) ∨ (s = 7 ∧ v = .iface 148 (.agg #[])) ∨ (1 ≤ s ∧ s ≤ 5 ∧ v = .iface 80 (.agg #[.int .i64 (s : Int)])) := by
 rcases h with ⟨rfl, rfl⟩ | ⟨rfl, rfl⟩ | ⟨rfl, rfl⟩ | h
 · exact .inl ⟨5, _, _, by omega, rfl, by omega, .inr (.inr (.inr ⟨by omega, by omega, rfl⟩))⟩
 · exact .inl ⟨8, _, _, by omega, rfl, by omega, .inr (.inr (.inl ⟨rfl, rfl⟩))⟩
 · exact .inr (.inl ⟨rfl, rfl⟩)
 · exact .inr (.inr h)
theorem IsP.step {w : World} {p i c q d : Nat} {v st u : Value} (h : IsP w p v i c st) : IsP (((w.setCell ⟨p, 1, none⟩ (.int .i64 (q : Int))).setCell ⟨p, 3, none⟩ u).setCell ⟨p, 2, none⟩ (.int .i64 (d : Int))) p v q d u := by
 have h1 := heap_setCell_same w p 1 _ _ (.int .i64 (q : Int)) h
 have h2 := heap_setCell_same _ p 3 _ _ u h1
 have h3 := heap_setCell_same _ p 2 _ _ (.int .i64 (d : Int)) h2
 exact h3.trans rfl
theorem IsP.err {w : World} {p i c : Nat} {v st : Value} (h : IsP w p v i c st) : IsP (w.setCell ⟨p, 4, none⟩ (.int .i64 0)) p v i c st := by
 have h1 := heap_setCell_same w p 4 _ _ (.int .i64 0) h
 exact h1.trans rfl
theorem qjw (w : World) (p : Nat) (a b c : Value) (i j k : Nat) : Keeps (fun x => x = p) w (((w.setCell ⟨p, i, none⟩ a).setCell ⟨p, j, none⟩ b).setCell ⟨p, k, none⟩ c) :=
 (((Keeps.refl (fun x => x = p) w).setCell (p := ⟨p, i, none⟩) (fun _ => rfl) a).setCell (p := ⟨p, j, none⟩) (fun _ => rfl) b).setCell (p := ⟨p, k, none⟩) (fun _ => rfl) c
theorem ta_fix (x : Value) (w : World) : (Instr.typeAssert (.iface 84 x) 82 148 true).run Tryz.prog w = .ok (.tuple #[.agg #[], .bool false]) w := by
 simp [Instr.typeAssert, run_underlying Tryz.underlying148, Tryz.zeroValue148, Result.andThen]
theorem ta_frm (x : Value) (w : World) : (Instr.typeAssert (.iface 80 x) 82 148 true).run Tryz.prog w = .ok (.tuple #[.agg #[], .bool false]) w := by
 simp [Instr.typeAssert, run_underlying Tryz.underlying148, Tryz.zeroValue148, Result.andThen]
theorem ta_don (x : Value) (w : World) : (Instr.typeAssert (.iface 148 x) 82 148 true).run Tryz.prog w = .ok (.tuple #[x, .bool true]) w := by
 simp [Instr.typeAssert, run_underlying Tryz.underlying148, Result.andThen]
theorem frnext_st (s : Nat) (h1 : 1 ≤ s) (h5 : s ≤ 5) (w : World) : Calls Tryz.prog 277 #[.agg #[.int .i64 (s : Int)]] w fun e w' => ∃ t x, e = .returned (.iface t x) ∧ PSt (s + 1) (.iface t x) ∧ Keeps (fun _ => False) w w' := by
 by_cases hs : s = 5
 · subst hs
   refine (frnext_last w).mono ?_
   rintro e w' ⟨rfl, k⟩
   exact ⟨_, _, rfl, .inr (.inl ⟨rfl, rfl⟩), k⟩
 · refine (frnext_any s (by omega) hs w).mono ?_
   rintro e w' ⟨rfl, k⟩
   exact ⟨_, _, rfl, .inr (.inr (.inr ⟨by omega, by omega, rfl⟩)), k⟩
theorem padv_nil (p : Nat) (w : World) (h : IsP w p (.slice none 0 0) 0 0 (partV 0)) (hp : ∀ q, Keeps (fun k => k = p) w q → qcl (.slice none 0 0) q) :
 Calls Tryz.prog 33 #[.pointer (some ⟨p, 0, none⟩)] w fun e w' => e = .returned (.tuple #[]) ∧ (∃ i c st, IsP w' p (.slice none 0 0) i c st) ∧ Keeps (fun k => k = p) w w' := by
 have HP : Hid (IsP w p (.slice none 0 0) 0 0 (.iface 84 (.agg #[.int .i64 5, .iface 80 (.agg #[.int .i64 1])]))) := Hj h
 have HBV := Hj hp
 clear h hp
 go_enter Tryz.func33, Tryz.ntmps33
 go_wp2
 go_loopw [2] (fun _ wr => wr = w) (fun _ _ => 0)
 case atStart => rfl
 case round =>
  obtain rfl := hrel.symm
  have c0 : w.cell? ⟨p, 0, none⟩ = some (.slice none 0 0) := by rw [cell_of_row _ _ _ _ _ _ HP.out]; rfl
  have c1 : w.cell? ⟨p, 1, none⟩ = some (.int .i64 0) := by rw [cell_of_row _ _ _ _ _ _ HP.out]; rfl
  have c3 : w.cell? ⟨p, 3, none⟩ = some (.iface 84 (.agg #[.int .i64 5, .iface 80 (.agg #[.int .i64 1])])) := by rw [cell_of_row _ _ _ _ _ _ HP.out]; rfl
  have HEND := Hj (fun w => fxend_any 5 0 (.iface 80 (.agg #[.int .i64 1])) none 0 0 w (by omega) (by omega) (by omega))
  have CC : Hid (∀ q, Keeps (fun _ => False) w q → q.cell? ⟨p, 0, none⟩ = some (.slice none 0 0) ∧ q.cell? ⟨p, 1, none⟩ = some (.int .i64 0) ∧ q.cell? ⟨p, 3, none⟩ = some (.iface 84 (.agg #[.int .i64 5, .iface 80 (.agg #[.int .i64 1])]))) := Hj (fun q hq => ⟨hq.cell c0 (fun e => e), hq.cell c1 (fun e => e), hq.cell c3 (fun e => e)⟩)
  have K0 : Hid (Keeps (fun _ => False) w w.drew) := Hj (Keeps.refl _ _).drew
  go_upto_region 0 with fail
  go_region_held3 (fun q => q.cell? ⟨p, 0, none⟩ = some (.slice none 0 0) ∧ q.cell? ⟨p, 1, none⟩ = some (.int .i64 0) ∧ q.cell? ⟨p, 3, none⟩ = some (.iface 84 (.agg #[.int .i64 5, .iface 80 (.agg #[.int .i64 1])]))) (first | exact CC.out _ K0.out | exact CC.out _ K1.out) (first
   | (go_at_call 278; refine (HEND.out _).mono ?_; rintro e w1 ⟨q, ok, rfl, hq, k1⟩; have K1 := Hj (K0.out.trans k1 (fun _ _ e => e)); have HQ := Hj hq; clear k1 hq))
  obtain rfl : ok = false := by
   cases ok with
   | true => have := (HQ.out rfl).2; omega
   | false => rfl
  have c0 : w1.cell? ⟨p, 0, none⟩ = some (.slice none 0 0) := (CC.out _ K1.out).1
  have c3 := (CC.out _ K1.out).2.2
  clear c1
  have hta := fun x w => ta_fix x w
  go_upto_region 8 with fail
  obtain ⟨W9, hW9⟩ : ∃ W9, W9 = w1.alloc (.cells #[] 148) := ⟨_, rfl⟩
  have hk9 : Keeps (fun _ => False) w W9 := by rw [hW9]; exact K1.out.alloc _
  rw [← hW9]
  have HK9 := Hj hk9
  clear hk9 hW9 c0 c3 hta
  go_quiet (fail)
  have hkq := HK9.out.drewN nq
  generalize W9.drewN nq = wq at hkq ⊢
  have hPq : IsP wq p (.slice none 0 0) 0 0 (.iface 84 (.agg #[.int .i64 5, .iface 80 (.agg #[.int .i64 1])])) := hkq.heap HP.out (fun e => e)
  have c0 : wq.cell? ⟨p, 0, none⟩ = some (.slice none 0 0) := by rw [cell_of_row _ _ _ _ _ _ hPq]; rfl
  have HCE := Hj (qch (.slice none 0 0) wq (HBV.out wq (hkq.mono (fun _ _ e => e.elim))))
  have HPq := Hj hPq; have HKq := Hj hkq
  clear hPq hkq
  go_wp2_with (go_at_call 16; refine HCE.out.mono ?_; rintro e w2 ⟨rfl, k2⟩; have K2 := Hj k2; have HP2 : Hid (IsP w2 p (.slice none 0 0) 0 0 (.iface 84 (.agg #[.int .i64 5, .iface 80 (.agg #[.int .i64 1])]))) := Hj (k2.heap HPq.out (fun e => e)); have c4 : w2.cell? ⟨p, 4, none⟩ = some (.int .i64 0) := (by rw [cell_of_row _ _ _ _ _ _ HP2.out]; rfl); have f4 : w2.frozen? ⟨p, 4, none⟩ = false := frozen_of_row _ _ _ _ _ HP2.out; clear k2 c0)
  go_end0
  exact ⟨rfl, ⟨_, _, _, HP2.out.err⟩, ((HKq.out.trans K2.out (fun _ _ e => e)).mono (fun _ _ e => e.elim)).trans ((Keeps.refl (fun x => x = p) _).setCell (p := ⟨p, 4, none⟩) (fun _ => rfl) _) (fun _ _ e => e)⟩
theorem padv_some (p base g m cap : Nat) (l : List Nat) (w : World) (h : IsP w p (.slice (some ⟨g, 0, none⟩) m cap) 0 0 (partV 0)) (hr : w.ownsRow base 5 1 (.slice (some ⟨g, 0, none⟩) m cap) m (u8s l)) (hm : m = l.length) (hb : ∀ c ∈ l, c < 256) (hl : m ≤ 1000000000) (hbad : ∀ j, j ≤ m → pErr (l.take j) = 3) (hT : TabC w) (hTp : 1 ≠ p) :
 Calls Tryz.prog 33 #[.pointer (some ⟨p, 0, none⟩)] w fun e w' => e = .returned (.tuple #[]) ∧ (∃ i c st, IsP w' p (.slice (some ⟨g, 0, none⟩) m cap) i c st) ∧ Keeps (fun k => k = p) w w' := by
 have hown : g ≠ p := fun e => by subst e; obtain ⟨cur, hc⟩ := qak hr rfl; rw [h] at hc; simp at hc
 have hmc : m ≤ cap := by
  rcases hr.2 with ⟨h0, _⟩ | ⟨g', c', cur, hv, _, _, h1, _⟩
  · cases h0
  · cases hv; exact h1
 have HHL : Hid (∀ q, Keeps (fun k => k = p) w q → Holds q (.slice (some ⟨g, 0, none⟩) m cap) (u8s l)) := Hj (fun q hq => qaq (hq.row hr (fun x hx e => by simp [Value.ownBlock] at hx; omega)))
 have HBV : Hid (∀ (q : Nat) (w' : World), q ≤ m → Keeps (fun k => k = p) w w' → qcl (.slice (some ⟨g, 0, none⟩) q cap) w') := Hj (fun q w' hq hk => by
  have hh := Holds.take (HHL.out w' hk) q hq
  have ht : (u8s l).take q = u8s (l.take q) := by simp [u8s]
  rw [ht] at hh
  refine (qfc _ (l.take q) w' hh (by rw [List.length_take]; omega) (fun c hc => hb c (List.mem_of_mem_take hc)) (hT.keeps hk hTp)).mono ?_
  rintro e w2 ⟨v0, v1, v2, v3, k2, _, h1⟩
  have he := h1 (by rw [hbad q hq]; decide)
  rw [hbad q hq] at he
  exact ⟨he, k2⟩)
 have H := Hj h; have HB := Hj hb; have HM := Hj hm
 clear hr h hb hbad hT hown hm
 go_enter Tryz.func33, Tryz.ntmps33
 go_wp2
 go_loopw [2] (fun _ wr => ∃ (i c s : Nat) (st : Value), Hid (IsP wr p (.slice (some ⟨g, 0, none⟩) m cap) i c st) ∧ Hid (PSt s st) ∧ i ≤ m ∧ c ≤ s ∧ Hid (Keeps (fun k => k = p) w wr)) (fun _ wr => pMeas wr p)
 case atStart => exact ⟨0, 0, 0, _, H, Hj pst0, Nat.zero_le _, Nat.le_refl _, Hj (Keeps.refl _ _)⟩
 case round =>
  obtain ⟨i, c, s, st, HP, HS, hi, hcs, HK⟩ := hrel
  rcases pst_fix HS.out with ⟨n, ut, ux, hn, rfl, hs7, hu⟩ | ⟨rfl, rfl⟩ | ⟨hs1, hs5, rfl⟩
  · have HU := Hj hu
    have c0 : wr.cell? ⟨p, 0, none⟩ = some (.slice (some ⟨g, 0, none⟩) m cap) := by rw [cell_of_row _ _ _ _ _ _ HP.out]; rfl
    have c1 : wr.cell? ⟨p, 1, none⟩ = some (.int .i64 (i : Int)) := by rw [cell_of_row _ _ _ _ _ _ HP.out]; rfl
    have c3 : wr.cell? ⟨p, 3, none⟩ = some (.iface 84 (.agg #[.int .i64 (n : Int), .iface ut ux])) := by rw [cell_of_row _ _ _ _ _ _ HP.out]; rfl
    have HEND := Hj (fun w => fxend_any n i (.iface ut ux) (some ⟨g, 0, none⟩) m cap w hn hi hl)
    have CC : Hid (∀ q, Keeps (fun _ => False) wr q → q.cell? ⟨p, 0, none⟩ = some (.slice (some ⟨g, 0, none⟩) m cap) ∧ q.cell? ⟨p, 1, none⟩ = some (.int .i64 (i : Int)) ∧ q.cell? ⟨p, 3, none⟩ = some (.iface 84 (.agg #[.int .i64 (n : Int), .iface ut ux]))) := Hj (fun q hq => ⟨hq.cell c0 (fun e => e), hq.cell c1 (fun e => e), hq.cell c3 (fun e => e)⟩)
    have K0 : Hid (Keeps (fun _ => False) wr wr.drew) := Hj (Keeps.refl _ _).drew
    go_upto_region 0 with fail
    go_region_held3 (fun q => q.cell? ⟨p, 0, none⟩ = some (.slice (some ⟨g, 0, none⟩) m cap) ∧ q.cell? ⟨p, 1, none⟩ = some (.int .i64 (i : Int)) ∧ q.cell? ⟨p, 3, none⟩ = some (.iface 84 (.agg #[.int .i64 (n : Int), .iface ut ux]))) (first | exact CC.out _ K0.out | exact CC.out _ K1.out) (first
     | (go_at_call 278; refine (HEND.out _).mono ?_; rintro e w1 ⟨q, ok, rfl, hq, k1⟩; have K1 := Hj (K0.out.trans k1 (fun _ _ e => e)); have HQ := Hj (fun h => (hq h).1); clear k1 hq))
    cases ok with
    | true =>
      have hq := HQ.out rfl
      have hqc : (q : Int) ≤ (cap : Int) := by omega
      have hP1 : IsP w1 p (.slice (some ⟨g, 0, none⟩) m cap) i c (.iface 84 (.agg #[.int .i64 (n : Int), .iface ut ux])) := K1.out.heap HP.out (fun e => e)
      have c0 : w1.cell? ⟨p, 0, none⟩ = some (.slice (some ⟨g, 0, none⟩) m cap) := (CC.out _ K1.out).1
      have HCE := Hj (qch (.slice (some ⟨g, 0, none⟩) q cap) w1 (HBV.out q w1 hq (HK.out.trans K1.out (fun _ _ e => e.elim))))
      have HP1 := Hj hP1
      clear c1 c3 hP1
      go_wp2_with (first
       | (go_at_call 16; refine HCE.out.mono ?_; rintro e w2 ⟨rfl, k2⟩; have K2 := Hj k2; have HP2 : Hid (IsP w2 p (.slice (some ⟨g, 0, none⟩) m cap) i c (.iface 84 (.agg #[.int .i64 (n : Int), .iface ut ux]))) := Hj (k2.heap HP1.out (fun e => e)); have c3 : w2.cell? ⟨p, 3, none⟩ = some (.iface 84 (.agg #[.int .i64 (n : Int), .iface ut ux])) := (by rw [cell_of_row _ _ _ _ _ _ HP2.out]; rfl); clear k2 c0)
       | (go_at_call 279; refine (fxnext_any _ _ _).mono ?_; rintro e w3 ⟨rfl, k3⟩; have K3 := Hj k3; have HP3 : Hid (IsP w3 p (.slice (some ⟨g, 0, none⟩) m cap) i c (.iface 84 (.agg #[.int .i64 (n : Int), .iface ut ux]))) := Hj (k3.heap HP2.out (fun e => e)); have c1 : w3.cell? ⟨p, 1, none⟩ = some (.int .i64 (i : Int)) := (by rw [cell_of_row _ _ _ _ _ _ HP3.out]; rfl); have f1 : w3.frozen? ⟨p, 1, none⟩ = false := frozen_of_row _ _ _ _ _ HP3.out; have c3' : w3.cell? ⟨p, 3, none⟩ = some (.iface 84 (.agg #[.int .i64 (n : Int), .iface ut ux])) := (by rw [cell_of_row _ _ _ _ _ _ HP3.out]; rfl); have f3 : w3.frozen? ⟨p, 3, none⟩ = false := frozen_of_row _ _ _ _ _ HP3.out; have c2 : w3.cell? ⟨p, 2, none⟩ = some (.int .i64 (c : Int)) := (by rw [cell_of_row _ _ _ _ _ _ HP3.out]; rfl); have f2 : w3.frozen? ⟨p, 2, none⟩ = false := frozen_of_row _ _ _ _ _ HP3.out; clear k3 c3))
      have e9 : ((c : Int) + 1) = ((c + 1 : Nat) : Int) := by omega
      refine ⟨⟨q, c + 1, s + 1, _, Hj (by rw [e9]; exact HP3.out.step), HU, hq, by omega, Hj (((HK.out.trans K1.out (fun _ _ e => e.elim)).trans (K2.out.trans K3.out (fun _ _ e => e)) (fun _ _ e => e.elim)).trans (qjw _ _ _ _ _ _ _ _) (fun _ _ e => e))⟩, ?_⟩
      rw [e9, qib HP3.out.step HU.out, qib HP.out HS.out]
      omega
    | false =>
      have hP1 : IsP w1 p (.slice (some ⟨g, 0, none⟩) m cap) i c (.iface 84 (.agg #[.int .i64 (n : Int), .iface ut ux])) := K1.out.heap HP.out (fun e => e)
      have c0 : w1.cell? ⟨p, 0, none⟩ = some (.slice (some ⟨g, 0, none⟩) m cap) := (CC.out _ K1.out).1
      have c3 := (CC.out _ K1.out).2.2
      have HP1 := Hj hP1
      clear c1 hP1
      have hta := fun x w => ta_fix x w
      go_upto_region 8 with fail
      obtain ⟨W9, hW9⟩ : ∃ W9, W9 = w1.alloc (.cells #[] 148) := ⟨_, rfl⟩
      have hk9 : Keeps (fun _ => False) wr W9 := by rw [hW9]; exact K1.out.alloc _
      rw [← hW9]
      have HK9 := Hj hk9
      clear hk9 hW9 c0 c3 hta
      go_quiet (fail)
      have hkq := HK9.out.drewN nq
      generalize W9.drewN nq = wq at hkq ⊢
      have hPq : IsP wq p (.slice (some ⟨g, 0, none⟩) m cap) i c (.iface 84 (.agg #[.int .i64 (n : Int), .iface ut ux])) := hkq.heap HP.out (fun e => e)
      have c0 : wq.cell? ⟨p, 0, none⟩ = some (.slice (some ⟨g, 0, none⟩) m cap) := by rw [cell_of_row _ _ _ _ _ _ hPq]; rfl
      have HCE := Hj (qch (.slice (some ⟨g, 0, none⟩) m cap) wq (HBV.out m wq (Nat.le_refl _) (HK.out.trans hkq (fun _ _ e => e.elim))))
      have HPq := Hj hPq; have HKq := Hj hkq
      clear hPq hkq
      go_wp2_with (go_at_call 16; refine HCE.out.mono ?_; rintro e w2 ⟨rfl, k2⟩; have K2 := Hj k2; have HP2 : Hid (IsP w2 p (.slice (some ⟨g, 0, none⟩) m cap) i c (.iface 84 (.agg #[.int .i64 (n : Int), .iface ut ux]))) := Hj (k2.heap HPq.out (fun e => e)); have c4 : w2.cell? ⟨p, 4, none⟩ = some (.int .i64 0) := (by rw [cell_of_row _ _ _ _ _ _ HP2.out]; rfl); have f4 : w2.frozen? ⟨p, 4, none⟩ = false := frozen_of_row _ _ _ _ _ HP2.out; clear k2 c0)
      go_end0
      exact ⟨rfl, ⟨_, _, _, HP2.out.err⟩, ((HK.out.trans HKq.out (fun _ _ e => e.elim)).trans K2.out (fun _ _ e => e.elim)).trans ((Keeps.refl (fun x => x = p) _).setCell (p := ⟨p, 4, none⟩) (fun _ => rfl) _) (fun _ _ e => e)⟩
  · have c0 : wr.cell? ⟨p, 0, none⟩ = some (.slice (some ⟨g, 0, none⟩) m cap) := by rw [cell_of_row _ _ _ _ _ _ HP.out]; rfl
    have c1 : wr.cell? ⟨p, 1, none⟩ = some (.int .i64 (i : Int)) := by rw [cell_of_row _ _ _ _ _ _ HP.out]; rfl
    have c3 : wr.cell? ⟨p, 3, none⟩ = some (.iface 148 (.agg #[])) := by rw [cell_of_row _ _ _ _ _ _ HP.out]; rfl
    have CC : Hid (∀ q, Keeps (fun _ => False) wr q → q.cell? ⟨p, 0, none⟩ = some (.slice (some ⟨g, 0, none⟩) m cap) ∧ q.cell? ⟨p, 1, none⟩ = some (.int .i64 (i : Int)) ∧ q.cell? ⟨p, 3, none⟩ = some (.iface 148 (.agg #[]))) := Hj (fun q hq => ⟨hq.cell c0 (fun e => e), hq.cell c1 (fun e => e), hq.cell c3 (fun e => e)⟩)
    have K0 : Hid (Keeps (fun _ => False) wr wr.drew) := Hj (Keeps.refl _ _).drew
    go_upto_region 0 with fail
    go_region_held3 (fun q => q.cell? ⟨p, 0, none⟩ = some (.slice (some ⟨g, 0, none⟩) m cap) ∧ q.cell? ⟨p, 1, none⟩ = some (.int .i64 (i : Int)) ∧ q.cell? ⟨p, 3, none⟩ = some (.iface 148 (.agg #[]))) (first | exact CC.out _ K0.out | exact CC.out _ K1.out) (first
     | (go_at_call 280; refine (dend_any _ _ _).mono ?_; rintro e w1 ⟨rfl, k1⟩; have K1 := Hj (K0.out.trans k1 (fun _ _ e => e)); clear k1))
    have hP1 : IsP w1 p (.slice (some ⟨g, 0, none⟩) m cap) i c (.iface 148 (.agg #[])) := K1.out.heap HP.out (fun e => e)
    have c3 := (CC.out _ K1.out).2.2
    have HP1 := Hj hP1
    clear c0 c1 hP1
    have hta := fun x w => ta_don x w
    go_upto_region 8 with fail
    obtain ⟨W9, hW9⟩ : ∃ W9, W9 = w1.alloc (.cells #[] 148) := ⟨_, rfl⟩
    have hk9 : Keeps (fun _ => False) wr W9 := by rw [hW9]; exact K1.out.alloc _
    rw [← hW9]
    have c0 := (CC.out _ hk9).1
    have c1 := (CC.out _ hk9).2.1
    have HK9 := Hj hk9
    clear hk9 hW9 c3 hta
    by_cases hlt : (i : Int) < (m : Int)
    · go_quiet (fail)
      have hkq := HK9.out.drewN nq
      generalize W9.drewN nq = wq at hkq ⊢
      have hPq : IsP wq p (.slice (some ⟨g, 0, none⟩) m cap) i c (.iface 148 (.agg #[])) := hkq.heap HP.out (fun e => e)
      have c0 : wq.cell? ⟨p, 0, none⟩ = some (.slice (some ⟨g, 0, none⟩) m cap) := by rw [cell_of_row _ _ _ _ _ _ hPq]; rfl
      have HCE := Hj (qch (.slice (some ⟨g, 0, none⟩) m cap) wq (HBV.out m wq (Nat.le_refl _) (HK.out.trans hkq (fun _ _ e => e.elim))))
      have HPq := Hj hPq; have HKq := Hj hkq
      clear hPq hkq
      go_wp2_with (go_at_call 16; refine HCE.out.mono ?_; rintro e w2 ⟨rfl, k2⟩; have K2 := Hj k2; have HP2 : Hid (IsP w2 p (.slice (some ⟨g, 0, none⟩) m cap) i c (.iface 148 (.agg #[]))) := Hj (k2.heap HPq.out (fun e => e)); have c4 : w2.cell? ⟨p, 4, none⟩ = some (.int .i64 0) := (by rw [cell_of_row _ _ _ _ _ _ HP2.out]; rfl); have f4 : w2.frozen? ⟨p, 4, none⟩ = false := frozen_of_row _ _ _ _ _ HP2.out; clear k2 c0)
      go_end0
      exact ⟨rfl, ⟨_, _, _, HP2.out.err⟩, ((HK.out.trans HKq.out (fun _ _ e => e.elim)).trans K2.out (fun _ _ e => e.elim)).trans ((Keeps.refl (fun x => x = p) _).setCell (p := ⟨p, 4, none⟩) (fun _ => rfl) _) (fun _ _ e => e)⟩
    · go_quiet (fail)
      have hkq := HK9.out.drewN nq
      generalize W9.drewN nq = wq at hkq ⊢
      have HPq : Hid (IsP wq p (.slice (some ⟨g, 0, none⟩) m cap) i c (.iface 148 (.agg #[]))) := Hj (hkq.heap HP.out (fun e => e)); have HKq := Hj hkq
      clear hkq
      go_wp2_with fail
      go_end0
      exact ⟨rfl, ⟨_, _, _, HPq.out⟩, HK.out.trans HKq.out (fun _ _ e => e.elim)⟩
  · have c0 : wr.cell? ⟨p, 0, none⟩ = some (.slice (some ⟨g, 0, none⟩) m cap) := by rw [cell_of_row _ _ _ _ _ _ HP.out]; rfl
    have c1 : wr.cell? ⟨p, 1, none⟩ = some (.int .i64 (i : Int)) := by rw [cell_of_row _ _ _ _ _ _ HP.out]; rfl
    have c3 : wr.cell? ⟨p, 3, none⟩ = some (.iface 80 (.agg #[.int .i64 (s : Int)])) := by rw [cell_of_row _ _ _ _ _ _ HP.out]; rfl
    have HEND : Hid (∀ q, Keeps (fun _ => False) wr q → Calls Tryz.prog 276 #[.agg #[.int .i64 (s : Int)], .slice (some ⟨g, 0, none⟩) m cap, .int .i64 (i : Int)] q fun e w' => ∃ (x : Nat) (ok : Bool), e = .returned (.tuple #[.int .i64 (x : Int), .bool ok]) ∧ (ok = true → x ≤ m) ∧ Keeps (fun _ => False) q w') := Hj (fun q hq => by
     have := frend_any s _ l i q (HHL.out q (HK.out.trans hq (fun _ _ e => e.elim))) HB.out (by rw [← HM.out]; exact hi) (by rw [← HM.out]; exact hl)
     rw [← HM.out] at this
     exact this)
    have CC : Hid (∀ q, Keeps (fun _ => False) wr q → q.cell? ⟨p, 0, none⟩ = some (.slice (some ⟨g, 0, none⟩) m cap) ∧ q.cell? ⟨p, 1, none⟩ = some (.int .i64 (i : Int)) ∧ q.cell? ⟨p, 3, none⟩ = some (.iface 80 (.agg #[.int .i64 (s : Int)]))) := Hj (fun q hq => ⟨hq.cell c0 (fun e => e), hq.cell c1 (fun e => e), hq.cell c3 (fun e => e)⟩)
    have K0 : Hid (Keeps (fun _ => False) wr wr.drew) := Hj (Keeps.refl _ _).drew
    go_upto_region 0 with fail
    go_region_held3 (fun q => q.cell? ⟨p, 0, none⟩ = some (.slice (some ⟨g, 0, none⟩) m cap) ∧ q.cell? ⟨p, 1, none⟩ = some (.int .i64 (i : Int)) ∧ q.cell? ⟨p, 3, none⟩ = some (.iface 80 (.agg #[.int .i64 (s : Int)]))) (first | exact CC.out _ K0.out | exact CC.out _ K1.out) (first
     | (go_at_call 276; refine (HEND.out _ K0.out).mono ?_; rintro e w1 ⟨q, ok, rfl, hq, k1⟩; have K1 := Hj (K0.out.trans k1 (fun _ _ e => e)); have HQ := Hj hq; clear k1 hq))
    cases ok with
    | true =>
      have hq := HQ.out rfl
      have hqc : (q : Int) ≤ (cap : Int) := by omega
      have hP1 : IsP w1 p (.slice (some ⟨g, 0, none⟩) m cap) i c (.iface 80 (.agg #[.int .i64 (s : Int)])) := K1.out.heap HP.out (fun e => e)
      have c0 : w1.cell? ⟨p, 0, none⟩ = some (.slice (some ⟨g, 0, none⟩) m cap) := (CC.out _ K1.out).1
      have HCE := Hj (qch (.slice (some ⟨g, 0, none⟩) q cap) w1 (HBV.out q w1 hq (HK.out.trans K1.out (fun _ _ e => e.elim))))
      have HP1 := Hj hP1
      clear c1 c3 hP1
      go_wp2_with (first
       | (go_at_call 16; refine HCE.out.mono ?_; rintro e w2 ⟨rfl, k2⟩; have K2 := Hj k2; have HP2 : Hid (IsP w2 p (.slice (some ⟨g, 0, none⟩) m cap) i c (.iface 80 (.agg #[.int .i64 (s : Int)]))) := Hj (k2.heap HP1.out (fun e => e)); have c3 : w2.cell? ⟨p, 3, none⟩ = some (.iface 80 (.agg #[.int .i64 (s : Int)])) := (by rw [cell_of_row _ _ _ _ _ _ HP2.out]; rfl); clear k2 c0)
       | (go_at_call 277; refine (frnext_st s hs1 hs5 _).mono ?_; rintro e w3 ⟨ut, ux, rfl, hu, k3⟩; have HU := Hj hu; clear hu; have K3 := Hj k3; have HP3 : Hid (IsP w3 p (.slice (some ⟨g, 0, none⟩) m cap) i c (.iface 80 (.agg #[.int .i64 (s : Int)]))) := Hj (k3.heap HP2.out (fun e => e)); have c1 : w3.cell? ⟨p, 1, none⟩ = some (.int .i64 (i : Int)) := (by rw [cell_of_row _ _ _ _ _ _ HP3.out]; rfl); have f1 : w3.frozen? ⟨p, 1, none⟩ = false := frozen_of_row _ _ _ _ _ HP3.out; have c3' : w3.cell? ⟨p, 3, none⟩ = some (.iface 80 (.agg #[.int .i64 (s : Int)])) := (by rw [cell_of_row _ _ _ _ _ _ HP3.out]; rfl); have f3 : w3.frozen? ⟨p, 3, none⟩ = false := frozen_of_row _ _ _ _ _ HP3.out; have c2 : w3.cell? ⟨p, 2, none⟩ = some (.int .i64 (c : Int)) := (by rw [cell_of_row _ _ _ _ _ _ HP3.out]; rfl); have f2 : w3.frozen? ⟨p, 2, none⟩ = false := frozen_of_row _ _ _ _ _ HP3.out; clear k3 c3))
      have e9 : ((c : Int) + 1) = ((c + 1 : Nat) : Int) := by omega
      refine ⟨⟨q, c + 1, s + 1, _, Hj (by rw [e9]; exact HP3.out.step), HU, hq, by omega, Hj (((HK.out.trans K1.out (fun _ _ e => e.elim)).trans (K2.out.trans K3.out (fun _ _ e => e)) (fun _ _ e => e.elim)).trans (qjw _ _ _ _ _ _ _ _) (fun _ _ e => e))⟩, ?_⟩
      rw [e9, qib HP3.out.step HU.out, qib HP.out HS.out]
      omega
    | false =>
      have hP1 : IsP w1 p (.slice (some ⟨g, 0, none⟩) m cap) i c (.iface 80 (.agg #[.int .i64 (s : Int)])) := K1.out.heap HP.out (fun e => e)
      have c0 : w1.cell? ⟨p, 0, none⟩ = some (.slice (some ⟨g, 0, none⟩) m cap) := (CC.out _ K1.out).1
      have c3 := (CC.out _ K1.out).2.2
      have HP1 := Hj hP1
      clear c1 hP1
      have hta := fun x w => ta_frm x w
      go_upto_region 8 with fail
      obtain ⟨W9, hW9⟩ : ∃ W9, W9 = w1.alloc (.cells #[] 148) := ⟨_, rfl⟩
      have hk9 : Keeps (fun _ => False) wr W9 := by rw [hW9]; exact K1.out.alloc _
      rw [← hW9]
      have HK9 := Hj hk9
      clear hk9 hW9 c0 c3 hta
      go_quiet (fail)
      have hkq := HK9.out.drewN nq
      generalize W9.drewN nq = wq at hkq ⊢
      have hPq : IsP wq p (.slice (some ⟨g, 0, none⟩) m cap) i c (.iface 80 (.agg #[.int .i64 (s : Int)])) := hkq.heap HP.out (fun e => e)
      have c0 : wq.cell? ⟨p, 0, none⟩ = some (.slice (some ⟨g, 0, none⟩) m cap) := by rw [cell_of_row _ _ _ _ _ _ hPq]; rfl
      have HCE := Hj (qch (.slice (some ⟨g, 0, none⟩) m cap) wq (HBV.out m wq (Nat.le_refl _) (HK.out.trans hkq (fun _ _ e => e.elim))))
      have HPq := Hj hPq; have HKq := Hj hkq
      clear hPq hkq
      go_wp2_with (go_at_call 16; refine HCE.out.mono ?_; rintro e w2 ⟨rfl, k2⟩; have K2 := Hj k2; have HP2 : Hid (IsP w2 p (.slice (some ⟨g, 0, none⟩) m cap) i c (.iface 80 (.agg #[.int .i64 (s : Int)]))) := Hj (k2.heap HPq.out (fun e => e)); have c4 : w2.cell? ⟨p, 4, none⟩ = some (.int .i64 0) := (by rw [cell_of_row _ _ _ _ _ _ HP2.out]; rfl); have f4 : w2.frozen? ⟨p, 4, none⟩ = false := frozen_of_row _ _ _ _ _ HP2.out; clear k2 c0)
      go_end0
      exact ⟨rfl, ⟨_, _, _, HP2.out.err⟩, ((HK.out.trans HKq.out (fun _ _ e => e.elim)).trans K2.out (fun _ _ e => e.elim)).trans ((Keeps.refl (fun x => x = p) _).setCell (p := ⟨p, 4, none⟩) (fun _ => rfl) _) (fun _ _ e => e)⟩
end
section
open Go.RowKit
theorem all_lt {l : List Nat} (h : l.all (fun c => decide (c < 256)) = true) : ∀ c ∈ l, c < 256 := fun c hc => by simpa using List.all_eq_true.1 h c hc
theorem v_sort : ([[97], [49]] : List (List UInt8)).mergeSort (fun x y => decide (x ≤ y)) = [[49], [97]] := by
 have h : decide (([97] : List UInt8) ≤ [49]) = false := by decide
 simp [List.mergeSort, List.MergeSort.Internal.splitInTwo, h]
theorem v_tab : tabO (symsL [([xS], mS)]) = strB tbS := by
 show Lib.compact (([[97], [49]] : List (List UInt8)).mergeSort (fun x y => decide (x ≤ y))) = _
 rw [v_sort]
 kernel_rfl
theorem v_siz : ∀ s ∈ tbS, s.size ≤ 65535 := fun s hs => by
 simp only [tbS, List.mem_cons, List.not_mem_nil, or_false] at hs
 rcases hs with rfl | rfl <;> exact Nat.le_of_ble_eq_true (by kernel_rfl)
theorem v_sym : symO tbS = [2, 1, 49, 1, 97] := by kernel_rfl
theorem v_len : (chunkC mS).length = 18 := by kernel_rfl
theorem v_rec : recO posS [([xS], [18])] = [1, 1, 1, 0, 1, 18] := by kernel_rfl
theorem v_post : postO posS [(xS, [0])] = [1, 1, 0, 1, 0] := by kernel_rfl
theorem v_chk : ∀ c ∈ chunkC mS, c < 256 := all_lt (by kernel_rfl)
theorem v_asc : Asc tbS := fun p hp => by
 have : p = (s1, sA) := by simpa [pairsO, tbS] using hp
 rw [this]
 show Op.bytesLess s1.toList sA.toList = true
 kernel_rfl
theorem v_pos : Pos tbS xS.1 (posS xS.1) ∧ Pos tbS xS.2 (posS xS.2) := by
 have p1 : posS s1 = 0 := by kernel_rfl
 have pA : posS sA = 1 := by kernel_rfl
 have key : ∀ (s : ByteArray) (k : Nat), tbS[k]? = some s → Op.bytesLess s1.toList s.toList = decide (0 < k) → Op.bytesLess sA.toList s.toList = decide (1 < k) → Pos tbS s k := fun s k h0 h1 h2 => ⟨h0, fun h x hx => by
  match h with
  | 0 => simp only [tbS, List.getElem?_cons_zero, Option.some.injEq] at hx; subst hx; exact h1
  | 1 => simp only [tbS, List.getElem?_cons_succ, List.getElem?_cons_zero, Option.some.injEq] at hx; subst hx; exact h2
  | h + 2 => simp [tbS] at hx⟩
 show Pos tbS sA (posS sA) ∧ Pos tbS s1 (posS s1)
 rw [p1, pA]
 exact ⟨key _ _ rfl (by kernel_rfl) (by kernel_rfl), key _ _ rfl (by kernel_rfl) (by kernel_rfl)⟩
end
end Go.Proofs.YtfpcgcbehdogjaaGreatDoor
